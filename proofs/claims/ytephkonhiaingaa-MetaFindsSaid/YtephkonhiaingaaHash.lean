/- The hash of a value: a number of the value alone. -/
import Derived.Test.YtephkonhiaingaaVal
set_option linter.unusedSimpArgs false
set_option linter.unusedVariables false
namespace Go.Proofs.Ytephkonhiaingaa
open Go Go.RowKit

def hashN (a : Int) : Int :=
  let x1 := IntKind.u64.wrap a
  let x2 := IntKind.u64.wrap (bits .xor .u64 x1 (x1 / 1073741824) * 13787848793156543929)
  let x3 := IntKind.u64.wrap (bits .xor .u64 x2 (x2 / 134217728) * 10723151780598845931)
  bits .xor .u64 x3 (x3 / 2147483648)

def hashS (l : List UInt8) : Int := l.foldl (fun h b => IntKind.u64.wrap (bits .xor .u64 h (IntKind.u64.wrap b.toNat) * 1099511628211)) 14695981039346656037

section
variable {w : World}
theorem nHash_ok (a : Int) : Ret Try.prog 114 #[.int .i64 a] w fun v w' => v = .int .u64 (hashN a) ∧ Ext w w' := by
  refine ret_E (n := 22) (S := [0, 1, 2, 3]) 3 Try.func114 rfl rfl rfl rfl ?_
  refine WP.vseq rfl fun K hK => ?_
  refine WP.vregion rfl rfl fun U => ?_
  simp [go_sem]
  refine hK _ _ ?_; clear hK K
  refine WP.vseq rfl fun K hK => ?_
  refine WP.vregion rfl rfl fun U => ?_
  simp [go_sem]
  refine hK _ _ ?_; clear hK K
  refine WP.vseq rfl fun K hK => ?_
  refine WP.vregion rfl rfl fun U => ?_
  simp [go_sem]
  refine hK _ _ ?_; clear hK K
  refine WP.vseq rfl fun K hK => ?_
  refine WP.vregion rfl rfl fun U => ?_
  simp [go_sem]
  refine hK _ _ ?_; clear hK K
  refine WP.vseq rfl fun K hK => ?_
  refine WP.vregion rfl rfl fun U => ?_
  simp [go_sem]
  refine hK _ _ ?_; clear hK K
  refine WP.vseq rfl fun K hK => ?_
  refine WP.vregion rfl rfl fun U => ?_
  simp [go_sem]
  refine hK _ _ ?_; clear hK K
  refine WP.vseq rfl fun K hK => ?_
  refine WP.vregion rfl rfl fun U => ?_
  simp [go_sem]
  refine hK _ _ ?_; clear hK K
  refine WP.vret rfl ?_
  try simp only [thenE_ret, blockE_ret]
  refine ret_done (by simp [go_sem] <;> rfl) ?_
  exact ⟨rfl, Ext.refl _⟩

set_option maxHeartbeats 400000 in
theorem sHash_ok (s : ByteArray) (hs : s.size ≤ 1000000000) : Ret Try.prog 113 #[.string s] w fun v w' => v = .int .u64 (hashS s.data.toList) ∧ Ext w w' := by
  refine ret_E (n := 19) (S := [0, 1, 2, 3, 4, 5, 6, 7]) 7 Try.func113 rfl rfl rfl rfl ?_
  refine WP.vseq rfl fun K hK => ?_
  refine WP.vregion rfl rfl fun U => ?_
  simp [go_sem]
  refine hK _ _ ?_; clear hK K
  refine WP.vseq rfl fun K hK => ?_
  refine WP.vregion rfl rfl fun U => ?_
  simp [go_sem]
  refine hK _ _ ?_; clear hK K
  refine WP.vseq rfl fun K hK => ?_
  refine WP.vseq rfl fun K hK => ?_
  refine WP.vregion rfl rfl fun U => ?_
  simp [go_sem]
  refine hK _ _ ?_; clear hK K
  refine WP.vblock rfl ?_
  refine WP.vloop rfl (fun d L w' => ∃ (i : Nat) (v1 v2 v4 : Value), L = [.string s, v1, v2, .int .u64 (hashS (s.data.toList.take i)), v4, .string s, .int .i64 s.size, .int .i64 i] ∧ i + d = s.size ∧ w' = w) (d := s.size) ?_ ?_  -- LOOP
  · exact ⟨0, _, _, _, rfl, Nat.zero_add _, rfl⟩
  rintro d L T U w1 ⟨i, v1, v2, v4, rfl, hi, rfl⟩ KL hKL
  have hwr := wrap_succ (i := i) (by omega)
  refine WP.vseq rfl fun K hK => ?_
  refine WP.vregion rfl rfl fun U => ?_
  simp [go_sem]
  refine hK _ _ ?_; clear hK K
  refine WP.vseq rfl fun K hK => ?_
  refine WP.vcond (t := _) rfl (by simp [go_sem] <;> rfl) (fun hc => ?_) (fun hc => ?_)
  · simp at hc
    refine WP.vskip rfl ?_
    simp only [go_sem]
    refine hK _ _ ?_; clear hK K
    refine WP.vseq rfl fun K hK => ?_
    refine WP.vblock rfl ?_
    refine WP.vseq rfl fun K hK => ?_
    refine WP.vregion rfl rfl fun U => ?_
    simp [go_sem]
    refine hK _ _ ?_; clear hK K
    refine WP.vregion rfl rfl fun U => ?_
    simp [go_sem, hc]
    refine hK _ _ ?_; clear hK K
    refine WP.vregion rfl rfl fun U => ?_
    simp [go_sem, hwr]
    have hb : s.data.toList[i]? = some s[i] := by rw [List.getElem?_eq_getElem (by simpa using hc)]; rfl
    have e : hashS (s.data.toList.take (i + 1)) = IntKind.u64.wrap (bits .xor .u64 (hashS (s.data.toList.take i)) (IntKind.u64.wrap s[i].toNat) * 1099511628211) := by
      rw [List.take_add_one, hb]
      simp only [hashS, Option.toList_some, List.foldl_append, List.foldl_cons, List.foldl_nil]
    exact hKL (d - 1) _ _ (by omega) ⟨i + 1, _, _, _, by rw [e]; rfl, by omega, rfl⟩
  · simp at hc
    refine WP.vexit rfl ?_
    simp only [go_sem, ↓reduceIte]
    clear hK K
    refine hK _ _ ?_; clear hK K
    refine WP.vseq rfl fun K hK => ?_
    refine WP.vregion rfl rfl fun U => ?_
    simp [go_sem]
    refine hK _ _ ?_; clear hK K
    refine WP.vret rfl ?_
    try simp only [thenE_ret, blockE_ret]
    refine ret_done (by simp [go_sem] <;> rfl) ?_
    have : i = s.data.toList.length := by simp; omega
    rw [this, List.take_length]
    exact ⟨rfl, Ext.refl _⟩

/-- A value's hash. -/
def hashV (v : Val) : Int := if v.k = 3 then hashS v.t.data.toList else if v.k = 0 then 0 else IntKind.u64.wrap (hashN v.n + IntKind.u64.wrap (IntKind.u64.wrap v.k * 11400714819323198485))

set_option maxHeartbeats 400000 in
theorem Hash_ok (v : Val) (hs : v.t.size ≤ 1000000000) : Ret Try.prog 98 #[v.v] w fun r w' => r = .int .u64 (hashV v) ∧ Ext w w' := by
  refine ret_E (n := 20) (S := [0, 1, 2, 3, 4]) 4 Try.func98 rfl rfl rfl rfl ?_
  refine WP.vseq rfl fun K hK => ?_
  refine WP.vregion rfl rfl fun U => ?_
  simp [go_sem]
  refine hK _ _ ?_; clear hK K
  refine WP.vseq rfl fun K hK => ?_
  refine WP.vseq rfl fun K hK => ?_
  refine WP.vregion rfl rfl fun U => ?_
  simp [go_sem]
  refine hK _ _ ?_; clear hK K
  refine WP.vblock rfl ?_
  refine WP.vseq rfl fun K hK => ?_
  refine WP.vregion rfl rfl fun U => ?_
  simp [go_sem]
  refine hK _ _ ?_; clear hK K
  by_cases h3 : v.k = 3
  · refine WP.vcond_t rfl (by simp [go_sem, h3]) ?_
    refine WP.vseq rfl fun K hK => ?_
    refine WP.vregion rfl rfl fun U => ?_
    simp [go_sem]
    refine (sHash_ok _ hs).mono ?_
    rintro r w1 ⟨rfl, hx⟩
    refine hK _ _ ?_; clear hK K
    refine WP.vret rfl ?_
    try simp only [thenE_ret, blockE_ret]
    refine ret_done (by simp [go_sem] <;> rfl) ?_
    unfold hashV
    rw [if_pos h3]
    exact ⟨rfl, ((Ext.refl _).alloc _).trans hx⟩
  refine WP.vcond_f rfl (by simp [go_sem, h3]) ?_
  refine WP.vseq rfl fun K hK => ?_
  refine WP.vregion rfl rfl fun U => ?_
  simp [go_sem]
  refine hK _ _ ?_; clear hK K
  by_cases h0 : v.k = 0
  · refine WP.vcond_t rfl (by simp [go_sem, h0]) ?_
    refine WP.vseq rfl fun K hK => ?_
    refine WP.vregion rfl rfl fun U => ?_
    simp [go_sem]
    refine hK _ _ ?_; clear hK K
    refine WP.vret rfl ?_
    try simp only [thenE_ret, blockE_ret]
    refine ret_done (by simp [go_sem] <;> rfl) ?_
    unfold hashV
    rw [if_neg h3, if_pos h0]
    exact ⟨rfl, (Ext.refl _).alloc _⟩
  refine WP.vcond_f rfl (by simp [go_sem, h0]) ?_
  refine WP.vskip rfl ?_
  simp only [go_sem]
  refine hK _ _ ?_; clear hK K
  refine WP.vseq rfl fun K hK => ?_
  have hb := Has.new w (.cells #[.int .i64 v.k, .int .i64 v.n, .string v.t] 35)
  refine WP.vdraw rfl (fun w' => Has w' w.heap.size (.cells #[.int .i64 v.k, .int .i64 v.n, .string v.t] 35)) 1000 [(0, true), (1, true), (3, true), (4, true), (5, true), (6, true), (2, false), (7, true), (8, true)] (by kernel_rfl) (by kernel_rfl) hb fun U => ?_
  have hS := fun w' : SW (fun w' => Has w' w.heap.size (.cells #[.int .i64 v.k, .int .i64 v.n, .string v.t] 35)) => w'.h.cell
  haveI : Nonempty (SW (fun w' => Has w' w.heap.size (.cells #[.int .i64 v.k, .int .i64 v.n, .string v.t] 35))) := ⟨⟨_, hb⟩⟩
  simp [go_sem, hS]
  refine (nHash_ok _).mono ?_
  rintro r w1 ⟨rfl, hx⟩
  refine ⟨(hb.drew).ext hx, ?_⟩
  simp [go_sem]
  refine hK _ _ ?_; clear hK K
  refine WP.vret rfl ?_
  try simp only [thenE_ret, blockE_ret]
  refine ret_done (by simp [go_sem] <;> rfl) ?_
  unfold hashV
  rw [if_neg h3, if_neg h0]
  exact ⟨rfl, (((Ext.refl _).alloc _).drew).trans hx⟩
end
theorem u64_range (x : Int) : 0 ≤ IntKind.u64.wrap x ∧ IntKind.u64.wrap x < 18446744073709551616 := by
  simp only [IntKind.wrap_u64]; omega
theorem hashS_range (l : List UInt8) : 0 ≤ hashS l ∧ hashS l < 18446744073709551616 := by
  unfold hashS
  rcases List.eq_nil_or_concat l with rfl | ⟨l, b, rfl⟩
  · decide
  · rw [List.concat_eq_append, List.foldl_append]
    exact u64_range _
theorem hashV_range (v : Val) : 0 ≤ hashV v ∧ hashV v < 18446744073709551616 := by
  unfold hashV
  split
  · exact hashS_range _
  · split
    · decide
    · exact u64_range _
theorem ofInt_i64 (a : Nat) (ha : a < 9223372036854775808) : (BitVec.ofInt 64 (a : Int)).toNat = a := by
  rw [BitVec.ofInt_natCast, BitVec.toNat_ofNat]; exact Nat.mod_eq_of_lt (by omega)
theorem i64_and_nat (a b : Nat) (ha : a < 9223372036854775808) (hb : b < 9223372036854775808) : bits .and .i64 (a : Int) (b : Int) = ((a &&& b : Nat) : Int) := by
  have hx : a &&& b < 2 ^ 63 := Nat.and_lt_two_pow _ (by omega)
  show IntKind.i64.wrap ((BitVec.ofInt 64 (a : Int) &&& BitVec.ofInt 64 (b : Int)).toNat : Int) = _
  rw [BitVec.toNat_and, ofInt_i64 a ha, ofInt_i64 b hb, IntKind.wrap_i64]
  omega


theorem hashV_half (v : Val) : ∃ H : Nat, hashV v / 2 = (H : Int) ∧ IntKind.i64.wrap (hashV v / 2) = (H : Int) ∧ ∀ M : Nat, M ≤ 1000000000 → bits .and .i64 (H : Int) (M : Int) = ((H &&& M : Nat) : Int) := by
  obtain ⟨h1, h2⟩ := hashV_range v
  generalize hashV v = x at h1 h2
  refine ⟨(x / 2).toNat, by omega, ?_, fun M hM => i64_and_nat _ _ (by omega) (by omega)⟩
  rw [IntWalk.i64_in _ (by omega)]
  omega
end Go.Proofs.Ytephkonhiaingaa

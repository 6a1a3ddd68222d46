/- Values: what the functions of the layer 'value' that all others use come to. -/
import Derived.Test.YtephkonhiaingaaProg
import Derived.Test.YtephkonhiaingaaMem
set_option linter.unusedSimpArgs false
set_option linter.unusedVariables false
namespace Go.Proofs.Ytephkonhiaingaa
open Go Go.RowKit

structure Val where
  k : Int
  n : Int
  t : ByteArray
  deriving DecidableEq

abbrev Val.v (v : Val) : Value := .agg #[.int .i64 v.k, .int .i64 v.n, .string v.t]
def Val.cells (v : Val) : List Value := [.int .i64 v.k, .int .i64 v.n, .string v.t]
abbrev vInt (i : Int) : Val := ⟨2, i, ⟨#[]⟩⟩
abbrev vStr (s : ByteArray) : Val := ⟨3, 0, s⟩
abbrev vRef (i : Int) : Val := ⟨4, i, ⟨#[]⟩⟩
abbrev vNull : Val := ⟨0, 0, ⟨#[]⟩⟩

theorem Val.ext_iff' (a b : Val) : a = b ↔ a.k = b.k ∧ a.n = b.n ∧ a.t.toList = b.t.toList := by
  constructor
  · rintro rfl; exact ⟨rfl, rfl, rfl⟩
  · rintro ⟨h1, h2, h3⟩
    obtain ⟨k, n, t⟩ := a
    obtain ⟨k', n', t'⟩ := b
    simp only at h1 h2 h3
    subst h1; subst h2
    rw [ByteArray.toList_eq, ByteArray.toList_eq] at h3
    obtain ⟨t⟩ := t
    obtain ⟨t'⟩ := t'
    have : t = t' := Array.toList_inj.1 h3
    rw [this]

theorem run_eq_val (a b : Val) (w : World) : (binOp .eql 35 (.agg #[.int .i64 a.k, .int .i64 a.n, .string a.t]) (.agg #[.int .i64 b.k, .int .i64 b.n, .string b.t])).run Try.prog w = .ok (.bool (decide (a = b))) w := by
  simp only [Val.ext_iff']
  simp [go_sem]
  by_cases h1 : a.k = b.k <;> by_cases h2 : a.n = b.n <;> by_cases h3 : a.t.toList = b.t.toList <;> simp [h1, h2, h3]

section
variable (w : World)
theorem Int_ok (i : Int) : Ret Try.prog 15 #[.int .i64 i] w fun v w' => v = (vInt i).v ∧ Ext w w' := by
  refine ret_E (n := 5) (S := [0, 1, 2]) 2 Try.func15 rfl rfl rfl rfl ?_
  refine WP.vseq rfl fun K hK => ?_
  refine WP.vregion rfl rfl fun U => ?_
  simp [go_sem]
  refine hK _ _ ?_; clear hK K
  refine WP.vseq rfl fun K hK => ?_
  refine WP.vregion rfl rfl fun U => ?_
  simp [go_sem]
  refine hK _ _ ?_; clear hK K
  refine WP.vret rfl ?_
  try simp only [thenE_ret, blockE_ret]
  refine ret_done (by simp [go_sem] <;> rfl) ?_
  exact ⟨rfl, (Ext.refl _).alloc _⟩
theorem Ref_ok (i : Int) : Ret Try.prog 14 #[.int .i64 i] w fun v w' => v = (vRef i).v ∧ Ext w w' := by
  refine ret_E (n := 5) (S := [0, 1, 2]) 2 Try.func14 rfl rfl rfl rfl ?_
  refine WP.vseq rfl fun K hK => ?_
  refine WP.vregion rfl rfl fun U => ?_
  simp [go_sem]
  refine hK _ _ ?_; clear hK K
  refine WP.vseq rfl fun K hK => ?_
  refine WP.vregion rfl rfl fun U => ?_
  simp [go_sem]
  refine hK _ _ ?_; clear hK K
  refine WP.vret rfl ?_
  try simp only [thenE_ret, blockE_ret]
  refine ret_done (by simp [go_sem] <;> rfl) ?_
  exact ⟨rfl, (Ext.refl _).alloc _⟩
theorem Str_ok (s : ByteArray) : Ret Try.prog 36 #[.string s] w fun v w' => v = (vStr s).v ∧ Ext w w' := by
  refine ret_E (n := 5) (S := [0, 1, 2]) 2 Try.func36 rfl rfl rfl rfl ?_
  refine WP.vseq rfl fun K hK => ?_
  refine WP.vregion rfl rfl fun U => ?_
  simp [go_sem]
  refine hK _ _ ?_; clear hK K
  refine WP.vseq rfl fun K hK => ?_
  refine WP.vregion rfl rfl fun U => ?_
  simp [go_sem]
  refine hK _ _ ?_; clear hK K
  refine WP.vret rfl ?_
  try simp only [thenE_ret, blockE_ret]
  refine ret_done (by simp [go_sem] <;> rfl) ?_
  exact ⟨rfl, (Ext.refl _).alloc _⟩
theorem Null_ok : Ret Try.prog 31 #[] w fun v w' => v = vNull.v ∧ Ext w w' := by
  refine ret_E (n := 2) (S := [0]) 1 Try.func31 rfl rfl rfl rfl ?_
  refine WP.vseq rfl fun K hK => ?_
  refine WP.vregion rfl rfl fun U => ?_
  simp [go_sem]
  refine hK _ _ ?_; clear hK K
  refine WP.vseq rfl fun K hK => ?_
  refine WP.vregion rfl rfl fun U => ?_
  simp [go_sem]
  refine hK _ _ ?_; clear hK K
  refine WP.vret rfl ?_
  try simp only [thenE_ret, blockE_ret]
  refine ret_done (by simp [go_sem] <;> rfl) ?_
  exact ⟨rfl, (Ext.refl _).alloc _⟩
theorem Same_ok (a b : Val) : Ret Try.prog 73 #[a.v, b.v] w fun v w' => v = .bool (decide (a = b)) ∧ Ext w w' := by
  refine ret_E (n := 8) (S := [0, 1, 2, 3, 4]) 3 Try.func73 rfl rfl rfl rfl ?_
  refine WP.vseq rfl fun K hK => ?_
  refine WP.vregion rfl rfl fun U => ?_
  simp [go_sem]
  refine hK _ _ ?_; clear hK K
  refine WP.vseq rfl fun K hK => ?_
  refine WP.vregion rfl rfl fun U => ?_
  simp [go_sem, run_eq_val]
  refine hK _ _ ?_; clear hK K
  refine WP.vret rfl ?_
  try simp only [thenE_ret, blockE_ret]
  refine ret_done (by simp [go_sem] <;> rfl) ?_
  exact ⟨rfl, ((Ext.refl _).alloc _).alloc _⟩
end

theorem flatMap_at {α β : Type} (f : α → List β) (s : Nat) (hs : ∀ x, (f x).length = s) (k : Nat) (hk : k < s) : ∀ (xs : List α) (i : Nat), (xs.flatMap f)[i * s + k]? = (xs[i]?).bind fun x => (f x)[k]?
  | [], i => by simp
  | x :: xs, 0 => by
    rw [List.flatMap_cons, List.getElem?_append_left (by rw [hs x]; omega)]
    simp
  | x :: xs, i + 1 => by
    rw [List.flatMap_cons, List.getElem?_append_right (by rw [hs x, Nat.succ_mul]; omega), hs x]
    rw [show (i + 1) * s + k - s = i * s + k by rw [Nat.succ_mul]; omega, flatMap_at f s hs k hk xs i]
    simp
theorem flatMap_length {α β : Type} (f : α → List β) (s : Nat) (hs : ∀ x, (f x).length = s) (xs : List α) : (xs.flatMap f).length = xs.length * s := by
  induction xs with
  | nil => simp
  | cons x xs ih => rw [List.flatMap_cons, List.length_append, ih, hs x, List.length_cons, Nat.succ_mul]; omega

def vcells (xs : List Val) : List Value := xs.flatMap Val.cells
theorem vcells_length (xs : List Val) : (vcells xs).length = xs.length * 3 := flatMap_length _ 3 (fun _ => rfl) xs
theorem vcells_at {xs : List Val} {i : Nat} {x : Val} (h : xs[i]? = some x) :
    (vcells xs)[i * 3]? = some (.int .i64 x.k) ∧ (vcells xs)[i * 3 + 1]? = some (.int .i64 x.n) ∧ (vcells xs)[i * 3 + 2]? = some (.string x.t) := by
  refine ⟨?_, ?_, ?_⟩
  · have := flatMap_at Val.cells 3 (fun _ => rfl) 0 (by omega) xs i
    simpa [h, Val.cells, vcells] using this
  · have := flatMap_at Val.cells 3 (fun _ => rfl) 1 (by omega) xs i
    simpa [h, Val.cells, vcells] using this
  · have := flatMap_at Val.cells 3 (fun _ => rfl) 2 (by omega) xs i
    simpa [h, Val.cells, vcells] using this

/-- The cells among some values. -/
def refs (xs : List Val) : List Int := (xs.filter fun x => x.k = 4).map Val.n
abbrev ints (l : List Int) : List Value := l.map (Value.int .i64)
theorem ints_one (l : List Int) : ∀ u ∈ ints l, u.oneCell' = true := by
  intro u hu
  obtain ⟨x, _, rfl⟩ := List.mem_map.1 hu
  rfl
theorem vcells_one (xs : List Val) : ∀ u ∈ vcells xs, u.oneCell' = true := by
  intro u hu
  obtain ⟨x, _, hx⟩ := List.mem_flatMap.1 hu
  simp only [Val.cells, List.mem_cons, List.not_mem_nil, or_false] at hx
  rcases hx with rfl | rfl | rfl <;> rfl
theorem refs_snoc {xs : List Val} {i : Nat} {x : Val} (h : xs[i]? = some x) : refs (xs.take (i + 1)) = refs (xs.take i) ++ if x.k = 4 then [x.n] else [] := by
  unfold refs
  rw [List.take_add_one, h, Option.toList_some, List.filter_append, List.map_append]
  by_cases hx : x.k = 4 <;> simp [hx]
theorem refs_le (xs : List Val) : (refs xs).length ≤ xs.length := by unfold refs; rw [List.length_map]; exact List.length_filter_le _ _

theorem info_int : (Try.prog.info? 3).map (fun i => (i.zero, i.size, i.bytes)) = some (some (.int .i64 0), 1, 8) := by kernel_rfl

set_option maxHeartbeats 400000 in
theorem Cells_ok {w : World} {v : Value} {xs : List Val} (hr : Rd w v xs.length 3 (vcells xs)) (hn : xs.length ≤ 1000000000) :
    Ret Try.prog 102 #[v] w fun r w' => Own w' 3 1 r (refs xs).length (ints (refs xs)) (fun b => w.heap.size ≤ b) ∧ Ext w w' := by
  obtain ⟨A, c, rfl⟩ := hr.len
  obtain ⟨i0, hi0, hz0, hz1, hz2⟩ := info_parts info_int
  refine ret_E (n := 22) (S := [0, 1, 2, 3, 4, 5, 6, 7, 8]) 8 Try.func102 rfl rfl rfl rfl ?_
  refine WP.vseq rfl fun K hK => ?_
  refine WP.vregion rfl rfl fun U => ?_
  simp [go_sem]
  refine hK _ _ ?_; clear hK K
  refine WP.vseq rfl fun K hK => ?_
  refine WP.vregion rfl rfl fun U => ?_
  simp [go_sem]
  refine hK _ _ ?_; clear hK K
  refine WP.vseq rfl fun K hK => ?_
  refine WP.vseq rfl fun K hK => ?_
  refine WP.vregion rfl rfl fun U => ?_
  simp [go_sem]
  refine hK _ _ ?_; clear hK K
  refine WP.vblock rfl ?_
  refine WP.vloop rfl (fun d L w' => ∃ (i : Nat) (v2 v3 v4 v5 : Value), L = [.slice A xs.length c, undef, v2, v3, v4, v5, .slice A xs.length c, .int .i64 xs.length, .int .i64 i] ∧ i + d = xs.length ∧
      Own w' 3 1 v3 (refs (xs.take i)).length (ints (refs (xs.take i))) (fun b => w.heap.size ≤ b) ∧ Ext w w') (d := xs.length) ?_ ?_
  · exact ⟨0, _, _, _, _, rfl, Nat.zero_add _, Own.nil _ _ _ _, Ext.refl _⟩
  rintro d L T U w1 ⟨i, v2, v3, v4, v5, rfl, hi, hown, hx⟩ KL hKL
  have hwr := wrap_succ (i := i) (by omega)
  refine WP.vseq rfl fun K hK => ?_
  refine WP.vregion rfl rfl fun U => ?_
  simp [go_sem]
  refine hK _ _ ?_; clear hK K
  refine WP.vseq rfl fun K hK => ?_
  refine WP.vcond (t := _) rfl (by simp [go_sem] <;> rfl) (fun hc => ?_) (fun hc => ?_)
  · simp at hc
    refine WP.vskip rfl ?_
    simp only [go_sem]
    refine hK _ _ ?_; clear hK K
    obtain ⟨x, hxi⟩ : ∃ x, xs[i]? = some x := ⟨_, List.getElem?_eq_getElem hc⟩
    obtain ⟨g, o, _, hv, hcell⟩ := (hr.ext hx).at_ (by omega)
    simp only [Value.slice.injEq] at hv
    obtain ⟨rfl, _, rfl⟩ := hv
    obtain ⟨h0, h1, h2⟩ := vcells_at hxi
    have c0 := hcell _ _ h0
    have c1 := hcell _ _ h1
    have c2 := hcell _ _ h2
    simp only [← Nat.add_assoc] at c1 c2
    refine WP.vseq rfl fun K hK => ?_
    refine WP.vblock rfl ?_
    refine WP.vseq rfl fun K hK => ?_
    refine WP.vregion rfl rfl fun U => ?_
    simp [go_sem, hc, c0, c1, c2]
    refine hK _ _ ?_; clear hK K
    refine WP.vseq rfl fun K hK => ?_
    refine WP.vregion rfl rfl fun U => ?_
    simp [go_sem]
    refine hK _ _ ?_; clear hK K
    have hsn := refs_snoc hxi
    have hle := refs_le (xs.take i)
    rw [List.length_take] at hle
    by_cases hk : x.k = 4
    · refine WP.vcond_t rfl (by simp [go_sem, hk]) ?_
      refine WP.vregion rfl rfl fun U => ?_
      simp [go_sem, hk]
      refine APPEND.own Try.underlying29 hi0 hz0 hz1 hz2 rfl (by omega) (by omega) (hown.ext (((Ext.refl _).alloc _).alloc _)) (Rd.top (by simp) rfl) (ints_one [_]) (le_app (by omega)) ?_
      intro v' w' hown' hch
      refine hK _ _ ?_; clear hK K
      refine WP.vregion rfl rfl fun U => ?_
      simp [go_sem, hwr]
      refine hKL (d - 1) _ _ (by omega) ⟨i + 1, _, _, _, _, rfl, by omega, ?_, ?_⟩
      · rw [hsn, if_pos hk]
        simp only [ints, List.map_append, List.map_cons, List.map_nil, List.length_append, List.length_cons, List.length_nil]
        exact hown'.mono fun b hb => by
          rcases hb with hb | hb
          · exact hb
          · have := hx.size; simp at hb; omega
      · exact Chg.and_then ((hx.alloc _).alloc _) hch fun b hb hb' => by omega
    · refine WP.vcond_f rfl (by simp [go_sem, hk]) ?_
      refine WP.vskip rfl ?_
      simp only [go_sem]
      refine hK _ _ ?_; clear hK K
      refine WP.vregion rfl rfl fun U => ?_
      simp [go_sem, hwr]
      refine hKL (d - 1) _ _ (by omega) ⟨i + 1, _, _, _, _, rfl, by omega, ?_, ?_⟩
      · rw [hsn, if_neg hk, List.append_nil]
        exact hown.ext ((Ext.refl _).alloc _)
      · exact hx.alloc _
  · simp at hc
    refine WP.vexit rfl ?_
    simp only [go_sem, ↓reduceIte]
    clear hK K
    refine hK _ _ ?_; clear hK K
    refine WP.vseq rfl fun K hK => ?_
    refine WP.vregion rfl rfl fun U => ?_
    simp [go_sem]
    refine hK _ _ ?_; clear hK K
    refine WP.vret rfl ?_
    try simp only [thenE_ret, blockE_ret]
    refine ret_done (by simp [go_sem] <;> rfl) ?_
    have : i = xs.length := by omega
    subst this
    rw [List.take_length] at hown
    exact ⟨hown, hx⟩
end Go.Proofs.Ytephkonhiaingaa

/- Lists: a place, what stands there; a text's byte. -/
import Derived.Test.YtephkonhiaingaaSlotG
set_option linter.unusedSimpArgs false
set_option linter.unusedVariables false
namespace Go.Proofs.Ytephkonhiaingaa
open Go Go.RowKit

section
variable {w w' : World} {b h : Nat} {F F' L L' T T' : Nat → Prop} {c : CellM} {vv nv cv fv : Value} {H H' : HeapM} {col : Nat → Nat} {xs : List Val} {D : Dict} {v key val : Val}

def placeL (xs : List Val) (a : Int) : Int := if a < 0 ∨ (xs.length : Int) ≤ a then -1 else a

theorem lPlace_ok (h0 : LRep w b xs L) (a : Int) (hx : xs.length ≤ 1000000000) : Ret Try.prog 105 #[.pointer (some ⟨b, 0, none⟩), .int .i64 a] w fun r w' => r = .int .i64 (placeL xs a) ∧ w' = w := by
  obtain ⟨lv, _, hb, ho⟩ := h0
  obtain ⟨A, c, rfl⟩ := ho.len
  have hbc := hb.cell
  refine ret_E (n := 17) (S := [0, 1, 2, 3, 4]) 3 Try.func105 rfl rfl rfl rfl ?_
  refine WP.vseq rfl fun K hK => ?_
  refine WP.vregion rfl rfl fun U => ?_
  simp [go_sem]
  refine hK _ _ ?_; clear hK K
  by_cases h1 : a < 0
  · refine WP.vseq rfl fun K hK => ?_
    refine WP.vseq rfl fun K hK => ?_
    refine WP.vregion rfl rfl fun U => ?_
    simp [go_sem, h1, hbc]
    refine hK _ _ ?_; clear hK K
    refine WP.vcond_t rfl (by simp [go_sem]) ?_
    refine WP.vseq rfl fun K hK => ?_
    refine WP.vregion rfl rfl fun U => ?_
    simp [go_sem]
    refine hK _ _ ?_; clear hK K
    refine WP.vret rfl ?_
    try simp only [thenE_ret, blockE_ret]
    refine ret_done (by simp [go_sem] <;> rfl) ?_
    exact ⟨by unfold placeL; rw [if_pos (.inl h1)], rfl⟩
  by_cases h2 : (xs.length : Int) ≤ a
  · refine WP.vseq rfl fun K hK => ?_
    refine WP.vseq rfl fun K hK => ?_
    refine WP.vregion rfl rfl fun U => ?_
    simp [go_sem, h1, hbc]
    refine hK _ _ ?_; clear hK K
    refine WP.vcond_t rfl (by simp [go_sem, h2]) ?_
    refine WP.vseq rfl fun K hK => ?_
    refine WP.vregion rfl rfl fun U => ?_
    simp [go_sem]
    refine hK _ _ ?_; clear hK K
    refine WP.vret rfl ?_
    try simp only [thenE_ret, blockE_ret]
    refine ret_done (by simp [go_sem] <;> rfl) ?_
    exact ⟨by unfold placeL; rw [if_pos (.inr h2)], rfl⟩
  · have hwr : IntKind.i64.wrap a = a := IntWalk.i64_in _ (by omega)
    have h3 : a < (xs.length : Int) := by omega
    refine WP.vseq rfl fun K hK => ?_
    refine WP.vseq rfl fun K hK => ?_
    refine WP.vregion rfl rfl fun U => ?_
    simp [go_sem, h1, hbc]
    refine hK _ _ ?_; clear hK K
    refine WP.vcond_f rfl (by simp [go_sem, h3]) ?_
    refine WP.vskip rfl ?_
    simp only [go_sem]
    refine hK _ _ ?_; clear hK K
    refine WP.vseq rfl fun K hK => ?_
    refine WP.vregion rfl rfl fun U => ?_
    simp [go_sem, hwr]
    refine hK _ _ ?_; clear hK K
    refine WP.vret rfl ?_
    try simp only [thenE_ret, blockE_ret]
    refine ret_done (by simp [go_sem] <;> rfl) ?_
    exact ⟨by unfold placeL; rw [if_neg (by omega)], rfl⟩

def listG (xs : List Val) (a : Int) : Val × Int := if a < 0 ∨ (xs.length : Int) ≤ a then (vNull, 1) else (xs.getD a.toNat vNull, 0)

set_option maxRecDepth 4000 in
theorem lGet_ok (h0 : LRep w b xs L) (a : Int) (hx : xs.length ≤ 1000000000) : Ret Try.prog 69 #[.pointer (some ⟨b, 0, none⟩), .int .i64 a] w fun r w' => r = .tuple #[(listG xs a).1.v, .int .i64 (listG xs a).2] ∧ Ext w w' := by
  refine ret_E (n := 20) (S := [0, 1, 2, 3, 4, 5, 6]) 5 Try.func69 rfl rfl rfl rfl ?_
  refine WP.vseq rfl fun K hK => ?_
  refine WP.vregion rfl rfl fun U => ?_
  simp [go_sem]
  refine hK _ _ ?_; clear hK K
  have hr0 : Has (w.alloc (vObj vNull)) w.heap.size (vObj vNull) := Has.new w _
  have hx0 : Ext w (w.alloc (vObj vNull)) := (Ext.refl _).alloc _
  change WP _ _ _ _ _ _ (w.alloc (vObj vNull))
  generalize (w.alloc (vObj vNull)) = w1 at hr0 hx0
  replace h0 := h0.ext hx0
  refine WP.vseq rfl fun K hK => ?_
  refine WP.vregion rfl rfl fun U => ?_
  simp [go_sem]
  refine (lPlace_ok h0 a hx).mono ?_
  rintro r w2 ⟨rfl, rfl⟩
  try simp [go_sem]
  refine hK _ _ ?_; clear hK K
  refine WP.vseq rfl fun K hK => ?_
  refine WP.vseq rfl fun K hK => ?_
  refine WP.vregion rfl rfl fun U => ?_
  simp [go_sem]
  refine hK _ _ ?_; clear hK K
  unfold placeL
  by_cases ha : a < 0 ∨ (xs.length : Int) ≤ a
  · have hlg : listG xs a = (vNull, 1) := by unfold listG; rw [if_pos ha]
    rw [if_pos ha]
    refine WP.vcond_t rfl (by simp [go_sem]) ?_
    refine WP.vseq rfl fun K hK => ?_
    refine WP.vregion rfl rfl fun U => ?_
    simp [go_sem]
    refine (Null_ok _).mono ?_
    rintro r w3 ⟨rfl, hx3⟩
    have hr3 := hr0.ext hx3
    try simp [go_sem, hr3.frozen, hr3.cell]
    refine hK _ _ ?_; clear hK K
    refine WP.vret rfl ?_
    try simp only [thenE_ret, blockE_ret]
    refine ret_done (by simp [go_sem, (hr3.setCell 0 (.int .i64 0)).cell] <;> rfl) ?_
    rw [hlg]
    exact ⟨rfl, (hx0.trans hx3).put3 (by omega)⟩
  · rw [if_neg ha]
    obtain ⟨n, rfl⟩ : ∃ n : Nat, a = n := ⟨a.toNat, by omega⟩
    have hn : n < xs.length := by omega
    refine WP.vcond_f rfl (by simp [go_sem]) ?_
    refine WP.vskip rfl ?_
    simp only [go_sem]
    refine hK _ _ ?_; clear hK K
    obtain ⟨x, hxn⟩ : ∃ x, xs[n]? = some x := ⟨_, List.getElem?_eq_getElem hn⟩
    obtain ⟨lv, _, hb, ho⟩ := h0
    obtain ⟨g, cap, rfl, _, _, hcell, _⟩ := ho.at_ (by omega)
    obtain ⟨c0, c1, c2⟩ := vcells_at hxn
    have d0 := hcell _ _ c0
    have d1 := hcell _ _ c1
    have d2 := hcell _ _ c2
    have hbc := hb.cell
    refine WP.vseq rfl fun K hK => ?_
    refine WP.vregion rfl rfl fun U => ?_
    simp [go_sem, hbc, d0, d1, d2, hn, hr0.frozen, hr0.cell]
    refine hK _ _ ?_; clear hK K
    refine WP.vret rfl ?_
    try simp only [thenE_ret, blockE_ret]
    refine ret_done (by simp [go_sem, (hr0.setCell 0 (.int .i64 x.k)).cell] <;> rfl) ?_
    have hgx : xs.getD n vNull = x := by rw [List.getD_eq_getElem?_getD, hxn]; rfl
    have hlg : listG xs n = (x, 0) := by unfold listG; rw [if_neg ha, Int.toNat_natCast, hgx]
    rw [hlg]
    exact ⟨rfl, hx0.put3 (by omega)⟩

def octetG (s : ByteArray) (key : Val) : Val × Int := if key.k ≠ 2 then (vNull, 3) else if key.n < 0 ∨ (s.size : Int) ≤ key.n then (vNull, 1) else (vInt ((s.data.getD key.n.toNat 0).toNat : Int), 0)

set_option maxRecDepth 4000 in
theorem octet_ok (w : World) (s : ByteArray) (key : Val) (hs : s.size ≤ 1000000000) : Ret Try.prog 68 #[.string s, key.v] w fun r w' => r = .tuple #[(octetG s key).1.v, .int .i64 (octetG s key).2] ∧ Ext w w' := by
  refine ret_E (n := 29) (S := [0, 1, 2, 3, 4, 5]) 4 Try.func68 rfl rfl rfl rfl ?_
  refine WP.vseq rfl fun K hK => ?_
  refine WP.vregion rfl rfl fun U => ?_
  simp [go_sem]
  refine hK _ _ ?_; clear hK K
  have hk0 : Has ((w.alloc (vObj key)).alloc (vObj vNull)) w.heap.size (vObj key) := (Has.new w _).alloc _
  have hr0 : Has ((w.alloc (vObj key)).alloc (vObj vNull)) (w.heap.size + 1) (vObj vNull) := by simpa using Has.new (w.alloc (vObj key)) (vObj vNull)
  have hx0 : Ext w ((w.alloc (vObj key)).alloc (vObj vNull)) := ((Ext.refl _).alloc _).alloc _
  change WP _ _ _ _ _ _ ((w.alloc (vObj key)).alloc (vObj vNull))
  generalize ((w.alloc (vObj key)).alloc (vObj vNull)) = w1 at hk0 hr0 hx0
  have hkc := hk0.cell
  unfold octetG
  refine WP.vseq rfl fun K hK => ?_
  refine WP.vblock rfl ?_
  by_cases hk : key.k ≠ 2
  · refine WP.vseq rfl fun K hK => ?_
    refine WP.vregion rfl rfl fun U => ?_
    simp [go_sem, hkc]
    refine hK _ _ ?_; clear hK K
    refine WP.vcond_t rfl (by simp [go_sem, hk]) ?_
    refine WP.vseq rfl fun K hK => ?_
    refine WP.vregion rfl rfl fun U => ?_
    simp [go_sem]
    refine (Null_ok _).mono ?_
    rintro r w3 ⟨rfl, hx3⟩
    have hr3 := hr0.ext hx3
    try simp [go_sem, hr3.frozen, hr3.cell]
    refine hK _ _ ?_; clear hK K
    refine WP.vret rfl ?_
    try simp only [thenE_ret, blockE_ret]
    refine ret_done (by simp [go_sem, (hr3.setCell 0 (.int .i64 0)).cell] <;> rfl) ?_
    rw [if_pos hk]
    exact ⟨rfl, (hx0.trans hx3).put3 (by omega)⟩
  rw [if_neg hk]
  refine WP.vseq rfl fun K hK => ?_
  refine WP.vregion rfl rfl fun U => ?_
  simp [go_sem, hkc]
  refine hK _ _ ?_; clear hK K
  have hk' : key.k = 2 := by omega
  refine WP.vcond_f rfl (by simp [go_sem, hk']) ?_
  by_cases hn : key.n < 0 ∨ (s.size : Int) ≤ key.n
  · rw [if_pos hn]
    by_cases h1 : key.n < 0
    · refine WP.vseq rfl fun K hK => ?_
      refine WP.vregion rfl rfl fun U => ?_
      simp [go_sem, hkc, h1]
      refine hK _ _ ?_; clear hK K
      refine WP.vcond_t rfl (by simp [go_sem, h1]) ?_
      refine WP.vseq rfl fun K hK => ?_
      refine WP.vregion rfl rfl fun U => ?_
      simp [go_sem]
      refine (Null_ok _).mono ?_
      rintro r w3 ⟨rfl, hx3⟩
      have hr3 := hr0.ext hx3
      try simp [go_sem, hr3.frozen, hr3.cell]
      refine hK _ _ ?_; clear hK K
      refine WP.vret rfl ?_
      try simp only [thenE_ret, blockE_ret]
      refine ret_done (by simp [go_sem, (hr3.setCell 0 (.int .i64 0)).cell] <;> rfl) ?_
      exact ⟨rfl, (hx0.trans hx3).put3 (by omega)⟩
    · have h2 : (s.size : Int) ≤ key.n := by omega
      refine WP.vseq rfl fun K hK => ?_
      refine WP.vregion rfl rfl fun U => ?_
      simp [go_sem, hkc, h1]
      refine hK _ _ ?_; clear hK K
      refine WP.vcond_t rfl (by simp [go_sem, h2]) ?_
      refine WP.vseq rfl fun K hK => ?_
      refine WP.vregion rfl rfl fun U => ?_
      simp [go_sem]
      refine (Null_ok _).mono ?_
      rintro r w3 ⟨rfl, hx3⟩
      have hr3 := hr0.ext hx3
      try simp [go_sem, hr3.frozen, hr3.cell]
      refine hK _ _ ?_; clear hK K
      refine WP.vret rfl ?_
      try simp only [thenE_ret, blockE_ret]
      refine ret_done (by simp [go_sem, (hr3.setCell 0 (.int .i64 0)).cell] <;> rfl) ?_
      exact ⟨rfl, (hx0.trans hx3).put3 (by omega)⟩
  · rw [if_neg hn]
    obtain ⟨kk, kn, kt⟩ := key
    simp only at hk hn hk' hkc ⊢
    obtain ⟨n, rfl⟩ : ∃ n : Nat, kn = n := ⟨kn.toNat, by omega⟩
    have hns : n < s.size := by omega
    have h1 : ¬ (n : Int) < 0 := by omega
    have h2 : ¬ (s.size : Int) ≤ n := by omega
    refine WP.vseq rfl fun K hK => ?_
    refine WP.vregion rfl rfl fun U => ?_
    simp [go_sem, hkc, h1]
    refine hK _ _ ?_; clear hK K
    refine WP.vcond_f rfl (by simp [go_sem, hns] <;> omega) ?_
    refine WP.vskip rfl ?_
    simp only [go_sem]
    refine hK _ _ ?_; clear hK K
    refine WP.vseq rfl fun K hK => ?_
    refine WP.vregion rfl rfl fun U => ?_
    simp [go_sem, hkc, hns]
    have hby : (s.data.getD (Int.toNat (n : Int)) 0) = s[n] := by
      rw [Int.toNat_natCast, Array.getD_eq_getD_getElem?, Array.getElem?_eq_getElem hns]; rfl
    have hlt : (s[n]).toNat < 256 := (s[n]).toNat_lt
    have hwr : IntKind.i64.wrap ((s[n]).toNat : Int) = ((s[n]).toNat : Int) := IntWalk.i64_in _ (by omega)
    rw [hwr]
    refine (Int_ok _ _).mono ?_
    rintro r w3 ⟨rfl, hx3⟩
    have hr3 := hr0.ext hx3
    try simp [go_sem, hr3.frozen, hr3.cell]
    refine hK _ _ ?_; clear hK K
    refine WP.vret rfl ?_
    try simp only [thenE_ret, blockE_ret]
    refine ret_done (by simp [go_sem, (hr3.setCell 0 (.int .i64 2)).cell] <;> rfl) ?_
    rw [if_neg hk, if_neg hn, hby]
    exact ⟨rfl, (hx0.trans hx3).put3 (by omega)⟩

def getG (H : HeapM) (v key : Val) : Val × Int :=
  if v.k = 0 then (vNull, 30) else if v.k = 3 then octetG v.t key else match ofH H v 0 with
    | (none, _) => (vNull, 3)
    | (some c, _) => if c.kind = 1 then (if key.k ≠ 2 then (vNull, 3) else match c.list with
        | some (_, xs) => listG xs key.n
        | none => (vNull, 3))
      else if c.kind = 2 then tabG H key 1048577 v
      else if c.kind = 3 then (match c.table with
        | some (_, D) => getD D key
        | none => (vNull, 3))
      else if c.kind = 4 then (match c.table with
        | some (_, D) => (match D.get key with
          | some x => (x, 0)
          | none => memberH H (c.vals.headD vNull) key)
        | none => (vNull, 3))
      else (vNull, 3)
end
end Go.Proofs.Ytephkonhiaingaa

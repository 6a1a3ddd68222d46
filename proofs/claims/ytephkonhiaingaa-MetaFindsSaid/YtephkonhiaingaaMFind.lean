/- What a thing does by a name. -/
import Derived.Test.YtephkonhiaingaaSGet
set_option linter.unusedSimpArgs false
set_option linter.unusedVariables false
namespace Go.Proofs.Ytephkonhiaingaa
open Go Go.RowKit

section
variable {w w' : World} {b h : Nat} {F F' L L' T T' : Nat → Prop} {c : CellM} {vv nv cv fv : Value} {H H' : HeapM} {col : Nat → Nat} {xs : List Val} {D : Dict} {v key val : Val}

def findE (H : HeapM) (v : Val) (name : ByteArray) : Val × Int :=
  if (delegH H v).2 = 0 ∧ (delegH H v).1.k ≠ 0 then getG H (delegH H v).1 (vStr name)
  else if (classH H v).k ≠ 0 then memberH H (classH H v) (vStr name) else (vNull, 3)
def findG (H : HeapM) (v : Val) (name : ByteArray) : Val × Bool := ((findE H v name).1, (findE H v name).2 == 0 && methodH H (findE H v name).1)

set_option maxRecDepth 4000 in
set_option maxHeartbeats 4000000 in
theorem mFind_ok (h0 : HRep w h H F) (hw : HWf 100000000 H) (hl : HLen 1000000000 H) (v : Val) (name : ByteArray) (hvs : (delegH H v).1.t.size ≤ 1000000000) (hks : name.size ≤ 1000000000) :
    Ret Try.prog 45 #[.pointer (some ⟨h, 0, none⟩), v.v, .string name] w fun r w' => r = .tuple #[(findG H v name).1.v, .bool (findG H v name).2] ∧ Ext w w' := by
  refine ret_E (n := 56) (S := [0, 1, 2, 3, 4, 5, 6, 7, 8, 9, 10, 11, 12]) 10 Try.func45 rfl rfl rfl rfl ?_
  refine WP.vseq rfl fun K hK => ?_
  refine WP.vregion rfl rfl fun U => ?_
  simp [go_sem]
  refine hK _ _ ?_; clear hK K
  have hb0 : Has ((w.alloc (vObj v)).alloc (vObj vNull)) w.heap.size (vObj v) := (Has.new w _).alloc _
  have hr0 : Has ((w.alloc (vObj v)).alloc (vObj vNull)) (w.heap.size + 1) (vObj vNull) := by simpa using Has.new (w.alloc (vObj v)) (vObj vNull)
  have hx0 : Ext w ((w.alloc (vObj v)).alloc (vObj vNull)) := ((Ext.refl _).alloc _).alloc _
  change WP _ _ _ _ _ _ ((w.alloc (vObj v)).alloc (vObj vNull))
  have hsz : ((w.alloc (vObj v)).alloc (vObj vNull)).heap.size = w.heap.size + 1 + 1 := by simp
  generalize ((w.alloc (vObj v)).alloc (vObj vNull)) = w1 at hb0 hr0 hx0 hsz
  refine WP.vseq rfl fun K hK => ?_
  refine WP.vregion rfl rfl fun U => ?_
  simp [go_sem]
  refine hK _ _ ?_; clear hK K
  have hy1 : Has (w1.alloc (vObj vNull)) (w.heap.size + 1 + 1) (vObj vNull) := hsz ▸ Has.new w1 (vObj vNull)
  replace hb0 := hb0.alloc (vObj vNull)
  replace hr0 := hr0.alloc (vObj vNull)
  replace hx0 := hx0.alloc (vObj vNull)
  change WP _ _ _ _ _ _ (w1.alloc (vObj vNull))
  rw [hsz]
  generalize w1.alloc (vObj vNull) = w2 at hb0 hr0 hx0 hy1
  refine WP.vseq rfl fun K hK => ?_
  refine WP.vregion rfl rfl fun U => ?_
  simp [go_sem]
  refine hK _ _ ?_; clear hK K
  have hbc := hb0.cell
  replace h0 := h0.inside.ext hx0
  refine WP.vseq rfl fun K hK => ?_
  have J : ∀ (T' : List (Nat × Value)) (U' : Nat → Value) (w' : World) (v10 v11 v12 : Value), Has w' (w.heap.size + 1 + 1) (vObj (findE H v name).1) → Has w' (w.heap.size + 1) (vObj vNull) → Ext w w' → HRep w' h H (fun x => F x ∧ x < w.heap.size) →
      K ⟨[.pointer (some ⟨h, 0, none⟩), v.v, .string name, undef, .pointer (some ⟨w.heap.size, 0, none⟩), undef, .pointer (some ⟨w.heap.size + 1, 0, none⟩), .bool false, .pointer (some ⟨w.heap.size + 1 + 1, 0, none⟩), .int .i64 (findE H v name).2, v10, v11, v12], T', U'⟩ w' := by
    clear hb0 hr0 hx0 hy1 hbc h0
    intro T' U' w3 v10 v11 v12 hy3 hr3 hx3 h3
    refine hK _ _ ?_
    clear hK K
    unfold findG
    generalize findE H v name = G at hy3
    have hwc : ∀ w' : SW (fun w' => Has w' (w.heap.size + 1 + 1) (vObj G.1)), ∀ i, w'.w.cell? ⟨w.heap.size + 1 + 1, i, none⟩ = #[.int .i64 G.1.k, .int .i64 G.1.n, .string G.1.t][i]? := fun w' => w'.h.cell
    haveI : Nonempty (SW (fun w' => Has w' (w.heap.size + 1 + 1) (vObj G.1))) := ⟨⟨_, hy3⟩⟩
    refine WP.vseq rfl fun K hK => ?_
    refine WP.vdraw rfl (fun w' => Has w' (w.heap.size + 1 + 1) (vObj G.1)) 1000 [(0, true), (1, true), (2, true), (3, true), (4, true), (5, true), (6, false), (7, true), (8, false), (9, true)] (by kernel_rfl) (by kernel_rfl) hy3.drew fun U => ?_
    rcases hG : (G.2 == 0) with _ | _
    · simp [go_sem, hwc, hG, hr3.frozen, hr3.cell]
      refine ⟨hy3.drew, (hy3.far3 (q := 0) (by omega)).drew, ?_⟩
      refine hK _ _ ?_; clear hK K
      refine WP.vret rfl ?_
      try simp only [thenE_ret, blockE_ret]
      refine ret_done (by simp [go_sem, (hr3.setCell 0 (.int .i64 G.1.k)).cell] <;> rfl) ?_
      exact ⟨by rw [hG]; rfl, (hx3.put3 (by omega)).drew⟩
    · simp [go_sem, hwc, hG]
      refine (lMethod_ok (h3.ext ((Ext.refl _).drew)) G.1).mono ?_
      rintro r w4 ⟨rfl, hx4⟩
      replace hx4 := ((Ext.refl w3).drew).trans hx4
      have hr4 := hr3.ext hx4
      have hy4 := hy3.ext hx4
      try simp [go_sem, hr4.frozen, hr4.cell, hG]
      refine ⟨hy4, hy4.far3 (q := 0) (by omega), ?_⟩
      refine hK _ _ ?_; clear hK K
      refine WP.vret rfl ?_
      try simp only [thenE_ret, blockE_ret]
      refine ret_done (by simp [go_sem, (hr4.setCell 0 (.int .i64 G.1.k)).cell] <;> rfl) ?_
      exact ⟨by rw [hG]; rfl, (hx3.trans hx4).put3 (by omega)⟩
  clear hK
  refine WP.vseq rfl fun K hK => ?_
  refine WP.vregion rfl rfl fun U => ?_
  simp [go_sem, hbc]
  refine (sDelegate_ok h0 hw v).mono ?_
  rintro r w3 ⟨rfl, hx3⟩
  replace h0 := h0.ext hx3
  replace hx0 := hx0.trans hx3
  replace hb0 := hb0.ext hx3
  replace hr0 := hr0.ext hx3
  replace hy1 := hy1.ext hx3
  clear hbc hx3
  have hbc := hb0.cell
  try simp [go_sem]
  refine hK _ _ ?_; clear hK K
  have hd0 := Has.new w3 (vObj (delegH H v).1)
  change WP _ _ _ _ _ _ (w3.alloc (vObj (delegH H v).1))
  have hs3 : w.heap.size + 1 + 1 < w3.heap.size := hy1.lt
  generalize hd3 : w3.heap.size = db at hd0 hs3
  replace h0 := h0.ext ((Ext.refl w3).alloc (vObj (delegH H v).1))
  replace hx0 := hx0.alloc (vObj (delegH H v).1)
  replace hb0 := hb0.alloc (vObj (delegH H v).1)
  replace hr0 := hr0.alloc (vObj (delegH H v).1)
  replace hy1 := hy1.alloc (vObj (delegH H v).1)
  generalize (w3.alloc (vObj (delegH H v).1)) = w4 at h0 hx0 hb0 hr0 hy1 hd0
  have hdc := hd0.cell
  by_cases hA : (delegH H v).2 = 0 ∧ (delegH H v).1.k ≠ 0
  · have hfe : findE H v name = getG H (delegH H v).1 (vStr name) := by unfold findE; rw [if_pos hA]
    obtain ⟨hA1, hA2⟩ := hA
    refine WP.vseq rfl fun K hK => ?_
    refine WP.vregion rfl rfl fun U => ?_
    simp [go_sem, hdc, hA1, hA2]
    refine hK _ _ ?_; clear hK K
    refine WP.vcond_t rfl (by simp [go_sem, hA2]) ?_
    have hwc : ∀ w' : SW (fun w' => Has w' db (vObj (delegH H v).1)), ∀ i, w'.w.cell? ⟨db, i, none⟩ = #[.int .i64 (delegH H v).1.k, .int .i64 (delegH H v).1.n, .string (delegH H v).1.t][i]? := fun w' => w'.h.cell
    haveI : Nonempty (SW (fun w' => Has w' db (vObj (delegH H v).1))) := ⟨⟨_, hd0⟩⟩
    refine WP.vdraw rfl (fun w' => Has w' db (vObj (delegH H v).1)) 1000 [(0, true), (1, true), (2, true), (3, false), (4, false), (5, true), (6, true), (7, true), (8, false), (9, true)] (by kernel_rfl) (by kernel_rfl) hd0.drew fun U => ?_
    simp [go_sem, hwc]
    refine (Str_ok _ name).mono ?_
    rintro r w5 ⟨rfl, hx5⟩
    replace hx5 := ((Ext.refl w4).drew).trans hx5
    try simp [go_sem]
    refine ⟨hd0.ext hx5, ?_⟩
    refine (sGet_ok (h0.ext hx5) hw hl (delegH H v).1 hvs (key := vStr name) hks).mono ?_
    rw [← hfe]
    rintro r w6 ⟨rfl, hx6⟩
    replace hx6 := hx5.trans hx6
    have hr6 := hr0.ext hx6
    have hy6 := hy1.ext hx6
    try simp [go_sem, hy6.frozen, hy6.cell]
    refine ⟨hd0.ext hx6, (hd0.ext hx6).far3 (q := 0) (by omega), ?_⟩
    exact J _ _ _ _ _ _ (hy6.put3 _) (hr6.far3 (q := 0) (by omega)) ((hx0.trans hx6).put3 (by omega)) ((h0.ext hx6).put3 (by omega))
  have hA' : (delegH H v).2 ≠ 0 ∨ ((delegH H v).2 = 0 ∧ (delegH H v).1.k = 0) := by
    by_cases h1 : (delegH H v).2 = 0
    · exact .inr ⟨h1, by by_cases h2 : (delegH H v).1.k = 0; exact h2; exact absurd ⟨h1, h2⟩ hA⟩
    · exact .inl h1
  refine WP.vseq rfl fun K hK => ?_
  have J1 : ∀ (T' : List (Nat × Value)) (U' : Nat → Value) (v11 : Value), K ⟨[.pointer (some ⟨h, 0, none⟩), v.v, .string name, undef, .pointer (some ⟨w.heap.size, 0, none⟩), undef, .pointer (some ⟨w.heap.size + 1, 0, none⟩), .bool false, .pointer (some ⟨w.heap.size + 1 + 1, 0, none⟩), .int .i64 3, .pointer (some ⟨db, 0, none⟩), v11, undef], (25, .bool false) :: T', U'⟩ w4 := by
    intro T' U' v11
    refine hK _ _ ?_
    clear hK K
    refine WP.vcond_f rfl (by simp [go_sem]) ?_
    have hbc := hb0.cell
    refine WP.vseq rfl fun K hK => ?_
    refine WP.vregion rfl rfl fun U => ?_
    simp [go_sem, hbc]
    refine (lOf_ok h0 hw v).mono ?_
    rintro r w5 ⟨rfl, hx5⟩
    replace h0 := h0.ext hx5
    replace hx0 := hx0.trans hx5
    replace hr0 := hr0.ext hx5
    replace hy1 := hy1.ext hx5
    try simp [go_sem]
    refine hK _ _ ?_; clear hK K
    have hc0 := Has.new w5 (vObj (classH H v))
    change WP _ _ _ _ _ _ (w5.alloc (vObj (classH H v)))
    have hs5 : w.heap.size + 1 + 1 < w5.heap.size := hy1.lt
    generalize hd5 : w5.heap.size = cb at hc0 hs5
    replace h0 := h0.ext ((Ext.refl w5).alloc (vObj (classH H v)))
    replace hx0 := hx0.alloc (vObj (classH H v))
    replace hr0 := hr0.alloc (vObj (classH H v))
    replace hy1 := hy1.alloc (vObj (classH H v))
    generalize (w5.alloc (vObj (classH H v))) = w6 at h0 hx0 hr0 hy1 hc0
    have hcc := hc0.cell
    refine WP.vseq rfl fun K hK => ?_
    refine WP.vregion rfl rfl fun U => ?_
    simp [go_sem, hcc]
    refine hK _ _ ?_; clear hK K
    by_cases hc : (classH H v).k = 0
    · have hfe : findE H v name = (vNull, 3) := by unfold findE; rw [if_neg hA, if_neg (by simp [hc])]
      refine WP.vcond_f rfl (by simp [go_sem, hc]) ?_
      refine WP.vskip rfl ?_
      simp only [go_sem]
      rw [hfe] at J
      exact J _ _ _ _ _ _ hy1 hr0 hx0 h0
    · have hfe : findE H v name = memberH H (classH H v) (vStr name) := by unfold findE; rw [if_neg hA, if_pos hc]
      refine WP.vcond_t rfl (by simp [go_sem, hc]) ?_
      have hwc : ∀ w' : SW (fun w' => Has w' cb (vObj (classH H v))), ∀ i, w'.w.cell? ⟨cb, i, none⟩ = #[.int .i64 (classH H v).k, .int .i64 (classH H v).n, .string (classH H v).t][i]? := fun w' => w'.h.cell
      haveI : Nonempty (SW (fun w' => Has w' cb (vObj (classH H v)))) := ⟨⟨_, hc0⟩⟩
      refine WP.vdraw rfl (fun w' => Has w' cb (vObj (classH H v))) 1000 [(0, true), (1, true), (2, true), (3, false), (4, false), (5, true), (6, true), (7, true), (8, false), (9, true)] (by kernel_rfl) (by kernel_rfl) hc0.drew fun U => ?_
      simp [go_sem, hwc]
      refine (Str_ok _ name).mono ?_
      rintro r w7 ⟨rfl, hx7⟩
      replace hx7 := ((Ext.refl w6).drew).trans hx7
      try simp [go_sem]
      refine ⟨hc0.ext hx7, ?_⟩
      refine (lFind_ok (h0.ext hx7) hw (classH H v) (key := vStr name) hks).mono ?_
      rw [← hfe]
      rintro r w8 ⟨rfl, hx8⟩
      replace hx8 := hx7.trans hx8
      have hr8 := hr0.ext hx8
      have hy8 := hy1.ext hx8
      try simp [go_sem, hy8.frozen, hy8.cell]
      refine ⟨hc0.ext hx8, (hc0.ext hx8).far3 (q := 0) (by omega), ?_⟩
      exact J _ _ _ _ _ _ (hy8.put3 _) (hr8.far3 (q := 0) (by omega)) ((hx0.trans hx8).put3 (by omega)) ((h0.ext hx8).put3 (by omega))
  clear hK
  rcases hA' with h1 | ⟨h1, h2⟩
  · refine WP.vregion rfl rfl fun U => ?_
    simp [go_sem, hdc, h1]
    exact J1 _ _ _
  · refine WP.vregion rfl rfl fun U => ?_
    simp [go_sem, hdc, h1, h2]
    exact J1 _ _ _
end
end Go.Proofs.Ytephkonhiaingaa

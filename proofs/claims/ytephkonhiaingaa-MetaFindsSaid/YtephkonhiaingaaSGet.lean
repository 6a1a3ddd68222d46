/- What stands in a thing by a key. -/
import Derived.Test.YtephkonhiaingaaList
set_option linter.unusedSimpArgs false
set_option linter.unusedVariables false
namespace Go.Proofs.Ytephkonhiaingaa
open Go Go.RowKit

section
variable {w w' : World} {b h : Nat} {F F' L L' T T' : Nat → Prop} {c : CellM} {vv nv cv fv : Value} {H H' : HeapM} {col : Nat → Nat} {xs : List Val} {D : Dict} {v key val : Val}

def HLen (n : Nat) (H : HeapM) : Prop := ∀ (i : Nat) (c : CellM) (b : Nat) (xs : List Val), H.cells[i]? = some (some c) → c.list = some (b, xs) → xs.length ≤ n

set_option maxRecDepth 4000 in
set_option maxHeartbeats 4000000 in
theorem sGet_ok (h0 : HRep w h H F) (hw : HWf 100000000 H) (hl : HLen 1000000000 H) (v : Val) (hvs : v.t.size ≤ 1000000000) (hks : key.t.size ≤ 1000000000) :
    Ret Try.prog 32 #[.pointer (some ⟨h, 0, none⟩), v.v, key.v] w fun r w' => r = .tuple #[(getG H v key).1.v, .int .i64 (getG H v key).2] ∧ Ext w w' := by
  generalize hG : getG H v key = G
  unfold getG at hG
  refine ret_E (n := 97) (S := [0, 1, 2, 3, 4, 5, 6, 7, 8, 9, 10, 11, 12, 13, 37]) 12 Try.func32 rfl rfl rfl rfl ?_
  refine WP.vseq rfl fun K hK => ?_
  refine WP.vregion rfl rfl fun U => ?_
  simp [go_sem]
  refine hK _ _ ?_; clear hK K
  have hb0 : Has (((w.alloc (vObj v)).alloc (vObj key)).alloc (vObj vNull)) w.heap.size (vObj v) := ((Has.new w _).alloc _).alloc _
  have hk0 : Has (((w.alloc (vObj v)).alloc (vObj key)).alloc (vObj vNull)) (w.heap.size + 1) (vObj key) := by simpa using (Has.new (w.alloc (vObj v)) (vObj key)).alloc _
  have hr0 : Has (((w.alloc (vObj v)).alloc (vObj key)).alloc (vObj vNull)) (w.heap.size + 1 + 1) (vObj vNull) := by simpa using Has.new ((w.alloc (vObj v)).alloc (vObj key)) (vObj vNull)
  have hx0 : Ext w (((w.alloc (vObj v)).alloc (vObj key)).alloc (vObj vNull)) := (((Ext.refl _).alloc _).alloc _).alloc _
  change WP _ _ _ _ _ _ (((w.alloc (vObj v)).alloc (vObj key)).alloc (vObj vNull))
  generalize (((w.alloc (vObj v)).alloc (vObj key)).alloc (vObj vNull)) = w1 at hb0 hk0 hr0 hx0
  have hbc := hb0.cell
  have hkc := hk0.cell
  replace h0 := h0.ext hx0
  refine WP.vseq rfl fun K hK => ?_
  refine WP.vseq rfl fun K hK => ?_
  refine WP.vregion rfl rfl fun U => ?_
  simp [go_sem, hbc]
  refine hK _ _ ?_; clear hK K
  refine WP.vblock rfl ?_
  by_cases hv0 : v.k = 0
  · rw [if_pos hv0] at hG
    subst hG
    refine WP.vseq rfl fun K hK => ?_
    refine WP.vregion rfl rfl fun U => ?_
    simp [go_sem]
    refine hK _ _ ?_; clear hK K
    refine WP.vcond_t rfl (by simp [go_sem, hv0]) ?_
    refine WP.vseq rfl fun K hK => ?_
    refine WP.vregion rfl rfl fun U => ?_
    simp [go_sem]
    refine (Null_ok _).mono ?_
    rintro r w3 ⟨rfl, hx3⟩
    have hr3 := hr0.ext hx3
    try simp [go_sem, hr3.frozen, hr3.cell]
    refine hK _ _ ?_; clear hK K
    refine WP.vret rfl ?_
    try simp only [thenE_ret, blockE_ret]
    refine ret_done (by simp [go_sem, (hr3.setCell 0 (.int .i64 0)).cell] <;> rfl) ?_
    exact ⟨rfl, (hx0.trans hx3).put3 (by omega)⟩
  rw [if_neg hv0] at hG
  refine WP.vseq rfl fun K hK => ?_
  refine WP.vregion rfl rfl fun U => ?_
  simp [go_sem]
  refine hK _ _ ?_; clear hK K
  refine WP.vcond_f rfl (by simp [go_sem, hv0]) ?_
  by_cases hv3 : v.k = 3
  · rw [if_pos hv3] at hG
    refine WP.vseq rfl fun K hK => ?_
    refine WP.vregion rfl rfl fun U => ?_
    simp [go_sem]
    refine hK _ _ ?_; clear hK K
    refine WP.vcond_t rfl (by simp [go_sem, hv3]) ?_
    refine WP.vseq rfl fun K hK => ?_
    refine WP.vregion rfl rfl fun U => ?_
    simp [go_sem, hbc, hkc]
    refine (octet_ok _ v.t key hvs).mono ?_
    rw [hG]
    rintro r w3 ⟨rfl, hx3⟩
    have hr3 := hr0.ext hx3
    try simp [go_sem, hr3.frozen, hr3.cell]
    refine hK _ _ ?_; clear hK K
    refine WP.vret rfl ?_
    try simp only [thenE_ret, blockE_ret]
    refine ret_done (by simp [go_sem, (hr3.setCell 0 (.int .i64 G.1.k)).cell] <;> rfl) ?_
    exact ⟨rfl, (hx0.trans hx3).put3 (by omega)⟩
  rw [if_neg hv3] at hG
  refine WP.vseq rfl fun K hK => ?_
  refine WP.vregion rfl rfl fun U => ?_
  simp [go_sem]
  refine hK _ _ ?_; clear hK K
  refine WP.vcond_f rfl (by simp [go_sem, hv3]) ?_
  refine WP.vskip rfl ?_
  simp only [go_sem]
  refine hK _ _ ?_; clear hK K
  refine WP.vseq rfl fun K hK => ?_
  refine WP.vregion rfl rfl fun U => ?_
  simp [go_sem, hbc]
  refine (hOf_ok h0 v 0).mono ?_
  rintro r w2 ⟨rfl, hx2⟩
  replace h0 := h0.ext hx2
  replace hx0 := hx0.trans hx2
  replace hb0 := hb0.ext hx2
  replace hk0 := hk0.ext hx2
  replace hr0 := hr0.ext hx2
  clear hbc hkc hx2
  have hbc := hb0.cell
  have hkc := hk0.cell
  try simp [go_sem]
  refine hK _ _ ?_; clear hK K
  rcases ho : ofH H v 0 with ⟨_ | c, e⟩
  · have he := ofH_none ho
    simp only [ho] at hG
    subst hG
    refine WP.vseq rfl fun K hK => ?_
    refine WP.vseq rfl fun K hK => ?_
    refine WP.vregion rfl rfl fun U => ?_
    simp [go_sem]
    refine hK _ _ ?_; clear hK K
    refine WP.vcond_t rfl (by simp [go_sem, he]) ?_
    refine WP.vseq rfl fun K hK => ?_
    refine WP.vregion rfl rfl fun U => ?_
    simp [go_sem]
    refine (Null_ok _).mono ?_
    rintro r w3 ⟨rfl, hx3⟩
    have hr3 := hr0.ext hx3
    try simp [go_sem, hr3.frozen, hr3.cell]
    refine hK _ _ ?_; clear hK K
    refine WP.vret rfl ?_
    try simp only [thenE_ret, blockE_ret]
    refine ret_done (by simp [go_sem, (hr3.setCell 0 (.int .i64 0)).cell] <;> rfl) ?_
    exact ⟨rfl, (hx0.trans hx3).put3 (by omega)⟩
  obtain ⟨rfl, _, ⟨i, _, hi⟩, _⟩ := ofH_some ho
  simp only [ho] at hG
  obtain ⟨vv, nv, _, _, _, hC, _⟩ := h0.at_ hi
  have hcc := hC.has.cell
  refine WP.vseq rfl fun K hK => ?_
  refine WP.vseq rfl fun K hK => ?_
  refine WP.vregion rfl rfl fun U => ?_
  simp [go_sem]
  refine hK _ _ ?_; clear hK K
  refine WP.vcond_f rfl (by simp [go_sem]) ?_
  refine WP.vskip rfl ?_
  simp only [go_sem]
  refine hK _ _ ?_; clear hK K
  refine WP.vseq rfl fun K hK => ?_
  refine WP.vseq rfl fun K hK => ?_
  refine WP.vregion rfl rfl fun U => ?_
  simp [go_sem, hcc, cptr]
  refine hK _ _ ?_; clear hK K
  refine WP.vblock rfl ?_
  by_cases hk1 : c.kind = 1
  · rw [if_pos hk1] at hG
    obtain ⟨b, xs, hlx⟩ := (hw i c hi).1 hk1
    have hxl := hl i c b xs hi hlx
    simp only [hlx] at hG
    have hL := hC.list b xs hlx
    refine WP.vseq rfl fun K hK => ?_
    refine WP.vregion rfl rfl fun U => ?_
    simp [go_sem]
    refine hK _ _ ?_; clear hK K
    refine WP.vcond_t rfl (by simp [go_sem, hk1]) ?_
    by_cases hkk : key.k ≠ 2
    · rw [if_pos hkk] at hG
      subst hG
      refine WP.vseq rfl fun K hK => ?_
      refine WP.vseq rfl fun K hK => ?_
      refine WP.vregion rfl rfl fun U => ?_
      simp [go_sem, hkc]
      refine hK _ _ ?_; clear hK K
      refine WP.vcond_t rfl (by simp [go_sem, hkk]) ?_
      refine WP.vseq rfl fun K hK => ?_
      refine WP.vregion rfl rfl fun U => ?_
      simp [go_sem]
      refine (Null_ok _).mono ?_
      rintro r w3 ⟨rfl, hx3⟩
      have hr3 := hr0.ext hx3
      try simp [go_sem, hr3.frozen, hr3.cell]
      refine hK _ _ ?_; clear hK K
      refine WP.vret rfl ?_
      try simp only [thenE_ret, blockE_ret]
      refine ret_done (by simp [go_sem, (hr3.setCell 0 (.int .i64 0)).cell] <;> rfl) ?_
      exact ⟨rfl, (hx0.trans hx3).put3 (by omega)⟩
    · rw [if_neg hkk] at hG
      have hkk' : key.k = 2 := by omega
      have hwc : ∀ w' : SW (fun w' => Ext w2 w'), ∀ i, w'.w.cell? ⟨w.heap.size + 1, i, none⟩ = #[.int .i64 key.k, .int .i64 key.n, .string key.t][i]? := fun w' => (hk0.ext w'.h).cell
      have hwd : ∀ w' : SW (fun w' => Ext w2 w'), ∀ i, w'.w.cell? ⟨c.ad, i, none⟩ = #[.int .i64 c.kind, vv, .pointer (some ⟨b, 0, none⟩), .pointer (c.table.map fun x => ⟨x.1, 0, none⟩), nv, .string c.text][i]? := fun w' => by
        have := (hC.has.ext w'.h).cell
        rw [hlx] at this
        exact this
      haveI : Nonempty (SW (fun w' => Ext w2 w')) := ⟨⟨_, Ext.refl _⟩⟩
      refine WP.vseq rfl fun K hK => ?_
      refine WP.vseq rfl fun K hK => ?_
      refine WP.vregion rfl rfl fun U => ?_
      simp [go_sem, hkc]
      refine hK _ _ ?_; clear hK K
      refine WP.vcond_f rfl (by simp [go_sem, hkk']) ?_
      refine WP.vskip rfl ?_
      simp only [go_sem]
      refine hK _ _ ?_; clear hK K
      refine WP.vseq rfl fun K hK => ?_
      refine WP.vdraw rfl (fun w' => Ext w2 w') 9 [(0, true), (1, true), (2, true), (3, true), (4, true), (5, true), (6, false), (7, true), (8, true), (9, false), (10, true)] (by kernel_rfl) (by kernel_rfl) ((Ext.refl w2).drew) fun U => ?_
      simp [go_sem, hwc, hwd, cptr]
      refine (lGet_ok (hL.ext ((Ext.refl w2).drew)) key.n hxl).mono ?_
      rw [hG]
      rintro r w3 ⟨rfl, hx3⟩
      have hr3 := (hr0.drew).ext hx3
      replace hx3 := ((Ext.refl w2).drew).trans hx3
      try simp [go_sem, hr3.frozen, hr3.cell]
      refine ⟨hx3, ?_⟩
      refine hK _ _ ?_; clear hK K
      refine WP.vret rfl ?_
      try simp only [thenE_ret, blockE_ret]
      refine ret_done (by simp [go_sem, (hr3.setCell 0 (.int .i64 G.1.k)).cell] <;> rfl) ?_
      exact ⟨rfl, (hx0.trans hx3).put3 (by omega)⟩
  rw [if_neg hk1] at hG
  refine WP.vseq rfl fun K hK => ?_
  refine WP.vregion rfl rfl fun U => ?_
  simp [go_sem]
  refine hK _ _ ?_; clear hK K
  refine WP.vcond_f rfl (by simp [go_sem, hk1]) ?_
  by_cases hk2 : c.kind = 2
  · rw [if_pos hk2] at hG
    refine WP.vseq rfl fun K hK => ?_
    refine WP.vregion rfl rfl fun U => ?_
    simp [go_sem]
    refine hK _ _ ?_; clear hK K
    refine WP.vcond_t rfl (by simp [go_sem, hk2]) ?_
    refine WP.vseq rfl fun K hK => ?_
    refine WP.vregion rfl rfl fun U => ?_
    simp [go_sem, hbc, hkc]
    refine (sTable_ok h0 hw v hks).mono ?_
    rw [hG]
    rintro r w3 ⟨rfl, hx3⟩
    have hr3 := hr0.ext hx3
    try simp [go_sem, hr3.frozen, hr3.cell]
    refine hK _ _ ?_; clear hK K
    refine WP.vret rfl ?_
    try simp only [thenE_ret, blockE_ret]
    refine ret_done (by simp [go_sem, (hr3.setCell 0 (.int .i64 G.1.k)).cell] <;> rfl) ?_
    exact ⟨rfl, (hx0.trans hx3).put3 (by omega)⟩
  rw [if_neg hk2] at hG
  refine WP.vseq rfl fun K hK => ?_
  refine WP.vregion rfl rfl fun U => ?_
  simp [go_sem]
  refine hK _ _ ?_; clear hK K
  refine WP.vcond_f rfl (by simp [go_sem, hk2]) ?_
  by_cases hk3 : c.kind = 3
  · rw [if_pos hk3] at hG
    obtain ⟨b, D, d, ht, hser, hd⟩ := (hw i c hi).2 (.inr (.inl hk3))
    simp only [ht] at hG
    have hT := hC.table b D ht
    have hwc : ∀ w' : SW (fun w' => Ext w2 w'), ∀ i, w'.w.cell? ⟨w.heap.size + 1, i, none⟩ = #[.int .i64 key.k, .int .i64 key.n, .string key.t][i]? := fun w' => (hk0.ext w'.h).cell
    have hwd : ∀ w' : SW (fun w' => Ext w2 w'), ∀ i, w'.w.cell? ⟨c.ad, i, none⟩ = #[.int .i64 c.kind, vv, .pointer (c.list.map fun x => ⟨x.1, 0, none⟩), .pointer (some ⟨b, 0, none⟩), nv, .string c.text][i]? := fun w' => by
      have := (hC.has.ext w'.h).cell
      rw [ht] at this
      exact this
    haveI : Nonempty (SW (fun w' => Ext w2 w')) := ⟨⟨_, Ext.refl _⟩⟩
    refine WP.vseq rfl fun K hK => ?_
    refine WP.vregion rfl rfl fun U => ?_
    simp [go_sem]
    refine hK _ _ ?_; clear hK K
    refine WP.vcond_t rfl (by simp [go_sem, hk3]) ?_
    refine WP.vseq rfl fun K hK => ?_
    refine WP.vdraw rfl (fun w' => Ext w2 w') 8 [(0, true), (1, true), (2, true), (3, true), (4, true), (5, false), (6, true), (7, true), (8, false), (9, true)] (by kernel_rfl) (by kernel_rfl) ((Ext.refl w2).drew) fun U => ?_
    simp [go_sem, hwc, hwd, cptr]
    refine (tGet_ok (hT.ext ((Ext.refl w2).drew)) hser hks).mono ?_
    rw [getR_eq, hG]
    rintro r w3 ⟨rfl, hx3⟩
    have hr3 := (hr0.drew).ext hx3
    replace hx3 := ((Ext.refl w2).drew).trans hx3
    try simp [go_sem, hr3.frozen, hr3.cell]
    refine ⟨hx3, ?_⟩
    refine hK _ _ ?_; clear hK K
    refine WP.vret rfl ?_
    try simp only [thenE_ret, blockE_ret]
    refine ret_done (by simp [go_sem, (hr3.setCell 0 (.int .i64 G.1.k)).cell] <;> rfl) ?_
    exact ⟨rfl, (hx0.trans hx3).put3 (by omega)⟩
  rw [if_neg hk3] at hG
  refine WP.vseq rfl fun K hK => ?_
  refine WP.vregion rfl rfl fun U => ?_
  simp [go_sem]
  refine hK _ _ ?_; clear hK K
  refine WP.vcond_f rfl (by simp [go_sem, hk3]) ?_
  by_cases hk4 : c.kind = 4
  · rw [if_pos hk4] at hG
    obtain ⟨b, D, d, ht, hser, hd⟩ := (hw i c hi).2 (.inr (.inr hk4))
    simp only [ht, hd, List.headD_cons] at hG
    have hT := hC.table b D ht
    have hwc : ∀ w' : SW (fun w' => Ext w2 w'), ∀ i, w'.w.cell? ⟨w.heap.size + 1, i, none⟩ = #[.int .i64 key.k, .int .i64 key.n, .string key.t][i]? := fun w' => (hk0.ext w'.h).cell
    have hwd : ∀ w' : SW (fun w' => Ext w2 w'), ∀ i, w'.w.cell? ⟨c.ad, i, none⟩ = #[.int .i64 c.kind, vv, .pointer (c.list.map fun x => ⟨x.1, 0, none⟩), .pointer (some ⟨b, 0, none⟩), nv, .string c.text][i]? := fun w' => by
      have := (hC.has.ext w'.h).cell
      rw [ht] at this
      exact this
    haveI : Nonempty (SW (fun w' => Ext w2 w')) := ⟨⟨_, Ext.refl _⟩⟩
    refine WP.vseq rfl fun K hK => ?_
    refine WP.vregion rfl rfl fun U => ?_
    simp [go_sem]
    refine hK _ _ ?_; clear hK K
    refine WP.vcond_t rfl (by simp [go_sem, hk4]) ?_
    refine WP.vseq rfl fun K hK => ?_
    refine WP.vseq rfl fun K hK => ?_
    have J2 : ∀ (T' : List (Nat × Value)) (U' : Nat → Value) (w' : World) (nb : Nat), Has w' nb (vObj (getD D key).1) → Ext w2 w' →
        K ⟨[.pointer (some ⟨h, 0, none⟩), v.v, key.v, undef, .pointer (some ⟨w.heap.size, 0, none⟩), .pointer (some ⟨w.heap.size + 1, 0, none⟩), .pointer (some ⟨w.heap.size + 1 + 1, 0, none⟩), .int .i64 0, cptr (some c), .int .i64 0, .pointer (some ⟨nb, 0, none⟩), .int .i64 (getD D key).2, .pointer (some ⟨w.heap.size, 0, none⟩), .int .i64 v.k, .int .i64 c.kind], T', U'⟩ w' := by
      intro T' U' w4 nb hn hx4
      refine hK _ _ ?_
      clear hK K
      have hr4 := hr0.ext hx4
      have hk4 := hk0.ext hx4
      have hC4 := hC.ext hx4
      have h04 := h0.ext hx4
      replace hx4 := hx0.trans hx4
      have hnc := hn.cell
      rcases hg : D.get key with _ | x
      · have hgd : getD D key = (vNull, 3) := by unfold getD; rw [hg]
        simp only [hg] at hG
        rw [hgd]
        refine WP.vseq rfl fun K hK => ?_
        refine WP.vregion rfl rfl fun U => ?_
        simp [go_sem]
        refine hK _ _ ?_; clear hK K
        refine WP.vcond_f rfl (by simp [go_sem]) ?_
        refine WP.vskip rfl ?_
        simp only [go_sem]
        refine hK _ _ ?_; clear hK K
        obtain ⟨g, cap, rfl, hgl, _, _, _, _, _⟩ := hC4.headVal hd
        have hwc : ∀ w' : SW (fun w' => Ext w4 w'), ∀ i, w'.w.cell? ⟨w.heap.size + 1, i, none⟩ = #[.int .i64 key.k, .int .i64 key.n, .string key.t][i]? := fun w' => (hk4.ext w'.h).cell
        have hwd : ∀ w' : SW (fun w' => Ext w4 w'), ∀ i, w'.w.cell? ⟨c.ad, i, none⟩ = #[.int .i64 c.kind, .slice (some ⟨g, 0, none⟩) 1 cap, optp c.list, optp c.table, nv, .string c.text][i]? := fun w' => (hC4.has.ext w'.h).cell
        have hwv : ∀ w' : SW (fun w' => Ext w4 w'), w'.w.cell? ⟨g, 0, none⟩ = some (.int .i64 d.k) ∧ w'.w.cell? ⟨g, 1, none⟩ = some (.int .i64 d.n) ∧ w'.w.cell? ⟨g, 2, none⟩ = some (.string d.t) := fun w' => by
          obtain ⟨g', cap', hv', _, _, e0, e1, e2, _⟩ := (hC4.ext w'.h).headVal hd
          simp only [Value.slice.injEq, Option.some.injEq, Addr.mk.injEq, true_and, and_true] at hv'
          rw [hv'.1]; exact ⟨e0, e1, e2⟩
        have d0 := fun w' => (hwv w').1
        have d1 := fun w' => (hwv w').2.1
        have d2 := fun w' => (hwv w').2.2
        haveI : Nonempty (SW (fun w' => Ext w4 w')) := ⟨⟨_, Ext.refl _⟩⟩
        refine WP.vseq rfl fun K hK => ?_
        refine WP.vdraw rfl (fun w' => Ext w4 w') 11 [(0, true), (1, true), (2, true), (3, true), (4, true), (5, true), (6, true), (7, true), (8, false), (9, true), (10, true), (11, false), (12, true)] (by kernel_rfl) (by kernel_rfl) ((Ext.refl w4).drew) fun U => ?_
        simp [go_sem, hwc, hwd, d0, d1, d2, cptr]
        refine (lFind_ok (h04.ext ((Ext.refl w4).drew)) hw d hks).mono ?_
        rw [hG]
        rintro r w5 ⟨rfl, hx5⟩
        have hr5 := (hr4.drew).ext hx5
        replace hx5 := ((Ext.refl w4).drew).trans hx5
        try simp [go_sem, hr5.frozen, hr5.cell]
        refine ⟨hx5, ?_⟩
        refine hK _ _ ?_; clear hK K
        refine WP.vret rfl ?_
        try simp only [thenE_ret, blockE_ret]
        refine ret_done (by simp [go_sem, (hr5.setCell 0 (.int .i64 G.1.k)).cell] <;> rfl) ?_
        exact ⟨rfl, (hx4.trans hx5).put3 (by omega)⟩
      · have hgd : getD D key = (x, 0) := by unfold getD; rw [hg]
        simp only [hg] at hG
        subst hG
        rw [hgd] at hnc ⊢
        refine WP.vseq rfl fun K hK => ?_
        refine WP.vregion rfl rfl fun U => ?_
        simp [go_sem]
        refine hK _ _ ?_; clear hK K
        refine WP.vcond_t rfl (by simp [go_sem]) ?_
        refine WP.vseq rfl fun K hK => ?_
        refine WP.vregion rfl rfl fun U => ?_
        simp [go_sem, hnc, hr4.frozen, hr4.cell]
        refine hK _ _ ?_; clear hK K
        refine WP.vret rfl ?_
        try simp only [thenE_ret, blockE_ret]
        refine ret_done (by simp [go_sem, (hr4.setCell 0 (.int .i64 x.k)).cell] <;> rfl) ?_
        exact ⟨rfl, hx4.put3 (by omega)⟩
    clear hK
    refine WP.vdrawT rfl (fun w' => Ext w2 w') 1000 (.frees [0, 1, 2, 3, 4] (.alt 5 (.frees [6, 7, 8] (.eff 9 (.eff 10 (.frees [11] .done)))) 9 (.eff 5 (.frees [6, 7, 8] (.eff 10 (.frees [11] .done)))))) (by kernel_rfl) (by kernel_rfl) ((Ext.refl w2).drew) fun U => ?_
    simp [go_sem, hwc, hwd, cptr]
    refine ⟨?_, ?_⟩
    · refine (tGet_ok (hT.ext ((Ext.refl w2).drew)) hser hks).mono ?_
      rintro r w4 ⟨rfl, hx4⟩
      replace hx4 := (((Ext.refl w2).drew).trans hx4)
      rw [getR_eq]
      try simp [go_sem]
      refine ⟨hx4, hx4.alloc _, ?_⟩
      refine ⟨hx4.alloc _, J2 _ _ _ _ (Has.new w4 (vObj (getD D key).1)) (hx4.alloc _)⟩
    · refine ⟨(((Ext.refl w2).alloc _).drew), (tGet_ok (hT.ext (((Ext.refl w2).alloc _).drew)) hser hks).mono ?_⟩
      have hn0 : Has (w2.alloc (vObj vNull)).drew w2.heap.size (vObj vNull) := (Has.new w2 _).drew
      change ∀ v w', (v = _ ∧ Ext (w2.alloc (vObj vNull)).drew w') → _
      rintro r w4 ⟨rfl, hx4⟩
      have hn4 := hn0.ext hx4
      replace hx4 := ((((Ext.refl w2).alloc _).drew).trans hx4)
      rw [getR_eq]
      try simp [go_sem, hn4.frozen, hn4.cell]
      refine ⟨hx4, ?_⟩
      exact ⟨hx4.put3 (by omega), J2 _ _ _ _ (hn4.put3 _) (hx4.put3 (by omega))⟩
  rw [if_neg hk4] at hG
  subst hG
  refine WP.vseq rfl fun K hK => ?_
  refine WP.vregion rfl rfl fun U => ?_
  simp [go_sem]
  refine hK _ _ ?_; clear hK K
  refine WP.vcond_f rfl (by simp [go_sem, hk4]) ?_
  refine WP.vskip rfl ?_
  simp only [go_sem]
  refine hK _ _ ?_; clear hK K
  refine WP.vseq rfl fun K hK => ?_
  refine WP.vregion rfl rfl fun U => ?_
  simp [go_sem]
  refine (Null_ok _).mono ?_
  rintro r w3 ⟨rfl, hx3⟩
  have hr3 := hr0.ext hx3
  try simp [go_sem, hr3.frozen, hr3.cell]
  refine hK _ _ ?_; clear hK K
  refine WP.vret rfl ?_
  try simp only [thenE_ret, blockE_ret]
  refine ret_done (by simp [go_sem, (hr3.setCell 0 (.int .i64 0)).cell] <;> rfl) ?_
  exact ⟨rfl, (hx0.trans hx3).put3 (by omega)⟩
end
end Go.Proofs.Ytephkonhiaingaa

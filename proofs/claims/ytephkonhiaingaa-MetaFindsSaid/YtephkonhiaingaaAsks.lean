/- What layer 18's statements ask ahead. -/
import Derived.Test.YtephkonhiaingaaAsks10
set_option linter.unusedSimpArgs false
set_option linter.unusedVariables false
namespace Go.Proofs.Ytephkonhiaingaa
open Go Go.RowKit

section
variable {w w' w0 : World} {b h : Nat} {F F' L L' T T' : Nat → Prop} {H : HeapM}

/-- A heap of the statement's own: it lies above what was there. -/
theorem Ext.own (hx : Ext w0 w) (hlo : ∀ b, F b → w0.heap.size ≤ b) (hc : Chg F w w') : Ext w0 w' := Chg.and_then hx hc fun b hb hf => by have := hlo b hf; omega
theorem HRep.own (hh : HRep w h H F) (hlo : ∀ b, F b → w0.heap.size ≤ b) : ∃ F', HRep w h H F' ∧ ∀ b, F' b → w0.heap.size ≤ b ∧ b < w.heap.size :=
  ⟨_, hh.inside, fun b hb => ⟨hlo b hb.1, hb.2⟩⟩

set_option maxRecDepth 4000 in
set_option maxHeartbeats 8000000 in
theorem asks_ok (w : World) : Ret Try.prog 42 #[] w fun r w' => r = .bool true ∧ Ext w w' := by
  refine ret_E (n := 130) (S := [0, 1, 2, 3, 4, 5, 6, 7, 8, 9, 10, 11, 12, 13, 14, 15, 16, 17, 18, 19, 20]) 21 Try.func42 rfl rfl rfl rfl ?_
  refine WP.vseq rfl fun K hK => ?_
  refine WP.vregion rfl rfl fun U => ?_
  simp [go_sem]
  refine hK _ _ ?_; clear hK K
  refine WP.vseq rfl fun K hK => ?_
  refine WP.vregion rfl rfl fun U => ?_
  simp [go_sem]
  refine (hNew_ok (w := w) (n := 50) (by decide)).mono ?_
  rintro r w1 ⟨rfl, h1, hx1⟩
  have hs1 := hx1.size
  try simp [go_sem]
  refine hK _ _ ?_; clear hK K
  refine WP.vseq rfl fun K hK => ?_
  refine WP.vregion rfl rfl fun U => ?_
  simp [go_sem]
  refine (hAlloc_ok (vals := []) (nums := []) (list := none) (table := none) (L := fun _ => False) (T := fun _ => False) h1 (by decide) (by decide) (by decide) (Rd.nil _ _ _) (Rd.nil _ _ _) (by decide) (by decide) (fun b xs e => by cases e) (fun b D e => by cases e) (fun x h => h.elim) (fun x h => h.elim)).mono ?_
  rintro r w2 ⟨a1, rfl, h2, hc2⟩
  rw [a_alloc1] at h2 ⊢
  replace hx1 := Ext.own hx1 (fun b hb => hb) hc2
  obtain ⟨F2, h2, hlo2⟩ := h2.own (w0 := w) fun b hb => by
    rcases hb with h | h | h | h
    · exact h
    · exact h.elim
    · exact h.elim
    · omega
  clear h1 hc2 hs1
  have hs2 := hx1.size
  try simp [go_sem]
  refine hK _ _ ?_; clear hK K
  refine WP.vseq rfl fun K hK => ?_
  refine WP.vregion rfl rfl fun U => ?_
  simp [go_sem]
  refine (hNewTable_ok h2 (show 1 < 50 by decide)).mono ?_
  rintro r w3 ⟨a2, t2, rfl, h3, hc3⟩
  rw [a_alloc2] at h3 ⊢
  replace hx1 := Ext.own hx1 (fun b hb => (hlo2 b hb).1) hc3
  have hs3 := hx1.size
  obtain ⟨F3, h3, hlo3⟩ := h3.own (w0 := w) fun b hb => by
    rcases hb with h | h
    · exact (hlo2 b h).1
    · omega
  clear h2 hc3
  try simp [go_sem]
  refine hK _ _ ?_; clear hK K
  have hb4 := Has.new w3 (vObj (vRef 1))
  change WP _ _ _ _ _ _ (w3.alloc (vObj (vRef 1)))
  replace h3 := h3.ext ((Ext.refl w3).alloc (vObj (vRef 1)))
  replace hx1 := hx1.alloc (vObj (vRef 1))
  have hn4 : ¬ F3 w3.heap.size := fun h => by have := hlo3 _ h; omega
  replace hlo3 : ∀ b, F3 b → w.heap.size ≤ b := fun b hb => (hlo3 b hb).1
  generalize w3.heap.size = n4 at hb4 hn4 hs3
  generalize w3.alloc (vObj (vRef 1)) = w4 at hb4 h3 hx1
  refine WP.vseq rfl fun K hK => ?_
  refine WP.vregion rfl rfl fun U => ?_
  simp [go_sem]
  refine (hNewTable_ok h3 (show 2 < 50 by decide)).mono ?_
  rintro r w5 ⟨a3, t3, rfl, h5, hc5⟩
  rw [a_alloc3] at h5 ⊢
  replace hx1 := Ext.own hx1 hlo3 hc5
  have hlt4 := hb4.lt
  have hs5 := hx1.size
  replace hb4 := hb4.chg hc5 hn4
  have hs45 := hc5.size
  obtain ⟨F5, h5, hlo5, hn4'⟩ : ∃ F', HRep w5 w.heap.size (aH3 a1 a2 t2 a3 t3) F' ∧ (∀ b, F' b → w.heap.size ≤ b ∧ b < w5.heap.size) ∧ ¬ F' n4 :=
    ⟨_, h5.inside, fun b hb => ⟨by rcases hb.1 with h | h; exact hlo3 b h; omega, hb.2⟩, fun hb => by rcases hb.1 with h | h; exact hn4 h; omega⟩
  clear h3 hc5 hn4
  try simp [go_sem]
  refine hK _ _ ?_; clear hK K
  have hb6 := Has.new w5 (vObj (vRef 2))
  have hlt5 := hb4.lt
  change WP _ _ _ _ _ _ (w5.alloc (vObj (vRef 2)))
  replace h5 := h5.ext ((Ext.refl w5).alloc (vObj (vRef 2)))
  replace hx1 := hx1.alloc (vObj (vRef 2))
  replace hb4 := hb4.alloc (vObj (vRef 2))
  have hn6 : ¬ F5 w5.heap.size := fun h => by have := hlo5 _ h; omega
  replace hlo5 : ∀ b, F5 b → w.heap.size ≤ b := fun b hb => (hlo5 b hb).1
  generalize w5.heap.size = n6 at hb6 hn6 hs5 hlt5
  generalize w5.alloc (vObj (vRef 2)) = w6 at hb4 hb6 h5 hx1
  have hwc : ∀ w' : SW (fun w' => Has w' n6 (vObj (vRef 2))), ∀ i, w'.w.cell? ⟨n6, i, none⟩ = #[.int .i64 4, .int .i64 2, .string ⟨#[]⟩][i]? := fun w' => w'.h.cell
  haveI : Nonempty (SW (fun w' => Has w' n6 (vObj (vRef 2)))) := ⟨⟨_, hb6⟩⟩
  refine WP.vseq rfl fun K hK => ?_
  refine WP.vdraw rfl (fun w' => Has w' n6 (vObj (vRef 2))) 1000 [(0, true), (1, true), (3, true), (2, false), (4, false), (5, false)] (by kernel_rfl) (by kernel_rfl) hb6.drew fun U => ?_
  simp [go_sem, hwc]
  refine (Str_ok _ addName).mono ?_
  rintro r w7 ⟨rfl, hx7⟩
  replace hx7 := ((Ext.refl w6).drew).trans hx7
  try simp [go_sem]
  refine ⟨hb6.ext hx7, ?_⟩
  refine (Ref_ok _ 0).mono ?_
  rintro r w8 ⟨rfl, hx8⟩
  replace hx8 := hx7.trans hx8
  try simp [go_sem]
  refine ⟨hb6.ext hx8, ?_⟩
  refine (sNew_ok (i := 2) (key := vStr addName) (val := vRef 0) (h5.ext hx8) rfl (.inl rfl) rfl (by decide) (by decide) (by decide)).mono ?_
  rintro r w9 ⟨rfl, h9, hc9⟩
  rw [a_set4] at h9
  have hs8 := hx8.size
  have hlt6 := hb6.lt
  replace hb6 := (hb6.ext hx8).chg hc9 hn6
  replace hb4 := (hb4.ext hx8).chg hc9 hn4'
  replace hx1 := Ext.own (hx1.trans hx8) hlo5 hc9
  have hs1 : w.heap.size ≤ w8.heap.size := by omega
  obtain ⟨F9, h9, hlo9, hn4, hn6⟩ : ∃ F', HRep w9 w.heap.size (aH4 a1 a2 t2 a3 t3) F' ∧ (∀ b, F' b → w.heap.size ≤ b) ∧ ¬ F' n4 ∧ ¬ F' n6 :=
    ⟨_, h9, fun b hb => by rcases hb with h | h; exact hlo5 b h; omega, fun hb => by rcases hb with h | h; exact hn4' h; omega, fun hb => by rcases hb with h | h; exact hn6 h; omega⟩
  clear hc9 hx8 hx7 h5 hwc this
  try simp [go_sem]
  refine ⟨hb6, ?_⟩
  refine hK _ _ ?_; clear hK K
  have hc4 := hb4.cell
  have hc6 := hb6.cell
  refine WP.vseq rfl fun K hK => ?_
  refine WP.vseq rfl fun K hK => ?_
  refine WP.vregion rfl rfl fun U => ?_
  simp [go_sem, hc4, hc6]
  refine (sSetDel_ok (n := 100000000) (i := 1) (to := vRef 2) h9 a_wf4 rfl rfl (fun _ => ⟨⟨_, a_of4⟩, a_walk⟩)).mono ?_
  rintro r w10 ⟨rfl, h10, hc10⟩
  rw [a_set5] at h10
  replace hb6 := hb6.chg hc10 hn6
  replace hb4 := hb4.chg hc10 hn4
  replace hx1 := Ext.own hx1 hlo9 hc10
  clear hc10 h9 hc4 hc6
  have hc4 := hb4.cell
  have hc6 := hb6.cell
  try simp [go_sem]
  refine hK _ _ ?_; clear hK K
  refine WP.vcond_f rfl (by simp [go_sem]) ?_
  refine WP.vskip rfl ?_
  simp only [go_sem]
  refine hK _ _ ?_; clear hK K
  refine WP.vseq rfl fun K hK => ?_
  refine WP.vregion rfl rfl fun U => ?_
  simp [go_sem, hc4]
  refine (mFind_ok h10 a_wf5 a_len5 (vRef 1) addName (by rw [a_deleg1]; decide) (by decide)).mono ?_
  rw [a_find1]
  rintro r w11 ⟨rfl, hx11⟩
  replace hb6 := hb6.ext hx11
  replace hb4 := hb4.ext hx11
  replace h10 := h10.ext hx11
  replace hx1 := hx1.trans hx11
  clear hx11 hc4 hc6
  try simp [go_sem]
  refine hK _ _ ?_; clear hK K
  have hb8 := Has.new w11 (vObj (vRef 0))
  change WP _ _ _ _ _ _ (w11.alloc (vObj (vRef 0)))
  have hs11 := hx1.size
  replace h10 := h10.ext ((Ext.refl w11).alloc (vObj (vRef 0)))
  replace hx1 := hx1.alloc (vObj (vRef 0))
  replace hb6 := hb6.alloc (vObj (vRef 0))
  replace hb4 := hb4.alloc (vObj (vRef 0))
  generalize w11.heap.size = n8 at hb8 hs11
  generalize w11.alloc (vObj (vRef 0)) = w12 at hb8 hb4 hb6 h10 hx1
  have hc6 := hb6.cell
  refine WP.vseq rfl fun K hK => ?_
  refine WP.vregion rfl rfl fun U => ?_
  simp [go_sem, hc6]
  refine (mFind_ok h10 a_wf5 a_len5 (vRef 2) addName (by rw [a_deleg2]; decide) (by decide)).mono ?_
  rw [a_find2]
  rintro r w13 ⟨rfl, hx13⟩
  replace hb8 := hb8.ext hx13
  replace hb4 := hb4.ext hx13
  replace h10 := h10.ext hx13
  replace hx1 := hx1.trans hx13
  clear hx13 hc6 hb6
  try simp [go_sem]
  refine hK _ _ ?_; clear hK K
  have hs13 := hx1.size
  change WP _ _ _ _ _ _ (w13.alloc (vObj vNull))
  replace h10 := h10.ext ((Ext.refl w13).alloc (vObj vNull))
  replace hx1 := hx1.alloc (vObj vNull)
  replace hb8 := hb8.alloc (vObj vNull)
  replace hb4 := hb4.alloc (vObj vNull)
  generalize w13.heap.size = n10 at hs13
  generalize w13.alloc (vObj vNull) = w14 at hb8 hb4 h10 hx1
  refine WP.vseq rfl fun K hK => ?_
  have J : ∀ (T' : List (Nat × Value)) (U' : Nat → Value) (w' : World) (n12 n13 : Nat), Has w' n13 (vObj (vRef 0)) → Has w' n8 (vObj (vRef 0)) → Ext w w' →
      K ⟨[.bool false, .pointer (some ⟨w.heap.size, 0, none⟩), .int .i64 0, .int .i64 0, .pointer (some ⟨n4, 0, none⟩), .int .i64 0, .pointer (some ⟨n6, 0, none⟩), .int .i64 0, .pointer (some ⟨n8, 0, none⟩), .bool true, .pointer (some ⟨n10, 0, none⟩), .bool false,
        .pointer (some ⟨n12, 0, none⟩), .pointer (some ⟨n13, 0, none⟩), .int .i64 0, undef, undef, undef, undef, undef, undef], T', U'⟩ w' := by
    clear hb8 hb4 h10 hx1
    intro T' U' w1 n12 n13 hb13 hb8 hx1
    refine hK _ _ ?_
    clear hK K
    refine WP.vseq rfl fun K hK => ?_
    refine WP.vregion rfl rfl fun U => ?_
    simp [go_sem]
    refine (Int_ok _ 1).mono ?_
    rintro r w2 ⟨rfl, hx2⟩
    try simp [go_sem]
    refine (Int_ok _ 2).mono ?_
    rintro r w3 ⟨rfl, hx3⟩
    replace hx2 := hx2.trans hx3
    clear hx3
    try simp [go_sem]
    refine (mArith_plain (a := vInt 1) (b := vInt 2) (x := vInt 3) (op := 10) (e := 0) (by decide) (fun _ w => (vAdd_int w (vInt 1) (vInt 2) rfl rfl)) (fun h => absurd rfl h)).mono ?_
    rintro r w4 ⟨rfl, hx4⟩
    replace hx2 := hx2.trans hx4
    clear hx4
    try simp [go_sem]
    refine hK _ _ ?_; clear hK K
    replace hb13 := hb13.ext hx2
    replace hb8 := hb8.ext hx2
    replace hx1 := hx1.trans hx2
    clear hx2
    have hb15 : Has ((w4.alloc (vObj (vInt 3))).alloc (vObj vNull)) w4.heap.size (vObj (vInt 3)) := (Has.new w4 (vObj (vInt 3))).alloc _
    change WP _ _ _ _ _ _ ((w4.alloc (vObj (vInt 3))).alloc (vObj vNull))
    replace hb13 := (hb13.alloc (vObj (vInt 3))).alloc (vObj vNull)
    replace hb8 := (hb8.alloc (vObj (vInt 3))).alloc (vObj vNull)
    replace hx1 := (hx1.alloc (vObj (vInt 3))).alloc (vObj vNull)
    generalize ((w4.alloc (vObj (vInt 3))).alloc (vObj vNull)) = w5 at hb15 hb13 hb8 hx1
    refine WP.vseq rfl fun K hK => ?_
    refine WP.vregion rfl rfl fun U => ?_
    simp [go_sem]
    refine (Int_ok _ 1).mono ?_
    rintro r w6 ⟨rfl, hx2⟩
    try simp [go_sem]
    refine (Int_ok _ 2).mono ?_
    rintro r w7 ⟨rfl, hx3⟩
    replace hx2 := hx2.trans hx3
    clear hx3
    try simp [go_sem]
    refine (mOrder_plain (a := vInt 1) (b := vInt 2) (n := -1) (e := 0) (.inr (.inl (by decide))) (fun w => (vCompare_int w (vInt 1) (vInt 2) (by decide) rfl rfl))).mono ?_
    rintro r w8 ⟨rfl, hx4⟩
    replace hx2 := hx2.trans hx4
    clear hx4
    try simp [go_sem]
    refine hK _ _ ?_; clear hK K
    replace hb13 := (hb13.ext hx2).alloc (vObj vNull)
    replace hb8 := (hb8.ext hx2).alloc (vObj vNull)
    replace hb15 := (hb15.ext hx2).alloc (vObj vNull)
    replace hx1 := (hx1.trans hx2).alloc (vObj vNull)
    change WP _ _ _ _ _ _ (w8.alloc (vObj vNull))
    clear hx2
    generalize (w8.alloc (vObj vNull)) = w9 at hb15 hb13 hb8 hx1
    have h8 : ∀ w' : SW (fun w' => Has w' n8 (vObj (vRef 0)) ∧ Has w' n13 (vObj (vRef 0)) ∧ Has w' w4.heap.size (vObj (vInt 3))), ∀ i, w'.w.cell? ⟨n8, i, none⟩ = #[.int .i64 4, .int .i64 0, .string ⟨#[]⟩][i]? := fun w' => w'.h.1.cell
    have h13 : ∀ w' : SW (fun w' => Has w' n8 (vObj (vRef 0)) ∧ Has w' n13 (vObj (vRef 0)) ∧ Has w' w4.heap.size (vObj (vInt 3))), ∀ i, w'.w.cell? ⟨n13, i, none⟩ = #[.int .i64 4, .int .i64 0, .string ⟨#[]⟩][i]? := fun w' => w'.h.2.1.cell
    have h15 : ∀ w' : SW (fun w' => Has w' n8 (vObj (vRef 0)) ∧ Has w' n13 (vObj (vRef 0)) ∧ Has w' w4.heap.size (vObj (vInt 3))), ∀ i, w'.w.cell? ⟨w4.heap.size, i, none⟩ = #[.int .i64 2, .int .i64 3, .string ⟨#[]⟩][i]? := fun w' => w'.h.2.2.cell
    haveI : Nonempty (SW (fun w' => Has w' n8 (vObj (vRef 0)) ∧ Has w' n13 (vObj (vRef 0)) ∧ Has w' w4.heap.size (vObj (vInt 3)))) := ⟨⟨_, hb8, hb13, hb15⟩⟩
    refine WP.vseq rfl fun K hK => ?_
    refine WP.vdraw rfl (fun w' => Has w' n8 (vObj (vRef 0)) ∧ Has w' n13 (vObj (vRef 0)) ∧ Has w' w4.heap.size (vObj (vInt 3))) 1000 [(0, true), (1, true), (2, true), (3, true), (4, true), (5, true), (6, true), (7, true), (8, false), (9, true), (10, true), (11, true), (12, true), (13, true), (14, true), (15, true), (16, true), (17, true), (18, true), (19, true), (20, true), (21, true), (22, true), (23, true), (24, true), (25, true), (26, true), (27, true), (28, true), (29, true), (30, true), (31, true), (32, true), (33, true), (34, true), (35, true), (36, true), (37, true), (38, false), (39, true), (40, true), (41, true), (42, false), (43, true), (44, true), (45, true)] (by kernel_rfl) (by kernel_rfl) ⟨hb8.drew, hb13.drew, hb15.drew⟩ fun U => ?_
    simp [go_sem, h8, h13, h15]
    refine (Ref_ok _ 0).mono ?_
    rintro r w10 ⟨rfl, hx10⟩
    replace hx10 := ((Ext.refl w9).drew).trans hx10
    try simp [go_sem, h8, h13, h15]
    refine ⟨⟨hb8.ext hx10, hb13.ext hx10, hb15.ext hx10⟩, ?_⟩
    refine (mText_ok _ 10).mono ?_
    rintro r w11 ⟨rfl, rfl⟩
    try simp [go_sem, textG]
    refine ⟨⟨hb8.ext hx10, hb13.ext hx10, hb15.ext hx10⟩, ?_⟩
    refine (mOp_ok _ 2).mono ?_
    rintro r w12 ⟨rfl, rfl⟩
    try simp [go_sem, opG]
    refine ⟨⟨hb8.ext hx10, hb13.ext hx10, hb15.ext hx10⟩, ?_⟩
    refine hK _ _ ?_; clear hK K
    refine WP.vret rfl ?_
    try simp only [thenE_ret, blockE_ret]
    refine ret_done (by simp [go_sem] <;> rfl) ?_
    exact ⟨rfl, hx1.trans hx10⟩
  clear hK
  exact asks10 h10 hb4 fun T' U' w' n12 n13 hb hx => J T' U' w' n12 n13 hb (hb8.ext hx) (hx1.trans hx)
end
end Go.Proofs.Ytephkonhiaingaa

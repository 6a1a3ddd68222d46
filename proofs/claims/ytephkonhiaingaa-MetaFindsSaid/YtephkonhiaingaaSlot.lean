/- What stands in things: Delegate, layout's Of, Find and Method, slot's New; meta's texts. -/
import Derived.Test.YtephkonhiaingaaHeapN
set_option linter.unusedSimpArgs false
set_option linter.unusedVariables false
namespace Go.Proofs.Ytephkonhiaingaa
open Go Go.RowKit

section
variable {w w' : World} {b h : Nat} {F F' L L' T T' : Nat → Prop} {c : CellM} {vv nv cv fv : Value} {H H' : HeapM} {col : Nat → Nat} {xs : List Val} {D : Dict} {v key val : Val}

/-- Each cell has what its kind needs. -/
def HWf (n : Int) (H : HeapM) : Prop := ∀ (i : Nat) (c : CellM), H.cells[i]? = some (some c) →
  (c.kind = 1 → ∃ b xs, c.list = some (b, xs)) ∧ (c.kind = 2 ∨ c.kind = 3 ∨ c.kind = 4 → ∃ b D d, c.table = some (b, D) ∧ D.serial ≤ n ∧ c.vals = [d])

theorem ofH_some {k e : Int} (h : ofH H v k = (some c, e)) : e = 0 ∧ v.k = 4 ∧ (∃ i : Nat, v.n = i ∧ H.cells[i]? = some (some c)) ∧ (k ≠ 0 → c.kind = k) := by
  unfold ofH at h
  split at h
  · cases h
  · rename_i hk
    split at h
    · rename_i c' e' hg
      obtain ⟨_, n, hn, hc⟩ := getH_some hg
      split at h
      · cases h
      · rename_i h2
        cases h
        refine ⟨rfl, by omega, ⟨n, hn, hc⟩, fun h0 => ?_⟩
        by_cases h3 : c.kind = k
        · exact h3
        · exact absurd ⟨h0, h3⟩ h2
    · cases h
theorem ofH_none {k e : Int} (h : ofH H v k = (none, e)) : e ≠ 0 := by
  unfold ofH at h
  split at h
  · cases h; decide
  · split at h
    · split at h
      · cases h; decide
      · cases h
    · rename_i hg
      cases h
      exact getH_none hg

theorem Ext.put3 {rb : Nat} {x y z : Value} (h : Ext w w') (hr : w.heap.size ≤ rb) : Ext w (((w'.setCell ⟨rb, 0, none⟩ x).setCell ⟨rb, 1, none⟩ y).setCell ⟨rb, 2, none⟩ z) := Chg.put3 h fun h => by omega

def delegH (H : HeapM) (v : Val) : Val × Int := match ofH H v 2 with
  | (some c, _) => (c.vals.headD vNull, 0)
  | (none, _) => (vNull, 30)

theorem vcells_one_at {d : Val} {g : Nat} (hc : ∀ j u, (vcells [d])[j]? = some u → w.cell? ⟨g, j, none⟩ = some u) :
    w.cell? ⟨g, 0, none⟩ = some (.int .i64 d.k) ∧ w.cell? ⟨g, 1, none⟩ = some (.int .i64 d.n) ∧ w.cell? ⟨g, 2, none⟩ = some (.string d.t) := ⟨hc 0 _ rfl, hc 1 _ rfl, hc 2 _ rfl⟩

theorem CX.headVal {d : Val} (h : CX w c vv nv F L T) (hd : c.vals = [d]) : ∃ g cap, vv = .slice (some ⟨g, 0, none⟩) 1 cap ∧ g < w.heap.size ∧ F g ∧ w.cell? ⟨g, 0, none⟩ = some (.int .i64 d.k) ∧ w.cell? ⟨g, 1, none⟩ = some (.int .i64 d.n) ∧ w.cell? ⟨g, 2, none⟩ = some (.string d.t) ∧ ∀ j, w.frozen? ⟨g, j, none⟩ = false := by
  have h1 := h.vals
  rw [hd] at h1
  obtain ⟨g, cap, hv, hF, hl, hc, hf⟩ := h1.at_ (by simp)
  obtain ⟨h2, h3, h4⟩ := vcells_one_at hc
  exact ⟨g, cap, hv, hl, hF, h2, h3, h4, hf⟩

set_option maxRecDepth 4000 in
theorem sDelegate_ok {n : Int} (h0 : HRep w h H F) (hw : HWf n H) (v : Val) :
    Ret Try.prog 35 #[.pointer (some ⟨h, 0, none⟩), v.v] w fun r w' => r = .tuple #[(delegH H v).1.v, .int .i64 (delegH H v).2] ∧ Ext w w' := by
  refine ret_E (n := 23) (S := [0, 1, 2, 3, 4, 5, 6, 7]) 6 Try.func35 rfl rfl rfl rfl ?_
  refine WP.vseq rfl fun K hK => ?_
  refine WP.vregion rfl rfl fun U => ?_
  simp [go_sem]
  refine hK _ _ ?_; clear hK K
  have hb0 : Has ((w.alloc (vObj v)).alloc (vObj vNull)) w.heap.size (vObj v) := (Has.new w _).alloc _
  have hr0 : Has ((w.alloc (vObj v)).alloc (vObj vNull)) (w.heap.size + 1) (vObj vNull) := by simpa using Has.new (w.alloc (vObj v)) (vObj vNull)
  have hx0 : Ext w ((w.alloc (vObj v)).alloc (vObj vNull)) := ((Ext.refl _).alloc _).alloc _
  change WP _ _ _ _ _ _ ((w.alloc (vObj v)).alloc (vObj vNull))
  generalize (w.alloc (vObj v)).alloc (vObj vNull) = w1 at hb0 hr0 hx0
  have hbc := hb0.cell
  replace h0 := h0.ext hx0
  refine WP.vseq rfl fun K hK => ?_
  refine WP.vregion rfl rfl fun U => ?_
  simp [go_sem, hbc]
  refine (hOf_ok h0 v 2).mono ?_
  rintro r w2 ⟨rfl, hx2⟩
  replace h0 := h0.ext hx2
  replace hx0 := hx0.trans hx2
  replace hr0 := hr0.ext hx2
  try simp [go_sem]
  refine hK _ _ ?_; clear hK K
  unfold delegH
  rcases ho : ofH H v 2 with ⟨_ | c, e⟩
  · have he := ofH_none ho
    refine WP.vseq rfl fun K hK => ?_
    refine WP.vseq rfl fun K hK => ?_
    refine WP.vregion rfl rfl fun U => ?_
    simp [go_sem]
    refine hK _ _ ?_; clear hK K
    refine WP.vcond_t rfl (by simp [go_sem, he]) ?_
    refine WP.vseq rfl fun K hK => ?_
    refine WP.vregion rfl rfl fun U => ?_
    simp [go_sem]
    refine (Null_ok _).mono ?_
    rintro r w3 ⟨rfl, hx3⟩
    have hr3 := hr0.ext hx3
    try simp [go_sem, hr3.frozen, hr3.cell]
    refine hK _ _ ?_; clear hK K
    refine WP.vret rfl ?_
    try simp only [thenE_ret, blockE_ret]
    refine ret_done (by simp [go_sem, (hr3.setCell 0 (.int .i64 0)).cell] <;> rfl) ?_
    exact ⟨rfl, (hx0.trans hx3).put3 (by omega)⟩
  · obtain ⟨rfl, _, ⟨i, _, hi⟩, hk⟩ := ofH_some ho
    obtain ⟨b, D, d, _, _, hd⟩ := (hw i c hi).2 (.inl (hk (by decide)))
    obtain ⟨vv, nv, _, _, _, hC, _⟩ := h0.at_ hi
    obtain ⟨g, cap, rfl, hgl, _, d0, d1, d2, _⟩ := hC.headVal hd
    have hcc := hC.has.cell
    refine WP.vseq rfl fun K hK => ?_
    refine WP.vseq rfl fun K hK => ?_
    refine WP.vregion rfl rfl fun U => ?_
    simp [go_sem]
    refine hK _ _ ?_; clear hK K
    refine WP.vcond_f rfl (by simp [go_sem]) ?_
    refine WP.vskip rfl ?_
    simp only [go_sem]
    refine hK _ _ ?_; clear hK K
    refine WP.vseq rfl fun K hK => ?_
    refine WP.vregion rfl rfl fun U => ?_
    simp [go_sem, hcc, d0, d1, d2, cptr, hr0.frozen, hr0.cell]
    refine hK _ _ ?_; clear hK K
    refine WP.vret rfl ?_
    try simp only [thenE_ret, blockE_ret]
    refine ret_done (by simp [go_sem, (hr0.setCell 0 (.int .i64 d.k)).cell] <;> rfl) ?_
    exact ⟨by simp only [hd, List.headD_cons], hx0.put3 (by omega)⟩

def methodH (H : HeapM) (v : Val) : Bool := (ofH H v 5).2 == 0 || (ofH H v 6).2 == 0

set_option maxRecDepth 4000 in
theorem lMethod_ok (h0 : HRep w h H F) (v : Val) :
    Ret Try.prog 77 #[.pointer (some ⟨h, 0, none⟩), v.v] w fun r w' => r = .bool (methodH H v) ∧ Ext w w' := by
  refine ret_E (n := 27) (S := [0, 1, 2, 3, 4, 5, 6, 7, 8]) 7 Try.func77 rfl rfl rfl rfl ?_
  refine WP.vseq rfl fun K hK => ?_
  refine WP.vregion rfl rfl fun U => ?_
  simp [go_sem]
  refine hK _ _ ?_; clear hK K
  have hb0 : Has (w.alloc (vObj v)) w.heap.size (vObj v) := Has.new w _
  have hx0 : Ext w (w.alloc (vObj v)) := (Ext.refl _).alloc _
  change WP _ _ _ _ _ _ (w.alloc (vObj v))
  generalize (w.alloc (vObj v)) = w1 at hb0 hx0
  have hbc := hb0.cell
  replace h0 := h0.ext hx0
  refine WP.vseq rfl fun K hK => ?_
  refine WP.vregion rfl rfl fun U => ?_
  simp [go_sem, hbc]
  refine (hOf_ok h0 v 5).mono ?_
  rintro r w2 ⟨rfl, hx2⟩
  replace h0 := h0.ext hx2
  replace hx0 := hx0.trans hx2
  replace hb0 := hb0.ext hx2
  have hbc := hb0.cell
  try simp [go_sem]
  refine hK _ _ ?_; clear hK K
  refine WP.vseq rfl fun K hK => ?_
  refine WP.vregion rfl rfl fun U => ?_
  simp [go_sem, hbc]
  refine (hOf_ok h0 v 6).mono ?_
  rintro r w3 ⟨rfl, hx3⟩
  try simp [go_sem]
  refine hK _ _ ?_; clear hK K
  unfold methodH
  rcases h5 : ((ofH H v 5).2 == 0) with _ | _
  · refine WP.vseq rfl fun K hK => ?_
    refine WP.vregion rfl rfl fun U => ?_
    simp [go_sem, h5]
    refine hK _ _ ?_; clear hK K
    refine WP.vret rfl ?_
    try simp only [thenE_ret, blockE_ret]
    refine ret_done (by simp [go_sem] <;> rfl) ?_
    exact ⟨rfl, hx0.trans hx3⟩
  · refine WP.vseq rfl fun K hK => ?_
    refine WP.vregion rfl rfl fun U => ?_
    simp [go_sem, h5]
    refine hK _ _ ?_; clear hK K
    refine WP.vret rfl ?_
    try simp only [thenE_ret, blockE_ret]
    refine ret_done (by simp [go_sem] <;> rfl) ?_
    exact ⟨rfl, hx0.trans hx3⟩

def classH (H : HeapM) (v : Val) : Val := match ofH H v 4 with
  | (some c, _) => c.vals.headD vNull
  | (none, _) => vNull

set_option maxRecDepth 4000 in
theorem lOf_ok {n : Int} (h0 : HRep w h H F) (hw : HWf n H) (v : Val) :
    Ret Try.prog 80 #[.pointer (some ⟨h, 0, none⟩), v.v] w fun r w' => r = (classH H v).v ∧ Ext w w' := by
  refine ret_E (n := 22) (S := [0, 1, 2, 3, 4, 5, 6]) 5 Try.func80 rfl rfl rfl rfl ?_
  refine WP.vseq rfl fun K hK => ?_
  refine WP.vregion rfl rfl fun U => ?_
  simp [go_sem]
  refine hK _ _ ?_; clear hK K
  have hb0 : Has ((w.alloc (vObj v)).alloc (vObj vNull)) w.heap.size (vObj v) := (Has.new w _).alloc _
  have hr0 : Has ((w.alloc (vObj v)).alloc (vObj vNull)) (w.heap.size + 1) (vObj vNull) := by simpa using Has.new (w.alloc (vObj v)) (vObj vNull)
  have hx0 : Ext w ((w.alloc (vObj v)).alloc (vObj vNull)) := ((Ext.refl _).alloc _).alloc _
  change WP _ _ _ _ _ _ ((w.alloc (vObj v)).alloc (vObj vNull))
  generalize (w.alloc (vObj v)).alloc (vObj vNull) = w1 at hb0 hr0 hx0
  have hbc := hb0.cell
  replace h0 := h0.ext hx0
  refine WP.vseq rfl fun K hK => ?_
  refine WP.vregion rfl rfl fun U => ?_
  simp [go_sem, hbc]
  refine (hOf_ok h0 v 4).mono ?_
  rintro r w2 ⟨rfl, hx2⟩
  replace h0 := h0.ext hx2
  replace hx0 := hx0.trans hx2
  replace hr0 := hr0.ext hx2
  try simp [go_sem]
  refine hK _ _ ?_; clear hK K
  unfold classH
  rcases ho : ofH H v 4 with ⟨_ | c, e⟩
  · have he := ofH_none ho
    refine WP.vseq rfl fun K hK => ?_
    refine WP.vseq rfl fun K hK => ?_
    refine WP.vregion rfl rfl fun U => ?_
    simp [go_sem]
    refine hK _ _ ?_; clear hK K
    refine WP.vcond_t rfl (by simp [go_sem, he]) ?_
    refine WP.vseq rfl fun K hK => ?_
    refine WP.vregion rfl rfl fun U => ?_
    simp [go_sem]
    refine (Null_ok _).mono ?_
    rintro r w3 ⟨rfl, hx3⟩
    have hr3 := hr0.ext hx3
    try simp [go_sem, hr3.frozen, hr3.cell]
    refine hK _ _ ?_; clear hK K
    refine WP.vret rfl ?_
    try simp only [thenE_ret, blockE_ret]
    refine ret_done (by simp [go_sem, (hr3.setCell 0 (.int .i64 0)).cell] <;> rfl) ?_
    exact ⟨rfl, (hx0.trans hx3).put3 (by omega)⟩
  · obtain ⟨rfl, _, ⟨i, _, hi⟩, hk⟩ := ofH_some ho
    obtain ⟨b, D, d, _, _, hd⟩ := (hw i c hi).2 (.inr (.inr (hk (by decide))))
    obtain ⟨vv, nv, _, _, _, hC, _⟩ := h0.at_ hi
    obtain ⟨g, cap, rfl, hgl, _, d0, d1, d2, _⟩ := hC.headVal hd
    have hcc := hC.has.cell
    refine WP.vseq rfl fun K hK => ?_
    refine WP.vseq rfl fun K hK => ?_
    refine WP.vregion rfl rfl fun U => ?_
    simp [go_sem]
    refine hK _ _ ?_; clear hK K
    refine WP.vcond_f rfl (by simp [go_sem]) ?_
    refine WP.vskip rfl ?_
    simp only [go_sem]
    refine hK _ _ ?_; clear hK K
    refine WP.vseq rfl fun K hK => ?_
    refine WP.vregion rfl rfl fun U => ?_
    simp [go_sem, hcc, d0, d1, d2, cptr, hr0.frozen, hr0.cell]
    refine hK _ _ ?_; clear hK K
    refine WP.vret rfl ?_
    try simp only [thenE_ret, blockE_ret]
    refine ret_done (by simp [go_sem, (hr0.setCell 0 (.int .i64 d.k)).cell] <;> rfl) ?_
    exact ⟨by simp only [hd, List.headD_cons], hx0.put3 (by omega)⟩

/-- What a table tells by a key, with its error. -/
def getD (D : Dict) (key : Val) : Val × Int := match D.get key with
  | some v => (v, 0)
  | none => (vNull, 3)
theorem getR_eq (D : Dict) (key : Val) : getR D key = .tuple #[(getD D key).1.v, .int .i64 (getD D key).2] := by
  unfold getR getD
  rcases D.get key with _ | v <;> rfl

def memberH (H : HeapM) (v key : Val) : Val × Int := match ofH H v 3 with
  | (some c, _) => match c.table with
    | some (_, D) => getD D key
    | none => (vNull, 3)
  | (none, _) => (vNull, 30)

set_option maxRecDepth 4000 in
theorem lFind_ok (h0 : HRep w h H F) (hw : HWf 100000000 H) (v : Val) (hks : key.t.size ≤ 1000000000) :
    Ret Try.prog 72 #[.pointer (some ⟨h, 0, none⟩), v.v, key.v] w fun r w' => r = .tuple #[(memberH H v key).1.v, .int .i64 (memberH H v key).2] ∧ Ext w w' := by
  refine ret_E (n := 27) (S := [0, 1, 2, 3, 4, 5, 6, 7, 8, 9]) 7 Try.func72 rfl rfl rfl rfl ?_
  refine WP.vseq rfl fun K hK => ?_
  refine WP.vregion rfl rfl fun U => ?_
  simp [go_sem]
  refine hK _ _ ?_; clear hK K
  have hb0 : Has (((w.alloc (vObj v)).alloc (vObj key)).alloc (vObj vNull)) w.heap.size (vObj v) := ((Has.new w _).alloc _).alloc _
  have hk0 : Has (((w.alloc (vObj v)).alloc (vObj key)).alloc (vObj vNull)) (w.heap.size + 1) (vObj key) := by simpa using (Has.new (w.alloc (vObj v)) (vObj key)).alloc _
  have hr0 : Has (((w.alloc (vObj v)).alloc (vObj key)).alloc (vObj vNull)) (w.heap.size + 1 + 1) (vObj vNull) := by simpa using Has.new ((w.alloc (vObj v)).alloc (vObj key)) (vObj vNull)
  have hx0 : Ext w (((w.alloc (vObj v)).alloc (vObj key)).alloc (vObj vNull)) := (((Ext.refl _).alloc _).alloc _).alloc _
  change WP _ _ _ _ _ _ (((w.alloc (vObj v)).alloc (vObj key)).alloc (vObj vNull))
  generalize (((w.alloc (vObj v)).alloc (vObj key)).alloc (vObj vNull)) = w1 at hb0 hk0 hr0 hx0
  have hbc := hb0.cell
  replace h0 := h0.ext hx0
  refine WP.vseq rfl fun K hK => ?_
  refine WP.vregion rfl rfl fun U => ?_
  simp [go_sem, hbc]
  refine (hOf_ok h0 v 3).mono ?_
  rintro r w2 ⟨rfl, hx2⟩
  replace h0 := h0.ext hx2
  replace hx0 := hx0.trans hx2
  replace hr0 := hr0.ext hx2
  replace hk0 := hk0.ext hx2
  try simp [go_sem]
  refine hK _ _ ?_; clear hK K
  unfold memberH
  rcases ho : ofH H v 3 with ⟨_ | c, e⟩
  · have he := ofH_none ho
    refine WP.vseq rfl fun K hK => ?_
    refine WP.vseq rfl fun K hK => ?_
    refine WP.vregion rfl rfl fun U => ?_
    simp [go_sem]
    refine hK _ _ ?_; clear hK K
    refine WP.vcond_t rfl (by simp [go_sem, he]) ?_
    refine WP.vseq rfl fun K hK => ?_
    refine WP.vregion rfl rfl fun U => ?_
    simp [go_sem]
    refine (Null_ok _).mono ?_
    rintro r w3 ⟨rfl, hx3⟩
    have hr3 := hr0.ext hx3
    try simp [go_sem, hr3.frozen, hr3.cell]
    refine hK _ _ ?_; clear hK K
    refine WP.vret rfl ?_
    try simp only [thenE_ret, blockE_ret]
    refine ret_done (by simp [go_sem, (hr3.setCell 0 (.int .i64 0)).cell] <;> rfl) ?_
    exact ⟨rfl, (hx0.trans hx3).put3 (by omega)⟩
  · obtain ⟨rfl, _, ⟨i, _, hi⟩, hk⟩ := ofH_some ho
    obtain ⟨b, D, d, ht, hser, hd⟩ := (hw i c hi).2 (.inr (.inl (hk (by decide))))
    obtain ⟨vv, nv, _, _, _, hC, _⟩ := h0.at_ hi
    have hT := hC.table b D ht
    have hcc := hC.has.cell
    rw [ht] at hcc
    have hkc := hk0.cell
    have hwc : ∀ w' : SW (fun w' => Ext w2 w'), ∀ i, w'.w.cell? ⟨w.heap.size + 1, i, none⟩ = #[.int .i64 key.k, .int .i64 key.n, .string key.t][i]? := fun w' => (hk0.ext w'.h).cell
    have hwd : ∀ w' : SW (fun w' => Ext w2 w'), ∀ i, w'.w.cell? ⟨c.ad, i, none⟩ = #[.int .i64 c.kind, vv, .pointer (c.list.map fun x => ⟨x.1, 0, none⟩), .pointer (some ⟨b, 0, none⟩), nv, .string c.text][i]? := fun w' => by
      have := (hC.has.ext w'.h).cell
      rw [ht] at this
      exact this
    haveI : Nonempty (SW (fun w' => Ext w2 w')) := ⟨⟨_, Ext.refl _⟩⟩
    refine WP.vseq rfl fun K hK => ?_
    refine WP.vseq rfl fun K hK => ?_
    refine WP.vregion rfl rfl fun U => ?_
    simp [go_sem]
    refine hK _ _ ?_; clear hK K
    refine WP.vcond_f rfl (by simp [go_sem]) ?_
    refine WP.vskip rfl ?_
    simp only [go_sem]
    refine hK _ _ ?_; clear hK K
    refine WP.vseq rfl fun K hK => ?_
    refine WP.vdraw rfl (fun w' => Ext w2 w') 8 [(0, true), (1, true), (2, true), (3, true), (4, true), (5, false), (6, true), (7, true), (8, false), (9, true)] (by kernel_rfl) (by kernel_rfl) ((Ext.refl w2).drew) fun U => ?_
    simp [go_sem, hwc, hwd, cptr]
    refine (tGet_ok (hT.ext ((Ext.refl w2).drew)) hser hks).mono ?_
    rintro r w3 ⟨rfl, hx3⟩
    replace hr0 := (hr0.drew).ext hx3
    replace hx0 := (hx0.drew).trans hx3
    rw [getR_eq]
    try simp [go_sem, hr0.frozen, hr0.cell]
    refine ⟨(((Ext.refl w2).drew).trans hx3), ?_⟩
    refine hK _ _ ?_; clear hK K
    refine WP.vret rfl ?_
    try simp only [thenE_ret, blockE_ret]
    refine ret_done (by simp [go_sem, (hr0.setCell 0 (.int .i64 (getD D key).1.k)).cell] <;> rfl) ?_
    exact ⟨by simp only [ht], hx0.put3 (by omega)⟩

set_option maxRecDepth 4000 in
theorem sNew_ok {i : Nat} (h0 : HRep w h H F) (hc : H.cells[i]? = some (some c)) (hk : c.kind = 2 ∨ c.kind = 3) (ht : c.table = some (b, D)) (hser : D.serial < 1000000) (hkey : key.k ≠ 0) (hks : key.t.size ≤ 1000000000) :
    Ret Try.prog 28 #[.pointer (some ⟨h, 0, none⟩), (vRef i).v, key.v, val.v] w fun r w' =>
      r = .int .i64 0 ∧ HRep w' h (H.setC i { c with table := some (b, D.put key val) }) (fun x => F x ∨ w.heap.size ≤ x) ∧ Chg F w w' := by
  obtain ⟨hin, _⟩ := List.getElem?_eq_some_iff.1 hc
  have hroom := h0.ok.room
  have hof : ofH H (vRef i) 0 = (some c, 0) := by
    unfold ofH getH
    rw [if_neg (by simp), if_neg (by simp only; omega)]
    simp [hc]
  refine ret_E (n := 40) (S := [0, 1, 2, 3, 4, 5, 6, 7, 8, 9, 10]) 7 Try.func28 rfl rfl rfl rfl ?_
  refine WP.vseq rfl fun K hK => ?_
  refine WP.vregion rfl rfl fun U => ?_
  simp [go_sem]
  refine hK _ _ ?_; clear hK K
  have hb0 : Has (((w.alloc (vObj (vRef i))).alloc (vObj key)).alloc (vObj val)) w.heap.size (vObj (vRef i)) := ((Has.new w _).alloc _).alloc _
  have hk0 : Has (((w.alloc (vObj (vRef i))).alloc (vObj key)).alloc (vObj val)) (w.heap.size + 1) (vObj key) := by simpa using (Has.new (w.alloc (vObj (vRef i))) (vObj key)).alloc _
  have hv0 : Has (((w.alloc (vObj (vRef i))).alloc (vObj key)).alloc (vObj val)) (w.heap.size + 1 + 1) (vObj val) := by simpa using Has.new ((w.alloc (vObj (vRef i))).alloc (vObj key)) (vObj val)
  have hx0 : Ext w (((w.alloc (vObj (vRef i))).alloc (vObj key)).alloc (vObj val)) := (((Ext.refl _).alloc _).alloc _).alloc _
  change WP _ _ _ _ _ _ (((w.alloc (vObj (vRef i))).alloc (vObj key)).alloc (vObj val))
  generalize (((w.alloc (vObj (vRef i))).alloc (vObj key)).alloc (vObj val)) = w1 at hb0 hk0 hv0 hx0
  have hbc := hb0.cell
  replace h0 := h0.inside.ext hx0
  refine WP.vseq rfl fun K hK => ?_
  refine WP.vregion rfl rfl fun U => ?_
  simp [go_sem, hbc]
  refine (hOf_ok h0 (vRef i) 0).mono ?_
  rw [hof]
  rintro r w2 ⟨rfl, hx2⟩
  replace h0 := h0.ext hx2
  replace hx0 := hx0.trans hx2
  replace hk0 := hk0.ext hx2
  replace hv0 := hv0.ext hx2
  try simp [go_sem]
  refine hK _ _ ?_; clear hK K
  obtain ⟨col, cv, fv, hX, hF⟩ := h0
  obtain ⟨vv, nv, hC⟩ := hX.cell i c hc
  have hcc := hC.has.cell
  have hT := hC.table b D ht
  rw [ht] at hcc
  have hkc := hk0.cell
  have hvc := hv0.cell
  have hCh := hC.has
  generalize hhd : Obj.cells #[.int .i64 c.kind, vv, optp c.list, optp c.table, nv, .string c.text] 56 (0, 0) = hd at hCh
  have hwc : ∀ w' : SW (fun w' => Has w' c.ad hd ∧ Has w' (w.heap.size + 1) (vObj key) ∧ Has w' (w.heap.size + 1 + 1) (vObj val)), ∀ i, w'.w.cell? ⟨c.ad, i, none⟩ = #[.int .i64 c.kind, vv, .pointer (c.list.map fun x => ⟨x.1, 0, none⟩), .pointer (some ⟨b, 0, none⟩), nv, .string c.text][i]? := fun w' => by
    have h1 := w'.h.1
    simp only [← hhd, ht] at h1
    exact h1.cell
  have hwk := fun w' : SW (fun w' => Has w' c.ad hd ∧ Has w' (w.heap.size + 1) (vObj key) ∧ Has w' (w.heap.size + 1 + 1) (vObj val)) => w'.h.2.1.cell
  have hwv := fun w' : SW (fun w' => Has w' c.ad hd ∧ Has w' (w.heap.size + 1) (vObj key) ∧ Has w' (w.heap.size + 1 + 1) (vObj val)) => w'.h.2.2.cell
  haveI : Nonempty (SW (fun w' => Has w' c.ad hd ∧ Has w' (w.heap.size + 1) (vObj key) ∧ Has w' (w.heap.size + 1 + 1) (vObj val))) := ⟨⟨_, hCh, hk0, hv0⟩⟩
  refine WP.vseq rfl fun K hK => ?_
  have J : ∀ (T' : List (Nat × Value)) (U' : Nat → Value), K ⟨[.pointer (some ⟨h, 0, none⟩), (vRef i).v, key.v, val.v, undef, .pointer (some ⟨w.heap.size, 0, none⟩), .pointer (some ⟨w.heap.size + 1, 0, none⟩), .pointer (some ⟨w.heap.size + 1 + 1, 0, none⟩), .int .i64 0, cptr (some c), .int .i64 0], T', U'⟩ w2 := by
    intro T' U'
    refine hK _ _ ?_
    clear hK K
    refine WP.vseq rfl fun K hK => ?_
    refine WP.vdraw rfl (fun w' => Has w' c.ad hd ∧ Has w' (w.heap.size + 1) (vObj key) ∧ Has w' (w.heap.size + 1 + 1) (vObj val)) 1000 [(0, true), (1, true), (2, true), (3, true), (4, true), (5, true), (6, false), (7, true)] (by kernel_rfl) (by kernel_rfl) ⟨hCh.drew, hk0.drew, hv0.drew⟩ fun U => ?_
    simp [go_sem, hwc, hwk, hwv, cptr]
    refine (put_ok (hT.ext ((Ext.refl w2).drew)) hser hkey hks).mono ?_
    rintro r w3 ⟨rfl, hT3, hx3⟩
    try simp [go_sem]
    refine ⟨⟨hCh.drew.chg hx3 ?_, hk0.drew.chg hx3 ?_, hv0.drew.chg hx3 ?_⟩, ?_⟩
    · have := hC.inb; omega
    · intro e; have := hF (w.heap.size + 1) (by omega); omega
    · intro e; have := hF (w.heap.size + 1 + 1) (by omega); omega
    refine hK _ _ ?_; clear hK K
    refine WP.vret rfl ?_
    try simp only [thenE_ret, blockE_ret]
    refine ret_done (by simp [go_sem] <;> rfl) ?_
    refine ⟨rfl, ⟨_, cv, fv, (hX.ext ((Ext.refl w2).drew)).setTable hc ht hx3 hT3, fun b hb => ?_⟩, (Ext.then (hx0.drew) (hx3.mono fun b _ hb => (hF b (by omega)).1))⟩
    have := hx0.size
    unfold more at hb
    split at hb
    · exact .inl (hF b hb).1
    · rename_i h1
      simp at h1
      exact .inr (by omega)
  rcases hk with hk | hk
  · refine WP.vseq rfl fun K hK => ?_
    refine WP.vregion rfl rfl fun U => ?_
    simp [go_sem, hcc, hk, cptr]
    refine hK _ _ ?_; clear hK K
    refine WP.vcond_f rfl (by simp [go_sem]) ?_
    refine WP.vskip rfl ?_
    simp only [go_sem]
    exact J _ _
  · refine WP.vseq rfl fun K hK => ?_
    refine WP.vregion rfl rfl fun U => ?_
    simp [go_sem, hcc, hk, cptr]
    refine hK _ _ ?_; clear hK K
    refine WP.vcond_f rfl (by simp [go_sem]) ?_
    refine WP.vskip rfl ?_
    simp only [go_sem]
    exact J _ _
end
end Go.Proofs.Ytephkonhiaingaa

/- Tables: what is had by a key. -/
import Derived.Test.YtephkonhiaingaaTab
set_option linter.unusedSimpArgs false
set_option linter.unusedVariables false
namespace Go.Proofs.Ytephkonhiaingaa
open Go Go.RowKit

/-- A table at block b tells D. -/
def TRep (w : World) (b : Nat) (D : Dict) (F : Nat → Prop) : Prop := ∃ T, TLow w b T F ∧ TInv T ∧ itemsOf T.ents = D.items ∧ T.serial = D.serial

def getR (D : Dict) (key : Val) : Value := match D.get key with
  | some v => .tuple #[v.v, .int .i64 0]
  | none => .tuple #[vNull.v, .int .i64 3]

section
variable {w w' : World} {b : Nat} {D : Dict} {F F' : Nat → Prop} {key : Val}
theorem TRep.ext (h : TRep w b D F) (hx : Ext w w') : TRep w' b D F := let ⟨T, h1, h2⟩ := h; ⟨T, h1.ext hx, h2⟩
theorem TRep.chg (h : TRep w b D F) (hx : Chg F' w w') (hd : ∀ b, F b → ¬ F' b) : TRep w' b D F := let ⟨T, h1, h2⟩ := h; ⟨T, h1.chg hx hd, h2⟩
theorem TRep.mono (h : TRep w b D F) (hF : ∀ b, F b → F' b) : TRep w b D F' := let ⟨T, h1, h2⟩ := h; ⟨T, h1.mono hF, h2⟩
theorem TRep.in_ (h : TRep w b D F) : F b ∧ b < w.heap.size := let ⟨T, ⟨ev, sv, hf, hb, _⟩, _⟩ := h; ⟨hf, hb.lt⟩
theorem TLow.in_ {T : TabL} (h : TLow w b T F) : F b ∧ b < w.heap.size := let ⟨ev, sv, hf, hb, _⟩ := h; ⟨hf, hb.lt⟩

theorem tNew_ok : Ret Try.prog 16 #[] w fun r w' => r = .pointer (some ⟨w.heap.size, 0, none⟩) ∧ TRep w' w.heap.size Dict.empty (fun b => w.heap.size ≤ b) ∧ Ext w w' := by
  refine ret_E (n := 3) (S := [0]) 1 Try.func16 rfl rfl rfl rfl ?_
  refine WP.vseq rfl fun K hK => ?_
  refine WP.vregion rfl rfl fun U => ?_
  simp [go_sem]
  refine hK _ _ ?_; clear hK K
  refine WP.vseq rfl fun K hK => ?_
  refine WP.vregion rfl rfl fun U => ?_
  simp [go_sem]
  refine hK _ _ ?_; clear hK K
  refine WP.vret rfl ?_
  try simp only [thenE_ret, blockE_ret]
  refine ret_done (by simp [go_sem] <;> rfl) ?_
  refine ⟨rfl, ?_, (Ext.refl _).alloc _⟩
  refine ⟨⟨[], [], 0, 0, 0⟩, ⟨_, _, Nat.le_refl _, Has.new w _, Own.nil _ _ _ _, Own.nil _ _ _ _⟩, ?_, rfl, rfl⟩
  exact ⟨.inl ⟨rfl, rfl, rfl⟩, rfl, by simp, by simp, by simp, by simp, by simp, by simp, by simp⟩

theorem tHas_ok (h : TRep w b D F) (hs : D.serial ≤ 100000000) (hk : key.t.size ≤ 1000000000) :
    Ret Try.prog 106 #[.pointer (some ⟨b, 0, none⟩), key.v] w fun r w' => r = .bool (D.get key).isSome ∧ Ext w w' := by
  obtain ⟨T, hl, hi, hD, hser⟩ := h
  obtain ⟨hb1, hb2⟩ := hi.bounds (by omega)
  refine ret_E (n := 14) (S := [0, 1, 2, 3, 4, 5, 6]) 5 Try.func106 rfl rfl rfl rfl ?_
  refine WP.vseq rfl fun K hK => ?_
  refine WP.vregion rfl rfl fun U => ?_
  simp [go_sem]
  refine hK _ _ ?_; clear hK K
  have hx0 : Ext w (w.alloc (.cells #[.int .i64 key.k, .int .i64 key.n, .string key.t] 35)) := (Ext.refl _).alloc _
  refine WP.vseq rfl fun K hK => ?_
  refine WP.vregion rfl rfl fun U => ?_
  simp [go_sem]
  refine (find_ok (hl.ext hx0) hi.slotsOk hb1 hb2 hk).mono ?_
  rintro r w1 ⟨rfl, hx1⟩
  try simp [go_sem]
  refine hK _ _ ?_; clear hK K
  refine WP.vseq rfl fun K hK => ?_
  refine WP.vregion rfl rfl fun U => ?_
  simp [go_sem]
  refine hK _ _ ?_; clear hK K
  refine WP.vret rfl ?_
  try simp only [thenE_ret, blockE_ret]
  refine ret_done (by simp [go_sem] <;> rfl) ?_
  refine ⟨?_, hx0.trans hx1⟩
  rcases hi.find D hD key with ⟨j, e, i, _, _, _, hf, _, hg⟩ | ⟨hg, _, i, hf, _⟩ <;> rw [hf, hg] <;> rfl

set_option maxRecDepth 4000 in
theorem tGet_ok (h : TRep w b D F) (hs : D.serial ≤ 100000000) (hk : key.t.size ≤ 1000000000) :
    Ret Try.prog 71 #[.pointer (some ⟨b, 0, none⟩), key.v] w fun r w' => r = getR D key ∧ Ext w w' := by
  obtain ⟨T, hl, hi, hD, hser⟩ := h
  obtain ⟨hb1, hb2⟩ := hi.bounds (by omega)
  refine ret_E (n := 32) (S := [0, 1, 2, 3, 4, 5, 6, 7]) 6 Try.func71 rfl rfl rfl rfl ?_
  refine WP.vseq rfl fun K hK => ?_
  refine WP.vregion rfl rfl fun U => ?_
  simp [go_sem]
  refine hK _ _ ?_; clear hK K
  have hx0 : Ext w ((w.alloc (.cells #[.int .i64 key.k, .int .i64 key.n, .string key.t] 35)).alloc (.cells #[.int .i64 0, .int .i64 0, .string ⟨#[]⟩] 35)) := ((Ext.refl _).alloc _).alloc _
  have hr0 : Has ((w.alloc (.cells #[.int .i64 key.k, .int .i64 key.n, .string key.t] 35)).alloc (.cells #[.int .i64 0, .int .i64 0, .string ⟨#[]⟩] 35)) (w.heap.size + 1) (.cells #[.int .i64 0, .int .i64 0, .string ⟨#[]⟩] 35) := by
    have := Has.new (w.alloc (.cells #[.int .i64 key.k, .int .i64 key.n, .string key.t] 35)) (.cells #[.int .i64 0, .int .i64 0, .string ⟨#[]⟩] 35)
    simpa using this
  refine WP.vseq rfl fun K hK => ?_
  refine WP.vregion rfl rfl fun U => ?_
  simp [go_sem]
  refine (find_ok (hl.ext hx0) hi.slotsOk hb1 hb2 hk).mono ?_
  rintro r w1 ⟨rfl, hx1⟩
  have hr1 := hr0.ext hx1
  have hl1 := (hl.ext hx0).ext hx1
  have hx := hx0.trans hx1
  clear hx1 hr0
  try simp [go_sem]
  rcases hi.find D hD key with ⟨j, e, i, he, hg, hek, hf, hsl, hget⟩ | ⟨hget, _, i, hf, _⟩
  · rw [hf]
    refine hK _ _ ?_; clear hK K
    refine WP.vseq rfl fun K hK => ?_
    refine WP.vseq rfl fun K hK => ?_
    refine WP.vregion rfl rfl fun U => ?_
    simp [go_sem]
    refine hK _ _ ?_; clear hK K
    refine WP.vcond_f rfl (by simp [go_sem]) ?_
    refine WP.vskip rfl ?_
    simp only [go_sem]
    refine hK _ _ ?_; clear hK K
    obtain ⟨ev, sv, hFb, hb, he0, hs0⟩ := hl
    have hjl : j < T.ents.length := (List.getElem?_eq_some_iff.1 he).1
    have hil : i < T.slots.length := (List.getElem?_eq_some_iff.1 hsl).1
    obtain ⟨g, cap, rfl, hFg, hgl, hec, _⟩ := he0.at_ (by omega)
    obtain ⟨g2, cap2, rfl, hFg2, hgl2, hsc, _⟩ := hs0.at_ (by omega)
    obtain ⟨_, _, _, e3, e4, e5, _⟩ := ecells_at he
    have c3 := fun w' : SW (Ext w) => w'.h.cell (hec _ _ e3) (fun h => h)
    have c4 := fun w' : SW (Ext w) => w'.h.cell (hec _ _ e4) (fun h => h)
    have c5 := fun w' : SW (Ext w) => w'.h.cell (hec _ _ e5) (fun h => h)
    have cs := fun w' : SW (Ext w) => w'.h.cell (hsc i (.int .i64 ((j : Int) + 1)) (by simp [ints, hsl])) (fun h => h)
    have hbc := fun w' : SW (Ext w) => (hb.ext w'.h).cell
    have hwj : IntKind.i64.wrap (j : Int) = (j : Int) := IntWalk.i64_in _ (by omega)
    have hrc := hr1.cell
    have hrf := hr1.frozen
    haveI : Nonempty (SW (Ext w)) := ⟨⟨_, hx⟩⟩
    refine WP.vseq rfl fun K hK => ?_
    refine WP.vdraw rfl (Ext w) 15 [(0, true), (1, true), (2, true), (3, true), (4, true), (5, true), (6, true), (7, true), (8, true), (9, true), (10, true), (11, true), (12, true), (13, true), (14, true), (15, false), (16, true)] (by kernel_rfl) (by kernel_rfl) hx.drew fun U => ?_
    simp [go_sem, c3, c4, c5, cs, hbc, hwj, hjl, hil, hrc, hrf]
    refine hK _ _ ?_; clear hK K
    refine WP.vret rfl ?_
    try simp only [thenE_ret, blockE_ret]
    refine ret_done (by simp [go_sem, hrc] <;> rfl) ?_
    refine ⟨by unfold getR; rw [hget], ?_⟩
    exact (((hx.drew).setCell (by simp) _).setCell (by simp) _).setCell (by simp) _
  · rw [hf]
    refine hK _ _ ?_; clear hK K
    refine WP.vseq rfl fun K hK => ?_
    refine WP.vseq rfl fun K hK => ?_
    refine WP.vregion rfl rfl fun U => ?_
    simp [go_sem]
    refine hK _ _ ?_; clear hK K
    refine WP.vcond_t rfl (by simp [go_sem]) ?_
    refine WP.vseq rfl fun K hK => ?_
    refine WP.vregion rfl rfl fun U => ?_
    simp [go_sem]
    refine (Null_ok _).mono ?_
    rintro r w2 ⟨rfl, hx2⟩
    have hr2 := hr1.ext hx2
    have hrc := hr2.cell
    have hrf := hr2.frozen
    have hx := hx.trans hx2
    try simp [go_sem, hrc, hrf]
    refine hK _ _ ?_; clear hK K
    refine WP.vret rfl ?_
    try simp only [thenE_ret, blockE_ret]
    refine ret_done (by simp [go_sem, hrc] <;> rfl) ?_
    refine ⟨by unfold getR; rw [hget], ?_⟩
    exact ((hx.setCell (by simp) _).setCell (by simp) _).setCell (by simp) _
end
end Go.Proofs.Ytephkonhiaingaa

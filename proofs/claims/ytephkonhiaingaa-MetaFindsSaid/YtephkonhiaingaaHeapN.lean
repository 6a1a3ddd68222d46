/- The heap: cells as values. -/
import Derived.Test.YtephkonhiaingaaHeapA
set_option linter.unusedSimpArgs false
set_option linter.unusedVariables false
namespace Go.Proofs.Ytephkonhiaingaa
open Go Go.RowKit

section
variable {w w' : World} {b h : Nat} {F F' L L' T T' : Nat → Prop} {c : CellM} {vv nv cv fv : Value} {H H' : HeapM} {col : Nat → Nat} {xs : List Val} {D : Dict}

/-- The three cells of a value are written. -/
theorem Chg.put3 {rb : Nat} {x y z : Value} (h : Chg F w w') (hr : rb < w.heap.size → F rb) : Chg F w (((w'.setCell ⟨rb, 0, none⟩ x).setCell ⟨rb, 1, none⟩ y).setCell ⟨rb, 2, none⟩ z) :=
  ((h.setCell (a := ⟨rb, 0, none⟩) hr _).setCell (a := ⟨rb, 1, none⟩) hr _).setCell (a := ⟨rb, 2, none⟩) hr _
theorem HRep.put3 {rb : Nat} {x y z : Value} (h0 : HRep w h H F) (hr : ¬ F rb) : HRep (((w.setCell ⟨rb, 0, none⟩ x).setCell ⟨rb, 1, none⟩ y).setCell ⟨rb, 2, none⟩ z) h H F :=
  h0.chg ((Chg.refl (fun x => x = rb) w).put3 fun _ => rfl) fun b hb e => hr (e ▸ hb)

set_option maxRecDepth 4000 in
theorem hValue_ok {kind : Int} {vals : List Val} {list : Option (Nat × List Val)} {table : Option (Nat × Dict)} {nums : List Int} {text : ByteArray} (h0 : HRep w h H F) (hk1 : 1 ≤ kind) (hk2 : kind ≤ 10) (hlim : H.live < H.limit)
    (hv : Rd w vv vals.length 3 (vcells vals)) (hn : Rd w nv nums.length 1 (ints nums)) (hvl : vals.length ≤ 1000000000) (hnl : nums.length ≤ 1000000000)
    (hL : ∀ b xs, list = some (b, xs) → LRep w b xs L) (hT : ∀ b D, table = some (b, D) → TRep w b D T) (hLF : ∀ x, L x → ¬ F x) (hTF : ∀ x, T x → ¬ F x ∧ ¬ L x) :
    Ret Try.prog 59 #[.pointer (some ⟨h, 0, none⟩), .agg #[.int .i64 kind, vv, optp list, optp table, nv, .string text]] w fun r w' =>
      ∃ ad, r = .tuple #[(vRef (H.alloc ⟨ad, kind, vals, list, table, nums, text⟩).2).v, .int .i64 0] ∧
        HRep w' h (H.alloc ⟨ad, kind, vals, list, table, nums, text⟩).1 (fun x => F x ∨ L x ∨ T x ∨ w.heap.size ≤ x) ∧ Chg F w w' := by
  obtain ⟨vA, vc, rfl⟩ := hv.len
  obtain ⟨nA, nc, rfl⟩ := hn.len
  refine ret_E (n := 20) (S := [0, 1, 2, 3, 4, 5, 6, 7]) 6 Try.func59 rfl rfl rfl rfl ?_
  refine WP.vseq rfl fun K hK => ?_
  refine WP.vregion rfl rfl fun U => ?_
  simp [go_sem]
  refine hK _ _ ?_; clear hK K
  generalize hco : cObj kind (.slice vA vals.length vc) (optp list) (optp table) (.slice nA nums.length nc) text = co
  have hb0 : Has ((w.alloc co).alloc (vObj vNull)) w.heap.size co := (Has.new w co).alloc _
  have hr0 : Has ((w.alloc co).alloc (vObj vNull)) (w.heap.size + 1) (vObj vNull) := by simpa using Has.new (w.alloc co) (vObj vNull)
  have hx0 : Ext w ((w.alloc co).alloc (vObj vNull)) := ((Ext.refl _).alloc _).alloc _
  rw [show (Obj.cells #[Value.int IntKind.i64 kind, Value.slice vA vals.length vc, optp list, optp table, Value.slice nA nums.length nc, Value.string text] 56) = co from hco]
  change WP _ _ _ _ _ _ ((w.alloc co).alloc (vObj vNull))
  generalize (w.alloc co).alloc (vObj vNull) = w1 at hb0 hr0 hx0
  subst hco
  have hcc := hb0.cell
  refine WP.vseq rfl fun K hK => ?_
  refine WP.vregion rfl rfl fun U => ?_
  simp [go_sem, hcc]
  refine (hAlloc_ok (h0.inside.ext hx0) hk1 hk2 hlim (hv.ext hx0) (hn.ext hx0) hvl hnl (fun b xs e => (hL b xs e).inside.ext hx0) (fun b D e => (hT b D e).inside.ext hx0) (fun x hx h => hLF x hx.1 h.1) (fun x hx => ⟨fun h => (hTF x hx.1).1 h.1, fun h => (hTF x hx.1).2 h.1⟩)).mono ?_
  rintro r w2 ⟨ad, rfl, hH, hx2⟩
  have hr2 := hr0.chg hx2 (fun h => by omega)
  replace hx2 : Chg (fun x => F x ∧ x < w.heap.size) w w2 := hx0.then hx2
  replace hH : HRep w2 h (H.alloc ⟨ad, kind, vals, list, table, nums, text⟩).1 (fun x => (F x ∨ L x ∨ T x ∨ w.heap.size ≤ x) ∧ x ≠ w.heap.size + 1) := hH.mono fun b hb => by
    rcases hb with hb | hb | hb | hb
    · exact ⟨.inl hb.1, by omega⟩
    · exact ⟨.inr (.inl hb.1), by omega⟩
    · exact ⟨.inr (.inr (.inl hb.1)), by omega⟩
    · have := hr0.lt; exact ⟨.inr (.inr (.inr (by have := hx0.size; omega))), by omega⟩
  try simp [go_sem]
  refine hK _ _ ?_; clear hK K
  refine WP.vseq rfl fun K hK => ?_
  refine WP.vseq rfl fun K hK => ?_
  refine WP.vregion rfl rfl fun U => ?_
  simp [go_sem]
  refine hK _ _ ?_; clear hK K
  refine WP.vcond_f rfl (by simp [go_sem]) ?_
  refine WP.vskip rfl ?_
  simp only [go_sem]
  refine hK _ _ ?_; clear hK K
  refine WP.vseq rfl fun K hK => ?_
  refine WP.vregion rfl rfl fun U => ?_
  simp [go_sem]
  refine (Ref_ok _ _).mono ?_
  rintro r w3 ⟨rfl, hx3⟩
  have hr3 := hr2.ext hx3
  try simp [go_sem, hr3.frozen, hr3.cell]
  refine hK _ _ ?_; clear hK K
  refine WP.vret rfl ?_
  try simp only [thenE_ret, blockE_ret]
  refine ret_done (by simp [go_sem, (hr3.setCell 0 (.int .i64 4)).cell] <;> rfl) ?_
  refine ⟨ad, rfl, ((hH.ext hx3).put3 fun h => h.2 rfl).mono fun b hb => hb.1, ((hx2.trans hx3).put3 fun h => by omega).mono fun b _ hb => hb.1⟩

theorem vcells_nil : vcells [] = [] := rfl
abbrev tableCell (ad tb : Nat) (D : Dict) (d : Val) : CellM := ⟨ad, 2, [d], none, some (tb, D), [], ⟨#[]⟩⟩

set_option maxRecDepth 4000 in
theorem hNewTable_ok (h0 : HRep w h H F) (hlim : H.live < H.limit) :
    Ret Try.prog 18 #[.pointer (some ⟨h, 0, none⟩), .pointer none] w fun r w' =>
      ∃ ad tb, r = .tuple #[(vRef (H.alloc (tableCell ad tb Dict.empty vNull)).2).v, .int .i64 0] ∧ HRep w' h (H.alloc (tableCell ad tb Dict.empty vNull)).1 (fun x => F x ∨ w.heap.size ≤ x) ∧ Chg F w w' := by
  refine ret_E (n := 17) (S := [0, 1, 2, 3, 4, 5]) 4 Try.func18 rfl rfl rfl rfl ?_
  refine WP.vseq rfl fun K hK => ?_
  refine WP.vregion rfl rfl fun U => ?_
  simp [go_sem]
  refine hK _ _ ?_; clear hK K
  have hr0 : Has (w.alloc (vObj vNull)) w.heap.size (vObj vNull) := Has.new w _
  have hx0 : Ext w (w.alloc (vObj vNull)) := (Ext.refl _).alloc _
  change WP _ _ _ _ _ _ (w.alloc (vObj vNull))
  replace h0 := h0.inside
  generalize w.alloc (vObj vNull) = w1 at hr0 hx0
  refine WP.vseq rfl fun K hK => ?_
  refine WP.vseq rfl fun K hK => ?_
  refine WP.vregion rfl rfl fun U => ?_
  simp [go_sem]
  refine hK _ _ ?_; clear hK K
  refine WP.vcond_t rfl (by simp [go_sem]) ?_
  refine WP.vregion rfl rfl fun U => ?_
  simp [go_sem]
  refine tNew_ok.mono ?_
  rintro r w2 ⟨rfl, hT, hx2⟩
  have hs := hr0.lt
  replace hr0 := hr0.ext hx2
  replace hx0 := hx0.trans hx2
  try simp [go_sem]
  refine hK _ _ ?_; clear hK K
  refine WP.vseq rfl fun K hK => ?_
  refine WP.vregion rfl rfl fun U => ?_
  simp [go_sem]
  refine (Null_ok _).mono ?_
  rintro r w3 ⟨rfl, hx3⟩
  replace hr0 := hr0.ext hx3
  replace hx0 := hx0.trans hx3
  replace hT := hT.ext hx3
  try simp [go_sem]
  have hs1 := hT.in_.2
  refine (hValue_ok (vals := [vNull]) (list := none) (table := some (w1.heap.size, Dict.empty)) (nums := []) (L := fun _ => False) ((h0.ext hx0).ext ((Ext.refl _).alloc _)) (by decide) (by decide) hlim (Rd.top (cs := vcells [vNull]) rfl rfl) (Rd.nil _ _ _) (by decide) (by decide)
    (fun b xs e => by cases e) (fun b D e => by cases e; exact hT.ext ((Ext.refl _).alloc _)) (fun x h => h.elim) (fun x hx => ⟨fun h => by omega, fun h => h⟩)).mono ?_
  rintro r w4 ⟨ad, rfl, hH, hx4⟩
  have hr4 := (hr0.alloc _).chg hx4 (fun h => by omega)
  replace hx4 := Ext.then (hx0.alloc _) hx4
  replace hH : HRep w4 h (H.alloc (tableCell ad w1.heap.size Dict.empty vNull)).1 (fun x => (F x ∨ w.heap.size ≤ x) ∧ x ≠ w.heap.size) := hH.mono fun b hb => by
    have := hx0.size
    rcases hb with hb | hb | hb | hb
    · exact ⟨.inl hb.1, by omega⟩
    · exact hb.elim
    · exact ⟨.inr (by omega), by omega⟩
    · simp at hb; exact ⟨.inr (by omega), by omega⟩
  try simp [go_sem, hr4.frozen, hr4.cell]
  refine hK _ _ ?_; clear hK K
  refine WP.vret rfl ?_
  try simp only [thenE_ret, blockE_ret]
  refine ret_done (by simp [go_sem, (hr4.setCell 0 (.int .i64 4)).cell] <;> rfl) ?_
  exact ⟨ad, w1.heap.size, rfl, (hH.put3 fun h => h.2 rfl).mono fun b hb => hb.1, (hx4.put3 fun h => by omega).mono fun b _ hb => hb.1⟩
end
end Go.Proofs.Ytephkonhiaingaa

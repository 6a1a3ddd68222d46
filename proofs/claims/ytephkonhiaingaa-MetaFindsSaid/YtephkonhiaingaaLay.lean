/- layout: New of no base, Member, Make. -/
import Derived.Test.YtephkonhiaingaaNext
set_option linter.unusedSimpArgs false
set_option linter.unusedVariables false
namespace Go.Proofs.Ytephkonhiaingaa
open Go Go.RowKit

section
variable {w w' w0 : World} {b h k i : Nat} {F F' G : Nat → Prop} {D : Dict} {H : HeapM} {l : List Part} {c : CellM} {key val : Val}

abbrev classCell (ad tb : Nat) (D : Dict) (d : Val) : CellM := ⟨ad, 3, [d], none, some (tb, D), [], ⟨#[]⟩⟩
abbrev instCell (ad tb : Nat) (D : Dict) (d : Val) : CellM := ⟨ad, 4, [d], none, some (tb, D), [], ⟨#[]⟩⟩

/-- A cell's table by itself, and what becomes of the heap when it turns. -/
theorem HRep.focusT {tb : Nat} (h0 : HRep w h H F) (hc : H.cells[i]? = some (some c)) (ht : c.table = some (tb, D)) : ∃ Ft vv nv,
    Has w c.ad (.cells #[.int .i64 c.kind, vv, optp c.list, .pointer (some ⟨tb, 0, none⟩), nv, .string c.text] 56 (0, 0)) ∧ TRep w tb D Ft ∧ ¬ Ft c.ad ∧ (∀ x, Ft x → F x) ∧
    ∀ (w' : World) (D' : Dict), TRep w' tb D' (fun x => Ft x ∨ w.heap.size ≤ x) → Chg Ft w w' → HRep w' h (H.setC i { c with table := some (tb, D') }) (fun x => F x ∨ w.heap.size ≤ x) := by
  obtain ⟨col, cv, fv, hX, hF⟩ := h0
  obtain ⟨vv, nv, hC⟩ := hX.cell i c hc
  have hcc := hC.has
  rw [ht] at hcc
  refine ⟨_, vv, nv, hcc, hC.table tb D ht, fun e => by have := hC.inb; omega, fun x hx => hF x (by omega), fun w' D' hT hx => ⟨_, cv, fv, hX.setTable hc ht hx hT, fun b hb => ?_⟩⟩
  unfold more at hb
  split at hb
  · exact .inl (hF b hb)
  · exact .inr (by omega)

set_option maxRecDepth 4000 in
set_option maxHeartbeats 1000000 in
theorem lNew_ok (h0 : HRep w h H F) (hlim : H.live < H.limit) :
    Ret Try.prog 39 #[.pointer (some ⟨h, 0, none⟩), vNull.v] w fun r w' =>
      ∃ ad tb, r = .tuple #[(vRef (H.alloc (classCell ad tb Dict.empty vNull)).2).v, .int .i64 0] ∧ HRep w' h (H.alloc (classCell ad tb Dict.empty vNull)).1 (fun x => F x ∨ w.heap.size ≤ x) ∧ Chg F w w' := by
  have hS := St.start1 (p := heapP h H) h0
  refine ret_E (n := 49) (S := [0, 1, 2, 3, 4, 5, 6, 7, 8, 9, 10]) 9 Try.func39 rfl rfl rfl rfl ?_
  refine WP.vseq rfl fun K hK => ?_
  refine WP.vregion rfl rfl fun U => ?_
  simp [go_sem]
  refine hK _ _ ?_; clear hK K
  replace hS := hS.alloc2 (vObj vNull) (vObj vNull)
  change WP _ _ _ _ _ _ ((w.alloc (vObj vNull)).alloc (vObj vNull))
  generalize hn : w.heap.size = n at hS ⊢
  generalize (w.alloc (vObj vNull)).alloc (vObj vNull) = w1 at hS ⊢
  refine WP.vseq rfl fun K hK => ?_
  refine WP.vregion rfl rfl fun U => ?_
  simp [go_sem]
  refine (tNew_ok.makes (tableP _ _) hS).mono ?_
  rintro r w2 ⟨rfl, hS⟩
  try simp [go_sem]
  refine hK _ _ ?_; clear hK K
  generalize w1.heap.size = tb at hS ⊢
  have h1c := hS.cell (k := 1) rfl
  refine WP.vseq rfl fun K hK => ?_
  refine WP.vseq rfl fun K hK => ?_
  refine WP.vregion rfl rfl fun U => ?_
  simp [go_sem, h1c]
  refine hK _ _ ?_; clear hK K
  refine WP.vcond_f rfl (by simp [go_sem]) ?_
  refine WP.vskip rfl ?_
  simp only [go_sem]
  refine hK _ _ ?_; clear hK K
  refine WP.vseq rfl fun K hK => ?_
  refine WP.vregion rfl rfl fun U => ?_
  simp [go_sem, h1c]
  have hv : Rd (w2.alloc (vObj vNull)) (.slice (some ⟨w2.heap.size, 0, none⟩) 1 1) [vNull].length 3 (vcells [vNull]) := Rd.top rfl rfl
  refine (allocTS (hS.alloc (vObj vNull)) (k := 0) (j := 3) rfl rfl (by decide) (by decide) (by decide) hlim hv (nums := []) (Rd.nil _ _ _) (by decide) (by decide)).mono ?_
  rintro r w3 ⟨ad, rfl, hS⟩
  try simp [go_sem]
  refine hK _ _ ?_; clear hK K
  refine WP.vseq rfl fun K hK => ?_
  refine WP.vseq rfl fun K hK => ?_
  refine WP.vregion rfl rfl fun U => ?_
  simp [go_sem]
  refine hK _ _ ?_; clear hK K
  refine WP.vcond_f rfl (by simp [go_sem]) ?_
  refine WP.vskip rfl ?_
  simp only [go_sem]
  refine hK _ _ ?_; clear hK K
  refine WP.vseq rfl fun K hK => ?_
  refine WP.vregion rfl rfl fun U => ?_
  simp [go_sem]
  refine ((Ref_ok _ _).keep hS).mono ?_
  rintro r w4 ⟨rfl, hS⟩
  have h2f := hS.frozen (k := 2) rfl
  have h2c := hS.cell (k := 2) rfl
  try simp [go_sem, h2f, h2c]
  replace hS := hS.put3 (k := 2) rfl (vRef (H.alloc (classCell ad tb Dict.empty vNull)).2)
  refine hK _ _ ?_; clear hK K
  have r2 := hS.cell (k := 2) rfl
  refine WP.vret rfl ?_
  try simp only [thenE_ret, blockE_ret]
  refine ret_done (by simp [go_sem, r2] <;> rfl) ?_
  subst hn
  exact ⟨ad, tb, rfl, hS.part (k := 0) rfl, hS.chg⟩

theorem lNewS (hS : St w0 G l w) (hk : l[k]? = some (heapP h H)) (hlim : H.live < H.limit) :
    Ret Try.prog 39 #[.pointer (some ⟨h, 0, none⟩), vNull.v] w fun r w' =>
      ∃ ad tb, r = .tuple #[(vRef (H.alloc (classCell ad tb Dict.empty vNull)).2).v, .int .i64 0] ∧ St w0 G (l.set k (heapP h (H.alloc (classCell ad tb Dict.empty vNull)).1)) w' := by
  obtain ⟨F, hp, bk⟩ := hS.turn hk
  refine (lNew_ok hp hlim).mono ?_
  rintro r w' ⟨ad, tb, hr, h1, h2⟩
  exact ⟨ad, tb, hr, bk (heapP h _) h1 h2⟩

set_option maxRecDepth 4000 in
set_option maxHeartbeats 1000000 in
theorem lMember_ok (h0 : HRep w h H F) (hc : H.cells[i]? = some (some c)) (hkd : c.kind = 3) (ht : c.table = some (b, D)) (hser : D.serial < 1000000) (hkey : key.k ≠ 0) (hks : key.t.size ≤ 1000000000) :
    Ret Try.prog 40 #[.pointer (some ⟨h, 0, none⟩), (vRef i).v, key.v, val.v] w fun r w' =>
      r = .int .i64 0 ∧ HRep w' h (H.setC i { c with table := some (b, D.put key val) }) (fun x => F x ∨ w.heap.size ≤ x) ∧ Chg F w w' := by
  obtain ⟨hin, _⟩ := List.getElem?_eq_some_iff.1 hc
  have hof : ofH H (vRef i) 3 = (some c, 0) := by
    unfold ofH getH
    rw [if_neg (by simp), if_neg (by simp only; omega)]
    simp [hc, hkd]
  have hS := St.start1 (p := heapP h H) h0
  refine ret_E (n := 26) (S := [0, 1, 2, 3, 4, 5, 6, 7, 8, 9, 10]) 7 Try.func40 rfl rfl rfl rfl ?_
  refine WP.vseq rfl fun K hK => ?_
  refine WP.vregion rfl rfl fun U => ?_
  simp [go_sem]
  refine hK _ _ ?_; clear hK K
  replace hS := hS.alloc3 (vObj (vRef i)) (vObj key) (vObj val)
  change WP _ _ _ _ _ _ (((w.alloc (vObj (vRef i))).alloc (vObj key)).alloc (vObj val))
  generalize hn : w.heap.size = n at hS ⊢
  generalize ((w.alloc (vObj (vRef i))).alloc (vObj key)).alloc (vObj val) = w1 at hS ⊢
  have h1c := hS.cell (k := 1) rfl
  refine WP.vseq rfl fun K hK => ?_
  refine WP.vregion rfl rfl fun U => ?_
  simp [go_sem, h1c]
  refine ((hOf_ok (hS.part (k := 0) rfl) (vRef i) 3).keep hS).mono ?_
  rw [hof]
  rintro r w2 ⟨rfl, hS⟩
  clear h1c
  try simp [go_sem]
  refine hK _ _ ?_; clear hK K
  refine WP.vseq rfl fun K hK => ?_
  refine WP.vseq rfl fun K hK => ?_
  refine WP.vregion rfl rfl fun U => ?_
  simp [go_sem]
  refine hK _ _ ?_; clear hK K
  refine WP.vcond_f rfl (by simp [go_sem]) ?_
  refine WP.vskip rfl ?_
  simp only [go_sem]
  refine hK _ _ ?_; clear hK K
  obtain ⟨F', hp, bk⟩ := hS.turn (k := 0) rfl
  obtain ⟨Ft, vv, nv, hCh, hT, hne, hsub, cl⟩ := hp.focusT hc ht
  have h2 := hS.has (k := 2) rfl
  have h3 := hS.has (k := 3) rfl
  have hwc : ∀ w' : SW (fun w' => w' = w2.drew), w'.w = w2.drew := fun w' => w'.h
  haveI : Nonempty (SW (fun w' => w' = w2.drew)) := ⟨⟨_, rfl⟩⟩
  have c0 := hCh.cell
  have c2 := h2.cell
  have c3 := h3.cell
  refine WP.vseq rfl fun K hK => ?_
  refine WP.vdraw rfl (fun w' => w' = w2.drew) 6 [(0, true), (1, true), (2, true), (3, true), (4, true), (5, true), (6, false), (7, true)] (by kernel_rfl) (by kernel_rfl) rfl fun U => ?_
  simp [go_sem, hwc, c0, c2, c3, cptr]
  refine (put_ok (hT.ext ((Ext.refl w2).drew)) hser hkey hks).mono ?_
  rintro r w3 ⟨rfl, hT3, hx3⟩
  replace hS := (bk (heapP h _) (cl w3 _ hT3 ((Ext.then ((Ext.refl w2).drew) hx3))) ((Ext.then ((Ext.refl w2).drew) hx3).mono fun x _ hx => hsub x hx))
  try simp [go_sem]
  refine hK _ _ ?_; clear hK K
  refine WP.vret rfl ?_
  try simp only [thenE_ret, blockE_ret]
  refine ret_done (by simp [go_sem] <;> rfl) ?_
  subst hn
  exact ⟨rfl, hS.part (k := 0) rfl, hS.chg⟩
end
end Go.Proofs.Ytephkonhiaingaa

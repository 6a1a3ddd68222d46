/- What stands in things: a table and those that it hands on to. -/
import Derived.Test.YtephkonhiaingaaSlot
import Derived.Test.YtephkonhiaingaaAlt
set_option linter.unusedSimpArgs false
set_option linter.unusedVariables false
namespace Go.Proofs.Ytephkonhiaingaa
open Go Go.RowKit

section
variable {w w' : World} {b h : Nat} {F F' L L' T T' : Nat → Prop} {c : CellM} {vv nv cv fv : Value} {H H' : HeapM} {col : Nat → Nat} {xs : List Val} {D : Dict} {v key val : Val}

def tabG (H : HeapM) (key : Val) : Nat → Val → Val × Int
  | 0, _ => (vNull, 3)
  | n + 1, v => if v.k = 0 then (vNull, 3) else match ofH H v 2 with
    | (some c, _) => match c.table with
      | some (_, D) => match D.get key with
        | some x => (x, 0)
        | none => tabG H key n (c.vals.headD vNull)
      | none => (vNull, 3)
    | (none, _) => (vNull, 3)

/-- A value's box holds another one. -/
theorem Has.put3 {rb : Nat} {u : Val} (hr : Has w rb (vObj u)) (x : Val) : Has (((w.setCell ⟨rb, 0, none⟩ (.int .i64 x.k)).setCell ⟨rb, 1, none⟩ (.int .i64 x.n)).setCell ⟨rb, 2, none⟩ (.string x.t)) rb (vObj x) := by
  simpa using ((hr.setCell 0 (.int .i64 x.k)).setCell 1 (.int .i64 x.n)).setCell 2 (.string x.t)
theorem Has.far3 {rb q : Nat} {o : Obj} {x y z : Value} (h : Has w b o) (hb : b ≠ rb) : Has (((w.setCell ⟨rb, 0, none⟩ x).setCell ⟨rb, 1, none⟩ y).setCell ⟨rb, 2, none⟩ z) b o :=
  ((h.far (a := ⟨rb, 0, none⟩) hb _).far (a := ⟨rb, 1, none⟩) hb _).far (a := ⟨rb, 2, none⟩) hb _

set_option maxRecDepth 4000 in
set_option maxHeartbeats 2000000 in
theorem sTable_ok (h0 : HRep w h H F) (hw : HWf 100000000 H) (v : Val) (hks : key.t.size ≤ 1000000000) :
    Ret Try.prog 70 #[.pointer (some ⟨h, 0, none⟩), v.v, key.v] w fun r w' => r = .tuple #[(tabG H key 1048577 v).1.v, .int .i64 (tabG H key 1048577 v).2] ∧ Ext w w' := by
  refine ret_E (n := 49) (S := [0, 1, 2, 3, 4, 5, 6, 7, 8, 9, 10, 11, 12]) 10 Try.func70 rfl rfl rfl rfl ?_
  refine WP.vseq rfl fun K hK => ?_
  refine WP.vregion rfl rfl fun U => ?_
  simp [go_sem]
  refine hK _ _ ?_; clear hK K
  have hb0 : Has (((w.alloc (vObj v)).alloc (vObj key)).alloc (vObj vNull)) w.heap.size (vObj v) := ((Has.new w _).alloc _).alloc _
  have hk0 : Has (((w.alloc (vObj v)).alloc (vObj key)).alloc (vObj vNull)) (w.heap.size + 1) (vObj key) := by simpa using (Has.new (w.alloc (vObj v)) (vObj key)).alloc _
  have hr0 : Has (((w.alloc (vObj v)).alloc (vObj key)).alloc (vObj vNull)) (w.heap.size + 1 + 1) (vObj vNull) := by simpa using Has.new ((w.alloc (vObj v)).alloc (vObj key)) (vObj vNull)
  have hx0 : Ext w (((w.alloc (vObj v)).alloc (vObj key)).alloc (vObj vNull)) := (((Ext.refl _).alloc _).alloc _).alloc _
  change WP _ _ _ _ _ _ (((w.alloc (vObj v)).alloc (vObj key)).alloc (vObj vNull))
  generalize (((w.alloc (vObj v)).alloc (vObj key)).alloc (vObj vNull)) = w1 at hb0 hk0 hr0 hx0
  refine WP.vseq rfl fun K hK => ?_
  have J : ∀ (T' : List (Nat × Value)) (U' : Nat → Value) (w' : World) (v7 v8 v9 v10 v11 v12 : Value), tabG H key 1048577 v = (vNull, 3) → Has w' (w.heap.size + 1 + 1) (vObj vNull) → Ext w w' →
      K ⟨[.pointer (some ⟨h, 0, none⟩), v.v, key.v, undef, .pointer (some ⟨w.heap.size, 0, none⟩), .pointer (some ⟨w.heap.size + 1, 0, none⟩), .pointer (some ⟨w.heap.size + 1 + 1, 0, none⟩), v7, v8, v9, v10, v11, v12], T', U'⟩ w' := by
    intro T' U' w2 v7 v8 v9 v10 v11 v12 hg hr2 hx2
    refine hK _ _ ?_
    clear hK K
    refine WP.vseq rfl fun K hK => ?_
    refine WP.vregion rfl rfl fun U => ?_
    simp [go_sem]
    refine (Null_ok _).mono ?_
    rintro r w3 ⟨rfl, hx3⟩
    have hr3 := hr2.ext hx3
    try simp [go_sem, hr3.frozen, hr3.cell]
    refine hK _ _ ?_; clear hK K
    refine WP.vret rfl ?_
    try simp only [thenE_ret, blockE_ret]
    refine ret_done (by simp [go_sem, (hr3.setCell 0 (.int .i64 0)).cell] <;> rfl) ?_
    exact ⟨by rw [hg], (hx2.trans hx3).put3 (by omega)⟩
  clear hK
  refine WP.vseq rfl fun K hK => ?_
  refine WP.vregion rfl rfl fun U => ?_
  simp [go_sem]
  refine hK _ _ ?_; clear hK K
  refine WP.vblock rfl ?_
  refine WP.vloop rfl (fun d L w' => ∃ (i : Nat) (u : Val) (v9 v10 v11 v12 : Value), L = [.pointer (some ⟨h, 0, none⟩), v.v, key.v, undef, .pointer (some ⟨w.heap.size, 0, none⟩), .pointer (some ⟨w.heap.size + 1, 0, none⟩), .pointer (some ⟨w.heap.size + 1 + 1, 0, none⟩), .int .i64 0, .int .i64 i, v9, v10, v11, v12] ∧ d + i = 1048577 ∧
      tabG H key 1048577 v = tabG H key d u ∧ Has w' w.heap.size (vObj u) ∧ Has w' (w.heap.size + 1) (vObj key) ∧ Has w' (w.heap.size + 1 + 1) (vObj vNull) ∧ Ext w w') (d := 1048577) ?_ ?_
  · exact ⟨0, v, _, _, _, _, rfl, rfl, rfl, hb0, hk0, hr0, hx0⟩
  clear hb0 hk0 hr0 hx0
  rintro d L T U w2 ⟨i, u, v9, v10, v11, v12, rfl, hdi, hgu, hb, hk, hr, hx⟩ KL hKL
  have hbc := hb.cell
  have hwr := wrap_succ (i := i) (by omega)
  rcases Nat.lt_or_ge 1048576 i with hi | hi
  · have hd : d = 0 := by omega
    subst hd
    have hi' : ¬ (i : Int) ≤ 1048576 := by omega
    refine WP.vseq rfl fun K hK => ?_
    refine WP.vseq rfl fun K hK => ?_
    refine WP.vregion rfl rfl fun U => ?_
    simp [go_sem, hi']
    refine hK _ _ ?_; clear hK K
    refine WP.vcond_f rfl (by simp [go_sem]) ?_
    refine WP.vexit rfl ?_
    simp only [go_sem, ↓reduceIte]
    clear hK K
    exact J _ _ _ _ _ _ _ _ _ hgu hr hx
  have hi' : (i : Int) ≤ 1048576 := by omega
  obtain ⟨d, rfl⟩ : ∃ e, d = e + 1 := ⟨d - 1, by omega⟩
  by_cases hu : u.k = 0
  · refine WP.vseq rfl fun K hK => ?_
    refine WP.vseq rfl fun K hK => ?_
    refine WP.vregion rfl rfl fun U => ?_
    simp [go_sem, hi', hbc]
    refine hK _ _ ?_; clear hK K
    refine WP.vcond_f rfl (by simp [go_sem, hu]) ?_
    refine WP.vexit rfl ?_
    simp only [go_sem, ↓reduceIte]
    clear hK K
    refine J _ _ _ _ _ _ _ _ _ ?_ hr hx
    rw [hgu, tabG, if_pos hu]
  refine WP.vseq rfl fun K hK => ?_
  refine WP.vseq rfl fun K hK => ?_
  refine WP.vregion rfl rfl fun U => ?_
  simp [go_sem, hi', hbc]
  refine hK _ _ ?_; clear hK K
  refine WP.vcond_t rfl (by simp [go_sem, hu]) ?_
  refine WP.vskip rfl ?_
  simp only [go_sem]
  refine hK _ _ ?_; clear hK K
  refine WP.vseq rfl fun K hK => ?_
  refine WP.vblock rfl ?_
  refine WP.vseq rfl fun K hK => ?_
  refine WP.vregion rfl rfl fun U => ?_
  simp [go_sem, hbc]
  refine (hOf_ok (h0.ext hx) u 2).mono ?_
  rintro r w3 ⟨rfl, hx3⟩
  have hb3 := hb.ext hx3
  have hk3 := hk.ext hx3
  have hr3 := hr.ext hx3
  have hx3 := hx.trans hx3
  clear hb hk hr hx hbc
  try simp [go_sem]
  refine hK _ _ ?_; clear hK K
  rcases ho : ofH H u 2 with ⟨_ | c, e⟩
  · have he := ofH_none ho
    refine WP.vseq rfl fun K hK => ?_
    refine WP.vseq rfl fun K hK => ?_
    refine WP.vregion rfl rfl fun U => ?_
    simp [go_sem]
    refine hK _ _ ?_; clear hK K
    refine WP.vcond_t rfl (by simp [go_sem, he]) ?_
    refine WP.vexit rfl ?_
    simp only [go_sem, ↓reduceIte]
    refine J _ _ _ _ _ _ _ _ _ ?_ hr3 hx3
    rw [hgu, tabG, if_neg hu, ho]
  obtain ⟨rfl, _, ⟨j, _, hj⟩, hkd⟩ := ofH_some ho
  obtain ⟨b, D, d', ht, hser, hd⟩ := (hw j c hj).2 (.inl (hkd (by decide)))
  obtain ⟨vv, nv, _, _, _, hC, _⟩ := (h0.ext hx3).at_ hj
  have hT := hC.table b D ht
  have hCh := hC.has
  refine WP.vseq rfl fun K hK => ?_
  refine WP.vseq rfl fun K hK => ?_
  refine WP.vregion rfl rfl fun U => ?_
  simp [go_sem]
  refine hK _ _ ?_; clear hK K
  refine WP.vcond_f rfl (by simp [go_sem]) ?_
  refine WP.vskip rfl ?_
  simp only [go_sem]
  refine hK _ _ ?_; clear hK K
  refine WP.vseq rfl fun K hK => ?_
  refine WP.vseq rfl fun K hK => ?_
  have J2 : ∀ (T' : List (Nat × Value)) (U' : Nat → Value) (w' : World) (nb : Nat), Has w' nb (vObj (getD D key).1) → Ext w3 w' →
      K ⟨[.pointer (some ⟨h, 0, none⟩), v.v, key.v, undef, .pointer (some ⟨w.heap.size, 0, none⟩), .pointer (some ⟨w.heap.size + 1, 0, none⟩), .pointer (some ⟨w.heap.size + 1 + 1, 0, none⟩), .int .i64 0, .int .i64 i, cptr (some c), .int .i64 0, .pointer (some ⟨nb, 0, none⟩), .int .i64 (getD D key).2], T', U'⟩ w' := by
    intro T' U' w4 nb hn hx4
    refine hK _ _ ?_
    clear hK
    have hr4 := hr3.ext hx4
    have hb4 := hb3.ext hx4
    have hk4 := hk3.ext hx4
    have hC4 := hC.ext hx4
    replace hx4 := hx3.trans hx4
    have hnc := hn.cell
    rcases hg : D.get key with _ | x
    · have hgd : getD D key = (vNull, 3) := by unfold getD; rw [hg]
      rw [hgd]
      refine WP.vseq rfl fun K hK => ?_
      refine WP.vregion rfl rfl fun U => ?_
      simp [go_sem]
      refine hK _ _ ?_; clear hK K
      refine WP.vcond_f rfl (by simp [go_sem]) ?_
      refine WP.vskip rfl ?_
      simp only [go_sem]
      refine hK _ _ ?_; clear hK K
      obtain ⟨g, cap, rfl, hgl, _, d0, d1, d2, _⟩ := hC4.headVal hd
      have hcc := hC4.has.cell
      refine WP.vregion rfl rfl fun U => ?_
      simp [go_sem, hcc, d0, d1, d2, cptr, hb4.frozen, hb4.cell]
      refine hK _ _ ?_; clear hK K
      refine WP.vregion rfl rfl fun U => ?_
      simp [go_sem, hwr]
      refine hKL d _ _ (by omega) ⟨i + 1, d', _, _, _, _, rfl, by omega, ?_, hb4.put3 d', hk4.far3 (q := 0) (by omega), hr4.far3 (q := 0) (by omega), hx4.put3 (by omega)⟩
      rw [hgu, tabG, if_neg hu, ho]
      simp only [ht, hg, hd, List.headD_cons]
    · have hgd : getD D key = (x, 0) := by unfold getD; rw [hg]
      have hfin : tabG H key 1048577 v = (x, 0) := by rw [hgu, tabG, if_neg hu, ho]; simp only [ht, hg]
      rw [hgd] at hnc ⊢
      refine WP.vseq rfl fun K hK => ?_
      refine WP.vregion rfl rfl fun U => ?_
      simp [go_sem]
      refine hK _ _ ?_; clear hK K
      refine WP.vcond_t rfl (by simp [go_sem]) ?_
      refine WP.vseq rfl fun K hK => ?_
      refine WP.vregion rfl rfl fun U => ?_
      simp [go_sem, hnc, hr4.frozen, hr4.cell]
      refine hK _ _ ?_; clear hK K
      refine WP.vret rfl ?_
      try simp only [thenE_ret, blockE_ret]
      refine ret_done (by simp [go_sem, (hr4.setCell 0 (.int .i64 x.k)).cell] <;> rfl) ?_
      rw [hfin]
      exact ⟨rfl, hx4.put3 (by omega)⟩
  clear hK
  have hwc : ∀ w' : SW (fun w' => Ext w3 w'), ∀ i, w'.w.cell? ⟨w.heap.size + 1, i, none⟩ = #[.int .i64 key.k, .int .i64 key.n, .string key.t][i]? := fun w' => (hk3.ext w'.h).cell
  have hwd : ∀ w' : SW (fun w' => Ext w3 w'), ∀ i, w'.w.cell? ⟨c.ad, i, none⟩ = #[.int .i64 c.kind, vv, .pointer (c.list.map fun x => ⟨x.1, 0, none⟩), .pointer (some ⟨b, 0, none⟩), nv, .string c.text][i]? := fun w' => by
    have := (hCh.ext w'.h).cell
    rw [ht] at this
    exact this
  haveI : Nonempty (SW (fun w' => Ext w3 w')) := ⟨⟨_, Ext.refl _⟩⟩
  refine WP.vdrawT rfl (fun w' => Ext w3 w') 1000 (.frees [0, 1, 2, 3, 4] (.alt 5 (.frees [6, 7, 8] (.eff 9 (.eff 10 (.frees [11] .done)))) 9 (.eff 5 (.frees [6, 7, 8] (.eff 10 (.frees [11] .done)))))) (by kernel_rfl) (by kernel_rfl) ((Ext.refl w3).drew) fun U => ?_
  simp [go_sem, hwc, hwd, cptr]
  refine ⟨?_, ?_⟩
  · refine (tGet_ok (hT.ext ((Ext.refl w3).drew)) hser hks).mono ?_
    rintro r w4 ⟨rfl, hx4⟩
    replace hx4 := (((Ext.refl w3).drew).trans hx4)
    rw [getR_eq]
    try simp [go_sem]
    refine ⟨hx4, hx4.alloc _, ?_⟩
    refine ⟨hx4.alloc _, J2 _ _ _ _ (Has.new w4 (vObj (getD D key).1)) (hx4.alloc _)⟩
  · refine ⟨(((Ext.refl w3).alloc _).drew), (tGet_ok (hT.ext (((Ext.refl w3).alloc _).drew)) hser hks).mono ?_⟩
    have hn0 : Has (w3.alloc (vObj vNull)).drew w3.heap.size (vObj vNull) := (Has.new w3 _).drew
    change ∀ v w', (v = _ ∧ Ext (w3.alloc (vObj vNull)).drew w') → _
    rintro r w4 ⟨rfl, hx4⟩
    have hn4 := hn0.ext hx4
    replace hx4 := ((((Ext.refl w3).alloc _).drew).trans hx4)
    rw [getR_eq]
    try simp [go_sem, hn4.frozen, hn4.cell]
    refine ⟨hx4, ?_⟩
    exact ⟨hx4.put3 (by omega), J2 _ _ _ _ (hn4.put3 _) (hx4.put3 (by omega))⟩
end
end Go.Proofs.Ytephkonhiaingaa

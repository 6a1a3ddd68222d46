/- A table hands on to another one. -/
import Derived.Test.YtephkonhiaingaaSlotG
set_option linter.unusedSimpArgs false
set_option linter.unusedVariables false
namespace Go.Proofs.Ytephkonhiaingaa
open Go Go.RowKit

section
variable {w w' : World} {b h : Nat} {F F' L L' T T' : Nat → Prop} {c : CellM} {vv nv cv fv : Value} {H H' : HeapM} {col : Nat → Nat} {xs : List Val} {D : Dict} {v key val to d : Val}

/-- A cell's only value turns. -/
theorem HX.setVal1 {i : Nat} {g cap : Nat} (h0 : HX w h cv fv H col) (hc : H.cells[i]? = some (some c)) (hd : c.vals = [d])
    (hC : CX w c (.slice (some ⟨g, 0, none⟩) 1 cap) nv (fun b => col b = 2 + 3 * i) (fun b => col b = 3 + 3 * i) (fun b => col b = 4 + 3 * i)) (to : Val) :
    HX (((w.setCell ⟨g, 0, none⟩ (.int .i64 to.k)).setCell ⟨g, 1, none⟩ (.int .i64 to.n)).setCell ⟨g, 2, none⟩ (.string to.t)) h cv fv (H.setC i { c with vals := [to] })
      (more col w (((w.setCell ⟨g, 0, none⟩ (.int .i64 to.k)).setCell ⟨g, 1, none⟩ (.int .i64 to.n)).setCell ⟨g, 2, none⟩ (.string to.t)) (2 + 3 * i + 0)) := by
  have hv := hC.vals
  rw [hd] at hv
  have hg : col g = 2 + 3 * i := hC.vals.2 g rfl
  have hx : Chg (fun x => col x = 2 + 3 * i + 0) w (((w.setCell ⟨g, 0, none⟩ (.int .i64 to.k)).setCell ⟨g, 1, none⟩ (.int .i64 to.n)).setCell ⟨g, 2, none⟩ (.string to.t)) := (Chg.refl _ w).put3 fun _ => hg
  have hv' := ((hv.put (k := 0) (by decide) (.int .i64 to.k)).put (k := 1) (by decide) (.int .i64 to.n)).put (k := 2) (by decide) (.string to.t)
  have hne : ∀ x, x ≠ g → ∀ o, Has w x o → Has (((w.setCell ⟨g, 0, none⟩ (.int .i64 to.k)).setCell ⟨g, 1, none⟩ (.int .i64 to.n)).setCell ⟨g, 2, none⟩ (.string to.t)) x o := fun x hx o ho => ho.far3 (q := 0) hx
  have hgc : g ≠ c.ad := hC.vals.ne hC.has (by decide) g rfl
  have hins : ∀ b j, col b = j → j ≠ 0 → more col w (((w.setCell ⟨g, 0, none⟩ (.int .i64 to.k)).setCell ⟨g, 1, none⟩ (.int .i64 to.n)).setCell ⟨g, 2, none⟩ (.string to.t)) (2 + 3 * i + 0) b = j := fun b j hb hj => more_keep (h0.ins b (by omega)) hb
  refine h0.turn hc (by omega) hx rfl ⟨_, nv, ⟨hins _ _ hC.inb (by omega), hne _ (Ne.symm hgc) _ hC.has, ?_, ?_, fun b xs e => ?_, fun b D e => ?_⟩⟩
  · exact (show Own _ 35 3 (.slice (some ⟨g, 0, none⟩) 1 cap) 1 (vcells [to]) _ from hv').mono fun b hb => hins b _ hb (by omega)
  · have hgn : ∀ g', nv.ownBlock = some g' → g' ≠ g := fun g' hg' e => hC.nums.ne2 hC.vals (by decide) g' hg' (by rw [e]; rfl)
    exact (((hC.nums.far (a := ⟨g, 0, none⟩) hgn _).far (a := ⟨g, 1, none⟩) hgn _).far (a := ⟨g, 2, none⟩) hgn _).mono fun b hb => hins b _ hb (by omega)
  · exact ((hC.list b xs e).chg hx (fun b hb => by omega)).mono fun b hb => hins b _ hb (by omega)
  · exact ((hC.table b D e).chg hx (fun b hb => by omega)).mono fun b hb => hins b _ hb (by omega)

/-- What comes of looking along what a table would hand on to. -/
def walkG (H : HeapM) (v : Val) : Nat → Val → Int
  | 0, _ => 6
  | n + 1, d => if d.k = 0 then 0 else if d = v then 4 else if n = 0 then 6 else walkG H v n (delegH H d).1

set_option maxRecDepth 4000 in
set_option maxHeartbeats 4000000 in
theorem sSetDel_ok {n i : Nat} {to : Val} (h0 : HRep w h H F) (hw : HWf n H) (hc : H.cells[i]? = some (some c)) (hk : c.kind = 2) (hto : to.k ≠ 0 → (∃ c', ofH H to 2 = (some c', 0)) ∧ walkG H (vRef i) 64 to = 0) :
    Ret Try.prog 34 #[.pointer (some ⟨h, 0, none⟩), (vRef i).v, to.v] w fun r w' =>
      r = .int .i64 0 ∧ HRep w' h (H.setC i { c with vals := [to] }) F ∧ Chg F w w' := by
  obtain ⟨hin, _⟩ := List.getElem?_eq_some_iff.1 hc
  have hof : ofH H (vRef i) 2 = (some c, 0) := by
    unfold ofH getH
    rw [if_neg (by simp), if_neg (by simp only; omega)]
    simp [hc, hk]
  obtain ⟨tb, D, d0, _, _, hd⟩ := (hw i c hc).2 (.inl hk)
  have hF0 := h0
  refine ret_E (n := 56) (S := [0, 1, 2, 3, 4, 5, 6, 7, 8, 9, 10, 11, 12, 49]) 11 Try.func34 rfl rfl rfl rfl ?_
  refine WP.vseq rfl fun K hK => ?_
  refine WP.vregion rfl rfl fun U => ?_
  simp [go_sem]
  refine hK _ _ ?_; clear hK K
  have hb0 : Has ((w.alloc (vObj (vRef i))).alloc (vObj to)) w.heap.size (vObj (vRef i)) := (Has.new w _).alloc _
  have ht0 : Has ((w.alloc (vObj (vRef i))).alloc (vObj to)) (w.heap.size + 1) (vObj to) := by simpa using Has.new (w.alloc (vObj (vRef i))) (vObj to)
  have hx0 : Ext w ((w.alloc (vObj (vRef i))).alloc (vObj to)) := ((Ext.refl _).alloc _).alloc _
  change WP _ _ _ _ _ _ ((w.alloc (vObj (vRef i))).alloc (vObj to))
  generalize ((w.alloc (vObj (vRef i))).alloc (vObj to)) = w1 at hb0 ht0 hx0
  have hbc := hb0.cell
  replace h0 := h0.inside
  have h1 := h0.ext hx0
  refine WP.vseq rfl fun K hK => ?_
  refine WP.vregion rfl rfl fun U => ?_
  simp [go_sem, hbc]
  refine (hOf_ok h1 (vRef i) 2).mono ?_
  rw [hof]
  rintro r w2 ⟨rfl, hx2⟩
  replace hx0 := hx0.trans hx2
  replace hb0 := hb0.ext hx2
  replace ht0 := ht0.ext hx2
  clear hbc h1 hx2
  try simp [go_sem]
  refine hK _ _ ?_; clear hK K
  refine WP.vseq rfl fun K hK => ?_
  refine WP.vseq rfl fun K hK => ?_
  refine WP.vregion rfl rfl fun U => ?_
  simp [go_sem]
  refine hK _ _ ?_; clear hK K
  refine WP.vcond_f rfl (by simp [go_sem]) ?_
  refine WP.vskip rfl ?_
  simp only [go_sem]
  refine hK _ _ ?_; clear hK K
  have htc := ht0.cell
  refine WP.vseq rfl fun K hK => ?_
  have J : ∀ (T' : List (Nat × Value)) (U' : Nat → Value) (w' : World) (v9 v10 v11 v12 v49 : Value), Has w' w.heap.size (vObj (vRef i)) → Has w' (w.heap.size + 1) (vObj to) → Ext w w' →
      K ⟨[.pointer (some ⟨h, 0, none⟩), (vRef i).v, to.v, undef, .pointer (some ⟨w.heap.size, 0, none⟩), .pointer (some ⟨w.heap.size + 1, 0, none⟩), .int .i64 0, cptr (some c), .int .i64 0, v9, v10, v11, v12, v49], T', U'⟩ w' := by
    intro T' U' w3 v9 v10 v11 v12 v49 hb3 ht3 hx3
    refine hK _ _ ?_
    clear hK K
    obtain ⟨col, cv, fv, hX, hF⟩ := h0
    replace hX := hX.ext hx3
    obtain ⟨vv, nv, hC⟩ := hX.cell i c hc
    obtain ⟨g, cap, rfl, hgl, hcg, d0', d1, d2, hgf⟩ := hC.headVal hd
    have hCh := hC.has
    have hww : ∀ w' : SW (fun w' => w' = w3.drew), w'.w = w3.drew := fun w' => w'.h
    have hcc := hCh.cell
    have htc := ht3.cell
    haveI : Nonempty (SW (fun w' => w' = w3.drew)) := ⟨⟨_, rfl⟩⟩
    refine WP.vseq rfl fun K hK => ?_
    refine WP.vdraw rfl (fun w' => w' = w3.drew) 6 [(0, true), (1, true), (2, true), (3, true), (4, true), (5, true), (6, false)] (by kernel_rfl) (by kernel_rfl) rfl fun U => ?_
    simp [go_sem, hww, hcc, htc, hgf, d0', d1, d2, cptr]
    refine hK _ _ ?_; clear hK K
    refine WP.vseq rfl fun K hK => ?_
    refine WP.vregion rfl rfl fun U => ?_
    simp [go_sem]
    refine hK _ _ ?_; clear hK K
    refine WP.vret rfl ?_
    try simp only [thenE_ret, blockE_ret]
    refine ret_done (by simp [go_sem] <;> rfl) ?_
    refine ⟨rfl, ⟨_, cv, fv, (hX.setVal1 hc hd hC to).ext ((Ext.refl _).drew), fun b hb => ?_⟩, Ext.then (F := F) hx3 ((((Chg.refl (fun x => x = g) w3).put3 fun _ => rfl).mono fun b _ hb => ?_).drew)⟩
    · unfold more at hb
      split at hb
      · exact (hF b hb).1
      · split at hb
        · rename_i h1 h2
          simp [World.setCell] at h2
          omega
        · omega
    · subst hb
      have hg2 : col b = 2 + 3 * i := hcg
      exact (hF b (by omega)).1
  clear hK
  refine WP.vseq rfl fun K hK => ?_
  refine WP.vregion rfl rfl fun U => ?_
  simp [go_sem, htc]
  refine hK _ _ ?_; clear hK K
  by_cases hk0 : to.k = 0
  · refine WP.vcond_f rfl (by simp [go_sem, hk0]) ?_
    refine WP.vskip rfl ?_
    simp only [go_sem]
    exact J _ _ _ _ _ _ _ _ hb0 ht0 hx0
  refine WP.vcond_t rfl (by simp [go_sem, hk0]) ?_
  obtain ⟨⟨c', hto1⟩, hto2⟩ := hto hk0
  refine WP.vseq rfl fun K hK => ?_
  refine WP.vseq rfl fun K hK => ?_
  refine WP.vregion rfl rfl fun U => ?_
  simp [go_sem, htc]
  refine (hOf_ok (h0.ext hx0) to 2).mono ?_
  rw [hto1]
  rintro r w3 ⟨rfl, hx3⟩
  replace hx0 := hx0.trans hx3
  replace hb0 := hb0.ext hx3
  replace ht0 := ht0.ext hx3
  clear htc hx3
  try simp [go_sem]
  refine hK _ _ ?_; clear hK K
  refine WP.vseq rfl fun K hK => ?_
  refine WP.vregion rfl rfl fun U => ?_
  simp [go_sem]
  refine hK _ _ ?_; clear hK K
  refine WP.vcond_f rfl (by simp [go_sem]) ?_
  refine WP.vskip rfl ?_
  simp only [go_sem]
  refine hK _ _ ?_; clear hK K
  refine WP.vseq rfl fun K hK => ?_
  refine WP.vregion rfl rfl fun U => ?_
  simp [go_sem]
  refine hK _ _ ?_; clear hK K
  have htc := ht0.cell
  refine WP.vseq rfl fun K hK => ?_
  refine WP.vregion rfl rfl fun U => ?_
  simp [go_sem, htc]
  refine hK _ _ ?_; clear hK K
  have hd0 := Has.new w3 (vObj to)
  change WP _ _ _ _ _ _ (w3.alloc (vObj to))
  have hs3 : w.heap.size + 1 < w3.heap.size := ht0.lt
  generalize hd3 : w3.heap.size = db at hd0 hs3
  replace hx0 := hx0.alloc (vObj to)
  replace hb0 := hb0.alloc (vObj to)
  replace ht0 := ht0.alloc (vObj to)
  clear htc hd3
  generalize (w3.alloc (vObj to)) = w4 at hx0 hb0 ht0 hd0
  refine WP.vblock rfl ?_
  refine WP.vloop rfl (fun d L w' => ∃ (j : Nat) (u : Val) (db : Nat) (v9 v10 v49 : Value), L = [.pointer (some ⟨h, 0, none⟩), (vRef i).v, to.v, undef, .pointer (some ⟨w.heap.size, 0, none⟩), .pointer (some ⟨w.heap.size + 1, 0, none⟩), .int .i64 0, cptr (some c), .int .i64 0, v9, v10, .int .i64 j, .pointer (some ⟨db, 0, none⟩), v49] ∧ j + d = 65 ∧
      walkG H (vRef i) d u = 0 ∧ w.heap.size + 1 < db ∧ Has w' db (vObj u) ∧ Has w' w.heap.size (vObj (vRef i)) ∧ Has w' (w.heap.size + 1) (vObj to) ∧ Ext w w') (d := 64) ?_ ?_
  · exact ⟨1, to, db, _, _, _, rfl, rfl, hto2, hs3, hd0, hb0, ht0, hx0⟩
  clear hd0 hb0 ht0 hx0 hs3
  rintro d L T U w5 ⟨j, u, db, v9, v10, v49, rfl, hjd, hwalk, hdb, hu, hb, ht, hx⟩ KL hKL
  have huc := hu.cell
  obtain ⟨d, rfl⟩ : ∃ e, d = e + 1 := by
    cases d with
    | zero => simp [walkG] at hwalk
    | succ e => exact ⟨e, rfl⟩
  refine WP.vseq rfl fun K hK => ?_
  refine WP.vseq rfl fun K hK => ?_
  refine WP.vregion rfl rfl fun U => ?_
  simp [go_sem, huc]
  refine hK _ _ ?_; clear hK K
  by_cases hu0 : u.k = 0
  · refine WP.vcond_f rfl (by simp [go_sem, hu0]) ?_
    refine WP.vexit rfl ?_
    simp only [go_sem, ↓reduceIte]
    exact J _ _ _ _ _ _ _ _ hb ht hx
  rw [walkG, if_neg hu0] at hwalk
  by_cases huv : u = vRef i
  · rw [if_pos huv] at hwalk; cases hwalk
  rw [if_neg huv] at hwalk
  by_cases hd0 : d = 0
  · rw [if_pos hd0] at hwalk; cases hwalk
  rw [if_neg hd0] at hwalk
  refine WP.vcond_t rfl (by simp [go_sem, hu0]) ?_
  refine WP.vskip rfl ?_
  simp only [go_sem]
  refine hK _ _ ?_; clear hK K
  have hbc := hb.cell
  refine WP.vseq rfl fun K hK => ?_
  refine WP.vblock rfl ?_
  refine WP.vseq rfl fun K hK => ?_
  refine WP.vseq rfl fun K hK => ?_
  refine WP.vregion rfl rfl fun U => ?_
  simp [go_sem, huc, hbc]
  refine (Same_ok _ u (vRef i)).mono ?_
  rintro r w6 ⟨rfl, hx6⟩
  replace hx := hx.trans hx6
  replace hb := hb.ext hx6
  replace ht := ht.ext hx6
  replace hu := hu.ext hx6
  clear huc hbc
  try simp [go_sem]
  refine hK _ _ ?_; clear hK K
  refine WP.vcond_f rfl (by simp [go_sem, huv]) ?_
  refine WP.vskip rfl ?_
  simp only [go_sem]
  refine hK _ _ ?_; clear hK K
  have hwj : IntKind.i64.wrap ((j : Int) + 1) = (j : Int) + 1 := IntWalk.i64_in _ (by omega)
  have hj64 : ¬ (64 : Int) < (j : Int) + 1 := by omega
  refine WP.vseq rfl fun K hK => ?_
  refine WP.vregion rfl rfl fun U => ?_
  simp [go_sem, hwj]
  refine hK _ _ ?_; clear hK K
  refine WP.vseq rfl fun K hK => ?_
  refine WP.vregion rfl rfl fun U => ?_
  simp [go_sem]
  refine hK _ _ ?_; clear hK K
  refine WP.vcond_f rfl (by simp [go_sem, hj64] <;> omega) ?_
  refine WP.vskip rfl ?_
  simp only [go_sem]
  refine hK _ _ ?_; clear hK K
  have huc := hu.cell
  refine WP.vseq rfl fun K hK => ?_
  refine WP.vseq rfl fun K hK => ?_
  refine WP.vregion rfl rfl fun U => ?_
  simp [go_sem, huc]
  refine hK _ _ ?_; clear hK K
  refine WP.vregion rfl rfl fun U => ?_
  simp [go_sem]
  refine hK _ _ ?_; clear hK K
  have hn0 := Has.new w6 (vObj u)
  have hs6 : db < w6.heap.size := hu.lt
  change WP _ _ _ _ _ _ (w6.alloc (vObj u))
  replace hx := hx.alloc (vObj u)
  replace hb := hb.alloc (vObj u)
  replace ht := ht.alloc (vObj u)
  generalize hnb : w6.heap.size = nb at hn0 hs6
  clear hu huc hx6 hnb
  generalize (w6.alloc (vObj u)) = w7 at hx hb ht hn0
  have hnc := hn0.cell
  refine WP.vregion rfl rfl fun U => ?_
  simp [go_sem, hnc]
  refine (sDelegate_ok (h0.ext hx) hw u).mono ?_
  rintro r w8 ⟨rfl, hx8⟩
  replace hx := hx.trans hx8
  replace hb := hb.ext hx8
  replace ht := ht.ext hx8
  replace hn0 := hn0.ext hx8
  try simp [go_sem, hn0.frozen, hn0.cell]
  refine hKL d _ _ (by omega) ⟨j + 1, (delegH H u).1, nb, _, _, _, rfl, by omega, hwalk, by omega, hn0.put3 _, hb.far3 (q := 0) (by omega), ht.far3 (q := 0) (by omega), hx.put3 (by omega)⟩
end
end Go.Proofs.Ytephkonhiaingaa

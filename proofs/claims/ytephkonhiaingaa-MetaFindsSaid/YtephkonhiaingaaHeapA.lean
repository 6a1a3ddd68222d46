/- The heap: New, Of, Alloc, NewTable. -/
import Derived.Test.YtephkonhiaingaaHeap
set_option linter.unusedSimpArgs false
set_option linter.unusedVariables false
namespace Go.Proofs.Ytephkonhiaingaa
open Go Go.RowKit

section
variable {w w' : World} {b h : Nat} {F F' L L' T T' : Nat → Prop} {c : CellM} {vv nv cv fv : Value} {H H' : HeapM} {col : Nat → Nat} {xs : List Val} {D : Dict}

def HeapM.anew (n : Nat) : HeapM := ⟨[], [], 0, n, 0, 0⟩
theorem HOk.anew {n : Nat} (h : n ≤ 1048576) : HOk (HeapM.anew n) := ⟨by simp [HeapM.anew], by simp [HeapM.anew], by simp [HeapM.anew], by simp [HeapM.anew], by simp [HeapM.anew], h⟩

theorem hNew_ok {n : Nat} (hn : n ≤ 1048576) : Ret Try.prog 11 #[.int .i64 n] w fun r w' => r = .pointer (some ⟨w.heap.size, 0, none⟩) ∧ HRep w' w.heap.size (HeapM.anew n) (fun b => w.heap.size ≤ b) ∧ Ext w w' := by
  have h1 : ¬ ((n : Int) < 0) := by omega
  have h2 : ¬ ((1048576 : Int) < n) := by omega
  have hm : min (max (n : Int) 0) 1048576 = n := by omega
  refine ret_E (n := 8) (S := [0, 1, 2]) 2 Try.func11 rfl rfl rfl rfl ?_
  refine WP.vseq rfl fun K hK => ?_
  refine WP.vregion rfl rfl fun U => ?_
  simp [go_sem]
  refine hK _ _ ?_; clear hK K
  refine WP.vseq rfl fun K hK => ?_
  refine WP.vregion rfl rfl fun U => ?_
  simp [go_sem, h1, h2, hm]
  refine hK _ _ ?_; clear hK K
  refine WP.vret rfl ?_
  try simp only [thenE_ret, blockE_ret]
  refine ret_done (by simp [go_sem] <;> rfl) ?_
  refine ⟨rfl, ⟨fun b => if b = w.heap.size then 1 else 0, .slice none 0 0, .slice none 0 0, ⟨by simp, Has.new w _, Own.nil _ _ _ _, Own.nil _ _ _ _, fun i c e => by simp [HeapM.anew] at e, HOk.anew hn, fun b hb => ?_⟩, fun b hb => ?_⟩, (Ext.refl _).alloc _⟩
  · by_cases h : b = w.heap.size
    · subst h; simp
    · simp [h] at hb
  · by_cases h : b = w.heap.size
    · omega
    · simp [h] at hb

def ofH (H : HeapM) (v : Val) (k : Int) : Option CellM × Int :=
  if v.k ≠ 4 then (none, 30) else match getH H v.n with
    | (some c, _) => if k ≠ 0 ∧ c.kind ≠ k then (none, 30) else (some c, 0)
    | (none, e) => (none, e)

theorem getH_some {a : Int} {c : CellM} {e : Int} (h : getH H a = (some c, e)) : e = 0 ∧ ∃ n : Nat, a = n ∧ H.cells[n]? = some (some c) := by
  unfold getH at h
  split at h
  · cases h
  · split at h
    · rename_i h1 _ _ h2
      cases h
      exact ⟨rfl, a.toNat, by omega, h2⟩
    · cases h
theorem getH_none {a : Int} {e : Int} (h : getH H a = (none, e)) : e ≠ 0 := by
  unfold getH at h
  split at h
  · cases h; decide
  · split at h
    · cases h
    · cases h; decide
theorem HRep.at_ (h0 : HRep w h H F) {n : Nat} (hc : H.cells[n]? = some (some c)) : ∃ vv nv F1 F2 F3, CX w c vv nv F1 F2 F3 ∧ (∀ b, F1 b → F b) ∧ (∀ b, F2 b → F b) ∧ (∀ b, F3 b → F b) := by
  obtain ⟨col, cv, fv, hX, hF⟩ := h0
  obtain ⟨vv, nv, h1⟩ := hX.cell n c hc
  exact ⟨vv, nv, _, _, _, h1, fun b hb => hF b (by omega), fun b hb => hF b (by omega), fun b hb => hF b (by omega)⟩

set_option maxRecDepth 4000 in
theorem hOf_ok (h0 : HRep w h H F) (v : Val) (k : Int) :
    Ret Try.prog 21 #[.pointer (some ⟨h, 0, none⟩), v.v, .int .i64 k] w fun r w' => r = .tuple #[cptr (ofH H v k).1, .int .i64 (ofH H v k).2] ∧ Ext w w' := by
  refine ret_E (n := 34) (S := [0, 1, 2, 3, 4, 5, 6, 7, 8, 9]) 7 Try.func21 rfl rfl rfl rfl ?_
  refine WP.vseq rfl fun K hK => ?_
  refine WP.vregion rfl rfl fun U => ?_
  simp [go_sem]
  refine hK _ _ ?_; clear hK K
  have hb0 : Has (w.alloc (vObj v)) w.heap.size (vObj v) := Has.new w _
  have hx0 : Ext w (w.alloc (vObj v)) := (Ext.refl _).alloc _
  replace h0 := h0.ext hx0
  generalize w.alloc (vObj v) = w1 at hb0 h0 hx0
  have hc := hb0.cell
  by_cases hv : v.k ≠ 4
  · refine WP.vseq rfl fun K hK => ?_
    refine WP.vseq rfl fun K hK => ?_
    refine WP.vregion rfl rfl fun U => ?_
    simp [go_sem, hc]
    refine hK _ _ ?_; clear hK K
    refine WP.vcond_t rfl (by simp [go_sem, hv]) ?_
    refine WP.vseq rfl fun K hK => ?_
    refine WP.vregion rfl rfl fun U => ?_
    simp [go_sem]
    refine hK _ _ ?_; clear hK K
    refine WP.vret rfl ?_
    try simp only [thenE_ret, blockE_ret]
    refine ret_done (by simp [go_sem] <;> rfl) ?_
    have hg : ofH H v k = (none, 30) := by unfold ofH; rw [if_pos hv]
    rw [hg]
    exact ⟨rfl, hx0⟩
  refine WP.vseq rfl fun K hK => ?_
  refine WP.vseq rfl fun K hK => ?_
  refine WP.vregion rfl rfl fun U => ?_
  simp [go_sem, hc]
  refine hK _ _ ?_; clear hK K
  refine WP.vcond_f rfl (by simp [go_sem, hv] <;> omega) ?_
  refine WP.vskip rfl ?_
  simp only [go_sem]
  refine hK _ _ ?_; clear hK K
  refine WP.vseq rfl fun K hK => ?_
  refine WP.vregion rfl rfl fun U => ?_
  simp [go_sem, hc]
  refine (hGet_ok h0 v.n).mono ?_
  rintro r w2 ⟨rfl, hx2⟩
  try simp [go_sem]
  refine hK _ _ ?_; clear hK K
  replace h0 := h0.ext hx2
  replace hx0 := hx0.trans hx2
  rcases hg : getH H v.n with ⟨_ | c, e⟩
  · have he := getH_none hg
    refine WP.vseq rfl fun K hK => ?_
    refine WP.vseq rfl fun K hK => ?_
    refine WP.vregion rfl rfl fun U => ?_
    simp [go_sem]
    refine hK _ _ ?_; clear hK K
    refine WP.vcond_t rfl (by simp [go_sem, he]) ?_
    refine WP.vseq rfl fun K hK => ?_
    refine WP.vregion rfl rfl fun U => ?_
    simp [go_sem]
    refine hK _ _ ?_; clear hK K
    refine WP.vret rfl ?_
    try simp only [thenE_ret, blockE_ret]
    refine ret_done (by simp [go_sem] <;> rfl) ?_
    have hg : ofH H v k = (none, e) := by unfold ofH; rw [if_neg hv, hg]
    rw [hg]
    exact ⟨rfl, hx0⟩
  · obtain ⟨rfl, n, hn, hcn⟩ := getH_some hg
    obtain ⟨vv, nv, _, _, _, hC, _⟩ := h0.at_ hcn
    have hcc := hC.has.cell
    have hof : ofH H v k = if k ≠ 0 ∧ c.kind ≠ k then (none, 30) else (some c, 0) := by unfold ofH; rw [if_neg hv, hg]
    refine WP.vseq rfl fun K hK => ?_
    refine WP.vseq rfl fun K hK => ?_
    refine WP.vregion rfl rfl fun U => ?_
    simp [go_sem]
    refine hK _ _ ?_; clear hK K
    refine WP.vcond_f rfl (by simp [go_sem]) ?_
    refine WP.vskip rfl ?_
    simp only [go_sem]
    refine hK _ _ ?_; clear hK K
    by_cases hk : k ≠ 0 ∧ c.kind ≠ k
    · refine WP.vseq rfl fun K hK => ?_
      refine WP.vseq rfl fun K hK => ?_
      refine WP.vregion rfl rfl fun U => ?_
      simp [go_sem, hcc, hk, cptr]
      refine hK _ _ ?_; clear hK K
      refine WP.vcond_t rfl (by simp [go_sem, hk]) ?_
      refine WP.vseq rfl fun K hK => ?_
      refine WP.vregion rfl rfl fun U => ?_
      simp [go_sem]
      refine hK _ _ ?_; clear hK K
      refine WP.vret rfl ?_
      try simp only [thenE_ret, blockE_ret]
      refine ret_done (by simp [go_sem] <;> rfl) ?_
      rw [hof, if_pos hk]
      exact ⟨rfl, hx0⟩
    · refine WP.vseq rfl fun K hK => ?_
      by_cases hk0 : k = 0
      · subst hk0
        refine WP.vseq rfl fun K hK => ?_
        refine WP.vregion rfl rfl fun U => ?_
        simp [go_sem]
        refine hK _ _ ?_; clear hK K
        refine WP.vcond_f rfl (by simp [go_sem]) ?_
        refine WP.vskip rfl ?_
        simp only [go_sem]
        refine hK _ _ ?_; clear hK K
        refine WP.vseq rfl fun K hK => ?_
        refine WP.vregion rfl rfl fun U => ?_
        simp [go_sem]
        refine hK _ _ ?_; clear hK K
        refine WP.vret rfl ?_
        try simp only [thenE_ret, blockE_ret]
        refine ret_done (by simp [go_sem] <;> rfl) ?_
        rw [hof, if_neg hk]
        exact ⟨rfl, hx0⟩
      · have hk1 : c.kind = k := by
          by_cases h : c.kind = k
          · exact h
          · exact absurd ⟨hk0, h⟩ hk
        refine WP.vseq rfl fun K hK => ?_
        refine WP.vregion rfl rfl fun U => ?_
        simp [go_sem, hcc, hk0, hk1, cptr]
        refine hK _ _ ?_; clear hK K
        refine WP.vcond_f rfl (by simp [go_sem, hk1]) ?_
        refine WP.vskip rfl ?_
        simp only [go_sem]
        refine hK _ _ ?_; clear hK K
        refine WP.vseq rfl fun K hK => ?_
        refine WP.vregion rfl rfl fun U => ?_
        simp [go_sem]
        refine hK _ _ ?_; clear hK K
        refine WP.vret rfl ?_
        try simp only [thenE_ret, blockE_ret]
        refine ret_done (by simp [go_sem] <;> rfl) ?_
        rw [hof, if_neg hk]
        exact ⟨rfl, hx0⟩

theorem info_pcell : (Try.prog.info? 49).map (fun i => (i.zero, i.size, i.bytes)) = some (some (.pointer none), 1, 8) := by kernel_rfl
abbrev cObj (kind : Int) (vv lp tp nv : Value) (text : ByteArray) : Obj := .cells #[.int .i64 kind, vv, lp, tp, nv, .string text] 56

set_option maxRecDepth 4000 in
set_option maxHeartbeats 2000000 in
theorem hAlloc_ok {kind : Int} {vals : List Val} {list : Option (Nat × List Val)} {table : Option (Nat × Dict)} {nums : List Int} {text : ByteArray} (h0 : HRep w h H F) (hk1 : 1 ≤ kind) (hk2 : kind ≤ 10) (hlim : H.live < H.limit)
    (hv : Rd w vv vals.length 3 (vcells vals)) (hn : Rd w nv nums.length 1 (ints nums)) (hvl : vals.length ≤ 1000000000) (hnl : nums.length ≤ 1000000000)
    (hL : ∀ b xs, list = some (b, xs) → LRep w b xs L) (hT : ∀ b D, table = some (b, D) → TRep w b D T) (hLF : ∀ x, L x → ¬ F x) (hTF : ∀ x, T x → ¬ F x ∧ ¬ L x) :
    Ret Try.prog 44 #[.pointer (some ⟨h, 0, none⟩), .agg #[.int .i64 kind, vv, optp list, optp table, nv, .string text]] w fun r w' =>
      ∃ ad, r = .tuple #[.int .i64 (H.alloc ⟨ad, kind, vals, list, table, nums, text⟩).2, .int .i64 0] ∧
        HRep w' h (H.alloc ⟨ad, kind, vals, list, table, nums, text⟩).1 (fun x => F x ∨ L x ∨ T x ∨ w.heap.size ≤ x) ∧ Chg F w w' := by
  obtain ⟨col, cv, fv, hX, hF⟩ := h0
  obtain ⟨vA, vc, rfl⟩ := hv.len
  obtain ⟨nA, nc, rfl⟩ := hn.len
  refine ret_E (n := 91) (S := [0, 1, 2, 3, 4, 5, 6, 7, 8]) 7 Try.func44 rfl rfl rfl rfl ?_
  refine WP.vseq rfl fun K hK => ?_
  refine WP.vregion rfl rfl fun U => ?_
  simp [go_sem]
  refine hK _ _ ?_; clear hK K
  have hx0 : Ext w (w.alloc (cObj kind (.slice vA vals.length vc) (optp list) (optp table) (.slice nA nums.length nc) text)) := (Ext.refl _).alloc _
  have hb0 := Has.new w (cObj kind (.slice vA vals.length vc) (optp list) (optp table) (.slice nA nums.length nc) text)
  generalize (w.alloc (cObj kind (.slice vA vals.length vc) (optp list) (optp table) (.slice nA nums.length nc) text)) = w1 at hx0 hb0
  have hcc := hb0.cell
  have hX1 := hX.ext hx0
  have hhc := hX1.has.cell
  have e1 : ¬ kind < 1 := by omega
  have e2 : ¬ 11 ≤ kind := by omega
  have e3 : ¬ (H.limit : Int) ≤ H.live := by omega
  have hww : ∀ w' : SW (fun w' => w' = w1.drew), w'.w = w1.drew := fun w' => w'.h
  haveI : Nonempty (SW (fun w' => w' = w1.drew)) := ⟨⟨_, rfl⟩⟩
  refine WP.vseq rfl fun K hK => ?_
  refine WP.vblock rfl ?_
  refine WP.vseq rfl fun K hK => ?_
  refine WP.vregion rfl rfl fun U => ?_
  simp [go_sem, hcc, e1, e2]
  refine hK _ _ ?_; clear hK K
  refine WP.vcond_f rfl (by simp [go_sem, e1, e2]) ?_
  refine WP.vseq rfl fun K hK => ?_
  refine WP.vdraw rfl (fun w' => w' = w1.drew) 1000 [(0, true), (1, true), (2, true), (3, true), (4, true), (5, true), (6, true), (7, true), (8, true), (9, true)] (by kernel_rfl) (by kernel_rfl) rfl fun U => ?_
  simp [go_sem, hww, hhc]
  refine hK _ _ ?_; clear hK K
  refine WP.vcond_f rfl (by simp [go_sem, hlim]) ?_
  refine WP.vskip rfl ?_
  simp only [go_sem]
  refine hK _ _ ?_; clear hK K
  have hcd := hb0.drew.cell
  refine WP.vseq rfl fun K hK => ?_
  refine WP.vregion rfl rfl fun U => ?_
  simp [go_sem, hcd]
  refine hK _ _ ?_; clear hK K
  generalize hco : cObj kind (.slice vA vals.length vc) (optp list) (optp table) (.slice nA nums.length nc) text = co at hb0
  have hnb : Has (w1.alloc co).drew w1.heap.size co := (Has.new w1 co).drew
  have hb2 : Has (w1.alloc co).drew w.heap.size co := (hb0.alloc _).drew
  have hx2 : Ext w (w1.alloc co).drew := (hx0.alloc _).drew
  rw [show (Obj.cells #[Value.int IntKind.i64 kind, Value.slice vA vals.length vc, optp list, optp table, Value.slice nA nums.length nc, Value.string text] 56) = co from hco]
  have hs1 : w.heap.size < w1.heap.size := hb0.lt
  generalize hnbe : w1.heap.size = nb at hnb hs1
  generalize (w1.alloc co).drew = w2 at hb2 hx2 hnb
  clear hcd hhc hww this hcc hX1 hx0 hb0
  have hlk : ∀ w' : SW (fun w' => Has w' w.heap.size co), ∀ i, w'.w.cell? ⟨w.heap.size, i, none⟩ = #[.int .i64 kind, .slice vA vals.length vc, optp list, optp table, .slice nA nums.length nc, .string text][i]? := fun w' => Has.cell (T := 56) (z := (0, 0)) (Eq.mpr (congrArg (Has w'.w w.heap.size) hco) w'.h)
  haveI : Nonempty (SW (fun w' => Has w' w.heap.size co)) := ⟨⟨_, hb2⟩⟩
  refine WP.vseq rfl fun K hK => ?_
  refine WP.vdraw rfl (fun w' => Has w' w.heap.size co) 1000 [(0, true), (1, true), (3, true), (4, true), (2, false), (5, false), (6, true), (7, false), (8, true), (9, false)] (by kernel_rfl) (by kernel_rfl) hb2.drew fun U => ?_
  simp [go_sem, hlk]
  refine (cloneV_ok ((hv.ext hx2).ext ((Ext.refl _).drew)) (vcells_one _) hvl).mono ?_
  rintro vv1 w3 ⟨hov, hx3⟩
  obtain ⟨A1, c1, rfl⟩ := hov.len
  try simp [go_sem, hlk]
  refine ⟨(hb2.drew).ext hx3, ?_⟩
  have hx13 := (hx2.drew).trans hx3
  refine (cloneN_ok (hn.ext hx13) (ints_one _) hnl).mono ?_
  rintro nv1 w4 ⟨hon, hx4⟩
  obtain ⟨A2, c2, rfl⟩ := hon.len
  have hb4 := ((hb2.drew).ext hx3).ext hx4
  have hnb4 : Has w4 nb (cObj kind (.slice vA vals.length vc) (optp list) (optp table) (.slice nA nums.length nc) text) := by rw [hco]; exact ((hnb.drew).ext hx3).ext hx4
  have hnbf := hnb4.frozen
  have hx04 : Ext w w4 := hx13.trans hx4
  have hov4 := hov.ext hx4
  have hs2 : nb < w2.heap.size := hnb.lt
  have hs3 : w2.heap.size ≤ w3.heap.size := hx3.size
  replace hov4 : Own w4 35 3 (.slice A1 vals.length c1) vals.length (vcells vals) (fun b => w.heap.size ≤ b) := hov4.mono fun b hb => by have hb' : w2.heap.size ≤ b := hb; omega
  replace hon : Own w4 2 1 (.slice A2 nums.length c2) nums.length (ints nums) (fun b => w.heap.size ≤ b) := hon.mono fun b hb => by omega
  clear hov hx3 hx4 hx13 hx2 hb2 hnb hs2 hs3
  try simp [go_sem, hnb4.cell, hnbf]
  have hcbn : w.heap.size ≠ nb := by omega
  refine ⟨hb4, ?_⟩
  try simp [go_sem, hnb4.cell, hnbf]
  refine ⟨hb4.far (a := ⟨nb, 1, none⟩) hcbn _, ?_⟩
  try simp [go_sem, (hnb4.setCell 1 (.slice A1 vals.length c1)).frozen]
  refine ⟨(hb4.far (a := ⟨nb, 1, none⟩) hcbn _).far (a := ⟨nb, 4, none⟩) hcbn _, ?_⟩
  refine hK _ _ ?_; clear hK K
  have hch : Chg (fun x => x = nb) w4 ((w4.setCell ⟨nb, 1, none⟩ (.slice A1 vals.length c1)).setCell ⟨nb, 4, none⟩ (.slice A2 nums.length c2)) := ((Chg.refl (fun x => x = nb) w4).setCell (a := ⟨nb, 1, none⟩) (fun _ => rfl) _).setCell (a := ⟨nb, 4, none⟩) (fun _ => rfl) _
  have hC : CX ((w4.setCell ⟨nb, 1, none⟩ (.slice A1 vals.length c1)).setCell ⟨nb, 4, none⟩ (.slice A2 nums.length c2)) ⟨nb, kind, vals, list, table, nums, text⟩ (.slice A1 vals.length c1) (.slice A2 nums.length c2) (fun x => w.heap.size ≤ x) (fun x => L x ∧ x < w.heap.size) (fun x => T x ∧ x < w.heap.size) := by
    refine ⟨Nat.le_of_lt hs1, by simpa using (hnb4.setCell 1 (.slice A1 vals.length c1)).setCell 4 (.slice A2 nums.length c2), ?_, ?_, fun b xs e => ?_, fun b D e => ?_⟩
    · exact hov4.keep hch fun g hg => hov4.ne hnb4 (by decide) g hg
    · exact hon.keep hch fun g hg => hon.ne hnb4 (by decide) g hg
    · exact ((hL b xs e).inside.ext hx04).chg hch fun b hb e => by omega
    · exact ((hT b D e).inside.ext hx04).chg hch fun b hb e => by omega
  have hX5 : HX ((w4.setCell ⟨nb, 1, none⟩ (.slice A1 vals.length c1)).setCell ⟨nb, 4, none⟩ (.slice A2 nums.length c2)) h cv fv H col := (hX.ext hx04).chg hch fun b hb e => by have := hX.ins b hb; omega
  have hx5 : Ext w ((w4.setCell ⟨nb, 1, none⟩ (.slice A1 vals.length c1)).setCell ⟨nb, 4, none⟩ (.slice A2 nums.length c2)) := (hx04.mono fun _ _ h => h.elim).and_then hch fun b hb e => by omega
  generalize ((w4.setCell ⟨nb, 1, none⟩ (.slice A1 vals.length c1)).setCell ⟨nb, 4, none⟩ (.slice A2 nums.length c2)) = w5 at hC hX5 hx5
  clear hov4 hon hch hb4 hnb4 hnbf hx04 hlk this hcbn
  have hins := hX.ins
  have hhne : ∀ {w' : World}, Ext w w' → h < w'.heap.size := fun hx => Nat.lt_of_lt_of_le hX.has.lt hx.size
  have hLc : ∀ x, (L x ∧ x < w.heap.size) → col x = 0 ∧ x < w.heap.size := fun x hx => ⟨by
    by_cases h0 : col x = 0
    · exact h0
    · exact absurd (hF x h0) (hLF x hx.1), hx.2⟩
  have hTc : ∀ x, (T x ∧ x < w.heap.size) → col x = 0 ∧ x < w.heap.size ∧ ¬ (L x ∧ x < w.heap.size) := fun x hx => ⟨by
    by_cases h0 : col x = 0
    · exact h0
    · exact absurd (hF x h0) (hTF x hx.1).1, hx.2, fun h => (hTF x hx.1).2 h.1⟩
  have hroom := hX.ok.room
  have hsum := hX.ok.sum
  have hlm := hX.ok.lim
  have hwl : IntKind.i64.wrap ((H.live : Int) + 1) = (H.live : Int) + 1 := IntWalk.i64_in _ (by omega)
  have hhc := hX5.has.cell
  have hhf := hX5.has.frozen
  refine WP.vseq rfl fun K hK => ?_
  refine WP.vregion rfl rfl fun U => ?_
  simp [go_sem, hhc, hhf, hwl]
  refine hK _ _ ?_; clear hK K
  have hh6 := hX5.has.setCell 2 (.int .i64 ((H.live : Int) + 1))
  have hch6 : Chg (fun x => col x = 1) w5 (w5.setCell ⟨h, 2, none⟩ (.int .i64 ((H.live : Int) + 1))) := (Chg.refl _ _).setCell (a := ⟨h, 2, none⟩) (fun _ => hX5.inb) _
  have hcs6 := hX5.cells.far (a := ⟨h, 2, none⟩) (fun g hg => hX5.cells.ne hX5.has (by decide) g hg) (.int .i64 ((H.live : Int) + 1))
  have hfs6 := hX5.free.far (a := ⟨h, 2, none⟩) (fun g hg => hX5.free.ne hX5.has (by decide) g hg) (.int .i64 ((H.live : Int) + 1))
  generalize w5.setCell ⟨h, 2, none⟩ (.int .i64 ((H.live : Int) + 1)) = w6 at hh6 hch6 hcs6 hfs6
  replace hh6 : Has w6 h (.cells #[cv, fv, .int .i64 ((H.live : Int) + 1), .int .i64 H.limit, .int .i64 H.freed, .int .i64 H.runs] 107 (0, 0)) := by simpa using hh6
  obtain ⟨cA, cc, rfl⟩ := hcs6.len
  obtain ⟨fA, fc, rfl⟩ := hfs6.len
  have hhc := hh6.cell
  have hhf := hh6.frozen
  refine WP.vseq rfl fun K hK => ?_
  refine WP.vseq rfl fun K hK => ?_
  refine WP.vregion rfl rfl fun U => ?_
  simp [go_sem, hhc]
  refine hK _ _ ?_; clear hK K
  refine WP.vseq rfl fun K hK => ?_
  refine WP.vregion rfl rfl fun U => ?_
  simp [go_sem]
  refine hK _ _ ?_; clear hK K
  have hok := hX.ok.alloc hlim (c := ⟨nb, kind, vals, list, table, nums, text⟩)
  rcases hfl : H.free.getLast? with _ | n
  · have hnil : H.free = [] := List.getLast?_eq_none_iff.1 hfl
    have hlen0 : H.free.length = 0 := by rw [hnil]; rfl
    have hall : H.alloc ⟨nb, kind, vals, list, table, nums, text⟩ = ({ H with cells := H.cells ++ [some ⟨nb, kind, vals, list, table, nums, text⟩], live := H.live + 1 }, H.cells.length) := by unfold HeapM.alloc; rw [hfl]
    refine WP.vcond_f rfl (by simp [go_sem, hlen0]) ?_
    refine WP.vskip rfl ?_
    simp only [go_sem]
    refine hK _ _ ?_; clear hK K
    obtain ⟨i0, hi0, hz0, hz1, hz2⟩ := info_parts info_pcell
    refine WP.vseq rfl fun K hK => ?_
    refine WP.vregion rfl rfl fun U => ?_
    simp [go_sem, hhc]
    refine APPEND.own Try.underlying105 hi0 hz0 hz1 hz2 rfl (by omega) (by omega) (hcs6.self.alloc _) (Rd.top (cs := [cptr (some ⟨nb, kind, vals, list, table, nums, text⟩)]) rfl rfl) (by simp [Value.oneCell']) (le_app (by omega)) ?_
    intro v' w7 hcs7 hch7
    have hx67 : Chg (fun g => (Value.slice cA H.cells.length cc).ownBlock = some g) w6 w7 := Ext.then ((Ext.refl w6).alloc _) hch7
    have hgne : ∀ g, (Value.slice cA H.cells.length cc).ownBlock = some g → g ≠ h := fun g hg => hcs6.ne hh6 (by decide) g hg
    have hh7 := hh6.chg hx67 fun hg => hgne h hg rfl
    have hfs7 := hfs6.keep hx67 fun g hg hg' => hfs6.ne2 hcs6 (by decide) g hg hg'
    have hs6 := hch6.size
    have hlen7 : (H.cells ++ [some (CellM.mk nb kind vals list table nums text)]).length = H.cells.length + 1 := by simp
    replace hcs7 : Own w7 49 1 v' (H.cells ++ [some (CellM.mk nb kind vals list table nums text)]).length ((H.cells ++ [some (CellM.mk nb kind vals list table nums text)]).map cptr) (fun b => col b = 1 ∨ w5.heap.size ≤ b) := by
      rw [hlen7, List.map_append]
      refine hcs7.mono fun b hb => ?_
      rcases hb with hb | hb
      · exact .inl (hcs6.2 b hb)
      · simp at hb; exact .inr (by omega)
    have hch7' : Chg (fun x => col x = 1) w5 w7 := hch6.and_then hx67 fun x _ hx => hcs6.2 x hx
    obtain ⟨A3, c3, rfl⟩ := hcs7.len
    have hhc := hh7.cell
    have hhf := hh7.frozen
    try simp [go_sem, hhc, hhf]
    refine hK _ _ ?_; clear hK K
    have hh8 := hh7.setCell 0 (.slice A3 (H.cells ++ [some (CellM.mk nb kind vals list table nums text)]).length c3)
    have hcs8 := hcs7.far (a := ⟨h, 0, none⟩) (fun g hg => hcs7.ne hh7 (by decide) g hg) (.slice A3 (H.cells ++ [some (CellM.mk nb kind vals list table nums text)]).length c3)
    have hfs8 := hfs7.far (a := ⟨h, 0, none⟩) (fun g hg => hfs7.ne hh7 (by decide) g hg) (.slice A3 (H.cells ++ [some (CellM.mk nb kind vals list table nums text)]).length c3)
    have hch8 := hch7'.setCell (a := ⟨h, 0, none⟩) (fun _ => hX5.inb) (.slice A3 (H.cells ++ [some (CellM.mk nb kind vals list table nums text)]).length c3)
    rw [hlen7] at hh8 hcs8 hfs8 hch8
    generalize w7.setCell ⟨h, 0, none⟩ (.slice A3 (H.cells.length + 1) c3) = w8 at hh8 hcs8 hfs8 hch8
    have hhc := hh8.cell
    have hwm : IntKind.i64.wrap (H.cells.length : Int) = (H.cells.length : Int) := IntWalk.i64_in (H.cells.length : Int) (by omega)
    refine WP.vseq rfl fun K hK => ?_
    refine WP.vregion rfl rfl fun U => ?_
    simp [go_sem, hhc, hwm]
    refine hK _ _ ?_; clear hK K
    refine WP.vret rfl ?_
    try simp only [thenE_ret, blockE_ret]
    refine ret_done (by simp [go_sem] <;> rfl) ?_
    refine ⟨nb, ?_⟩
    rw [hall] at hok ⊢
    refine ⟨rfl, ⟨_, _, _, HX.fill (i := H.cells.length) hX5 hC hins hLc hTc hch8 hx5.size (by simpa using hh8) (by simp only [hlen7]; exact hcs8) hfs8 hok (by simp) (fun j hj c e => ?_), fun b hb => ?_⟩, ?_⟩
    · simp only at e
      rw [List.getElem?_append] at e
      split at e
      · exact e
      · rename_i hlt
        rw [List.getElem?_eq_none (by simp; omega)] at e; cases e
    · rcases fill_in hb with h | h | h | h
      · exact .inl (hF b h)
      · exact .inr (.inl h.1)
      · exact .inr (.inr (.inl h.1))
      · exact .inr (.inr (.inr h))
    · exact hx5.then (hch8.mono fun b hb e => hF b (by omega))
  · obtain ⟨ys, hys⟩ := List.getLast?_eq_some_iff.1 hfl
    have hlen1 : H.free.length = ys.length + 1 := by rw [hys]; simp
    have hall : H.alloc ⟨nb, kind, vals, list, table, nums, text⟩ = ({ H with cells := H.cells.set n (some ⟨nb, kind, vals, list, table, nums, text⟩), free := H.free.dropLast, live := H.live + 1 }, n) := by unfold HeapM.alloc; rw [hfl]
    have hdr : H.free.dropLast = ys := by rw [hys]; simp
    refine WP.vcond_t rfl (by simp [go_sem, hlen1] <;> omega) ?_
    obtain ⟨g, cap, hgv, hg1, hgl, hfc, hff⟩ := hfs6.at_ (by omega)
    injection hgv with hgv1 hgv2 hgv3
    subst hgv1; subst hgv3
    have hn0 := (hX.ok.mem n).1 (by rw [hys]; simp)
    obtain ⟨hnlt, hng⟩ := List.getElem?_eq_some_iff.1 hn0
    obtain ⟨g2, cap2, hgv, hg21, hgl2, hcc, hcf⟩ := hcs6.at_ (by omega)
    injection hgv with hgv1 hgv2 hgv3
    subst hgv1; subst hgv3
    have hcell := hfc ys.length (.int .i64 n) (by rw [hys]; simp)
    have hle := hfs6.cap_le
    have hwm : IntKind.i64.wrap ((H.free.length : Int) - 1) = (ys.length : Int) := by rw [hlen1]; simpa using IntWalk.i64_in (ys.length : Int) (by omega)
    have hyl : ys.length < H.free.length := by omega
    have hyc : ys.length ≤ fc := by omega
    refine WP.vseq rfl fun K hK => ?_
    refine WP.vregion rfl rfl fun U => ?_
    simp [go_sem, hhc, hcell, hwm, hyl]
    refine hK _ _ ?_; clear hK K
    refine WP.vseq rfl fun K hK => ?_
    refine WP.vregion rfl rfl fun U => ?_
    simp [go_sem, hhc, hhf, hwm, hyl, hyc]
    refine hK _ _ ?_; clear hK K
    have hh7 := hh6.setCell 1 (.slice (some ⟨g, 0, none⟩) ys.length fc)
    have hcs7 := hcs6.far (a := ⟨h, 1, none⟩) (fun g hg => hcs6.ne hh6 (by decide) g hg) (.slice (some ⟨g, 0, none⟩) ys.length fc)
    have hfs7 := (hfs6.shrink (k := ys.length) (by omega)).far (a := ⟨h, 1, none⟩) (fun g' hg => hfs6.ne hh6 (by decide) g' hg) (.slice (some ⟨g, 0, none⟩) ys.length fc)
    have hch7 := hch6.setCell (a := ⟨h, 1, none⟩) (fun _ => hX5.inb) (.slice (some ⟨g, 0, none⟩) ys.length fc)
    generalize w6.setCell ⟨h, 1, none⟩ (.slice (some ⟨g, 0, none⟩) ys.length fc) = w7 at hh7 hcs7 hfs7 hch7
    obtain ⟨_, _, hgv, _, _, hcc, hcf⟩ := hcs7.at_ (by omega)
    injection hgv with hgv1 hgv2 hgv3
    injection hgv1 with hgv1
    injection hgv1 with hgv1
    subst hgv1; subst hgv3
    have hcn := hcc n (cptr none) (by rw [List.getElem?_map, hn0]; rfl)
    have hhc := hh7.cell
    refine WP.vseq rfl fun K hK => ?_
    refine WP.vregion rfl rfl fun U => ?_
    simp [go_sem, hhc, hnlt, hcn, hcf]
    refine hK _ _ ?_; clear hK K
    have hcs8 := hcs7.put (k := n) (by omega) (.pointer (some ⟨nb, 0, none⟩))
    have hgh : g2 ≠ h := hcs7.ne hh7 (by decide) g2 rfl
    have hh8 := hh7.far (a := ⟨g2, n, none⟩) (Ne.symm hgh) (.pointer (some ⟨nb, 0, none⟩))
    have hfs8 := hfs7.far (a := ⟨g2, n, none⟩) (fun g' hg e => hfs7.ne2 hcs7 (by decide) g' hg (by rw [e]; rfl)) (.pointer (some ⟨nb, 0, none⟩))
    have hch8 := hch7.setCell (a := ⟨g2, n, none⟩) (fun _ => hcs7.2 g2 rfl) (.pointer (some ⟨nb, 0, none⟩))
    generalize w7.setCell ⟨g2, n, none⟩ (.pointer (some ⟨nb, 0, none⟩)) = w8 at hh8 hcs8 hfs8 hch8
    refine WP.vseq rfl fun K hK => ?_
    refine WP.vregion rfl rfl fun U => ?_
    simp [go_sem]
    refine hK _ _ ?_; clear hK K
    refine WP.vret rfl ?_
    try simp only [thenE_ret, blockE_ret]
    refine ret_done (by simp [go_sem] <;> rfl) ?_
    refine ⟨nb, ?_⟩
    rw [hall] at hok ⊢
    have hmap : (H.cells.map cptr).set n (.pointer (some ⟨nb, 0, none⟩)) = (H.cells.set n (some ⟨nb, kind, vals, list, table, nums, text⟩)).map cptr := by rw [List.map_set]; rfl
    have htk : (nints H.free).take (ys.length * 1) = nints ys := by rw [hys]; simp
    rw [hmap] at hcs8
    rw [htk] at hfs8
    refine ⟨rfl, ⟨_, _, _, HX.fill (i := n) hX5 hC hins hLc hTc hch8 hx5.size (by simpa using hh8) (by simpa using hcs8.mono fun b hb => Or.inl hb) (by simp only [hdr]; exact hfs8) hok (by simp [hnlt]) (fun j hj c e => ?_), fun b hb => ?_⟩, ?_⟩
    · simp only at e
      rw [List.getElem?_set, if_neg (Ne.symm hj)] at e
      exact e
    · rcases fill_in hb with h | h | h | h
      · exact .inl (hF b h)
      · exact .inr (.inl h.1)
      · exact .inr (.inr (.inl h.1))
      · exact .inr (.inr (.inr h))
    · exact hx5.then (hch8.mono fun b hb e => hF b (by omega))
end
end Go.Proofs.Ytephkonhiaingaa

/- Tables: what lies in memory, and where a key is looked for. -/
import Derived.Test.YtephkonhiaingaaHash
set_option linter.unusedSimpArgs false
set_option linter.unusedVariables false
namespace Go.Proofs.Ytephkonhiaingaa
open Go Go.RowKit

structure Ent where
  key : Val
  val : Val
  ser : Int
  gone : Bool

def Ent.cells (e : Ent) : List Value := [.int .i64 e.key.k, .int .i64 e.key.n, .string e.key.t, .int .i64 e.val.k, .int .i64 e.val.n, .string e.val.t, .int .i64 e.ser, .bool e.gone]
def ecells (l : List Ent) : List Value := l.flatMap Ent.cells
theorem ecells_length (l : List Ent) : (ecells l).length = l.length * 8 := flatMap_length _ 8 (fun _ => rfl) l
theorem ecells_at {l : List Ent} {i : Nat} {x : Ent} (h : l[i]? = some x) :
    (ecells l)[i * 8]? = some (.int .i64 x.key.k) ∧ (ecells l)[i * 8 + 1]? = some (.int .i64 x.key.n) ∧ (ecells l)[i * 8 + 2]? = some (.string x.key.t) ∧
    (ecells l)[i * 8 + 3]? = some (.int .i64 x.val.k) ∧ (ecells l)[i * 8 + 4]? = some (.int .i64 x.val.n) ∧ (ecells l)[i * 8 + 5]? = some (.string x.val.t) ∧
    (ecells l)[i * 8 + 6]? = some (.int .i64 x.ser) ∧ (ecells l)[i * 8 + 7]? = some (.bool x.gone) := by
  have f := fun k hk => flatMap_at Ent.cells 8 (fun _ => rfl) k hk l i
  rw [h] at f
  have f0 := f 0 (by omega); have f1 := f 1 (by omega); have f2 := f 2 (by omega); have f3 := f 3 (by omega); have f4 := f 4 (by omega); have f5 := f 5 (by omega); have f6 := f 6 (by omega); have f7 := f 7 (by omega)
  simp only [Option.bind_some, Ent.cells, Nat.add_zero] at f0 f1 f2 f3 f4 f5 f6 f7
  exact ⟨f0, f1, f2, f3, f4, f5, f6, f7⟩

/-- What a table's memory holds. -/
structure TabL where
  ents : List Ent
  slots : List Int
  live : Int
  used : Int
  serial : Int

/-- A table at block b; all of it lies in F. -/
def TLow (w : World) (b : Nat) (T : TabL) (F : Nat → Prop) : Prop :=
  ∃ ev sv, F b ∧ Has w b (.cells #[ev, sv, .int .i64 T.live, .int .i64 T.used, .int .i64 T.serial] 112 (0, 0)) ∧
    Own w 116 8 ev T.ents.length (ecells T.ents) F ∧ Own w 3 1 sv T.slots.length (ints T.slots) F

def keyAt (l : List Ent) (s : Int) : Option Val := (l[(s - 1).toNat]?).map Ent.key

/-- The slots that are looked at, one behind the other. -/
def findL (ents : List Ent) (slots : List Int) (key : Val) (mask : Nat) : Nat → Nat → Int → Int × Bool
  | 0, _, f => (if f < 0 then 0 else f, false)
  | n + 1, i, f =>
    if slots.getD i 0 = 0 then (if f < 0 then (i : Int) else f, false)
    else if slots.getD i 0 = -1 then findL ents slots key mask n ((i + 1) &&& mask) (if f < 0 then (i : Int) else f)
    else if keyAt ents (slots.getD i 0) = some key then ((i : Int), true)
    else findL ents slots key mask n ((i + 1) &&& mask) f

def start (slots : List Int) (key : Val) : Nat := (hashV key / 2).toNat &&& (slots.length - 1)
def findM (T : TabL) (key : Val) : Int × Bool :=
  if T.slots.length = 0 then (0, false) else findL T.ents T.slots key (T.slots.length - 1) T.slots.length (start T.slots key) (-1)

/-- Each slot is free, a grave, or tells of an entry. -/
def SlotsOk (T : TabL) : Prop := ∀ s ∈ T.slots, s = 0 ∨ s = -1 ∨ (1 ≤ s ∧ s ≤ T.ents.length)

section
variable {w w' : World} {b : Nat} {T : TabL} {F F' : Nat → Prop} {key : Val}

theorem TLow.ext (h : TLow w b T F) (hx : Ext w w') : TLow w' b T F := by
  obtain ⟨ev, sv, hf, hb, he, hs⟩ := h
  exact ⟨ev, sv, hf, hb.ext hx, he.ext hx, hs.ext hx⟩
theorem TLow.chg (h : TLow w b T F) (hx : Chg F' w w') (hd : ∀ b, F b → ¬ F' b) : TLow w' b T F := by
  obtain ⟨ev, sv, hf, hb, he, hs⟩ := h
  exact ⟨ev, sv, hf, hb.chg hx (hd _ hf), he.chg hx hd, hs.chg hx hd⟩
theorem TLow.mono (h : TLow w b T F) (hF : ∀ b, F b → F' b) : TLow w b T F' := by
  obtain ⟨ev, sv, hf, hb, he, hs⟩ := h
  exact ⟨ev, sv, hF _ hf, hb, he.mono hF, hs.mono hF⟩

theorem slots_at {s : Int} {i : Nat} (hi : i < T.slots.length) (hs : T.slots.getD i 0 = s) : (ints T.slots)[i]? = some (.int .i64 s) := by
  rw [List.getD_eq_getElem?_getD, List.getElem?_eq_getElem hi] at hs
  simp only [Option.getD_some] at hs
  simp [ints, hs, List.getElem?_eq_getElem hi]
theorem slots_mem {i : Nat} (hi : i < T.slots.length) : T.slots.getD i 0 ∈ T.slots := by
  rw [List.getD_eq_getElem?_getD, List.getElem?_eq_getElem hi]
  exact List.getElem_mem hi

set_option maxRecDepth 4000 in
set_option maxHeartbeats 1000000 in
theorem find_ok (h : TLow w b T F) (hok : SlotsOk T) (hl : T.slots.length ≤ 1000000000) (he : T.ents.length ≤ 1000000000) (hk : key.t.size ≤ 1000000000) :
    Ret Try.prog 61 #[.pointer (some ⟨b, 0, none⟩), key.v] w fun r w' => r = .tuple #[.int .i64 (findM T key).1, .bool (findM T key).2] ∧ Ext w w' := by
  obtain ⟨ev, sv, hf, hb, he0, hs⟩ := h
  obtain ⟨eA, ec, rfl⟩ := he0.len
  obtain ⟨sA, sc, rfl⟩ := hs.len
  generalize hR0 : findM T key = R
  refine ret_E (n := 77) (S := [0, 1, 2, 3, 4, 5, 6, 7, 8, 9, 10]) 9 Try.func61 rfl rfl rfl rfl ?_
  refine WP.vseq rfl fun K hK => ?_
  refine WP.vregion rfl rfl fun U => ?_
  simp [go_sem]
  refine hK _ _ ?_; clear hK K
  have hx0 : Ext w (w.alloc (.cells #[.int .i64 key.k, .int .i64 key.n, .string key.t] 35)) := (Ext.refl _).alloc _
  have hb0 := (hb.ext hx0).cell
  have hk0 := Has.new w (.cells #[.int .i64 key.k, .int .i64 key.n, .string key.t] 35)
  by_cases h0 : T.slots.length = 0
  · have h0' : T.slots = [] := List.eq_nil_of_length_eq_zero h0
    refine WP.vseq rfl fun K hK => ?_
    refine WP.vseq rfl fun K hK => ?_
    refine WP.vregion rfl rfl fun U => ?_
    simp [go_sem, hb0]
    refine hK _ _ ?_; clear hK K
    refine WP.vcond_t rfl (by simp [go_sem, h0']) ?_
    refine WP.vseq rfl fun K hK => ?_
    refine WP.vregion rfl rfl fun U => ?_
    simp [go_sem]
    refine hK _ _ ?_; clear hK K
    refine WP.vret rfl ?_
    try simp only [thenE_ret, blockE_ret]
    refine ret_done (by simp [go_sem] <;> rfl) ?_
    rw [← hR0, findM, if_pos h0]
    exact ⟨rfl, hx0⟩
  · have h0' : T.slots ≠ [] := fun h => h0 (by rw [h]; rfl)
    obtain ⟨M, hM⟩ : ∃ M : Nat, T.slots.length = M + 1 := ⟨T.slots.length - 1, by omega⟩
    have hm : IntKind.i64.wrap ((T.slots.length : Int) - 1) = (M : Int) := by rw [hM]; exact (IntWalk.i64_in _ (by omega)).trans (by omega)
    refine WP.vseq rfl fun K hK => ?_
    refine WP.vseq rfl fun K hK => ?_
    refine WP.vregion rfl rfl fun U => ?_
    simp [go_sem, hb0]
    refine hK _ _ ?_; clear hK K
    refine WP.vcond_f rfl (by simp [go_sem, h0']) ?_
    refine WP.vskip rfl ?_
    simp only [go_sem]
    refine hK _ _ ?_; clear hK K
    refine WP.vseq rfl fun K hK => ?_
    refine WP.vregion rfl rfl fun U => ?_
    simp [go_sem, hb0, hm]
    refine hK _ _ ?_; clear hK K
    refine WP.vseq rfl fun K hK => ?_
    refine WP.vregion rfl rfl fun U => ?_
    simp [go_sem]
    refine hK _ _ ?_; clear hK K
    refine WP.vseq rfl fun K hK => ?_
    refine WP.vseq rfl fun K hK => ?_
    refine WP.vregion rfl rfl fun U => ?_
    simp [go_sem]
    refine (Hash_ok key hk).mono ?_
    rintro r w1 ⟨rfl, hx1⟩
    obtain ⟨H, hH, hw1, hw2⟩ := hashV_half key
    have hw2 := hw2 M (by omega)
    have hst : start T.slots key = H &&& M := by unfold start; rw [hH, hM]; simp
    have hR : findL T.ents T.slots key M (M + 1) (H &&& M) (-1) = R := by rw [← hR0, findM, if_neg h0, hst, hM]; rfl
    simp [go_sem, hw1, hw2]
    clear hst hw1 hw2 hH hR0
    refine hK _ _ ?_; clear hK K
    refine WP.vblock rfl ?_
    refine WP.vloop rfl (fun d L w' => ∃ (i n : Nat) (f : Int) (v2 v10 : Value), L = [.pointer (some ⟨b, 0, none⟩), key.v, v2, .pointer (some ⟨w.heap.size, 0, none⟩), .int .i64 0, .bool false, .int .i64 M, .int .i64 f, .int .i64 i, .int .i64 n, v10] ∧
      d + n = M + 1 ∧ i ≤ M ∧ findL T.ents T.slots key M d i f = R ∧ Ext w w' ∧ Has w' w.heap.size (.cells #[.int .i64 key.k, .int .i64 key.n, .string key.t] 35)) (d := M + 1) ?_ ?_
    · exact ⟨H &&& M, 0, -1, _, _, rfl, rfl, Nat.and_le_right, hR, hx0.trans hx1, hk0.ext hx1⟩
    clear hR hx1 hx0 hb0 hk0
    rintro d L T' U w2 ⟨i, n, f, v2, v10, rfl, hd, hi, hR, hx, hkb⟩ KL hKL
    have hb1 := (hb.ext hx).cell
    have hk1 := hkb.cell
    obtain ⟨g, cap, hsv, _, _, hsc, _⟩ := (hs.ext hx).at_ (by omega)
    simp only [Value.slice.injEq] at hsv
    obtain ⟨rfl, _, rfl⟩ := hsv
    have hwn := wrap_succ (i := n) (by omega)
    have hwi := wrap_succ (i := i) (by omega)
    have hwa := i64_and_nat (i + 1) M (by omega) (by omega)
    simp only [Int.natCast_add, Int.cast_ofNat_Int] at hwa
    refine WP.vseq rfl fun K hK => ?_
    refine WP.vseq rfl fun K hK => ?_
    refine WP.vregion rfl rfl fun U => ?_
    simp [go_sem, hb1]
    refine hK _ _ ?_; clear hK K
    refine WP.vcond (t := _) rfl (by simp [go_sem] <;> rfl) (fun hc => ?_) (fun hc => ?_)
    · simp at hc
      obtain ⟨d, rfl⟩ : ∃ d', d = d' + 1 := ⟨d - 1, by omega⟩
      unfold findL at hR
      refine WP.vskip rfl ?_
      simp only [go_sem]
      refine hK _ _ ?_; clear hK K
      have hi' : i < T.slots.length := by omega
      generalize hs0 : T.slots.getD i 0 = s at hR
      have hcell := hsc _ _ (slots_at hi' hs0)
      have hmem := hok _ (hs0 ▸ slots_mem hi')
      refine WP.vseq rfl fun K hK => ?_
      refine WP.vblock rfl ?_
      refine WP.vseq rfl fun K hK => ?_
      refine WP.vregion rfl rfl fun U => ?_
      simp [go_sem, hb1, hi', hcell]
      refine hK _ _ ?_; clear hK K
      refine WP.vblock rfl ?_
      refine WP.vseq rfl fun K hK => ?_
      refine WP.vregion rfl rfl fun U => ?_
      simp [go_sem]
      refine hK _ _ ?_; clear hK K
      by_cases hs1 : s = 0
      · subst hs1
        refine WP.vcond_t rfl (by simp [go_sem]) ?_
        rw [if_pos rfl] at hR
        refine WP.vseq rfl fun K hK => ?_
        refine WP.vseq rfl fun K hK => ?_
        refine WP.vregion rfl rfl fun U => ?_
        simp [go_sem]
        refine hK _ _ ?_; clear hK K
        by_cases hf0 : f < 0
        · refine WP.vcond_t rfl (by simp [go_sem, hf0]) ?_
          refine WP.vregion rfl rfl fun U => ?_
          simp [go_sem]
          refine hK _ _ ?_; clear hK K
          refine WP.vseq rfl fun K hK => ?_
          refine WP.vregion rfl rfl fun U => ?_
          simp [go_sem]
          refine hK _ _ ?_; clear hK K
          refine WP.vret rfl ?_
          try simp only [thenE_ret, blockE_ret]
          refine ret_done (by simp [go_sem] <;> rfl) ?_
          rw [← hR, if_pos hf0]
          exact ⟨rfl, hx⟩
        · refine WP.vcond_f rfl (by simp [go_sem, hf0] <;> omega) ?_
          refine WP.vskip rfl ?_
          simp only [go_sem]
          refine hK _ _ ?_; clear hK K
          refine WP.vseq rfl fun K hK => ?_
          refine WP.vregion rfl rfl fun U => ?_
          simp [go_sem]
          refine hK _ _ ?_; clear hK K
          refine WP.vret rfl ?_
          try simp only [thenE_ret, blockE_ret]
          refine ret_done (by simp [go_sem] <;> rfl) ?_
          rw [← hR, if_neg hf0]
          exact ⟨rfl, hx⟩
      refine WP.vcond_f rfl (by simp [go_sem, hs1]) ?_
      rw [if_neg hs1] at hR
      refine WP.vseq rfl fun K hK => ?_
      refine WP.vregion rfl rfl fun U => ?_
      simp [go_sem]
      refine hK _ _ ?_; clear hK K
      by_cases hs2 : s = -1
      · subst hs2
        refine WP.vcond_t rfl (by simp [go_sem]) ?_
        rw [if_pos rfl] at hR
        refine WP.vseq rfl fun K hK => ?_
        refine WP.vregion rfl rfl fun U => ?_
        simp [go_sem]
        refine hK _ _ ?_; clear hK K
        by_cases hf0 : f < 0
        · refine WP.vcond_t rfl (by simp [go_sem, hf0]) ?_
          rw [if_pos hf0] at hR
          refine WP.vregion rfl rfl fun U => ?_
          simp [go_sem]
          refine hK _ _ ?_; clear hK K
          refine WP.vregion rfl rfl fun U => ?_
          simp [go_sem, hwi, hwn, hwa]
          exact hKL d _ _ (by omega) ⟨_, n + 1, _, _, _, rfl, by omega, Nat.and_le_right, hR, hx, hkb⟩
        · refine WP.vcond_f rfl (by simp [go_sem, hf0] <;> omega) ?_
          rw [if_neg hf0] at hR
          refine WP.vskip rfl ?_
          simp only [go_sem]
          refine hK _ _ ?_; clear hK K
          refine WP.vregion rfl rfl fun U => ?_
          simp [go_sem, hwi, hwn, hwa]
          exact hKL d _ _ (by omega) ⟨_, n + 1, _, _, _, rfl, by omega, Nat.and_le_right, hR, hx, hkb⟩
      refine WP.vcond_f rfl (by simp [go_sem, hs2]) ?_
      rw [if_neg hs2] at hR
      obtain ⟨j, hj, hjl⟩ : ∃ j : Nat, s = (j : Int) + 1 ∧ j < T.ents.length := ⟨(s - 1).toNat, by omega, by omega⟩
      subst hj
      obtain ⟨x, hxj⟩ : ∃ x, T.ents[j]? = some x := ⟨_, List.getElem?_eq_getElem hjl⟩
      have hkx : keyAt T.ents ((j : Int) + 1) = some x.key := by unfold keyAt; simp [hxj]
      rw [hkx] at hR
      obtain ⟨g', cap', hev, _, _, hec, _⟩ := (he0.ext hx).at_ (by omega)
      simp only [Value.slice.injEq] at hev
      obtain ⟨rfl, _, rfl⟩ := hev
      obtain ⟨e0, e1, e2, _⟩ := ecells_at hxj
      have c0 := hec _ _ e0
      have c1 := hec _ _ e1
      have c2 := hec _ _ e2
      have hwj : IntKind.i64.wrap (j : Int) = (j : Int) := IntWalk.i64_in _ (by omega)
      refine WP.vseq rfl fun K hK => ?_
      refine WP.vdraw rfl (fun w' => w' = w2.drew) 1000 [(0, true), (1, true), (2, true), (3, true), (4, true), (5, true), (6, true), (7, true), (8, true), (9, true), (10, true), (11, true)] (by kernel_rfl) (by kernel_rfl) rfl fun U => ?_
      have hw' : ∀ w' : SW (fun w' => w' = w2.drew), w'.w = w2.drew := fun w' => w'.h
      haveI : Nonempty (SW (fun w' => w' = w2.drew)) := ⟨⟨_, rfl⟩⟩
      simp [go_sem, hw', hb1, hk1, c0, c1, c2, hwj, hjl, run_eq_val]
      refine hK _ _ ?_; clear hK K
      by_cases hkk : x.key = key
      · refine WP.vcond_t rfl (by simp [go_sem, hkk]) ?_
        refine WP.vseq rfl fun K hK => ?_
        refine WP.vregion rfl rfl fun U => ?_
        simp [go_sem]
        refine hK _ _ ?_; clear hK K
        refine WP.vret rfl ?_
        try simp only [thenE_ret, blockE_ret]
        refine ret_done (by simp [go_sem] <;> rfl) ?_
        rw [← hR, if_pos (by rw [hkk])]
        exact ⟨rfl, hx.drew⟩
      · refine WP.vcond_f rfl (by simp [go_sem, hkk]) ?_
        rw [if_neg (by simpa using hkk)] at hR
        refine WP.vskip rfl ?_
        simp only [go_sem]
        refine hK _ _ ?_; clear hK K
        refine WP.vregion rfl rfl fun U => ?_
        simp [go_sem, hwi, hwn, hwa]
        exact hKL d _ _ (by omega) ⟨_, n + 1, _, _, _, rfl, by omega, Nat.and_le_right, hR, hx.drew, hkb.drew⟩
    · simp at hc
      refine WP.vexit rfl ?_
      simp only [go_sem, ↓reduceIte]
      clear hK K
      refine hK _ _ ?_; clear hK K
      refine WP.vseq rfl fun K hK => ?_
      refine WP.vregion rfl rfl fun U => ?_
      simp [go_sem]
      refine hK _ _ ?_; clear hK K
      refine WP.vret rfl ?_
      try simp only [thenE_ret, blockE_ret]
      refine ret_done (by simp [go_sem] <;> rfl) ?_
      have : d = 0 := by omega
      subst this
      rw [← hR]
      exact ⟨rfl, hx⟩
end
end Go.Proofs.Ytephkonhiaingaa

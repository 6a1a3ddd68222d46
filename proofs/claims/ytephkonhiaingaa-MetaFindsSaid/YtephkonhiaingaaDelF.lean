/- slices.DeleteFunc at entries that are gone. -/
import Derived.Test.YtephkonhiaingaaTabW
set_option linter.unusedSimpArgs false
set_option linter.unusedVariables false
namespace Go.Proofs.Ytephkonhiaingaa
open Go Go.RowKit

theorem ecells_take (l : List Ent) (k : Nat) : ecells (l.take k) = (ecells l).take (k * 8) := by
  apply List.ext_getElem?
  intro i
  obtain ⟨q, r, hr, rfl⟩ : ∃ q r, r < 8 ∧ i = q * 8 + r := ⟨i / 8, i % 8, Nat.mod_lt _ (by omega), by omega⟩
  rw [List.getElem?_take, ecells, flatMap_at Ent.cells 8 (fun _ => rfl) r hr, ecells, flatMap_at Ent.cells 8 (fun _ => rfl) r hr, List.getElem?_take]
  by_cases h : q < k
  · rw [if_pos h, if_pos (by omega)]
  · rw [if_neg h, if_neg (by omega)]; rfl
theorem ecells_set {m : List Ent} {k : Nat} (hk : k < m.length) (e : Ent) : ecells (m.set k e) = ((((((((ecells m).set (k * 8) (.int .i64 e.key.k)).set (k * 8 + 1) (.int .i64 e.key.n)).set (k * 8 + 2) (.string e.key.t)).set (k * 8 + 3) (.int .i64 e.val.k)).set (k * 8 + 4) (.int .i64 e.val.n)).set (k * 8 + 5) (.string e.val.t)).set (k * 8 + 6) (.int .i64 e.ser)).set (k * 8 + 7) (.bool e.gone) := by
  have hl : (ecells m).length = m.length * 8 := ecells_length _
  apply List.ext_getElem?
  intro i
  obtain ⟨q, r, hr, rfl⟩ : ∃ q r, r < 8 ∧ i = q * 8 + r := ⟨i / 8, i % 8, Nat.mod_lt _ (by omega), by omega⟩
  simp only [List.getElem?_set, List.length_set, hl]
  rw [ecells, flatMap_at Ent.cells 8 (fun _ => rfl) r hr, ecells, flatMap_at Ent.cells 8 (fun _ => rfl) r hr, set_at hk]
  by_cases hq : k = q
  · subst hq
    rw [if_pos rfl]
    simp only [Option.bind_some]
    have : r = 0 ∨ r = 1 ∨ r = 2 ∨ r = 3 ∨ r = 4 ∨ r = 5 ∨ r = 6 ∨ r = 7 := by omega
    rcases this with rfl | rfl | rfl | rfl | rfl | rfl | rfl | rfl <;> simp [Ent.cells] <;> omega
  · rw [if_neg hq, if_neg (by omega), if_neg (by omega), if_neg (by omega), if_neg (by omega), if_neg (by omega), if_neg (by omega), if_neg (by omega), if_neg (by omega)]

section
variable {w w' : World} {v : Value} {l : List Ent} {F F' : Nat → Prop}

theorem gone_ok (e : Ent) : Ret Try.prog 100 #[.agg #[.int .i64 e.key.k, .int .i64 e.key.n, .string e.key.t, .int .i64 e.val.k, .int .i64 e.val.n, .string e.val.t, .int .i64 e.ser, .bool e.gone]] w
    fun r w' => r = .bool e.gone ∧ Ext w w' := by
  refine ret_E (n := 5) (S := [0, 1, 2]) 2 Try.func100 rfl rfl rfl rfl ?_
  refine WP.vseq rfl fun K hK => ?_
  refine WP.vregion rfl rfl fun U => ?_
  simp [go_sem]
  refine hK _ _ ?_; clear hK K
  refine WP.vseq rfl fun K hK => ?_
  refine WP.vregion rfl rfl fun U => ?_
  simp [go_sem]
  refine hK _ _ ?_; clear hK K
  refine WP.vret rfl ?_
  try simp only [thenE_ret, blockE_ret]
  refine ret_done (by simp [go_sem] <;> rfl) ?_
  exact ⟨rfl, (Ext.refl _).alloc _⟩

set_option maxRecDepth 4000 in
theorem index_ok (h : Own w 116 8 v l.length (ecells l) F) (hl : l.length ≤ 1000000000) :
    Ret Try.prog 115 #[v, .func (.func 100) #[] #[]] w
      fun r w' => (∃ r0 : Int, r = .int .i64 r0 ∧ ((r0 = -1 ∧ ∀ e ∈ l, e.gone = false) ∨ ∃ (i : Nat) (e : Ent), r0 = i ∧ l[i]? = some e ∧ e.gone = true ∧ ∀ e ∈ l.take i, e.gone = false)) ∧ Ext w w' := by
  obtain ⟨A, c, rfl⟩ := h.len
  refine ret_E (n := 19) (S := [0, 1, 2, 3, 4, 5, 6, 7, 8]) 7 Try.func115 rfl rfl rfl rfl ?_
  refine WP.vseq rfl fun K hK => ?_
  refine WP.vregion rfl rfl fun U => ?_
  simp [go_sem]
  refine hK _ _ ?_; clear hK K
  refine WP.vseq rfl fun K hK => ?_
  refine WP.vseq rfl fun K hK => ?_
  refine WP.vregion rfl rfl fun U => ?_
  simp [go_sem]
  refine hK _ _ ?_; clear hK K
  refine WP.vblock rfl ?_
  refine WP.vloop rfl (fun d L w' => ∃ (i : Nat) (v2 v3 v4 v5 : Value), L = [.slice A l.length c, .func (.func 100) #[] #[], v2, v3, v4, v5, .slice A l.length c, .int .i64 l.length, .int .i64 i] ∧ i + d = l.length ∧ (∀ e ∈ l.take i, e.gone = false) ∧ Ext w w') (d := l.length) ?_ ?_  -- LOOP
  · exact ⟨0, _, _, _, _, rfl, Nat.zero_add _, by simp, Ext.refl _⟩
  rintro d L T' U w1 ⟨i, v2, v3, v4, v5, rfl, hi, hall, hx⟩ KL hKL
  have hwr := wrap_succ (i := i) (by omega)
  refine WP.vseq rfl fun K hK => ?_
  refine WP.vregion rfl rfl fun U => ?_
  simp [go_sem]
  refine hK _ _ ?_; clear hK K
  refine WP.vseq rfl fun K hK => ?_
  refine WP.vcond (t := _) rfl (by simp [go_sem] <;> rfl) (fun hc => ?_) (fun hc => ?_)
  · simp at hc
    refine WP.vskip rfl ?_
    simp only [go_sem]
    refine hK _ _ ?_; clear hK K
    obtain ⟨e, he⟩ : ∃ e, l[i]? = some e := ⟨_, List.getElem?_eq_getElem hc⟩
    obtain ⟨g, cap, hv, _, _, hec, _⟩ := (h.ext hx).at_ (by omega)
    simp only [Value.slice.injEq] at hv
    obtain ⟨rfl, _, rfl⟩ := hv
    obtain ⟨e0, e1, e2, e3, e4, e5, e6, e7⟩ := ecells_at he
    have c0 := hec _ _ e0; have c1 := hec _ _ e1; have c2 := hec _ _ e2; have c3 := hec _ _ e3; have c4 := hec _ _ e4; have c5 := hec _ _ e5; have c6 := hec _ _ e6; have c7 := hec _ _ e7
    refine WP.vseq rfl fun K hK => ?_
    refine WP.vblock rfl ?_
    refine WP.vseq rfl fun K hK => ?_
    refine WP.vregion rfl rfl fun U => ?_
    simp [go_sem]
    refine hK _ _ ?_; clear hK K
    refine WP.vseq rfl fun K hK => ?_
    refine WP.vregion rfl rfl fun U => ?_
    simp [go_sem, hc, c0, c1, c2, c3, c4, c5, c6, c7]
    refine (gone_ok e).mono ?_
    rintro r w2 ⟨rfl, hx2⟩
    try simp [go_sem]
    refine hK _ _ ?_; clear hK K
    cases hg : e.gone with
    | true =>
      refine WP.vcond_t rfl (by simp [go_sem]) ?_
      refine WP.vseq rfl fun K hK => ?_
      refine WP.vregion rfl rfl fun U => ?_
      simp [go_sem]
      refine hK _ _ ?_; clear hK K
      refine WP.vret rfl ?_
      try simp only [thenE_ret, blockE_ret]
      refine ret_done (by simp [go_sem] <;> rfl) ?_
      exact ⟨⟨i, rfl, .inr ⟨i, e, rfl, he, hg, hall⟩⟩, hx.trans hx2⟩
    | false =>
      refine WP.vcond_f rfl (by simp [go_sem]) ?_
      refine WP.vskip rfl ?_
      simp only [go_sem]
      refine hK _ _ ?_; clear hK K
      refine WP.vregion rfl rfl fun U => ?_
      simp [go_sem, hwr]
      refine hKL (d - 1) _ _ (by omega) ⟨i + 1, _, _, _, _, rfl, by omega, fun x hx => ?_, hx.trans hx2⟩
      rw [List.take_add_one, he] at hx
      rcases List.mem_append.1 hx with hx | hx
      · exact hall x hx
      · simp at hx; rw [hx]; exact hg
  · simp at hc
    refine WP.vexit rfl ?_
    simp only [go_sem, ↓reduceIte]
    clear hK K
    refine hK _ _ ?_; clear hK K
    refine WP.vseq rfl fun K hK => ?_
    refine WP.vregion rfl rfl fun U => ?_
    simp [go_sem]
    refine hK _ _ ?_; clear hK K
    refine WP.vret rfl ?_
    try simp only [thenE_ret, blockE_ret]
    refine ret_done (by simp [go_sem] <;> rfl) ?_
    have : i = l.length := by omega
    subst this
    rw [List.take_length] at hall
    exact ⟨⟨-1, rfl, .inl ⟨rfl, hall⟩⟩, hx⟩

set_option maxRecDepth 4000 in
theorem delete_ok (h : Own w 116 8 v l.length (ecells l) F) (hl : l.length ≤ 1000000000) :
    Ret Try.prog 99 #[v, .func (.func 100) #[] #[]] w
      fun r w' => Own w' 116 8 r (l.filter fun e => !e.gone).length (ecells (l.filter fun e => !e.gone)) F ∧ Chg F w w' := by
  obtain ⟨A, c, rfl⟩ := h.len
  refine ret_E (n := 42) (S := [0, 1, 2, 3, 4, 5, 6, 7]) 6 Try.func99 rfl rfl rfl rfl ?_
  refine WP.vseq rfl fun K hK => ?_
  refine WP.vregion rfl rfl fun U => ?_
  simp [go_sem]
  refine hK _ _ ?_; clear hK K
  refine WP.vseq rfl fun K hK => ?_
  refine WP.vregion rfl rfl fun U => ?_
  simp [go_sem]
  refine (index_ok h hl).mono ?_
  rintro r w1 ⟨⟨r0, rfl, hr⟩, hx1⟩
  try simp [go_sem]
  refine hK _ _ ?_; clear hK K
  refine WP.vseq rfl fun K hK => ?_
  refine WP.vseq rfl fun K hK => ?_
  refine WP.vregion rfl rfl fun U => ?_
  simp [go_sem]
  refine hK _ _ ?_; clear hK K
  rcases hr with ⟨rfl, hall⟩ | ⟨i, ei, rfl, hei, heg, hall⟩
  · refine WP.vcond_t rfl (by simp [go_sem]) ?_
    refine WP.vseq rfl fun K hK => ?_
    refine WP.vregion rfl rfl fun U => ?_
    simp [go_sem]
    refine hK _ _ ?_; clear hK K
    refine WP.vret rfl ?_
    try simp only [thenE_ret, blockE_ret]
    refine ret_done (by simp [go_sem] <;> rfl) ?_
    have : (l.filter fun e => !e.gone) = l := List.filter_eq_self.2 fun e he => by simp [hall e he]
    rw [this]
    exact ⟨h.ext hx1, hx1.mono fun _ _ h => h.elim⟩
  · have hi : i < l.length := (List.getElem?_eq_some_iff.1 hei).1
    refine WP.vcond_f rfl (by simp [go_sem]) ?_
    refine WP.vskip rfl ?_
    simp only [go_sem]
    refine hK _ _ ?_; clear hK K
    have hwi := wrap_succ (i := i) (by omega)
    refine WP.vseq rfl fun K hK => ?_
    refine WP.vseq rfl fun K hK => ?_
    refine WP.vregion rfl rfl fun U => ?_
    simp [go_sem, hwi]
    refine hK _ _ ?_; clear hK K
    refine WP.vblock rfl ?_
    have hstart : (l.take (i + 1)).filter (fun e => !e.gone) = l.take i := by
      rw [List.take_add_one, hei, List.filter_append, List.filter_eq_self.2 (fun e he => by simp [hall e he])]
      simp [heg]
    refine WP.vloop rfl (fun d L w' => ∃ (k j : Nat) (m : List Ent) (v2 v3 v4 v7 : Value), L = [.slice A l.length c, .func (.func 100) #[] #[], v2, v3, v4, .int .i64 k, .int .i64 j, v7] ∧ j + d = l.length ∧ k < j ∧ m.length = l.length ∧
      (l.take j).filter (fun e => !e.gone) = m.take k ∧ (∀ q, j ≤ q → m[q]? = l[q]?) ∧ Own w' 116 8 (.slice A l.length c) l.length (ecells m) F ∧ Chg F w w') (d := l.length - (i + 1)) ?_ ?_  -- LOOP
    · exact ⟨i, i + 1, l, _, _, _, _, rfl, by omega, by omega, rfl, hstart, fun _ _ => rfl, h.ext hx1, hx1.mono fun _ _ h => h.elim⟩
    clear hstart hwi
    rintro d L T' U w2 ⟨k, j, m, v2, v3, v4, v7, rfl, hj, hkj, hm, hfl, hdr, hown, hx⟩ KL hKL
    have hwj := wrap_succ (i := j) (by omega)
    have hwk := wrap_succ (i := k) (by omega)
    refine WP.vseq rfl fun K hK => ?_
    refine WP.vseq rfl fun K hK => ?_
    refine WP.vregion rfl rfl fun U => ?_
    simp [go_sem]
    refine hK _ _ ?_; clear hK K
    refine WP.vcond (t := _) rfl (by simp [go_sem] <;> rfl) (fun hc => ?_) (fun hc => ?_)
    · simp at hc
      refine WP.vskip rfl ?_
      simp only [go_sem]
      refine hK _ _ ?_; clear hK K
      obtain ⟨e, he⟩ : ∃ e, m[j]? = some e := ⟨_, List.getElem?_eq_getElem (by omega)⟩
      obtain ⟨g, cap, hv, hFg, hgl, hec, hfz⟩ := hown.at_ (by omega)
      simp only [Value.slice.injEq] at hv
      obtain ⟨rfl, _, rfl⟩ := hv
      obtain ⟨e0, e1, e2, e3, e4, e5, e6, e7⟩ := ecells_at he
      have c0 := hec _ _ e0; have c1 := hec _ _ e1; have c2 := hec _ _ e2; have c3 := hec _ _ e3; have c4 := hec _ _ e4; have c5 := hec _ _ e5; have c6 := hec _ _ e6; have c7 := hec _ _ e7
      refine WP.vseq rfl fun K hK => ?_
      refine WP.vblock rfl ?_
      refine WP.vseq rfl fun K hK => ?_
      refine WP.vregion rfl rfl fun U => ?_
      simp [go_sem, hc, c0, c1, c2, c3, c4, c5, c6, c7]
      refine hK _ _ ?_; clear hK K
      refine WP.vseq rfl fun K hK => ?_
      refine WP.vregion rfl rfl fun U => ?_
      simp [go_sem]
      refine (gone_ok e).mono ?_
      rintro r w3 ⟨rfl, hx3⟩
      try simp [go_sem]
      refine hK _ _ ?_; clear hK K
      have hbox := (Has.new w2 (.cells #[.int .i64 e.key.k, .int .i64 e.key.n, .string e.key.t, .int .i64 e.val.k, .int .i64 e.val.n, .string e.val.t, .int .i64 e.ser, .bool e.gone] 116)).ext hx3
      have hx3' := ((Ext.refl w2).alloc _).trans hx3
      have hown3 := hown.ext hx3'
      have hx4 : Chg F w w3 := hx.trans hx3'
      have hle : l[j]? = some e := (hdr j (Nat.le_refl _)).symm.trans he
      cases hg : e.gone with
      | false =>
        refine WP.vcond_t rfl (by simp [go_sem]) ?_
        have hbc := hbox.cell
        obtain ⟨cur, hcur⟩ := hown3.blk (g := g) rfl
        have hfr := hcur.frozen
        have hcells : ∀ q, q < l.length * 8 → ∃ u, w3.cell? ⟨g, q, none⟩ = some u := by
          intro q hq
          obtain ⟨g', cap', hv', _, _, hec', _⟩ := hown3.at_ (by omega)
          simp only [Value.slice.injEq, Option.some.injEq, Addr.mk.injEq] at hv'
          obtain ⟨⟨rfl, _⟩, _⟩ := hv'
          have hq' : q < (ecells m).length := by rw [ecells_length, hm]; exact hq
          exact ⟨_, hec' q _ (List.getElem?_eq_getElem hq')⟩
        obtain ⟨u0, d0⟩ := hcells (k * 8) (by omega)
        obtain ⟨u1, d1⟩ := hcells (k * 8 + 1) (by omega)
        obtain ⟨u2, d2⟩ := hcells (k * 8 + 2) (by omega)
        obtain ⟨u3, d3⟩ := hcells (k * 8 + 3) (by omega)
        obtain ⟨u4, d4⟩ := hcells (k * 8 + 4) (by omega)
        obtain ⟨u5, d5⟩ := hcells (k * 8 + 5) (by omega)
        obtain ⟨u6, d6⟩ := hcells (k * 8 + 6) (by omega)
        obtain ⟨u7, d7⟩ := hcells (k * 8 + 7) (by omega)
        have hkl : k < l.length := by omega
        refine WP.vseq rfl fun K hK => ?_
        refine WP.vregion rfl rfl fun U => ?_
        simp [go_sem, hbc, hfr, d0, d1, d2, d3, d4, d5, d6, d7, hkl]
        refine hK _ _ ?_; clear hK K
        refine WP.vregion rfl rfl fun U => ?_
        simp [go_sem, hwk]
        refine hK _ _ ?_; clear hK K
        refine WP.vregion rfl rfl fun U => ?_
        simp [go_sem, hwj]
        refine hKL (d - 1) _ _ (by omega) ⟨k + 1, j + 1, m.set k e, _, _, _, _, rfl, by omega, by omega, by simpa using hm, ?_, ?_, ?_, ?_⟩
        · rw [List.take_add_one, hle, List.filter_append, hfl, List.take_add_one, List.take_set_of_le (Nat.le_refl k), List.getElem?_set, if_pos rfl, if_pos (by omega)]
          simp [hg]
        · intro q hq
          rw [List.getElem?_set, if_neg (by omega)]
          exact hdr q (by omega)
        · rw [ecells_set (by omega)]
          exact (((((((hown3.put (by omega) _).put (by omega) _).put (by omega) _).put (by omega) _).put (by omega) _).put (by omega) _).put (by omega) _).put (by omega) _
        · have hF : g < w.heap.size → F g := fun _ => hFg
          exact (((((((hx4.setCell (a := ⟨g, k * 8, none⟩) hF _).setCell (a := ⟨g, k * 8 + 1, none⟩) hF _).setCell (a := ⟨g, k * 8 + 2, none⟩) hF _).setCell (a := ⟨g, k * 8 + 3, none⟩) hF _).setCell (a := ⟨g, k * 8 + 4, none⟩) hF _).setCell (a := ⟨g, k * 8 + 5, none⟩) hF _).setCell (a := ⟨g, k * 8 + 6, none⟩) hF _).setCell (a := ⟨g, k * 8 + 7, none⟩) hF _
      | true =>
        refine WP.vcond_f rfl (by simp [go_sem]) ?_
        refine WP.vskip rfl ?_
        simp only [go_sem]
        refine hK _ _ ?_; clear hK K
        refine WP.vregion rfl rfl fun U => ?_
        simp [go_sem, hwj]
        refine hKL (d - 1) _ _ (by omega) ⟨k, j + 1, m, _, _, _, _, rfl, by omega, by omega, hm, ?_, fun q hq => hdr q (by omega), hown3, hx4⟩
        rw [List.take_add_one, hle, List.filter_append, hfl]
        simp [hg]
    · simp at hc
      refine WP.vexit rfl ?_
      simp only [go_sem, ↓reduceIte]
      clear hK K
      refine hK _ _ ?_; clear hK K
      have : j = l.length := by omega
      subst this
      rw [List.take_length] at hfl
      obtain ⟨g, cap, hv, hFg, hgl, hec, hfz⟩ := hown.at_ (by omega)
      have hcl := hown.cap_le
      simp only [Value.slice.injEq] at hv
      obtain ⟨rfl, _, rfl⟩ := hv
      have h1 : k ≤ l.length := by omega
      have h2 : ¬ c = k := by omega
      refine WP.vseq rfl fun K hK => ?_
      refine WP.vregion rfl rfl fun U => ?_
      simp [go_sem, h1, h2]
      have hz : ∀ w, (zeroValue 116).run Try.prog w = .ok (.agg #[.int .i64 0, .int .i64 0, .string ⟨#[]⟩, .int .i64 0, .int .i64 0, .string ⟨#[]⟩, .int .i64 0, .bool false]) w := fun w => by kernel_rfl
      have hcl' := run_clear (P := Try.prog) (w := w2) (ty := 0) Try.underlying110 hz (by decide) g (k * 8) (l.length - k) (c - k) (by omega)
        (by
          intro q hq
          have hq : q < (l.length - k) * 8 := hq
          have hq' : k * 8 + q < (ecells m).length := by rw [ecells_length]; omega
          rw [hec _ _ (List.getElem?_eq_getElem hq')]; rfl)
        (fun q _ => hfz _)
      simp [go_sem, hcl']
      refine hK _ _ ?_; clear hK K
      refine WP.vseq rfl fun K hK => ?_
      have h3 : k ≤ c := by omega
      refine WP.vregion rfl rfl fun U => ?_
      simp [go_sem, h3]
      refine hK _ _ ?_; clear hK K
      refine WP.vret rfl ?_
      try simp only [thenE_ret, blockE_ret]
      refine ret_done (by simp [go_sem] <;> rfl) ?_
      rw [hfl]
      have hlk : (m.take k).length = k := by rw [List.length_take]; omega
      rw [hlk]
      have := (hown.shrink h1).tails (Builtin.zeroCells (#[.int .i64 0, .int .i64 0, .string ⟨#[]⟩, .int .i64 0, .int .i64 0, .string ⟨#[]⟩, .int .i64 0, .bool false]) (l.length - k)).toList (k * 8) _ (Nat.le_refl _)
      refine ⟨?_, ?_⟩
      · rw [ecells_take]; exact this
      · exact hx.setCells _ _ fun _ => hFg
end
end Go.Proofs.Ytephkonhiaingaa

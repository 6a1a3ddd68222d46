/- layout's Make: the fields of an instance are the members that aren't called. -/
import Derived.Test.YtephkonhiaingaaLay
set_option linter.unusedSimpArgs false
set_option linter.unusedVariables false
namespace Go.Proofs.Ytephkonhiaingaa
open Go Go.RowKit

section
variable {w w' w0 : World} {b h k i : Nat} {F F' G : Nat → Prop} {D : Dict} {H : HeapM} {l : List Part} {c : CellM} {key val : Val}

/-- The members that aren't called, put into a table one by one. -/
def fieldsH (H : HeapM) (l : List Item) : Dict := l.foldl (fun D x => if methodH H x.val then D else D.put x.key x.val) Dict.empty

theorem put_serial (D : Dict) (key val : Val) : (D.put key val).serial ≤ D.serial + 1 := by
  unfold Dict.put
  split
  · show D.serial ≤ D.serial + 1; omega
  · exact Int.le_refl _
theorem fields_snoc (H : HeapM) (l : List Item) (x : Item) : fieldsH H (l ++ [x]) = if methodH H x.val then fieldsH H l else (fieldsH H l).put x.key x.val := by
  unfold fieldsH; rw [List.foldl_append]; rfl
theorem foldl_serial (H : HeapM) : ∀ (l : List Item) (D : Dict), (l.foldl (fun D x => if methodH H x.val then D else D.put x.key x.val) D).serial ≤ D.serial + l.length
  | [], D => by simp
  | x :: l, D => by
    rw [List.foldl_cons]
    refine Int.le_trans (foldl_serial H l _) ?_
    have := put_serial D x.key x.val
    simp only [List.length_cons]
    split <;> omega
theorem fields_serial (H : HeapM) (l : List Item) : (fieldsH H l).serial ≤ l.length := by
  have := foldl_serial H l Dict.empty
  simpa [fieldsH, Dict.empty] using this

theorem TRep.sorted (h : TRep w b D F) : D.items.Pairwise (fun a b => a.ser < b.ser) ∧ ∀ x ∈ D.items, 1 ≤ x.ser := by
  obtain ⟨T, _, hi, hD, _⟩ := h
  rw [← hD]
  constructor
  · unfold itemsOf
    rw [List.pairwise_map]
    exact hi.ser.filter _
  · intro x hx
    obtain ⟨e, he, _, rfl⟩ := mem_itemsOf.1 hx
    exact (hi.serle e he).1
theorem next_split {done rest : List Item} {cur : Int} (hD : D.items = done ++ rest) (hd : ∀ x ∈ done, x.ser ≤ cur) (hr : ∀ x ∈ rest, cur < x.ser) : D.next cur = rest.head? := by
  unfold Dict.next
  rw [hD, List.find?_append]
  have : done.find? (fun x => decide (cur < x.ser)) = none := by
    rw [List.find?_eq_none]
    intro x hx
    have := hd x hx
    simp; omega
  rw [this, Option.none_or]
  cases rest with
  | nil => rfl
  | cons x r => rw [List.find?_cons]; have := hr x (by simp); simp [this]

set_option maxRecDepth 4000 in
set_option maxHeartbeats 2000000 in
theorem lMake_ok (h0 : HRep w h H F) (hlim : H.live < H.limit) (hc : H.cells[i]? = some (some c)) (hkd : c.kind = 3) (ht : c.table = some (b, D)) (hser : D.serial ≤ 100000000) (hlen : D.items.length < 1000000)
    (hkeys : ∀ x ∈ D.items, x.key.k ≠ 0 ∧ x.key.t.size ≤ 1000000000) :
    Ret Try.prog 41 #[.pointer (some ⟨h, 0, none⟩), (vRef i).v] w fun r w' =>
      ∃ ad tb, r = .tuple #[(vRef (H.alloc (instCell ad tb (fieldsH H D.items) (vRef i))).2).v, .int .i64 0] ∧ HRep w' h (H.alloc (instCell ad tb (fieldsH H D.items) (vRef i))).1 (fun x => F x ∨ w.heap.size ≤ x) ∧ Chg F w w' := by
  obtain ⟨hin, _⟩ := List.getElem?_eq_some_iff.1 hc
  have hof : ofH H (vRef i) 3 = (some c, 0) := by
    unfold ofH getH
    rw [if_neg (by simp), if_neg (by simp only; omega)]
    simp [hc, hkd]
  obtain ⟨Ft0, vv0, nv0, _, hT0, _⟩ := h0.focusT hc ht
  obtain ⟨hsort, hone⟩ := hT0.sorted
  clear hT0
  have hS := St.start1 (p := heapP h H) h0
  refine ret_E (n := 62) (S := [0, 1, 2, 3, 4, 5, 6, 7, 8, 9, 10, 11, 12, 13, 14]) 13 Try.func41 rfl rfl rfl rfl ?_
  refine WP.vseq rfl fun K hK => ?_
  refine WP.vregion rfl rfl fun U => ?_
  simp [go_sem]
  refine hK _ _ ?_; clear hK K
  replace hS := hS.alloc2 (vObj (vRef i)) (vObj vNull)
  change WP _ _ _ _ _ _ ((w.alloc (vObj (vRef i))).alloc (vObj vNull))
  generalize hn : w.heap.size = n at hS ⊢
  generalize (w.alloc (vObj (vRef i))).alloc (vObj vNull) = w1 at hS ⊢
  have h1c := hS.cell (k := 1) rfl
  refine WP.vseq rfl fun K hK => ?_
  refine WP.vregion rfl rfl fun U => ?_
  simp [go_sem, h1c]
  refine ((hOf_ok (hS.part (k := 0) rfl) (vRef i) 3).keep hS).mono ?_
  rw [hof]
  rintro r w2 ⟨rfl, hS⟩
  clear h1c
  try simp [go_sem]
  refine hK _ _ ?_; clear hK K
  refine WP.vseq rfl fun K hK => ?_
  refine WP.vseq rfl fun K hK => ?_
  refine WP.vregion rfl rfl fun U => ?_
  simp [go_sem]
  refine hK _ _ ?_; clear hK K
  refine WP.vcond_f rfl (by simp [go_sem]) ?_
  refine WP.vskip rfl ?_
  simp only [go_sem]
  refine hK _ _ ?_; clear hK K
  refine WP.vseq rfl fun K hK => ?_
  refine WP.vregion rfl rfl fun U => ?_
  simp [go_sem]
  refine (tNew_ok.makes (tableP _ _) hS).mono ?_
  rintro r w3 ⟨rfl, hS⟩
  try simp [go_sem]
  refine hK _ _ ?_; clear hK K
  generalize w2.heap.size = fb at hS ⊢
  refine WP.vseq rfl fun K hK => ?_
  refine WP.vseq rfl fun K hK => ?_
  refine WP.vregion rfl rfl fun U => ?_
  simp [go_sem]
  refine hK _ _ ?_; clear hK K
  refine WP.vblock rfl ?_
  refine WP.vloop rfl (fun d L w' => ∃ (done rest : List Item) (cur : Int) (v10 v11 v12 v13 v14 : Value), L = [.pointer (some ⟨h, 0, none⟩), (vRef i).v, undef, .pointer (some ⟨n, 0, none⟩), .pointer (some ⟨n + 1, 0, none⟩), .int .i64 0, cptr (some c), .int .i64 0, .pointer (some ⟨fb, 0, none⟩), .int .i64 cur, v10, v11, v12, v13, v14] ∧
      D.items = done ++ rest ∧ d = rest.length ∧ (∀ x ∈ done, x.ser ≤ cur) ∧ (∀ x ∈ rest, cur < x.ser) ∧
      St w F [heapP h H, box n (vObj (vRef i)), box (n + 1) (vObj vNull), tableP fb (fieldsH H done)] w') (d := D.items.length) ?_ ?_
  · exact ⟨[], D.items, 0, _, _, _, _, _, rfl, rfl, rfl, fun x h => by simp at h, fun x h => by have := hone x h; omega, hS⟩
  clear hS
  rintro d L T U w4 ⟨done, rest, cur, v10, v11, v12, v13, v14, rfl, hD, rfl, hdone, hrest, hS⟩ KL hKL
  obtain ⟨Ft, vv, nv, hCh, hT, _⟩ := (hS.part (k := 0) rfl).focusT hc ht
  have hcc := hCh.cell
  refine WP.vblock rfl ?_
  refine WP.vseq rfl fun K hK => ?_
  refine WP.vregion rfl rfl fun U => ?_
  simp [go_sem, hcc, cptr]
  refine ((tNext_ok hT hser).keep hS).mono ?_
  rintro r w5 ⟨rfl, hS⟩
  have hnx := next_split hD hdone hrest
  cases rest with
  | nil =>
    rw [show nextG D cur = (cur, vNull, vNull, false) by unfold nextG; rw [hnx]; rfl]
    try simp [go_sem]
    refine hK _ _ ?_; clear hK K
    replace hS := hS.alloc2 (vObj vNull) (vObj vNull)
    change WP _ _ _ _ _ _ ((w5.alloc (vObj vNull)).alloc (vObj vNull))
    generalize w5.heap.size = n11 at hS ⊢
    generalize (w5.alloc (vObj vNull)).alloc (vObj vNull) = w6 at hS ⊢
    refine WP.vseq rfl fun K hK => ?_
    refine WP.vseq rfl fun K hK => ?_
    refine WP.vregion rfl rfl fun U => ?_
    simp [go_sem]
    refine hK _ _ ?_; clear hK K
    refine WP.vcond_t rfl (by simp [go_sem]) ?_
    refine WP.vexit rfl ?_
    simp only [go_sem, ↓reduceIte]
    clear hK K
    refine hK _ _ ?_; clear hK K
    rw [List.append_nil] at hD
    have h1c := hS.cell (k := 1) rfl
    refine WP.vseq rfl fun K hK => ?_
    refine WP.vregion rfl rfl fun U => ?_
    simp [go_sem, h1c]
    have hv : Rd (w6.alloc (vObj (vRef i))) (.slice (some ⟨w6.heap.size, 0, none⟩) 1 1) [vRef i].length 3 (vcells [vRef i]) := Rd.top rfl rfl
    refine (allocTS (hS.alloc (vObj (vRef i))) (k := 0) (j := 3) rfl rfl (by decide) (by decide) (by decide) hlim hv (nums := []) (Rd.nil _ _ _) (by simp) (by simp)).mono ?_
    rintro r w7 ⟨ad, rfl, hS⟩
    try simp [go_sem]
    refine hK _ _ ?_; clear hK K
    rw [← hD] at hS ⊢
    refine WP.vseq rfl fun K hK => ?_
    refine WP.vseq rfl fun K hK => ?_
    refine WP.vregion rfl rfl fun U => ?_
    simp [go_sem]
    refine hK _ _ ?_; clear hK K
    refine WP.vcond_f rfl (by simp [go_sem]) ?_
    refine WP.vskip rfl ?_
    simp only [go_sem]
    refine hK _ _ ?_; clear hK K
    refine WP.vseq rfl fun K hK => ?_
    refine WP.vregion rfl rfl fun U => ?_
    simp [go_sem]
    refine ((Ref_ok _ _).keep hS).mono ?_
    rintro r w8 ⟨rfl, hS⟩
    have h2f := hS.frozen (k := 2) rfl
    have h2c := hS.cell (k := 2) rfl
    try simp [go_sem, h2f, h2c]
    replace hS := hS.put3 (k := 2) rfl (vRef (H.alloc (instCell ad fb (fieldsH H D.items) (vRef i))).2)
    refine hK _ _ ?_; clear hK K
    have r2 := hS.cell (k := 2) rfl
    refine WP.vret rfl ?_
    try simp only [thenE_ret, blockE_ret]
    refine ret_done (by simp [go_sem, r2] <;> rfl) ?_
    subst hn
    exact ⟨ad, fb, rfl, hS.part (k := 0) rfl, hS.chg⟩
  | cons x rest =>
    rw [show nextG D cur = (x.ser, x.key, x.val, true) by unfold nextG; rw [hnx]; rfl]
    try simp [go_sem]
    refine hK _ _ ?_; clear hK K
    replace hS := hS.alloc2 (vObj x.key) (vObj x.val)
    change WP _ _ _ _ _ _ ((w5.alloc (vObj x.key)).alloc (vObj x.val))
    generalize w5.heap.size = n11 at hS ⊢
    generalize (w5.alloc (vObj x.key)).alloc (vObj x.val) = w6 at hS ⊢
    have hD' : D.items = (done ++ [x]) ++ rest := by rw [hD]; simp
    have hd' : ∀ y ∈ done ++ [x], y.ser ≤ x.ser := by
      intro y hy
      rcases List.mem_append.1 hy with hy | hy
      · have := hdone y hy; have := hrest x (by simp); omega
      · simp at hy; subst hy; exact Int.le_refl _
    have hr' : ∀ y ∈ rest, x.ser < y.ser := by
      intro y hy
      rw [hD, List.pairwise_append] at hsort
      exact (List.pairwise_cons.1 hsort.2.1).1 y hy
    have hxm : x ∈ D.items := by rw [hD]; simp
    obtain ⟨hxk, hxs⟩ := hkeys x hxm
    have hfs : (fieldsH H done).serial < 1000000 := by
      have := fields_serial H done
      have : done.length ≤ D.items.length := by rw [hD]; simp
      omega
    refine WP.vseq rfl fun K hK => ?_
    refine WP.vseq rfl fun K hK => ?_
    refine WP.vregion rfl rfl fun U => ?_
    simp [go_sem]
    refine hK _ _ ?_; clear hK K
    refine WP.vcond_f rfl (by simp [go_sem]) ?_
    refine WP.vskip rfl ?_
    simp only [go_sem]
    refine hK _ _ ?_; clear hK K
    refine WP.vseq rfl fun K hK => ?_
    refine WP.vregion rfl rfl fun U => ?_
    simp [go_sem]
    refine hK _ _ ?_; clear hK K
    have h4c := hS.cell (k := 4) rfl
    have h5c := hS.cell (k := 5) rfl
    refine WP.vseq rfl fun K hK => ?_
    refine WP.vregion rfl rfl fun U => ?_
    simp [go_sem, h5c]
    refine ((lMethod_ok (hS.part (k := 0) rfl) x.val).keep hS).mono ?_
    rintro r w7 ⟨rfl, hS⟩
    clear h4c h5c
    have h4c := hS.cell (k := 4) rfl
    have h5c := hS.cell (k := 5) rfl
    try simp [go_sem]
    refine hK _ _ ?_; clear hK K
    cases hm : methodH H x.val with
    | true =>
      refine WP.vcond_f rfl (by simp [go_sem]) ?_
      refine WP.vskip rfl ?_
      simp only [go_sem]
      refine hKL rest.length _ _ (by simp) ⟨done ++ [x], rest, x.ser, _, _, _, _, _, rfl, hD', rfl, hd', hr', ?_⟩
      rw [fields_snoc, if_pos hm]
      exact hS.less 4
    | false =>
      refine WP.vcond_t rfl (by simp [go_sem]) ?_
      refine WP.vregion rfl rfl fun U => ?_
      simp [go_sem, h4c, h5c]
      refine (Ret.turns (tableP fb ((fieldsH H done).put x.key x.val)) hS (k := 3) rfl fun F' hp => put_ok hp hfs hxk hxs).mono ?_
      rintro r w8 ⟨rfl, hS⟩
      try simp [go_sem]
      refine hKL rest.length _ _ (by simp) ⟨done ++ [x], rest, x.ser, _, _, _, _, _, rfl, hD', rfl, hd', hr', ?_⟩
      rw [fields_snoc, if_neg (by simp [hm])]
      exact hS.less 4
end
end Go.Proofs.Ytephkonhiaingaa

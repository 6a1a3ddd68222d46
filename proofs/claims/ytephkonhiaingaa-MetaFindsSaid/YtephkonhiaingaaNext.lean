/- sort.Search, and a table's Next. -/
import Derived.Test.YtephkonhiaingaaStH
set_option linter.unusedSimpArgs false
set_option linter.unusedVariables false
namespace Go.Proofs.Ytephkonhiaingaa
open Go Go.RowKit

section
variable {w w' : World} {b h : Nat} {F F' : Nat → Prop} {D : Dict}

abbrev nextF (b2 b3 : Nat) : Value := .func (.func 108) #[] #[.pointer (some ⟨b2, 0, none⟩), .pointer (some ⟨b3, 0, none⟩)]

set_option maxRecDepth 4000 in
theorem nextc_ok {tb b2 b3 j : Nat} {c : Int} {T : TabL} {e : Ent} (hT : TLow w tb T F) (h2 : Has w b2 (.cells #[.pointer (some ⟨tb, 0, none⟩)] 42)) (h3 : Has w b3 (.cells #[.int .i64 c] 2))
    (hl : T.ents.length ≤ 1000000000) (he : T.ents[j]? = some e) :
    Ret Try.prog 108 #[.int .i64 j, .pointer (some ⟨b2, 0, none⟩), .pointer (some ⟨b3, 0, none⟩)] w fun r w' => r = .bool (decide (c < e.ser)) ∧ Ext w w' := by
  obtain ⟨ev, sv, hX⟩ := hT.open
  have hjl : j < T.ents.length := (List.getElem?_eq_some_iff.1 he).1
  obtain ⟨g, cap, rfl, _, _, hec, _⟩ := hX.ents.at_ (by omega)
  obtain ⟨_, _, _, _, _, _, e6, _⟩ := ecells_at he
  have c6 := hec _ _ e6
  have hbc := hX.has.cell
  have h2c := h2.cell
  have h3c := h3.cell
  refine ret_E (n := 15) (S := [0, 1, 2, 3, 4]) 2 Try.func108 rfl rfl rfl rfl ?_
  refine WP.vseq rfl fun K hK => ?_
  refine WP.vregion rfl rfl fun U => ?_
  simp [go_sem]
  refine hK _ _ ?_; clear hK K
  have hww : ∀ w' : SW (fun w' => w' = w.drew), w'.w = w.drew := fun w' => w'.h
  haveI : Nonempty (SW (fun w' => w' = w.drew)) := ⟨⟨_, rfl⟩⟩
  refine WP.vseq rfl fun K hK => ?_
  refine WP.vdraw rfl (fun w' => w' = w.drew) 1000 [(0, true), (1, true), (2, true), (3, true), (4, true), (5, true), (6, true), (7, true), (8, true), (9, true), (10, true)] (by kernel_rfl) (by kernel_rfl) rfl fun U => ?_
  simp [go_sem, hww, hbc, h2c, h3c, c6, hjl]
  refine hK _ _ ?_; clear hK K
  refine WP.vret rfl ?_
  try simp only [thenE_ret, blockE_ret]
  refine ret_done (by simp [go_sem] <;> rfl) ?_
  exact ⟨rfl, (Ext.refl _).drew⟩

set_option maxRecDepth 4000 in
theorem search_ok {n b2 b3 : Nat} {p : Nat → Bool} (hn : n ≤ 1000000000) (mono : ∀ i j, i ≤ j → j < n → p i = true → p j = true)
    (hc : ∀ (j : Nat), j < n → ∀ w', Ext w w' → Ret Try.prog 108 #[.int .i64 j, .pointer (some ⟨b2, 0, none⟩), .pointer (some ⟨b3, 0, none⟩)] w' fun r w'' => r = .bool (p j) ∧ Ext w' w'') :
    Ret Try.prog 107 #[.int .i64 n, nextF b2 b3] w fun r w' => (∃ k : Nat, r = .int .i64 k ∧ k ≤ n ∧ (∀ i, i < k → p i = false) ∧ ∀ i, k ≤ i → i < n → p i = true) ∧ Ext w w' := by
  refine ret_E (n := 26) (S := [0, 1, 2, 3, 4, 5, 6, 7]) 6 Try.func107 rfl rfl rfl rfl ?_
  refine WP.vseq rfl fun K hK => ?_
  refine WP.vregion rfl rfl fun U => ?_
  simp [go_sem]
  refine hK _ _ ?_; clear hK K
  refine WP.vseq rfl fun K hK => ?_
  refine WP.vregion rfl rfl fun U => ?_
  simp [go_sem]
  refine hK _ _ ?_; clear hK K
  refine WP.vseq rfl fun K hK => ?_
  refine WP.vblock rfl ?_
  refine WP.vloop rfl (fun d L w' => ∃ (lo hi : Nat) (v2 v3 v7 : Value), L = [.int .i64 n, nextF b2 b3, v2, v3, .int .i64 0, .int .i64 lo, .int .i64 hi, v7] ∧ lo + d = hi ∧ hi ≤ n ∧ (∀ i, i < lo → p i = false) ∧ (∀ i, hi ≤ i → i < n → p i = true) ∧ Ext w w') (d := n) ?_ ?_
  · exact ⟨0, n, _, _, _, rfl, Nat.zero_add _, Nat.le_refl _, fun i h => by omega, fun i h h' => by omega, Ext.refl _⟩
  rintro d L T U w1 ⟨lo, hi, v2, v3, v7, rfl, hd, hhi, hlo, hup, hx⟩ KL hKL
  refine WP.vseq rfl fun K hK => ?_
  refine WP.vseq rfl fun K hK => ?_
  refine WP.vregion rfl rfl fun U => ?_
  simp [go_sem]
  refine hK _ _ ?_; clear hK K
  by_cases hlt : lo < hi
  · refine WP.vcond_t rfl (by simp [go_sem, hlt]) ?_
    refine WP.vskip rfl ?_
    simp only [go_sem]
    refine hK _ _ ?_; clear hK K
    refine WP.vblock rfl ?_
    have hw1 : IntKind.i64.wrap ((lo : Int) + (hi : Int)) = (lo : Int) + (hi : Int) := IntWalk.i64_in _ (by omega)
    have hw2 : IntKind.u64.wrap ((lo : Int) + (hi : Int)) = (lo : Int) + (hi : Int) := IntWalk.u64_in _ (by omega)
    obtain ⟨m, hm⟩ : ∃ m : Nat, m = (lo + hi) / 2 := ⟨_, rfl⟩
    have hdiv : ((lo : Int) + (hi : Int)) / 2 = (m : Int) := by omega
    have hw3 : IntKind.i64.wrap (m : Int) = (m : Int) := IntWalk.i64_in _ (by omega)
    have hw4 := wrap_succ (i := m) (by omega)
    refine WP.vseq rfl fun K hK => ?_
    refine WP.vregion rfl rfl fun U => ?_
    simp [go_sem, hw1, hw2, hdiv, hw3]
    refine hK _ _ ?_; clear hK K
    refine WP.vseq rfl fun K hK => ?_
    refine WP.vregion rfl rfl fun U => ?_
    simp [go_sem]
    refine (hc m (by omega) w1 hx).mono ?_
    rintro r w2 ⟨rfl, hx2⟩
    try simp [go_sem]
    refine hK _ _ ?_; clear hK K
    cases hp : p m with
    | false =>
      refine WP.vcond_t rfl (by simp [go_sem]) ?_
      refine WP.vregion rfl rfl fun U => ?_
      simp [go_sem, hw4]
      refine hKL (hi - (m + 1)) _ _ (by omega) ⟨m + 1, hi, _, _, _, rfl, by omega, hhi, fun i h => ?_, hup, hx.trans hx2⟩
      cases hpi : p i with
      | false => rfl
      | true => rw [mono i m (by omega) (by omega) hpi] at hp; cases hp
    | true =>
      refine WP.vcond_f rfl (by simp [go_sem]) ?_
      refine WP.vregion rfl rfl fun U => ?_
      simp [go_sem]
      refine hKL (m - lo) _ _ (by omega) ⟨lo, m, _, _, _, rfl, by omega, by omega, hlo, fun i h h' => mono m i h h' hp, hx.trans hx2⟩
  · refine WP.vcond_f rfl (by simp [go_sem] <;> omega) ?_
    refine WP.vexit rfl ?_
    simp only [go_sem, ↓reduceIte]
    clear hK K
    refine hK _ _ ?_; clear hK K
    refine WP.vseq rfl fun K hK => ?_
    refine WP.vregion rfl rfl fun U => ?_
    simp [go_sem]
    refine hK _ _ ?_; clear hK K
    refine WP.vret rfl ?_
    try simp only [thenE_ret, blockE_ret]
    refine ret_done (by simp [go_sem] <;> rfl) ?_
    have : lo = hi := by omega
    subst this
    exact ⟨⟨lo, rfl, hhi, hlo, hup⟩, hx⟩

theorem add_top (g m : Nat) : (⟨g, 0, none⟩ : Addr).add m = ⟨g, m, none⟩ := by
  unfold Addr.add
  split
  · rename_i h; subst h; rfl
  · simp
abbrev eObj (e : Ent) : Obj := .cells #[.int .i64 e.key.k, .int .i64 e.key.n, .string e.key.t, .int .i64 e.val.k, .int .i64 e.val.n, .string e.val.t, .int .i64 e.ser, .bool e.gone] 116

/-- What a cursor comes to. -/
def nextG (D : Dict) (c : Int) : Int × Val × Val × Bool := match D.next c with
  | some x => (x.ser, x.key, x.val, true)
  | none => (c, vNull, vNull, false)

theorem next_at {l : List Ent} {c : Int} {k : Nat} (hs : l.Pairwise (fun a b => a.ser < b.ser)) (h1 : ∀ i e, i < k → l[i]? = some e → e.ser ≤ c) (h2 : ∀ i e, k ≤ i → l[i]? = some e → c < e.ser) {i : Nat} (hi : k ≤ i)
    (hg : ∀ j e, k ≤ j → j < i → l[j]? = some e → e.gone = true) :
    (∀ e, l[i]? = some e → e.gone = false → (itemsOf l).find? (fun x => c < x.ser) = some e.item) ∧ (l.length ≤ i → (itemsOf l).find? (fun x => c < x.ser) = none) := by
  have hfil : ∀ (m : List Ent), (itemsOf m).find? (fun x => c < x.ser) = (m.find? fun e => !e.gone && decide (c < e.ser)).map Ent.item := by
    intro m
    unfold itemsOf
    rw [List.find?_map, List.find?_filter]
    congr 2
    funext e
    by_cases hc : c < e.ser <;> cases hg : e.gone <;> simp [Ent.item, hg, hc]
  rw [hfil]
  constructor
  · intro e he hge
    have : l.find? (fun e => !e.gone && decide (c < e.ser)) = some e := by
      rw [List.find?_eq_some_iff_getElem]
      obtain ⟨hlt, hgi⟩ := List.getElem?_eq_some_iff.1 he
      refine ⟨by simp [hge, h2 i e hi he], i, hlt, hgi, fun j hj => ?_⟩
      have hje : l[j]? = some l[j] := List.getElem?_eq_getElem (by omega)
      rcases Nat.lt_or_ge j k with hjk | hjk
      · have := h1 j _ hjk hje
        simp; right; omega
      · simp [hg j _ hjk hj hje]
    rw [this]; rfl
  · intro hlen
    have : l.find? (fun e => !e.gone && decide (c < e.ser)) = none := by
      rw [List.find?_eq_none]
      intro e he
      obtain ⟨j, hj⟩ := List.getElem?_of_mem he
      have hjl := (List.getElem?_eq_some_iff.1 hj).1
      rcases Nat.lt_or_ge j k with hjk | hjk
      · have := h1 j _ hjk hj
        simp; intro _; omega
      · simp [hg j _ hjk (by omega) hj]
    rw [this]; rfl

set_option maxRecDepth 4000 in
set_option maxHeartbeats 1000000 in
theorem tNext_ok {c : Int} (h : TRep w b D F) (hser : D.serial ≤ 100000000) :
    Ret Try.prog 74 #[.pointer (some ⟨b, 0, none⟩), .int .i64 c] w fun r w' =>
      r = .tuple #[.int .i64 (nextG D c).1, (nextG D c).2.1.v, (nextG D c).2.2.1.v, .bool (nextG D c).2.2.2] ∧ Ext w w' := by
  obtain ⟨T, hT, hi, hD, hs⟩ := h
  obtain ⟨hb1, hb2⟩ := hi.bounds (by omega)
  obtain ⟨ev, sv, hX⟩ := hT.open
  refine ret_E (n := 42) (S := [0, 1, 2, 3, 4, 5, 6, 7, 8, 9, 10, 23, 24, 25]) 12 Try.func74 rfl rfl rfl rfl ?_
  refine WP.vseq rfl fun K hK => ?_
  refine WP.vregion rfl rfl fun U => ?_
  simp [go_sem]
  refine hK _ _ ?_; clear hK K
  have hS := ((St.start w (fun _ => False)).alloc4 (.cells #[.pointer (some ⟨b, 0, none⟩)] 42) (.cells #[.int .i64 c] 2) (vObj vNull) (vObj vNull))
  change WP _ _ _ _ _ _ ((((w.alloc (.cells #[.pointer (some ⟨b, 0, none⟩)] 42)).alloc (.cells #[.int .i64 c] 2)).alloc (vObj vNull)).alloc (vObj vNull))
  generalize w.heap.size = n at hS ⊢
  generalize ((((w.alloc (.cells #[.pointer (some ⟨b, 0, none⟩)] 42)).alloc (.cells #[.int .i64 c] 2)).alloc (vObj vNull)).alloc (vObj vNull)) = w1 at hS ⊢
  obtain ⟨A, cap, rfl⟩ := hX.ents.len
  have hbc := (hX.has.ext hS.chg).cell
  have h0c := hS.cell (k := 0) rfl
  have h1c := hS.cell (k := 1) rfl
  refine WP.vseq rfl fun K hK => ?_
  refine WP.vregion rfl rfl fun U => ?_
  simp [go_sem, hbc, h0c, h1c]
  have hbl : ∀ (i : Nat) (e : Ent), T.ents[i]? = some e → T.ents[i]?.isSome = true := fun i e h => by rw [h]; rfl
  refine (search_ok (p := fun i => match T.ents[i]? with | some e => decide (c < e.ser) | none => true) hb2 (fun i j hij hj hpi => ?_) (fun j hj w' hx' => ?_)).mono ?_
  · have hje : T.ents[j]? = some T.ents[j] := List.getElem?_eq_getElem hj
    have hie : T.ents[i]? = some T.ents[i] := List.getElem?_eq_getElem (by omega)
    simp only [hie, hje, decide_eq_true_eq] at hpi ⊢
    rcases Nat.lt_or_ge i j with h | h
    · have := List.pairwise_iff_getElem.1 hi.ser i j (by omega) hj h
      omega
    · have : i = j := by omega
      subst this; exact hpi
  · have hje : T.ents[j]? = some T.ents[j] := List.getElem?_eq_getElem hj
    simp only [hje]
    exact nextc_ok (hT.ext (hS.chg.trans hx')) ((hS.has (k := 0) rfl).ext hx') ((hS.has (k := 1) rfl).ext hx') hb2 hje
  rintro r w2 ⟨⟨k, rfl, hkl, hk1, hk2⟩, hx2⟩
  replace hS := hS.ext hx2
  have hk1' : ∀ i e, i < k → T.ents[i]? = some e → e.ser ≤ c := fun i e h he => by have := hk1 i h; simp only [he, decide_eq_false_iff_not] at this; omega
  have hk2' : ∀ i e, k ≤ i → T.ents[i]? = some e → c < e.ser := fun i e h he => by have := hk2 i h (List.getElem?_eq_some_iff.1 he).1; simp only [he, decide_eq_true_eq] at this; exact this
  clear hk1 hk2 hbl hx2 hbc h0c h1c
  try simp [go_sem]
  refine hK _ _ ?_; clear hK K
  have hbc := (hX.has.ext hS.chg).cell
  have h0c := hS.cell (k := 0) rfl
  have hkl' : (k : Int) ≤ (T.ents.length : Int) := by omega
  have hcap := hX.ents.cap_le
  refine WP.vseq rfl fun K hK => ?_
  refine WP.vseq rfl fun K hK => ?_
  refine WP.vregion rfl rfl fun U => ?_
  simp [go_sem, hbc, h0c, hkl, hkl', hcap]
  obtain ⟨A', hA'⟩ : ∃ A', A' = (if cap = k then A else Option.map (fun x => x.add (k * 8)) A) := ⟨_, rfl⟩
  rw [← hA']
  refine hK _ _ ?_; clear hK K
  refine WP.vblock rfl ?_
  clear hbc h0c
  refine WP.vloop rfl (fun d L w' => ∃ (i : Nat) (v9 v10 : Value), L = [.pointer (some ⟨b, 0, none⟩), .int .i64 c, .pointer (some ⟨n, 0, none⟩), .pointer (some ⟨n + 1, 0, none⟩), .int .i64 0, .pointer (some ⟨n + 1 + 1, 0, none⟩), .pointer (some ⟨n + 1 + 1 + 1, 0, none⟩), .bool false,
      .int .i64 k, v9, v10, .slice A' (T.ents.length - k) (cap - k), .int .i64 ((T.ents.length - k : Nat) : Int), .int .i64 i] ∧ i + d = T.ents.length - k ∧ (∀ j e, k ≤ j → j < k + i → T.ents[j]? = some e → e.gone = true) ∧
      St w (fun _ => False) [box n (.cells #[.pointer (some ⟨b, 0, none⟩)] 42), box (n + 1) (.cells #[.int .i64 c] 2), box (n + 1 + 1) (vObj vNull), box (n + 1 + 1 + 1) (vObj vNull)] w') (d := T.ents.length - k) ?_ ?_
  · exact ⟨0, _, _, rfl, Nat.zero_add _, fun j e h1 h2 => by omega, hS⟩
  clear hS
  rintro d L Tm U w3 ⟨i, v9, v10, rfl, hd, hgone, hS⟩ KL hKL
  have hwi := wrap_succ (i := i) (by omega)
  refine WP.vseq rfl fun K hK => ?_
  refine WP.vregion rfl rfl fun U => ?_
  simp [go_sem]
  refine hK _ _ ?_; clear hK K
  refine WP.vseq rfl fun K hK => ?_
  by_cases hlt : i < T.ents.length - k
  · refine WP.vcond_t rfl (by simp [go_sem, hlt] <;> omega) ?_
    refine WP.vskip rfl ?_
    simp only [go_sem]
    refine hK _ _ ?_; clear hK K
    obtain ⟨e, he⟩ : ∃ e, T.ents[k + i]? = some e := ⟨_, List.getElem?_eq_getElem (by omega)⟩
    obtain ⟨g, cap', hv, _, _, hec, _⟩ := (hX.ents.ext hS.chg).at_ (by omega)
    simp only [Value.slice.injEq] at hv
    obtain ⟨rfl, _, rfl⟩ := hv
    rw [if_neg (by omega)] at hA'
    simp only [Option.map_some, add_top] at hA'
    subst hA'
    obtain ⟨e0, e1, e2, e3, e4, e5, e6, e7⟩ := ecells_at he
    have hki : (k + i) * 8 = k * 8 + i * 8 := Nat.add_mul _ _ _
    rw [hki] at e0 e1 e2 e3 e4 e5 e6 e7
    have c0 := hec _ _ e0; have c1 := hec _ _ e1; have c2 := hec _ _ e2; have c3 := hec _ _ e3; have c4 := hec _ _ e4; have c5 := hec _ _ e5; have c6 := hec _ _ e6; have c7 := hec _ _ e7
    refine WP.vseq rfl fun K hK => ?_
    refine WP.vblock rfl ?_
    refine WP.vseq rfl fun K hK => ?_
    refine WP.vregion rfl rfl fun U => ?_
    simp [go_sem, c0, c1, c2, c3, c4, c5, c6, c7, hlt]
    refine hK _ _ ?_; clear hK K
    change WP _ _ _ _ _ _ (w3.alloc (eObj e))
    clear e0 e1 e2 e3 e4 e5 e6 e7 c0 c1 c2 c3 c4 c5 c6 c7 hec
    replace hS := hS.alloc (eObj e)
    generalize w3.heap.size = n5 at hS ⊢
    generalize w3.alloc (eObj e) = w4 at hS ⊢
    have h4c := hS.cell (k := 4) rfl
    refine WP.vseq rfl fun K hK => ?_
    refine WP.vregion rfl rfl fun U => ?_
    simp [go_sem, h4c]
    refine hK _ _ ?_; clear hK K
    cases hg : e.gone with
    | false =>
      refine WP.vcond_t rfl (by simp [go_sem]) ?_
      have hfin := (next_at hi.ser hk1' hk2' (i := k + i) (by omega) hgone).1 e he hg
      have hnx : nextG D c = (e.ser, e.key, e.val, true) := by
        unfold nextG Dict.next
        rw [← hD, hfin]; rfl
      have h4 := hS.has (k := 4) rfl
      have hcc : ∀ w' : SW (fun w' => Has w' n5 (eObj e)), ∀ i, w'.w.cell? ⟨n5, i, none⟩ = #[.int .i64 e.key.k, .int .i64 e.key.n, .string e.key.t, .int .i64 e.val.k, .int .i64 e.val.n, .string e.val.t, .int .i64 e.ser, .bool e.gone][i]? := fun w' => w'.h.cell
      haveI : Nonempty (SW (fun w' => Has w' n5 (eObj e))) := ⟨⟨_, h4⟩⟩
      have h2f := hS.frozen (k := 2) rfl
      have h2c := hS.cell (k := 2) rfl
      have hS2 := hS.put3 (k := 2) rfl e.key
      have h3f := hS2.frozen (k := 3) rfl
      have h3c := hS2.cell (k := 3) rfl
      have hS3 := hS2.put3 (k := 3) rfl e.val
      refine WP.vseq rfl fun K hK => ?_
      refine WP.vdraw rfl (fun w' => Has w' n5 (eObj e)) 1000 [(0, true), (1, true), (2, true), (3, true), (4, true), (5, true), (6, true), (7, false), (8, false), (9, true)] (by kernel_rfl) (by kernel_rfl) h4 fun U => ?_
      simp [go_sem, hcc, h2f, h2c, h3f, h3c]
      refine ⟨(hS2.has (k := 4) rfl).drew, ?_⟩
      refine ⟨(hS3.has (k := 4) rfl).drew, ?_⟩
      refine hK _ _ ?_; clear hK K
      have r2 := hS3.drew.cell (k := 2) rfl
      have r3 := hS3.drew.cell (k := 3) rfl
      refine WP.vret rfl ?_
      try simp only [thenE_ret, blockE_ret]
      refine ret_done (by simp [go_sem, r2, r3] <;> rfl) ?_
      exact ⟨by rw [hnx], hS3.chg.drew⟩
    | true =>
      refine WP.vcond_f rfl (by simp [go_sem]) ?_
      refine WP.vskip rfl ?_
      simp only [go_sem]
      refine hK _ _ ?_; clear hK K
      refine WP.vregion rfl rfl fun U => ?_
      simp [go_sem, hwi]
      refine hKL (T.ents.length - k - (i + 1)) _ _ (by omega) ⟨i + 1, _, _, rfl, by omega, fun j e' h1 h2 h3 => ?_, hS.less 4⟩
      rcases Nat.lt_or_ge j (k + i) with h | h
      · exact hgone j e' h1 h h3
      · have : j = k + i := by omega
        subst this
        rw [he] at h3; cases h3; exact hg
  · refine WP.vcond_f rfl (by simp [go_sem] <;> omega) ?_
    refine WP.vexit rfl ?_
    simp only [go_sem, ↓reduceIte]
    clear hK K
    refine hK _ _ ?_; clear hK K
    have hnx : nextG D c = (c, vNull, vNull, false) := by
      unfold nextG Dict.next
      rw [← hD, (next_at hi.ser hk1' hk2' (i := k + i) (by omega) hgone).2 (by omega)]
    have h1 := hS.has (k := 1) rfl
    have h1c : ∀ w' : SW (fun w' => Has w' (n + 1) (.cells #[.int .i64 c] 2)), ∀ i, w'.w.cell? ⟨n + 1, i, none⟩ = #[.int .i64 c][i]? := fun w' => w'.h.cell
    haveI : Nonempty (SW (fun w' => Has w' (n + 1) (.cells #[.int .i64 c] 2))) := ⟨⟨_, h1⟩⟩
    refine WP.vseq rfl fun K hK => ?_
    refine WP.vdraw rfl (fun w' => Has w' (n + 1) (.cells #[.int .i64 c] 2)) 1000 [(0, true), (1, false), (2, false), (3, true), (4, false), (5, false), (6, true)] (by kernel_rfl) (by kernel_rfl) h1 fun U => ?_
    simp [go_sem, h1c]
    refine (Null_ok _).mono ?_
    rintro r w5 ⟨rfl, hx5⟩
    replace hS := hS.drew.ext hx5
    try simp [go_sem]
    refine ⟨hS.has (k := 1) rfl, ?_⟩
    refine (Null_ok _).mono ?_
    rintro r w6 ⟨rfl, hx6⟩
    replace hS := hS.ext hx6
    have h2f := hS.frozen (k := 2) rfl
    have h2c := hS.cell (k := 2) rfl
    have hS2 := hS.put3 (k := 2) rfl vNull
    have h3f := hS2.frozen (k := 3) rfl
    have h3c := hS2.cell (k := 3) rfl
    have hS3 := hS2.put3 (k := 3) rfl vNull
    try simp [go_sem, h1c, h2f, h2c, h3f, h3c]
    refine ⟨hS.has (k := 1) rfl, ?_⟩
    try simp [go_sem, h1c, h2f, h2c, h3f, h3c]
    refine ⟨hS2.has (k := 1) rfl, hS3.has (k := 1) rfl, ?_⟩
    refine hK _ _ ?_; clear hK K
    have r2 := hS3.cell (k := 2) rfl
    have r3 := hS3.cell (k := 3) rfl
    refine WP.vret rfl ?_
    try simp only [thenE_ret, blockE_ret]
    refine ret_done (by simp [go_sem, r2, r3] <;> rfl) ?_
    exact ⟨by rw [hnx], hS3.chg⟩
end
end Go.Proofs.Ytephkonhiaingaa

/- A table laid anew. -/
import Derived.Test.YtephkonhiaingaaDelF
import Derived.Deep.OwnRows
set_option linter.unusedSimpArgs false
set_option linter.unusedVariables false
namespace Go.Proofs.Ytephkonhiaingaa
open Go Go.RowKit

section
variable {w w' : World} {b : Nat} {T : TabL} {F F' : Nat → Prop}

theorem Own.self {v : Value} {n s e : Nat} {cs : List Value} (h : Own w e s v n cs F) : Own w e s v n cs (fun g => v.ownBlock = some g) := ⟨h.1, fun g hg => hg⟩
theorem Own.keep {v : Value} {n s e : Nat} {cs : List Value} (h : Own w e s v n cs F) (hx : Chg F' w w') (hd : ∀ g, v.ownBlock = some g → ¬ F' g) : Own w' e s v n cs F := ⟨(h.self.chg hx hd).1, h.2⟩
theorem TX.of {ev sv x0 : Value} (hin : F b) (hb : Has w b (.cells #[x0, sv, .int .i64 T.live, .int .i64 T.used, .int .i64 T.serial] 112 (0, 0))) (he : Own w 116 8 ev T.ents.length (ecells T.ents) F) (hs : Own w 3 1 sv T.slots.length (ints T.slots) F) :
    TX (w.setCell ⟨b, 0, none⟩ ev) b ev sv T F :=
  ⟨hin, by simpa using hb.setCell 0 ev, he.far (he.ne hb (by decide)) _, hs.far (hs.ne hb (by decide)) _⟩

theorem madeInts (n : Nat) : madeCells #[Value.int .i64 0] n = Array.replicate n (.int .i64 0) := by
  apply Array.toList_inj.1
  rw [toList_madeCells_one]
  simp

theorem run_makeInts (n : Nat) (hn : n ≤ 1000000000) (w : World) :
    (Instr.makeSlice 29 (.int .i64 (n : Int)) (.int .i64 (n : Int))).run Try.prog w = .ok (.slice (some ⟨w.heap.size, 0, none⟩) n n) (w.alloc (.cells (Array.replicate n (.int .i64 0)) 3)) := by
  rw [run_make_row' 29 3 (.int .i64 0) 8 Try.underlying29 info_int rfl .i64 .i64 n (by omega) (by omega) w, madeInts]

theorem Own.fresh {e s : TypeId} {cs : List Value} {n : Nat} (hs : 0 < s) (h : cs.length = n * s) (hn : n ≤ 1000000000000) : Own (w.alloc (.cells cs.toArray e)) e s (.slice (some ⟨w.heap.size, 0, none⟩) n n) n cs (fun b => b = w.heap.size) := by
  refine ⟨⟨h, .inr ⟨w.heap.size, n, cs.toArray, rfl, Nat.zero_le _, Has.new w _, Nat.le_refl _, app_le (le_app hn), by simpa using h, ?_⟩⟩, fun g hg => by simpa [Value.ownBlock] using hg.symm⟩
  simp only [List.toList_toArray]
  exact List.take_of_length_le (by omega)

theorem Own.freshInts (n : Nat) (hn : n ≤ 1000000000) : Own (w.alloc (.cells (Array.replicate n (.int .i64 0)) 3)) 3 1 (.slice (some ⟨w.heap.size, 0, none⟩) n n) (List.replicate n (0 : Int)).length (ints (List.replicate n 0)) (fun b => b = w.heap.size) := by
  have h := Own.fresh (w := w) (e := 3) (s := 1) (n := n) (cs := ints (List.replicate n 0)) Nat.one_pos (by simp) (Nat.le_trans hn (by decide))
  have e : (ints (List.replicate n 0)).toArray = Array.replicate n (Value.int .i64 0) := by simp [ints]
  rw [e] at h
  simpa using h
theorem SInv.slotsOk {ents : List Ent} {slots : List Int} {pr : Nat → Prop} (h : SInv ents slots pr) {l u s : Int} : SlotsOk ⟨ents, slots, l, u, s⟩ := by
  intro x hx
  obtain ⟨i, hi'⟩ := List.mem_iff_getElem?.1 hx
  rcases h.slot i x hi' with h' | h' | ⟨j, hj, _, hl⟩
  · exact .inl h'
  · exact .inr (.inl h')
  · exact .inr (.inr ⟨by omega, by simp only; omega⟩)
theorem filter_keys {l : List Ent} {pr : Nat → Prop} (hi : TInv T) (hl : (T.ents.filter fun e => !e.gone) = l) {j j' : Nat} {e e' : Ent} (he : l[j]? = some e) (he' : l[j']? = some e') (hk : e.key = e'.key) : j = j' := by
  have hs := hi.ser
  have hpw : l.Pairwise (fun a b => a.ser < b.ser) := hl ▸ hs.filter _
  have hm := List.mem_of_getElem? he
  have hm' := List.mem_of_getElem? he'
  rw [← hl, List.mem_filter] at hm hm'
  obtain ⟨a, ha⟩ := List.mem_iff_getElem?.1 hm.1
  obtain ⟨a', ha'⟩ := List.mem_iff_getElem?.1 hm'.1
  have := hi.nodup ha ha' (by simpa using hm.2) (by simpa using hm'.2) hk
  subst this
  rw [ha] at ha'
  injection ha' with ha'
  subst ha'
  rcases Nat.lt_trichotomy j j' with h | h | h
  · have hj := (List.getElem?_eq_some_iff.1 he).1
    have hj' := (List.getElem?_eq_some_iff.1 he').1
    have := List.pairwise_iff_getElem.1 hpw j j' hj hj' h
    rw [List.getElem?_eq_getElem hj] at he; rw [List.getElem?_eq_getElem hj'] at he'
    injection he with he; injection he' with he'
    rw [he, he'] at this
    omega
  · exact h
  · have hj := (List.getElem?_eq_some_iff.1 he).1
    have hj' := (List.getElem?_eq_some_iff.1 he').1
    have := List.pairwise_iff_getElem.1 hpw j' j hj' hj h
    rw [List.getElem?_eq_getElem hj] at he; rw [List.getElem?_eq_getElem hj'] at he'
    injection he with he; injection he' with he'
    rw [he, he'] at this
    omega
theorem itemsOf_filter (l : List Ent) : itemsOf (l.filter fun e => !e.gone) = itemsOf l := by
  unfold itemsOf; rw [List.filter_filter]; simp
theorem live_filter (l : List Ent) : Live (l.filter fun e => !e.gone) = fun j => j < (l.filter fun e => !e.gone).length := by
  funext j
  apply propext
  unfold Live
  constructor
  · rintro ⟨e, he, _⟩; exact (List.getElem?_eq_some_iff.1 he).1
  · intro h
    refine ⟨_, List.getElem?_eq_getElem h, ?_⟩
    have := List.getElem_mem h
    rw [List.mem_filter] at this
    simpa using this.2
theorem filter_len (l : List Ent) : (itemsOf l).length = (l.filter fun e => !e.gone).length := by unfold itemsOf; rw [List.length_map]

/-- A table whose slots are all told anew. -/
theorem TInv.anew (h : TInv T) {slots : List Int} (hs : SInv (T.ents.filter fun e => !e.gone) slots (fun j => j < (T.ents.filter fun e => !e.gone).length))
    (hc : slots.countP (· ≠ 0) ≤ (T.ents.filter fun e => !e.gone).length) (hsz : 2 * (T.live + 1) ≤ slots.length) (hsz2 : (slots.length : Int) ≤ 4 * (T.live + 1)) :
    TInv ⟨T.ents.filter fun e => !e.gone, slots, T.live, T.live, T.serial⟩ ∧ 4 * (T.live + 1) ≤ 3 * (slots.length : Int) := by
  have hl := h.live
  rw [filter_len] at hl
  have hlen := h.len
  have hfl : (T.ents.filter fun e => !e.gone).length ≤ T.ents.length := List.length_filter_le _ _
  refine ⟨⟨.inr (by rw [live_filter]; exact hs), by simp only; rw [itemsOf_filter]; exact h.live, by simp only; omega, by simp only; omega, ?_, ?_, h.ser0, by simp only; omega, ?_⟩, by omega⟩
  · exact h.ser.filter _
  · intro e he; exact h.serle e (List.mem_filter.1 he).1
  · intro e he; exact h.kb e (List.mem_filter.1 he).1

set_option maxRecDepth 4000 in
set_option maxHeartbeats 1000000 in
theorem rehash_ok (h : TLow w b T F) (hi : TInv T) (hser : T.serial ≤ 100000000) :
    Ret Try.prog 62 #[.pointer (some ⟨b, 0, none⟩)] w fun r w' => ∃ T', TLow w' b T' (fun x => F x ∨ w.heap.size ≤ x) ∧ TInv T' ∧ itemsOf T'.ents = itemsOf T.ents ∧ T'.serial = T.serial ∧
      4 * (T'.used + 1) ≤ 3 * (T'.slots.length : Int) ∧ Chg F w w' := by
  obtain ⟨ev, sv, hX⟩ := h.open
  obtain ⟨hb1, hb2⟩ := hi.bounds hser
  have hlive := hi.live
  rw [filter_len] at hlive
  have hfl : (T.ents.filter fun e => !e.gone).length ≤ T.ents.length := List.length_filter_le _ _
  have hlen := hi.len
  generalize hl : (T.ents.filter fun e => !e.gone) = l at hlive hfl
  have hbl := h.in_
  refine ret_E (n := 64) (S := [0, 1, 2, 3, 4, 5, 41, 42, 43]) 8 Try.func62 rfl rfl rfl rfl ?_
  refine WP.vseq rfl fun K hK => ?_
  refine WP.vregion rfl rfl fun U => ?_
  simp [go_sem]
  refine hK _ _ ?_; clear hK K
  refine WP.vseq rfl fun K hK => ?_
  refine WP.vblock rfl ?_
  have hbc := hX.has.cell
  refine WP.vloop rfl (fun d L w' => ∃ (k : Nat) (v1 v3 v4 v5 v41 v42 v43 : Value), L = [.pointer (some ⟨b, 0, none⟩), v1, .int .i64 ((2 ^ (k + 2) : Nat) : Int), v3, v4, v5, v41, v42, v43] ∧ d + 2 ^ (k + 2) = 4 * (l.length + 1) ∧ w' = w) (d := 4 * l.length) ?_ ?_  -- LOOP
  · exact ⟨0, _, _, _, _, _, _, _, rfl, by omega, rfl⟩
  rintro d L T' U w1 ⟨k, v1, v3, v4, v5, v41, v42, v43, rfl, hd, rfl⟩ KL hKL
  generalize hP : 2 ^ (k + 2) = P at hd
  have hw1 : IntKind.i64.wrap (2 * (P : Int)) = 2 * (P : Int) := IntWalk.i64_in _ (by omega)
  have hw2 : IntKind.i64.wrap ((l.length : Int) + 1) = (l.length : Int) + 1 := IntWalk.i64_in _ (by omega)
  have hw3 : IntKind.i64.wrap (4 * ((l.length : Int) + 1)) = 4 * ((l.length : Int) + 1) := IntWalk.i64_in _ (by omega)
  have hw4 : IntKind.i64.wrap ((P : Int) * 2) = (P : Int) * 2 := IntWalk.i64_in _ (by omega)
  refine WP.vseq rfl fun K hK => ?_
  refine WP.vseq rfl fun K hK => ?_
  refine WP.vregion rfl rfl fun U => ?_
  simp [go_sem, hbc, hlive, hw1, hw2, hw3]
  refine hK _ _ ?_; clear hK K
  by_cases hc : 2 * P < 4 * (l.length + 1)
  · have hc' : 2 * (P : Int) < 4 * ((l.length : Int) + 1) := by omega
    refine WP.vcond_t rfl (by simp [go_sem, hc']) ?_
    refine WP.vskip rfl ?_
    simp only [go_sem]
    refine hK _ _ ?_; clear hK K
    refine WP.vblock rfl ?_
    refine WP.vregion rfl rfl fun U => ?_
    simp [go_sem, hw4]
    have e : 2 ^ (k + 1 + 2) = P * 2 := by rw [← hP, ← Nat.pow_succ]
    exact hKL (d - P) _ _ (by have : 0 < P := (by rw [← hP]; exact Nat.pow_pos (by omega)); omega) ⟨k + 1, _, _, _, _, _, _, _, by rw [e]; rfl, by omega, rfl⟩
  · have hc' : ¬ (2 * (P : Int) < 4 * ((l.length : Int) + 1)) := by omega
    refine WP.vcond_f rfl (by simp [go_sem, hc']) ?_
    refine WP.vexit rfl ?_
    simp only [go_sem, ↓reduceIte]
    clear hK K hKL KL
    refine hK _ _ ?_; clear hK K
    clear hw1 hw2 hw3 hw4 hc'
    have hne := hX.ents.ne hX.has (by decide)
    refine WP.vseq rfl fun K hK => ?_
    refine WP.vregion rfl rfl fun U => ?_
    simp [go_sem, hbc]
    refine (delete_ok hX.ents.self hb2).mono ?_
    rintro r w2 ⟨he2, hx2⟩
    rw [hl] at he2
    obtain ⟨rA, rc, rfl⟩ := he2.len
    have hb2' := hX.has.chg hx2 (fun h => hne b h rfl)
    have hs2 := hX.slots.keep hx2 (fun g hg hg' => hX.slots.ne2 hX.ents (by decide) g hg hg')
    have hx2' : Chg F w1 w2 := hx2.mono fun x _ hx => hX.ents.2 x hx
    have hbc2 := hb2'.cell
    have hbf2 := hb2'.frozen
    try simp [go_sem, hbc2, hbf2]
    refine hK _ _ ?_; clear hK K
    have hX3 : TX (w2.setCell ⟨b, 0, none⟩ (.slice rA l.length rc)) b (.slice rA l.length rc) sv { T with ents := l } F :=
      TX.of (T := { T with ents := l }) hX.inb hb2' (he2.mono fun x hx => hX.ents.2 x hx) hs2
    have hx3 : Chg F w1 (w2.setCell ⟨b, 0, none⟩ (.slice rA l.length rc)) := hx2'.setCell (fun _ => hX.inb) _
    generalize w2.setCell ⟨b, 0, none⟩ (.slice rA l.length rc) = w3 at hX3 hx3
    clear hX he2 hb2' hs2 hx2 hx2' hbc2 hbf2 hne hbc
    have hbc3 := hX3.has.cell
    have hbf3 := hX3.has.frozen
    have hP9 : P ≤ 1000000000 := by omega
    have hmk := run_makeInts P hP9
    have hbl3 := hX3.has.lt
    have hX4 : TX ((w3.alloc (.cells (Array.replicate P (.int .i64 0)) 3)).setCell ⟨b, 1, none⟩ (.slice (some ⟨w3.heap.size, 0, none⟩) P P)) b (.slice rA l.length rc) (.slice (some ⟨w3.heap.size, 0, none⟩) P P) { T with ents := l, slots := List.replicate P 0 } (fun x => F x ∨ w1.heap.size ≤ x) := by
      have h0 := ((hX3.ext ((Ext.refl w3).alloc (.cells (Array.replicate P (.int .i64 0)) 3))).mono (F' := fun x => F x ∨ w1.heap.size ≤ x) (fun _ h => .inl h))
      refine h0.setSlots (l := List.replicate P 0) ?_
      exact (Own.freshInts P hP9).mono (fun x hx => .inr (by rw [hx]; exact hx3.size))
    have hx4 : Chg F w1 ((w3.alloc (.cells (Array.replicate P (.int .i64 0)) 3)).setCell ⟨b, 1, none⟩ (.slice (some ⟨w3.heap.size, 0, none⟩) P P)) := (hx3.alloc _).setCell (fun _ => hX3.inb) _
    have hba := (hX3.has.alloc (.cells (Array.replicate P (.int .i64 0)) 3))
    have hbac := hba.cell
    have hbaf := hba.frozen
    refine WP.vseq rfl fun K hK => ?_
    refine WP.vregion rfl rfl fun U => ?_
    simp [go_sem, hmk, hbac, hbaf]
    refine hK _ _ ?_; clear hK K
    generalize w3.heap.size = g at hX4 hx4
    generalize (w3.alloc (.cells (Array.replicate P (.int .i64 0)) 3)).setCell ⟨b, 1, none⟩ (.slice (some ⟨g, 0, none⟩) P P) = w4 at hX4 hx4
    clear hX3 hx3 hbc3 hbf3 hmk hba hbac hbaf hbl3
    have hbc4 := hX4.has.cell
    have hbf4 := hX4.has.frozen
    refine WP.vseq rfl fun K hK => ?_
    refine WP.vregion rfl rfl fun U => ?_
    simp [go_sem, hbc4, hbf4]
    refine hK _ _ ?_; clear hK K
    have hX5 := hX4.setUsed T.live
    have hx5 : Chg F w1 (w4.setCell ⟨b, 3, none⟩ (.int .i64 T.live)) := hx4.setCell (fun _ => h.in_.1) _
    generalize w4.setCell ⟨b, 3, none⟩ (.int .i64 T.live) = w5 at hX5 hx5
    clear hX4 hx4 hbc4 hbf4
    have hbc5 := hX5.has.cell
    refine WP.vseq rfl fun K hK => ?_
    refine WP.vregion rfl rfl fun U => ?_
    simp [go_sem, hbc5]
    refine hK _ _ ?_; clear hK K
    refine WP.vblock rfl ?_
    clear hbc5
    replace hX5 : TX w5 b (.slice rA l.length rc) (.slice (some ⟨g, 0, none⟩) P P) ⟨l, List.replicate P 0, T.live, T.live, T.serial⟩ (fun x => F x ∨ w1.heap.size ≤ x) := hX5
    refine WP.vloop rfl (fun d L w' => ∃ (i : Nat) (s : List Int) (v1 v3 v4 v5 : Value), L = [.pointer (some ⟨b, 0, none⟩), v1, .int .i64 P, v3, v4, v5, .slice rA l.length rc, .int .i64 l.length, .int .i64 i] ∧ d + i = l.length ∧ s.length = P ∧
      TX w' b (.slice rA l.length rc) (.slice (some ⟨g, 0, none⟩) P P) ⟨l, s, T.live, T.live, T.serial⟩ (fun x => F x ∨ w1.heap.size ≤ x) ∧ SInv l s (fun j => j < i) ∧ s.countP (· ≠ 0) ≤ i ∧ Chg F w1 w') (d := l.length) ?_ ?_  -- LOOP
    · refine ⟨0, List.replicate P 0, _, _, _, _, rfl, by omega, by simp, hX5, ?_, by simp, hx5⟩
      rw [← hP]
      exact SInv.zero l (fun j => by omega)
    clear hX5 hx5
    rintro d L T' U w6 ⟨i, s, v1, v3, v4, v5, rfl, hdi, hsl, hX, hS, hcnt, hx⟩ KL hKL
    have hwi := wrap_succ (i := i) (by omega)
    refine WP.vseq rfl fun K hK => ?_
    refine WP.vregion rfl rfl fun U => ?_
    simp [go_sem]
    refine hK _ _ ?_; clear hK K
    refine WP.vseq rfl fun K hK => ?_
    refine WP.vcond (t := _) rfl (by simp [go_sem] <;> rfl) (fun hc => ?_) (fun hc => ?_)
    · simp at hc
      rename_i hc2
      have hil : i < l.length := hc
      refine WP.vskip rfl ?_
      simp only [go_sem]
      refine hK _ _ ?_; clear hK K
      obtain ⟨e, he⟩ : ∃ e, l[i]? = some e := ⟨_, List.getElem?_eq_getElem hil⟩
      have hek : e.key.t.size ≤ 1000000000 := by
        have := List.mem_of_getElem? he
        rw [← hl, List.mem_filter] at this
        exact hi.kb e this.1
      obtain ⟨ge, ce, hv, hFe, _, hec, _⟩ := hX.ents.at_ (n := l.length) (by omega)
      simp only [Value.slice.injEq] at hv
      obtain ⟨rfl, _, rfl⟩ := hv
      obtain ⟨e0, e1, e2, e3, e4, e5, e6, e7⟩ := ecells_at he
      have c0 := hec _ _ e0; have c1 := hec _ _ e1; have c2 := hec _ _ e2; have c3 := hec _ _ e3; have c4 := hec _ _ e4; have c5 := hec _ _ e5; have c6 := hec _ _ e6; have c7 := hec _ _ e7
      refine WP.vseq rfl fun K hK => ?_
      refine WP.vblock rfl ?_
      refine WP.vseq rfl fun K hK => ?_
      refine WP.vregion rfl rfl fun U => ?_
      simp [go_sem, hil, c0, c1, c2, c3, c4, c5, c6, c7]
      refine hK _ _ ?_; clear hK K
      clear c0 c1 c2 c3 c4 c5 c6 c7
      refine WP.vseq rfl fun K hK => ?_
      refine WP.vregion rfl rfl fun U => ?_
      simp [go_sem]
      have hXa := hX.ext ((Ext.refl w6).alloc (.cells #[.int .i64 e.key.k, .int .i64 e.key.n, .string e.key.t, .int .i64 e.val.k, .int .i64 e.val.n, .string e.val.t, .int .i64 e.ser, .bool e.gone] 116))
      refine (find_ok (key := e.key) hXa.shut hS.slotsOk (by simp only; omega) (by simp only; omega) hek).mono ?_
      rintro r w7 ⟨rfl, hx7⟩
      have hXb := hXa.ext hx7
      have hx' : Chg F w1 w7 := (hx.alloc _).trans hx7
      obtain ⟨kp, hkp, hpl⟩ := hS.miss (key := e.key) (fun j e' hj he' hk => by
        have := filter_keys (pr := fun _ => True) hi hl he' he hk
        omega)
      have hPl : P ≠ 0 := by rw [← hP]; exact Nat.ne_of_gt (Nat.pow_pos (by omega))
      have hfm : findM ⟨l, s, T.live, T.live, T.serial⟩ e.key = ((kp : Int), false) := by
        unfold findM; rw [if_neg (by simp only; omega)]; exact hkp
      rw [hfm]
      try simp [go_sem]
      refine hK _ _ ?_; clear hK K
      have hkl : kp < P := by
        obtain ⟨p, _, hp, _⟩ := hpl
        rw [← hp, ← hsl]
        exact posOf_lt hS.pos
      have hbc := hXb.has.cell
      obtain ⟨cur, hcur⟩ := hXb.slots.blk (g := g) rfl
      have hfr := hcur.frozen
      obtain ⟨gg, cc, hvv, _, _, hsc, _⟩ := hXb.slots.at_ (n := s.length) (by omega)
      simp only [Value.slice.injEq, Option.some.injEq, Addr.mk.injEq] at hvv
      obtain ⟨⟨rfl, _⟩, _, rfl⟩ := hvv
      have hck : w7.cell? ⟨g, kp, none⟩ = some (.int .i64 (s.getD kp 0)) := hsc _ _ (slots_at (T := ⟨l, s, 0, 0, 0⟩) (by simp only; omega) rfl)
      refine WP.vregion rfl rfl fun U => ?_
      simp [go_sem, hbc, hfr, hck, hkl, hwi]
      refine hK _ _ ?_; clear hK K
      refine WP.vregion rfl rfl fun U => ?_
      simp [go_sem, hwi]
      have hXc := hXb.setSlot (i := kp) (by rw [hsl]; exact hkl) ((i : Int) + 1)
      have hcs : (s.set kp ((i : Int) + 1)).countP (· ≠ 0) ≤ i + 1 := by
        rw [List.countP_set (by omega)]
        split <;> split <;> omega
      have hlt2 : i + 1 < P := by
        have : 4 * (l.length + 1) ≤ 2 * P := by omega
        omega
      refine hKL (d - 1) _ _ (by omega) ⟨i + 1, s.set kp ((i : Int) + 1), _, _, _, _, rfl, by omega, by simpa using hsl, ?_, ?_, hcs, hx'.setCell (fun hgl => ?_) _⟩
      · exact hXc
      · have := hS.insert (ents' := l) (m := i) (e := e) hpl rfl he (fun _ _ => rfl) (fun j e' hj he' hk => by
          have := filter_keys (pr := fun _ => True) hi hl he' he hk
          omega) (by omega) (fun j hj => by omega) (by omega)
        have hpr : (fun j => j < i ∨ j = i) = fun j => j < i + 1 := by funext j; apply propext; omega
        rw [hpr] at this
        exact this
      · have hgl' : g < w1.heap.size := hgl
        rcases hXb.slots.2 g rfl with h' | h'
        · exact h'
        · exact absurd hgl' (Nat.not_lt.2 h')
    · simp at hc
      refine WP.vexit rfl ?_
      simp only [go_sem, ↓reduceIte]
      clear hK K
      have : i = l.length := by omega
      subst this
      refine end_done (by simp [go_sem] <;> rfl) ?_
      rw [← hl] at hS hcnt hX
      obtain ⟨hT, hload⟩ := hi.anew hS hcnt (by omega) (by omega)
      exact ⟨_, hX.shut, hT, itemsOf_filter _, rfl, hload, hx⟩
end
end Go.Proofs.Ytephkonhiaingaa

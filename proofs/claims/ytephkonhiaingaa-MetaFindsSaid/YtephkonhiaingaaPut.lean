/- A key's value in a table. -/
import Derived.Test.YtephkonhiaingaaRehash
set_option linter.unusedSimpArgs false
set_option linter.unusedVariables false
namespace Go.Proofs.Ytephkonhiaingaa
open Go Go.RowKit

section
variable {w w' : World} {b : Nat} {T : TabL} {F F' : Nat → Prop} {ev sv : Value} {D : Dict} {key val : Val}

theorem Own.inside {v : Value} {n s e : Nat} {cs : List Value} (h : Own w e s v n cs F) : Own w e s v n cs (fun x => F x ∧ x < w.heap.size) := ⟨h.1, fun g hg => ⟨h.2 g hg, h.lt g hg⟩⟩
theorem TX.inside (h : TX w b ev sv T F) : TX w b ev sv T (fun x => F x ∧ x < w.heap.size) := ⟨⟨h.1, h.2.lt⟩, h.2, h.3.inside, h.4.inside⟩
theorem TLow.inside (h : TLow w b T F) : TLow w b T (fun x => F x ∧ x < w.heap.size) := let ⟨ev, sv, h⟩ := h.open; h.inside.shut
theorem TLow.drew' (h : TLow w b T F) : TLow w.drew b T F := h.ext ((Ext.refl w).drew)
theorem Chg.inside (h : Chg (fun x => F x ∧ x < w.heap.size) w w') : Chg F w w' := h.mono fun _ _ h => h.1

theorem putNull_ok (h : TRep w b D F) (hk : key.k = 0) : Ret Try.prog 17 #[.pointer (some ⟨b, 0, none⟩), key.v, val.v] w fun r w' => r = .int .i64 30 ∧ Ext w w' := by
  refine ret_E (n := 118) (S := [0, 1, 2, 3, 4, 5, 6, 7, 8, 9]) 7 Try.func17 rfl rfl rfl rfl ?_
  refine WP.vseq rfl fun K hK => ?_
  refine WP.vregion rfl rfl fun U => ?_
  simp [go_sem]
  refine hK _ _ ?_; clear hK K
  refine WP.vseq rfl fun K hK => ?_
  refine WP.vseq rfl fun K hK => ?_
  refine WP.vregion rfl rfl fun U => ?_
  simp [go_sem]
  refine hK _ _ ?_; clear hK K
  refine WP.vcond_t rfl (by simp [go_sem, hk]) ?_
  refine WP.vseq rfl fun K hK => ?_
  refine WP.vregion rfl rfl fun U => ?_
  simp [go_sem]
  refine hK _ _ ?_; clear hK K
  refine WP.vret rfl ?_
  try simp only [thenE_ret, blockE_ret]
  refine ret_done (by simp [go_sem] <;> rfl) ?_
  refine ⟨rfl, ?_⟩
  repeat (first | exact Chg.refl _ _ | exact Chg.refl _ _ | refine Chg.setCell ?_ (by simp <;> omega) _ | refine Chg.alloc ?_ _ | refine Chg.drew ?_ | refine Chg.drewN ?_ _)

abbrev vObj (v : Val) : Obj := .cells #[.int .i64 v.k, .int .i64 v.n, .string v.t] 35

theorem info_entry : (Try.prog.info? 116).map (fun i => (i.zero, i.size, i.bytes)) = some (some (.agg #[.int .i64 0, .int .i64 0, .string ⟨#[]⟩, .int .i64 0, .int .i64 0, .string ⟨#[]⟩, .int .i64 0, .bool false]), 8, 80) := by kernel_rfl
theorem ecells_one (l : List Ent) : ∀ u ∈ ecells l, u.oneCell' = true := by
  intro u hu
  obtain ⟨x, _, hx⟩ := List.mem_flatMap.1 hu
  simp only [Ent.cells, List.mem_cons, List.not_mem_nil, or_false] at hx
  rcases hx with rfl | rfl | rfl | rfl | rfl | rfl | rfl | rfl <;> rfl
theorem Rd.top' {n s c : Nat} {cs : List Value} {T : TypeId} {A : Array Value} (hA : A = cs.toArray) (h : cs.length = n * s) : Rd (w.alloc (.cells A T)).drew (.slice (some ⟨w.heap.size, 0, none⟩) n c) n s cs := by
  subst hA
  exact (Rd.top (w := w) rfl h).ext ((Ext.refl _).drew)

set_option maxRecDepth 4000 in
set_option maxHeartbeats 2000000 in
theorem put_ok (h : TRep w b D F) (hs : D.serial < 1000000) (hk : key.k ≠ 0) (hkt : key.t.size ≤ 1000000000) :
    Ret Try.prog 17 #[.pointer (some ⟨b, 0, none⟩), key.v, val.v] w fun r w' => r = .int .i64 0 ∧ TRep w' b (D.put key val) (fun x => F x ∨ w.heap.size ≤ x) ∧ Chg F w w' := by
  obtain ⟨T, hl, hi, hD, hser⟩ := h
  obtain ⟨hb1, hb2⟩ := hi.bounds (by omega)
  have hlen := hi.len
  have hlive := hi.live
  rw [filter_len] at hlive
  have hfl : (T.ents.filter fun e => !e.gone).length ≤ T.ents.length := List.length_filter_le _ _
  replace hl := hl.inside
  have hF0 : ∀ x, (F x ∧ x < w.heap.size) → F x ∨ w.heap.size ≤ x := fun x h => .inl h.1
  refine ret_E (n := 118) (S := [0, 1, 2, 3, 4, 5, 6, 7, 8, 9]) 7 Try.func17 rfl rfl rfl rfl ?_
  refine WP.vseq rfl fun K hK => ?_
  refine WP.vregion rfl rfl fun U => ?_
  simp [go_sem]
  refine hK _ _ ?_; clear hK K
  have hx0 : Chg (fun x => F x ∧ x < w.heap.size) w ((w.alloc (vObj key)).alloc (vObj val)) := ((Chg.refl _ _).alloc _).alloc _
  have hkb : Has ((w.alloc (vObj key)).alloc (vObj val)) w.heap.size (vObj key) := (Has.new w _).alloc _
  have hvb : Has ((w.alloc (vObj key)).alloc (vObj val)) (w.heap.size + 1) (vObj val) := by simpa using Has.new (w.alloc (vObj key)) (vObj val)
  have hl0 : TLow ((w.alloc (vObj key)).alloc (vObj val)) b T (fun x => F x ∧ x < w.heap.size) := hl.ext (((Ext.refl _).alloc _).alloc _)
  generalize ((w.alloc (vObj key)).alloc (vObj val)) = w0 at hx0 hkb hvb hl0
  have hkc := hkb.cell
  refine WP.vseq rfl fun K hK => ?_
  refine WP.vseq rfl fun K hK => ?_
  refine WP.vregion rfl rfl fun U => ?_
  simp [go_sem, hkc]
  refine hK _ _ ?_; clear hK K
  refine WP.vcond_f rfl (by simp [go_sem, hk]) ?_
  refine WP.vskip rfl ?_
  simp only [go_sem]
  refine hK _ _ ?_; clear hK K
  refine WP.vseq rfl fun K hK => ?_
  refine WP.vseq rfl fun K hK => ?_
  refine WP.vregion rfl rfl fun U => ?_
  simp [go_sem, hkc]
  refine (find_ok hl0 hi.slotsOk hb1 hb2 hkt).mono ?_
  rintro r w1 ⟨rfl, hx1⟩
  replace hl0 := hl0.ext hx1
  replace hkb := hkb.ext hx1
  replace hvb := hvb.ext hx1
  replace hx0 := hx0.trans hx1
  clear hx1 hkc
  obtain ⟨ev, sv, hX⟩ := hl0.open
  rcases hi.find D hD key with ⟨j, e, i, he, hg, hek, hf, hsl, hget⟩ | ⟨hget, hno, i, hf, hpl⟩
  · rw [hf]
    try simp [go_sem]
    refine hK _ _ ?_; clear hK K
    refine WP.vseq rfl fun K hK => ?_
    refine WP.vregion rfl rfl fun U => ?_
    simp [go_sem]
    refine hK _ _ ?_; clear hK K
    refine WP.vcond_t rfl (by simp [go_sem]) ?_
    have hjl : j < T.ents.length := (List.getElem?_eq_some_iff.1 he).1
    have hil : i < T.slots.length := (List.getElem?_eq_some_iff.1 hsl).1
    obtain ⟨g, cap, rfl, hFg, hgl, hec, hef⟩ := hX.ents.at_ (by omega)
    obtain ⟨g2, cap2, rfl, hFg2, hgl2, hsc, _⟩ := hX.slots.at_ (by omega)
    have hbg := hX.ents.ne hX.has (by decide) g rfl
    obtain ⟨cur, hcur⟩ := hX.ents.blk (g := g) rfl
    have hsg := hX.slots.ne hcur (by decide) g2 rfl
    have hvg : w.heap.size + 1 ≠ g := by have := hFg.2; omega
    have hwj : IntKind.i64.wrap (j : Int) = (j : Int) := IntWalk.i64_in _ (by omega)
    obtain ⟨_, _, _, e3, e4, e5, _⟩ := ecells_at he
    have d3 := hec _ _ e3; have d4 := hec _ _ e4; have d5 := hec _ _ e5
    have hww : ∀ w' : SW (fun w' => w' = w1.drew), w'.w = w1.drew := fun w' => w'.h
    have hbc := hX.has.cell
    have hcs := hsc i (.int .i64 ((j : Int) + 1)) (by simp [ints, hsl])
    have hvc := hvb.cell
    haveI : Nonempty (SW (fun w' => w' = w1.drew)) := ⟨⟨_, rfl⟩⟩
    refine WP.vseq rfl fun K hK => ?_
    refine WP.vdraw rfl (fun w' => w' = w1.drew) 15 [(0, true), (1, true), (2, true), (3, true), (4, true), (5, true), (6, true), (7, true), (8, true), (9, true), (10, true), (11, true), (12, true), (13, true), (14, true), (15, false)] (by kernel_rfl) (by kernel_rfl) rfl fun U => ?_
    simp [go_sem, hww, hbc, hcs, hvc, hwj, hjl, hil, d3, d4, d5, hef]
    refine hK _ _ ?_; clear hK K
    refine WP.vseq rfl fun K hK => ?_
    refine WP.vregion rfl rfl fun U => ?_
    simp [go_sem]
    refine hK _ _ ?_; clear hK K
    refine WP.vret rfl ?_
    try simp only [thenE_ret, blockE_ret]
    refine ret_done (by simp [go_sem] <;> rfl) ?_
    have hX2 := (hX.ext ((Ext.refl w1).drew)).setVal he val
    obtain ⟨hT2, hI2⟩ := hi.setVal he hg val
    have hput : D.put key val = D.set key val := by unfold Dict.put; rw [hget]; rfl
    refine ⟨rfl, ⟨_, hX2.shut.mono hF0, hT2, ?_, by rw [hput]; exact hser⟩, ?_⟩
    · rw [hput]; rw [hI2 D hD, hek]
    · exact ((((hx0.drew).setCell (a := ⟨g, j * 8 + 3, none⟩) (fun _ => hFg) _).setCell (a := ⟨g, j * 8 + 4, none⟩) (fun _ => hFg) _).setCell (a := ⟨g, j * 8 + 5, none⟩) (fun _ => hFg) _).inside
  · rw [hf]
    try simp [go_sem]
    refine hK _ _ ?_; clear hK K
    refine WP.vseq rfl fun K hK => ?_
    refine WP.vregion rfl rfl fun U => ?_
    simp [go_sem]
    refine hK _ _ ?_; clear hK K
    refine WP.vcond_f rfl (by simp [go_sem]) ?_
    refine WP.vskip rfl ?_
    simp only [go_sem]
    refine hK _ _ ?_; clear hK K
    have hbc := hX.has.cell
    have hlv : ¬ T.live = 1048576 := by omega
    refine WP.vseq rfl fun K hK => ?_
    refine WP.vseq rfl fun K hK => ?_
    refine WP.vregion rfl rfl fun U => ?_
    simp [go_sem, hbc]
    refine hK _ _ ?_; clear hK K
    refine WP.vcond_f rfl (by simp [go_sem, hlv]) ?_
    refine WP.vskip rfl ?_
    simp only [go_sem]
    refine hK _ _ ?_; clear hK K
    have hused := hi.used
    have hload := hi.load
    have hw1 : IntKind.i64.wrap (T.used + 1) = T.used + 1 := IntWalk.i64_in _ (by omega)
    have hw2 : IntKind.i64.wrap (4 * (T.used + 1)) = 4 * (T.used + 1) := IntWalk.i64_in _ (by omega)
    have hw3 : IntKind.i64.wrap (3 * (T.slots.length : Int)) = 3 * (T.slots.length : Int) := IntWalk.i64_in _ (by omega)
    obtain ⟨eA, ec, rfl⟩ := hX.ents.len
    obtain ⟨sA, sc, rfl⟩ := hX.slots.len
    haveI : Nonempty (SW (fun w' => w' = w1.drew)) := ⟨⟨_, rfl⟩⟩
    have hww : ∀ w' : SW (fun w' => w' = w1.drew), w'.w = w1.drew := fun w' => w'.h
    have hF1 : ∀ x, (F x ∧ x < w.heap.size) → (F x ∧ x < w.heap.size) ∨ w.heap.size + 2 ≤ x := fun x h => .inl h
    refine WP.vseq rfl fun K hK => ?_
    have J : ∀ (T' : List (Nat × Value)) (U' : Nat → Value) (w' : World) (T1 : TabL), TLow w' b T1 (fun x => (F x ∧ x < w.heap.size) ∨ w.heap.size + 2 ≤ x) → TInv T1 → itemsOf T1.ents = D.items → T1.serial = D.serial →
        4 * (T1.used + 1) ≤ 3 * (T1.slots.length : Int) → Has w' w.heap.size (vObj key) → Has w' (w.heap.size + 1) (vObj val) → Chg (fun x => F x ∧ x < w.heap.size) w w' →
        K ⟨[.pointer (some ⟨b, 0, none⟩), key.v, val.v, undef, .pointer (some ⟨w.heap.size, 0, none⟩), .pointer (some ⟨w.heap.size + 1, 0, none⟩), .int .i64 0, .int .i64 i, .bool false, undef], T', U'⟩ w' := by
      clear hX hl0 hkb hvb hx0 hbc hww hw1 hw2 hw3 hused hload
      intro T' U' w2 T1 hl1 hi1 hD1 hser1 hload1 hkb hvb hx
      obtain ⟨hb1, hb2⟩ := hi1.bounds (by omega)
      have hlen1 := hi1.len
      have hlive1 := hi1.live
      rw [filter_len] at hlive1
      have hfl1 : (T1.ents.filter fun e => !e.gone).length ≤ T1.ents.length := List.length_filter_le _ _
      refine hK _ _ ?_
      clear hK K
      have hkc := hkb.cell
      refine WP.vseq rfl fun K hK => ?_
      refine WP.vregion rfl rfl fun U => ?_
      simp [go_sem, hkc]
      refine (find_ok hl1 hi1.slotsOk hb1 hb2 hkt).mono ?_
      rintro r w3 ⟨rfl, hx3⟩
      replace hl1 := hl1.ext hx3
      replace hkb := hkb.ext hx3
      replace hvb := hvb.ext hx3
      replace hx := hx.trans hx3
      clear hx3 hkc
      rcases hi1.find D hD1 key with ⟨j, e, i, he, hg, hek, hf, hsl, hget'⟩ | ⟨_, hno1, i1, hf, hpl1⟩
      · rw [hget] at hget'; cases hget'
      obtain ⟨hpl1, hil⟩ : Place T1.slots key i1 ∧ i1 < T1.slots.length := by
        rcases hpl1 with ⟨h0, _⟩ | h
        · exfalso
          have h1 : T1.slots.length = 0 := by rw [h0]; rfl
          have := hi1.used
          omega
        · exact h
      rw [hf]
      try simp [go_sem]
      refine hK _ _ ?_; clear hK K
      obtain ⟨ev, sv, hX⟩ := hl1.open
      obtain ⟨g2, cap2, rfl, hFg2, hgl2, hsc, hsf⟩ := hX.slots.at_ (by omega)
      have hbc := hX.has.cell
      have hbf := hX.has.frozen
      have hcs := hsc i1 _ (slots_at hil rfl)
      generalize hs0 : T1.slots.getD i1 0 = s0 at hcs
      have hused := hi1.used
      have hload := hi1.load
      have hslen : s0 = 0 ↔ T1.slots[i1]? = some 0 := by
        rw [← hs0, List.getD_eq_getElem?_getD, List.getElem?_eq_getElem hil]; simp
      have hwu : IntKind.i64.wrap (T1.used + 1) = T1.used + 1 := IntWalk.i64_in _ (by omega)
      have hws : IntKind.i64.wrap (T1.serial + 1) = T1.serial + 1 := IntWalk.i64_in _ (by omega)
      have hwl : IntKind.i64.wrap (T1.live + 1) = T1.live + 1 := IntWalk.i64_in _ (by omega)
      have hpush := hi1.push hpl1 hil hno1 hload1 hkt val _ rfl
      have hput : D.put key val = D.add key val := by unfold Dict.put; rw [hget]; rfl
      refine WP.vseq rfl fun K hK => ?_
      have J2 : ∀ (T' : List (Nat × Value)) (U' : Nat → Value) (w' : World), TX w' b ev (.slice (some ⟨g2, 0, none⟩) T1.slots.length cap2) { T1 with used := if T1.slots[i1]? = some 0 then T1.used + 1 else T1.used } (fun x => (F x ∧ x < w.heap.size) ∨ w.heap.size + 2 ≤ x) →
          Has w' w.heap.size (vObj key) → Has w' (w.heap.size + 1) (vObj val) → Chg (fun x => F x ∧ x < w.heap.size) w w' →
          K ⟨[.pointer (some ⟨b, 0, none⟩), key.v, val.v, undef, .pointer (some ⟨w.heap.size, 0, none⟩), .pointer (some ⟨w.heap.size + 1, 0, none⟩), .int .i64 0, .int .i64 i, .bool false, .int .i64 i1], T', U'⟩ w' := by
        clear hX hkb hvb hx hbc hbf hcs hsc hsf hl1 hgl2
        intro T' U' w4 hX hkb hvb hx
        refine hK _ _ ?_
        clear hK K
        generalize hu : (if T1.slots[i1]? = some 0 then T1.used + 1 else T1.used) = u at hX hpush
        have hF : ∀ x, x < w.heap.size → ((F x ∧ x < w.heap.size) ∨ w.heap.size + 2 ≤ x) → (F x ∧ x < w.heap.size) := fun x h1 h2 => by rcases h2 with h | h; exact h; omega
        have hbc := hX.has.cell
        have hbf := hX.has.frozen
        refine WP.vseq rfl fun K hK => ?_
        refine WP.vregion rfl rfl fun U => ?_
        simp [go_sem, hbc, hbf, hws]
        refine hK _ _ ?_; clear hK K
        have hX5 := hX.setSerial (T1.serial + 1)
        have hbk : b ≠ w.heap.size ∧ b ≠ w.heap.size + 1 := by have := hX.inb; omega
        have hkb5 := hkb.far (a := ⟨b, 4, none⟩) hbk.1.symm (.int .i64 (T1.serial + 1))
        have hvb5 := hvb.far (a := ⟨b, 4, none⟩) hbk.2.symm (.int .i64 (T1.serial + 1))
        have hx5 := hx.setCell (a := ⟨b, 4, none⟩) (fun h => hF b h hX.inb) (.int .i64 (T1.serial + 1))
        generalize w4.setCell ⟨b, 4, none⟩ (.int .i64 (T1.serial + 1)) = w5 at hX5 hkb5 hvb5 hx5
        clear hX hkb hvb hx hbc hbf
        obtain ⟨eA, ec, rfl⟩ := hX5.ents.len
        replace hX5 : TX w5 b (.slice eA T1.ents.length ec) (.slice (some ⟨g2, 0, none⟩) T1.slots.length cap2) ⟨T1.ents, T1.slots, T1.live, u, T1.serial + 1⟩ (fun x => (F x ∧ x < w.heap.size) ∨ w.heap.size + 2 ≤ x) := hX5
        generalize hhdr : (Obj.cells #[.slice eA T1.ents.length ec, .slice (some ⟨g2, 0, none⟩) T1.slots.length cap2, .int .i64 T1.live, .int .i64 u, .int .i64 (T1.serial + 1)] 112 (0, 0)) = hdr
        have hbh : Has w5 b hdr := by rw [← hhdr]; exact hX5.has
        have hbc : ∀ w' : SW (fun w' => Has w' b hdr ∧ Has w' w.heap.size (vObj key) ∧ Has w' (w.heap.size + 1) (vObj val)), ∀ i, w'.w.cell? ⟨b, i, none⟩ = #[.slice eA T1.ents.length ec, .slice (some ⟨g2, 0, none⟩) T1.slots.length cap2, .int .i64 T1.live, .int .i64 u, .int .i64 (T1.serial + 1)][i]? := fun w' => Has.cell (by rw [hhdr]; exact w'.h.1)
        have hkc := fun w' : SW (fun w' => Has w' b hdr ∧ Has w' w.heap.size (vObj key) ∧ Has w' (w.heap.size + 1) (vObj val)) => w'.h.2.1.cell
        have hvc := fun w' : SW (fun w' => Has w' b hdr ∧ Has w' w.heap.size (vObj key) ∧ Has w' (w.heap.size + 1) (vObj val)) => w'.h.2.2.cell
        haveI : Nonempty (SW (fun w' => Has w' b hdr ∧ Has w' w.heap.size (vObj key) ∧ Has w' (w.heap.size + 1) (vObj val))) := ⟨⟨w5, hbh, hkb5, hvb5⟩⟩
        refine WP.vseq rfl fun K hK => ?_
        refine WP.vdraw rfl (fun w' => Has w' b hdr ∧ Has w' w.heap.size (vObj key) ∧ Has w' (w.heap.size + 1) (vObj val)) 16 [(0, true), (1, true), (2, true), (3, true), (4, true), (5, true), (6, true), (7, true), (8, true), (9, true), (10, true), (11, true), (12, false), (13, false), (14, true), (15, true), (16, false)] (by kernel_rfl) (by kernel_rfl) ⟨hbh.drew, hkb5.drew, hvb5.drew⟩ fun U => ?_
        simp [go_sem, hbc, hkc, hvc]
        refine ⟨⟨(hbh.alloc _).drew, (hkb5.alloc _).drew, (hvb5.alloc _).drew⟩, ?_⟩
        obtain ⟨i0, hi0, hz0, hz1, hz2⟩ := info_parts info_entry
        have hown := hX5.ents.self
        have hne := hown.ne hX5.has (by decide)
        obtain ⟨curs, hcurs⟩ := hX5.slots.blk (g := g2) rfl
        have hne2 := hown.ne hcurs (by decide)
        have hnk := hown.ne hkb5 (by decide)
        have hnv := hown.ne hvb5 (by decide)
        refine APPEND.own Try.underlying110 hi0 hz0 hz1 hz2 rfl (by omega) (by omega) (hown.ext (((Ext.refl _).alloc _).drew)) (Rd.top' (cs := ecells [Ent.mk key val (T1.serial + 1) false]) rfl rfl) (ecells_one _) (le_app (Nat.le_trans (Nat.add_le_add_right hb2 1) (by decide))) ?_
        intro v' w6 hown6 hch6
        have hx56 : Chg (fun g => (Value.slice eA T1.ents.length ec).ownBlock = some g) w5 w6 := Ext.then (((Ext.refl w5).alloc _).drew) hch6
        have hbh6 := hbh.chg hx56 (fun h => hne b h rfl)
        have hkb6 := hkb5.chg hx56 (fun h => hnk _ h rfl)
        have hvb6 := hvb5.chg hx56 (fun h => hnv _ h rfl)
        have hs6 := hX5.slots.keep hx56 (fun g hg hg' => hX5.slots.ne2 hX5.ents (by decide) g hg hg')
        have hx6 : Chg (fun x => F x ∧ x < w.heap.size) w w6 := hx5.and_then hx56 (fun x hx h => hF x hx (hX5.ents.2 x h))
        have hlen6 : (T1.ents ++ [Ent.mk key val (T1.serial + 1) false]).length = T1.ents.length + 1 := by simp
        have hown6' : Own w6 116 8 v' (T1.ents ++ [Ent.mk key val (T1.serial + 1) false]).length (ecells (T1.ents ++ [Ent.mk key val (T1.serial + 1) false])) (fun x => (F x ∧ x < w.heap.size) ∨ w.heap.size + 2 ≤ x) := by
          rw [hlen6, show ecells (T1.ents ++ [Ent.mk key val (T1.serial + 1) false]) = ecells T1.ents ++ ecells [Ent.mk key val (T1.serial + 1) false] by simp [ecells]]
          refine hown6.mono fun x hx => ?_
          rcases hx with hx | hx
          · exact hX5.ents.2 x hx
          · have := hvb5.lt; simp at hx; omega
        obtain ⟨vA, vc, rfl⟩ := hown6'.len
        have hbc6 := (show Has w6 b _ from hhdr ▸ hbh6).cell
        have hbf6 : ∀ i, w6.frozen? ⟨b, i, none⟩ = false := (show Has w6 b _ from hhdr ▸ hbh6).frozen
        simp [go_sem, hbc6, hbf6]
        refine ⟨⟨hbh6, hkb6, hvb6⟩, ?_⟩
        refine hK _ _ ?_; clear hK K
        have hX7 : TX (w6.setCell ⟨b, 0, none⟩ (.slice vA (T1.ents.length + 1) vc)) b (.slice vA (T1.ents.length + 1) vc) (.slice (some ⟨g2, 0, none⟩) T1.slots.length cap2) ⟨T1.ents ++ [Ent.mk key val (T1.serial + 1) false], T1.slots, T1.live, u, T1.serial + 1⟩ (fun x => (F x ∧ x < w.heap.size) ∨ w.heap.size + 2 ≤ x) := by
          have hl6 : (Value.slice vA (T1.ents ++ [Ent.mk key val (T1.serial + 1) false]).length vc) = Value.slice vA (T1.ents.length + 1) vc := by rw [hlen6]
          rw [← hl6]
          exact TX.of (T := ⟨T1.ents ++ [Ent.mk key val (T1.serial + 1) false], T1.slots, T1.live, u, T1.serial + 1⟩) hX5.inb (hhdr ▸ hbh6) hown6' hs6
        have hx7 := hx6.setCell (a := ⟨b, 0, none⟩) (fun h => hF b h hX5.inb) (.slice vA (T1.ents.length + 1) vc)
        generalize w6.setCell ⟨b, 0, none⟩ (.slice vA (T1.ents.length + 1) vc) = w7 at hX7 hx7
        clear hbc hkc hvc this hX5 hkb5 hvb5 hx5 hbh hown hne hcurs hne2 hnk hnv hown6 hch6 hx56 hbh6 hkb6 hvb6 hs6 hx6 hown6' hbc6 hbf6 hhdr
        have hbc := hX7.has.cell
        have hbf := hX7.has.frozen
        have hww : ∀ w' : SW (fun w' => w' = w7.drew), w'.w = w7.drew := fun w' => w'.h
        obtain ⟨gg, cc, hvv, _, _, hsc, hsf⟩ := hX7.slots.at_ (n := T1.slots.length) (by omega)
        simp only [Value.slice.injEq, Option.some.injEq, Addr.mk.injEq] at hvv
        obtain ⟨⟨rfl, _⟩, _, rfl⟩ := hvv
        have hck := hsc _ _ (slots_at (T := T1) hil rfl)
        refine WP.vseq rfl fun K hK => ?_
        refine WP.vdraw rfl (fun w' => w' = w7.drew) 11 [(0, true), (1, true), (2, true), (3, true), (4, true), (5, true), (6, true), (7, true), (8, true), (9, true), (10, true), (11, false)] (by kernel_rfl) (by kernel_rfl) rfl fun U => ?_
        simp [go_sem, hww, hbc, hbf, hil, hck, hsf]
        refine hK _ _ ?_; clear hK K
        have hX8 := (hX7.setSlot (i := i1) hil ((T1.ents.length : Int) + 1)).ext ((Ext.refl _).drew)
        have hx8 := (hx7.setCell (a := ⟨g2, i1, none⟩) (fun h => hF g2 h hFg2) (.int .i64 ((T1.ents.length : Int) + 1))).drew
        generalize (w7.setCell ⟨g2, i1, none⟩ (.int .i64 ((T1.ents.length : Int) + 1))).drew = w8 at hX8 hx8
        have hbc8 := hX8.has.cell
        have hbf8 := hX8.has.frozen
        refine WP.vseq rfl fun K hK => ?_
        refine WP.vregion rfl rfl fun U => ?_
        simp [go_sem, hbc8, hbf8, hwl]
        refine hK _ _ ?_; clear hK K
        refine WP.vseq rfl fun K hK => ?_
        refine WP.vregion rfl rfl fun U => ?_
        simp [go_sem]
        refine hK _ _ ?_; clear hK K
        refine WP.vret rfl ?_
        try simp only [thenE_ret, blockE_ret]
        refine ret_done (by simp [go_sem] <;> rfl) ?_
        refine ⟨rfl, ⟨_, (hX8.setLive (T1.live + 1)).shut.mono (fun x hx => ?_), hpush, ?_, ?_⟩, (hx8.setCell (a := ⟨b, 2, none⟩) (fun h => hF b h hX7.inb) _).inside⟩
        · rcases hx with hx | hx
          · exact .inl hx.1
          · exact .inr (by omega)
        · rw [hput]; simp only [Dict.add]; rw [itemsOf_push, hD1, hser1]
        · rw [hput]; simp only [Dict.add]; rw [hser1]
      refine WP.vseq rfl fun K hK => ?_
      refine WP.vregion rfl rfl fun U => ?_
      simp [go_sem, hbc, hil, hcs]
      refine hK _ _ ?_; clear hK K
      by_cases h0 : s0 = 0
      · refine WP.vcond_t rfl (by simp [go_sem, h0]) ?_
        refine WP.vregion rfl rfl fun U => ?_
        simp [go_sem, hbc, hbf, hwu]
        refine J2 _ _ _ ?_ (hkb.far ?_ _) (hvb.far ?_ _) (hx.setCell ?_ _)
        · rw [if_pos (hslen.1 h0)]; exact hX.setUsed _
        · have := hX.inb; simp only; omega
        · have := hX.inb; simp only; omega
        · intro h; rcases hX.inb with h' | h'
          · exact h'
          · simp only at h; omega
      · refine WP.vcond_f rfl (by simp [go_sem, h0]) ?_
        refine WP.vskip rfl ?_
        simp only [go_sem]
        refine J2 _ _ _ ?_ hkb hvb hx
        rw [if_neg (fun h => h0 (hslen.2 h))]; exact hX
    refine WP.vseq rfl fun K' hK' => ?_
    refine WP.vdraw rfl (fun w' => w' = w1.drew) 1000 [(0, true), (1, true), (2, true), (3, true), (4, true), (5, true), (6, true), (7, true), (8, true), (9, true), (10, true), (11, true), (12, true)] (by kernel_rfl) (by kernel_rfl) rfl fun U => ?_
    simp [go_sem, hww, hbc, hw1, hw2, hw3]
    refine hK' _ _ ?_; clear hK' K'
    by_cases hc : 3 * (T.slots.length : Int) < 4 * (T.used + 1)
    · refine WP.vcond_t rfl (by simp [go_sem, hc]) ?_
      refine WP.vregion rfl rfl fun U => ?_
      simp [go_sem]
      refine (rehash_ok hl0.drew' hi (by omega)).mono ?_
      rintro r w2 ⟨T1, hl1, hi1, hD1, hser1, hload1, hx1⟩
      try simp [go_sem]
      refine J _ _ _ T1 (hl1.mono fun x hx => ?_) hi1 (hD1.trans hD) (hser1.trans hser) hload1 ?_ ?_ ?_
      · rcases hx with hx | hx
        · exact .inl hx
        · have := hvb.lt
          have hx' : w1.heap.size ≤ x := hx
          exact .inr (by omega)
      · exact hkb.drew.chg hx1 (fun h => by omega)
      · exact hvb.drew.chg hx1 (fun h => by omega)
      · exact hx0.drew.and_then hx1 (fun _ _ h => h)
    · refine WP.vcond_f rfl (by simp [go_sem, hc] <;> omega) ?_
      refine WP.vskip rfl ?_
      simp only [go_sem]
      refine J _ _ _ T (hl0.drew'.mono hF1) hi hD hser (by omega) hkb.drew hvb.drew hx0.drew
end
end Go.Proofs.Ytephkonhiaingaa

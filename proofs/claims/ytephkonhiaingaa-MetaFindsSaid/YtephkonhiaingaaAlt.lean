/- Orders that are drawn and part: of two operations that may come up either may be the first. -/
import Derived.Test.YtephkonhiaingaaMem
set_option linter.unusedSimpArgs false
set_option linter.unusedVariables false
namespace Go.Proofs.Ytephkonhiaingaa
open Go Go.RowKit

inductive Ordr where
  | done
  | free (i : Nat) (r : Ordr)
  | eff (i : Nat) (r : Ordr)
  | alt (i : Nat) (r : Ordr) (j : Nat) (s : Ordr)
  | alt3 (i : Nat) (r : Ordr) (j : Nat) (s : Ordr) (l : Nat) (t : Ordr)

def Ordr.len : Ordr → Nat
  | .done => 0
  | .free _ r => r.len + 1
  | .eff _ r => r.len + 1
  | .alt _ r _ s => max r.len s.len + 1
  | .alt3 _ r _ s _ t => max r.len (max s.len t.len) + 1
/-- Numbers that only look. -/
def Ordr.frees : List Nat → Ordr → Ordr
  | [], r => r
  | i :: l, r => .free i (Ordr.frees l r)

section
variable {P : Program} {n : Nat} {S : List Nat}

def HOPT (P : Program) (n : Nat) (S : List Nat) (k : Nat) (ops : List Oper) (N : Env → World → Prop) : Ordr → (World → Prop) → Env → World → Prop
  | .done, _, E, w => N E w
  | .free i r, C, E, w => match ops[i]? with
    | none => False
    | some o => if wantedE S ops o E then ∃ v, (∀ w' : SW C, (execOp (E.ev S) o).run P w'.w = .ok (.value v) w'.w) ∧ HOPT P n S k ops N r C (E.put? n S o.dst v) w
        else HOPT P n S k ops N r C (E.put? n S o.dst undef) w
  | .eff i r, C, E, w => match ops[i]? with
    | none => False
    | some o => STEP P n S ops o E w fun E w => if i = k then HOPT P n S k ops N r (fun _ => True) E w else C w ∧ HOPT P n S k ops N r C E w
  | .alt i r j s, C, E, w => (match ops[i]? with
    | none => False
    | some o => STEP P n S ops o E w fun E w => if i = k then HOPT P n S k ops N r (fun _ => True) E w else C w ∧ HOPT P n S k ops N r C E w) ∧
    (match ops[j]? with
    | none => False
    | some o => STEP P n S ops o E w fun E w => if j = k then HOPT P n S k ops N s (fun _ => True) E w else C w ∧ HOPT P n S k ops N s C E w)
  | .alt3 i r j s l t, C, E, w => (match ops[i]? with
    | none => False
    | some o => STEP P n S ops o E w fun E w => if i = k then HOPT P n S k ops N r (fun _ => True) E w else C w ∧ HOPT P n S k ops N r C E w) ∧
    (match ops[j]? with
    | none => False
    | some o => STEP P n S ops o E w fun E w => if j = k then HOPT P n S k ops N s (fun _ => True) E w else C w ∧ HOPT P n S k ops N s C E w) ∧
    (match ops[l]? with
    | none => False
    | some o => STEP P n S ops o E w fun E w => if l = k then HOPT P n S k ops N t (fun _ => True) E w else C w ∧ HOPT P n S k ops N t C E w)

def ordOkT (ops : Array Oper) (k : Nat) : Ordr → Bool → Array Bool → Bool
  | .done, _, listed => (Region.ready .any ops listed).isEmpty
  | .free i r, d, listed => (Region.free .any ops listed i && (Region.ready .any ops listed).contains i && i != k && (d || (decide (ops.size ≤ k) || waits2 .any ops k i))) && ordOkT ops k r d (listed.setIfInBounds i true)
  | .eff i r, d, listed => (Region.ready .any ops listed == [i]) && ordOkT ops k r (d || (i == k)) (listed.setIfInBounds i true)
  | .alt3 i r j s l t, d, listed => (Region.ready .any ops listed == [i, j, l]) && (ordOkT ops k r (d || (i == k)) (listed.setIfInBounds i true) && (ordOkT ops k s (d || (j == k)) (listed.setIfInBounds j true) && ordOkT ops k t (d || (l == k)) (listed.setIfInBounds l true)))
  | .alt i r j s, d, listed => (Region.ready .any ops listed == [i, j]) && (ordOkT ops k r (d || (i == k)) (listed.setIfInBounds i true) && ordOkT ops k s (d || (j == k)) (listed.setIfInBounds j true))

theorem eff_wp {ops : List Oper} {i : Nat} {o : Oper} {E : Env} {a : Act} {w : World} {k : Env → World → Prop} {Q : Exit → Act → World → Prop} {R : Act → World → Prop} (hg : guardsOk n ops = true)
    (hi : ops[i]? = some o) (ha : Kn n S E a) (h : STEP P n S ops o E w k) (hk : ∀ E a w, Kn n S E a → k E w → R a w) : wpOp P ops.toArray Q i R a w := by
  have hi' : ops.toArray[i]? = some o := by simpa using hi
  unfold wpOp
  simp only [hi']
  rw [yielded_eq ha o (guardsOk_at hg (List.mem_of_getElem? hi))]
  unfold STEP at h
  split
  · rename_i hw
    rw [if_pos hw] at h
    exact .inl (OPW.sound ha (fun E a w ha h => hk E a w ha h) h)
  · rename_i hw
    rw [if_neg hw] at h
    exact hk _ _ _ (ha.put _ _) h

theorem HOPT.sound {ops : List Oper} {k : Nat} (hg : guardsOk n ops = true) (hs : Region.noSelect ops.toArray = true) {N : Env → World → Prop} {Q : Exit → Act → World → Prop}
    (hN : ∀ E a w, Kn n S E a → N E w → Q .normal a w) (hQ : ∀ c a w, ¬ Q (.panic c) a w) (C0 : World → Prop) (ord : Ordr) :
    ∀ (listed : Array Bool) (fuel : Nat) (d : Bool) (C : World → Prop), ord.len ≤ fuel → ordOkT ops.toArray k ord d listed = true → listed.size = ops.length → Dc .any ops.toArray listed →
      (d = true → C = (fun _ => True) ∧ listed.getD k false = true) → (d = false → C = C0 ∧ listed.getD k false = false) →
      ∀ (E : Env) (a : Act) (w : World), Kn n S E a → (listed.getD k false = false → C0 w) → HOPT P n S k ops N ord C E w → wpAnyG P .any ops.toArray Q C0 k fuel listed a w := by
  -- one that is carried out, and what comes behind it
  have key : ∀ (r : Ordr), (∀ (listed : Array Bool) (fuel : Nat) (d : Bool) (C : World → Prop), r.len ≤ fuel → ordOkT ops.toArray k r d listed = true → listed.size = ops.length → Dc .any ops.toArray listed →
      (d = true → C = (fun _ => True) ∧ listed.getD k false = true) → (d = false → C = C0 ∧ listed.getD k false = false) →
      ∀ (E : Env) (a : Act) (w : World), Kn n S E a → (listed.getD k false = false → C0 w) → HOPT P n S k ops N r C E w → wpAnyG P .any ops.toArray Q C0 k fuel listed a w) →
      ∀ (i : Nat) (listed : Array Bool) (fuel : Nat) (d : Bool) (C : World → Prop), r.len ≤ fuel → ordOkT ops.toArray k r (d || (i == k)) (listed.setIfInBounds i true) = true → listed.size = ops.length → Dc .any ops.toArray listed →
      (d = true → C = (fun _ => True) ∧ listed.getD k false = true) → (d = false → C = C0 ∧ listed.getD k false = false) → i ∈ Region.ready .any ops.toArray listed →
      ∀ (E : Env) (a : Act) (w : World), Kn n S E a → (match ops[i]? with
        | none => False
        | some o => STEP P n S ops o E w fun E w => if i = k then HOPT P n S k ops N r (fun _ => True) E w else C w ∧ HOPT P n S k ops N r C E w) →
      wpOp P ops.toArray Q i (fun a' w' => ((listed.setIfInBounds i true).getD k false = false → C0 w') ∧ wpAnyG P .any ops.toArray Q C0 k fuel (listed.setIfInBounds i true) a' w') a w := by
    intro r ih j listed fuel d C hf hok' hsz hdc hd1 hd2 hjr E a w ha h
    rcases ho : ops[j]? with _ | o
    · rw [ho] at h; exact h.elim
    rw [ho] at h
    have hil : j < listed.size := by rw [hsz]; exact (List.getElem?_eq_some_iff.1 ho).1
    have hsz' : (listed.setIfInBounds j true).size = ops.length := by simpa using hsz
    have hset : (listed.setIfInBounds j true).getD j false = true := by simp [hil]
    refine eff_wp hg ho ha h fun E a w ha h => ?_
    by_cases hjk : j = k
    · rw [if_pos hjk] at h
      have hc : (listed.setIfInBounds j true).getD k false = false → C0 w := fun h' => by rw [← hjk, hset] at h'; cases h'
      have hok2 : ordOkT ops.toArray k r true (listed.setIfInBounds j true) = true := by
        rw [show (d || j == k) = true by simp [hjk]] at hok'; exact hok'
      exact ⟨hc, ih _ fuel true (fun _ => True) hf hok2 hsz' (hdc.set hjr) (fun _ => ⟨rfl, by rw [← hjk]; exact hset⟩) (fun h => by cases h) E a w ha hc h⟩
    · rw [if_neg hjk] at h
      have hki : (listed.setIfInBounds j true).getD k false = listed.getD k false := getD_set_ne false hjk
      have hok2 : ordOkT ops.toArray k r d (listed.setIfInBounds j true) = true := by
        rw [show (d || j == k) = d by simp [hjk]] at hok'; exact hok'
      have hc : (listed.setIfInBounds j true).getD k false = false → C0 w := fun h' => by
        cases d with
        | true => rw [hki, (hd1 rfl).2] at h'; cases h'
        | false => have := (hd2 rfl).1; rw [← this]; exact h.1
      exact ⟨hc, ih _ fuel d C hf hok2 hsz' (hdc.set hjr) (fun h => ⟨(hd1 h).1, by rw [hki]; exact (hd1 h).2⟩) (fun h' => ⟨(hd2 h').1, by rw [hki]; exact (hd2 h').2⟩) E a w ha hc h.2⟩
  induction ord with
  | done =>
    intro listed fuel d C hf hok _ _ _ _ E a w ha hS h
    have hr : Region.ready .any ops.toArray listed = [] := by simpa [ordOkT] using hok
    cases fuel with
    | zero => exact ⟨hr, hN E a w ha h⟩
    | succ f => exact ⟨fun _ => hN E a w ha h, fun i hi => by rw [hr] at hi; cases hi⟩
  | eff i r ih =>
    intro listed fuel d C hf hok hsz hdc hd1 hd2 E a w ha hS h
    cases fuel with
    | zero => simp [Ordr.len] at hf
    | succ fuel =>
      simp only [ordOkT, Bool.and_eq_true, beq_iff_eq] at hok
      have hr := hok.1
      refine ⟨fun h0 => (by rw [hr] at h0; cases h0), fun j hj => ?_⟩
      have hj' := hj
      rw [hr] at hj'
      obtain rfl : j = i := by simpa using hj'
      exact key r ih j listed fuel d C (by simp only [Ordr.len] at hf; omega) hok.2 hsz hdc hd1 hd2 hj E a w ha h
  | alt i r i' s ih1 ih2 =>
    intro listed fuel d C hf hok hsz hdc hd1 hd2 E a w ha hS h
    cases fuel with
    | zero => simp [Ordr.len] at hf
    | succ fuel =>
      simp only [ordOkT, Bool.and_eq_true, beq_iff_eq] at hok
      have hr := hok.1
      simp only [Ordr.len] at hf
      refine ⟨fun h0 => (by rw [hr] at h0; cases h0), fun j hj => ?_⟩
      have hj' := hj
      rw [hr] at hj'
      simp only [List.mem_cons, List.not_mem_nil, or_false] at hj'
      rcases hj' with rfl | rfl
      · exact key r ih1 j listed fuel d C (by omega) hok.2.1 hsz hdc hd1 hd2 hj E a w ha h.1
      · exact key s ih2 j listed fuel d C (by omega) hok.2.2 hsz hdc hd1 hd2 hj E a w ha h.2
  | alt3 i r i' s i'' u ih1 ih2 ih3 =>
    intro listed fuel d C hf hok hsz hdc hd1 hd2 E a w ha hS h
    cases fuel with
    | zero => simp [Ordr.len] at hf
    | succ fuel =>
      simp only [ordOkT, Bool.and_eq_true, beq_iff_eq] at hok
      have hr := hok.1
      simp only [Ordr.len] at hf
      refine ⟨fun h0 => (by rw [hr] at h0; cases h0), fun j hj => ?_⟩
      have hj' := hj
      rw [hr] at hj'
      simp only [List.mem_cons, List.not_mem_nil, or_false] at hj'
      rcases hj' with rfl | rfl | rfl
      · exact key r ih1 j listed fuel d C (by omega) hok.2.1 hsz hdc hd1 hd2 hj E a w ha h.1
      · exact key s ih2 j listed fuel d C (by omega) hok.2.2.1 hsz hdc hd1 hd2 hj E a w ha h.2.1
      · exact key u ih3 j listed fuel d C (by omega) hok.2.2.2 hsz hdc hd1 hd2 hj E a w ha h.2.2
  | free i r ih =>
    intro listed fuel d C hf hok hsz hdc hd1 hd2 E a w ha hS h
    cases fuel with
    | zero => simp [Ordr.len] at hf
    | succ fuel =>
      have hf' : r.len ≤ fuel := by simpa [Ordr.len] using hf
      unfold HOPT at h
      simp only [ordOkT, Bool.and_eq_true] at hok
      obtain ⟨hb, hok2⟩ := hok
      rcases ho : ops[i]? with _ | o
      · rw [ho] at h; exact h.elim
      have hmem : o ∈ ops := List.mem_of_getElem? ho
      have hi : ops.toArray[i]? = some o := by simpa using ho
      have hil : i < listed.size := by rw [hsz]; exact (List.getElem?_eq_some_iff.1 ho).1
      have hsz' : (listed.setIfInBounds i true).size = ops.length := by simpa using hsz
      rw [ho] at h
      simp only at h
      rw [bne_iff_ne] at hb
      obtain ⟨⟨⟨hb1, hb2⟩, hik⟩, hb4⟩ := hb
      have hki : (listed.setIfInBounds i true).getD k false = listed.getD k false := getD_set_ne false hik
      have hd2' : d = false → C = C0 ∧ (listed.setIfInBounds i true).getD k false = false := fun h => ⟨(hd2 h).1, by rw [hki]; exact (hd2 h).2⟩
      have hS' : (listed.setIfInBounds i true).getD k false = false → C0 w := fun h => hS (by rw [← hki]; exact h)
      obtain ⟨Ci, hCi, hKi, hsub⟩ : ∃ Ci : World → Prop, ((Ci = fun _ => True) ∨ (Ci = C0 ∧ (decide (ops.toArray.size ≤ k) || waits2 .any ops.toArray k i) = true)) ∧ ((Ci = fun _ => True) ∨ listed.getD k false = false) ∧ ∀ w', Ci w' → C w' := by
        cases d with
        | true => exact ⟨fun _ => True, .inl rfl, .inl rfl, fun w' _ => by rw [(hd1 rfl).1]; trivial⟩
        | false =>
          obtain ⟨h1, h2⟩ := hd2 rfl
          exact ⟨C0, .inr ⟨rfl, by simpa using hb4⟩, .inr h2, fun w' hw' => by rw [h1]; exact hw'⟩
      by_cases hw : wantedE S ops o E = true
      · rw [if_pos hw] at h
        obtain ⟨v, hv, hr⟩ := h
        refine wpAnyG_first (v := v) hi hik (Region.noSelect_spec hs) (fun c a w h => (hQ _ _ _ h).elim) Ci hCi fuel listed a w (Region.free_spec hi hb1) (by simpa using hb2) hdc
          (.inl ⟨by rw [yielded_eq ha o (guardsOk_at hg hmem)]; exact hw, fun w' hw' => ?_⟩) hS hKi
          (ih _ fuel d C hf' hok2 hsz' (hdc.set (by simpa using hb2)) (fun h => ⟨(hd1 h).1, by rw [hki]; exact (hd1 h).2⟩) hd2' _ _ w (ha.put _ _) hS' hr)
        rw [ha.eval]
        exact hv ⟨w', hsub w' hw'⟩
      · rw [if_neg hw] at h
        exact wpAnyG_first (v := undef) hi hik (Region.noSelect_spec hs) (fun c a w h => (hQ _ _ _ h).elim) Ci hCi fuel listed a w (Region.free_spec hi hb1) (by simpa using hb2) hdc
          (.inr ⟨by rw [yielded_eq ha o (guardsOk_at hg hmem)]; simpa using hw, rfl⟩) hS hKi
          (ih _ fuel d C hf' hok2 hsz' (hdc.set (by simpa using hb2)) (fun h => ⟨(hd1 h).1, by rw [hki]; exact (hd1 h).2⟩) hd2' _ _ w (ha.put _ _) hS' h)

theorem WP.vdrawT {Q : Exit → Env → World → Prop} {E : Env} {w : World} {c : Code} {l : List Oper} (hc : vRegion c = some (l, true)) (C : World → Prop) (k : Nat) (ord : Ordr) (hm : P.follows .mixedOrders = true)
    (hok : (guardsOk n l && Region.noSelect l.toArray && decide (ord.len ≤ l.length) && ordOkT l.toArray k ord false (Array.replicate l.length false)) = true)
    (hS : C w.drew) (h : ∀ U, HOPT P n S k l (Q .normal) ord C ⟨E.L, [], U⟩ w.drew) : WP P n S c Q E w := by
  cases c <;> simp [vRegion] at hc
  rename_i id ops dr
  obtain ⟨rfl, rfl⟩ := hc
  simp only [Bool.and_eq_true, decide_eq_true_eq] at hok
  obtain ⟨⟨⟨hg, hs⟩, hl⟩, ho⟩ := hok
  have hlit : ops.toList.toArray = ops := by simp
  have h0 : WP P n S (.region id ops true) (thenE (Q .normal) fun _ _ _ => False) E w := fun a ha => by
    rw [← hlit]
    refine wp_region_any hm (wpAny_of_G (C := C) (k := k) _ _ _ _ ?_)
    have hsz : ops.toList.toArray.size = ops.toList.length := by simp
    rw [hsz]
    refine HOPT.sound hg hs (N := Q .normal) (fun E a w hE h => ⟨E, hE, h⟩) ?_ C ord _ _ false C hl ho (by simp) (fun j oj _ h => by rw [getD_replicate_false] at h; cases h) (fun h => by cases h) (fun _ => ⟨rfl, getD_replicate_false _ _⟩) _ a _ ha.drop (fun _ => hS) (h _)
    rintro c a w ⟨E, _, q⟩
    exact q
  exact h0.mono fun e E w q => by
    cases e with
    | normal => exact q
    | _ => exact q.elim

variable {ops : List Oper} {N : Env → World → Prop} {E : Env} {w : World} {C : World → Prop} {q i j : Nat} {r s : Ordr}
theorem HOPT_nil : HOPT P n S q ops N .done C E w = N E w := rfl
theorem HOPT_look : HOPT P n S q ops N (.free i r) C E w = @LOOKAT P n S ops C ops[i]? E w ⟨HOPT P n S q ops N r C⟩ := by
  simp only [HOPT, LOOKAT]
  cases ops[i]? <;> simp [LOOK]
theorem HOPT_do : HOPT P n S q ops N (.eff i r) C E w = @DO P n S ops ops[i]? E w ⟨fun E w => if i = q then HOPT P n S q ops N r (fun _ => True) E w else C w ∧ HOPT P n S q ops N r C E w⟩ := by
  simp only [HOPT, DO]
  cases ops[i]? <;> simp
/-- Either way is walked by itself. -/
def WAYS (a b : Prop) : Prop := a ∧ b
theorem HOPT_alt : HOPT P n S q ops N (.alt i r j s) C E w = WAYS (HOPT P n S q ops N (.eff i r) C E w) (HOPT P n S q ops N (.eff j s) C E w) := rfl
theorem HOPT_alt3 {l : Nat} {t : Ordr} : HOPT P n S q ops N (.alt3 i r j s l t) C E w = WAYS (HOPT P n S q ops N (.eff i r) C E w) (WAYS (HOPT P n S q ops N (.eff j s) C E w) (HOPT P n S q ops N (.eff l t) C E w)) := rfl
end
attribute [go_sem] HOPT_nil HOPT_look HOPT_do HOPT_alt HOPT_alt3 Ordr.frees
end Go.Proofs.Ytephkonhiaingaa

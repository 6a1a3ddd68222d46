/- A region in whatever order: what holds is told of the set of those that have come up; one goal for each operation. -/
import Derived.Test.YtephkonhiaingaaAlt
set_option linter.unusedSimpArgs false
set_option linter.unusedVariables false
namespace Go.Proofs.Ytephkonhiaingaa
open Go Go.RowKit

section
variable {P : Program} {n : Nat} {S : List Nat}

/-- The numbers that an operation waits for. -/
def waitsOf (o : Oper) : List Nat := (o.after.toList.filter (Region.binds .any)).map (·.on)
def come (X : Nat → Bool) (i : Nat) : Nat → Bool := fun j => if j = i then true else X j
/-- One goal for each operation. -/
def SETS (P : Program) (n : Nat) (S : List Nat) (ops : List Oper) (I : (Nat → Bool) → Env → World → Prop) : Nat → List Oper → Prop
  | _, [] => True
  | i, o :: rest => (∀ X E w, X i = false → (waitsOf o).all X = true → I X E w → STEP P n S ops o E w (I (come X i))) ∧ SETS P n S ops I (i + 1) rest

theorem SETS.at {ops : List Oper} {I : (Nat → Bool) → Env → World → Prop} : ∀ (l : List Oper) (i : Nat), SETS P n S ops I i l → ∀ j o, l[j]? = some o →
    ∀ X E w, X (i + j) = false → (waitsOf o).all X = true → I X E w → STEP P n S ops o E w (I (come X (i + j)))
  | [], _, _, _, _, h => by simp at h
  | o :: l, i, h, 0, o', ho => by simp at ho; subst ho; exact h.1
  | o :: l, i, h, j + 1, o', ho => by
    rw [show i + (j + 1) = i + 1 + j by omega]
    exact SETS.at l (i + 1) h.2 j o' (by simpa using ho)

theorem STEP.mono {ops : List Oper} {o : Oper} {E : Env} {w : World} {k k' : Env → World → Prop} (h : STEP P n S ops o E w k) (hk : ∀ E w, k E w → k' E w) : STEP P n S ops o E w k' := by
  unfold STEP OPW at *
  split
  · rename_i hw
    rw [if_pos hw] at h
    revert h
    generalize (execOp (E.ev S) o).run P w = r
    cases r with
    | ok x w' => cases x with
      | value v => exact hk _ _
      | skip => exact hk _ _
      | enter f args => exact fun h => h.mono fun v w h => hk _ _ h
      | _ => exact fun h => h
    | halt x w' => exact fun h => h
  · rename_i hw
    rw [if_neg hw] at h
    exact hk _ _ h

/-- Each operation waits for earlier ones alone. -/
def earlier : Nat → List Oper → Bool
  | _, [] => true
  | i, o :: rest => (waitsOf o).all (· < i) && earlier (i + 1) rest
theorem earlier_at : ∀ (l : List Oper) (i : Nat), earlier i l = true → ∀ j o, l[j]? = some o → ∀ k ∈ waitsOf o, k < i + j
  | [], _, _, _, _, h => by simp at h
  | o :: l, i, h, 0, o', ho => by
    simp at ho; subst ho
    simp only [earlier, Bool.and_eq_true, List.all_eq_true, decide_eq_true_eq] at h
    exact fun k hk => h.1 k hk
  | o :: l, i, h, j + 1, o', ho => by
    simp only [earlier, Bool.and_eq_true] at h
    rw [show i + (j + 1) = i + 1 + j by omega]
    exact earlier_at l (i + 1) h.2 j o' (by simpa using ho)

theorem waits_iff {o : Oper} {X : Nat → Bool} : (waitsOf o).all X = true ↔ ∀ e ∈ o.after, Region.binds .any e = true → X e.on = true := by
  unfold waitsOf
  simp only [List.all_map, List.all_filter, List.all_eq_true]
  constructor
  · intro h e he hb
    have := h e (by simpa using he)
    simpa [hb] using this
  · intro h e he
    have := h e (by simpa using he)
    cases hb : Region.binds .any e <;> simp [hb] at this ⊢
    exact this

theorem all_listed {ops : List Oper} {listed : Array Bool} (hac : earlier 0 ops = true) (hsz : listed.size = ops.length) (hr : Region.ready .any ops.toArray listed = []) : ∀ i, i < ops.length → listed.getD i false = true := by
  intro i
  induction i using Nat.strongRecOn with
  | _ i ih =>
    intro hi
    rcases hl : listed.getD i false with _ | _
    · exfalso
      have ho : ops[i]? = some ops[i] := List.getElem?_eq_getElem hi
      have hm : i ∈ Region.ready .any ops.toArray listed := by
        rw [mem_ready]
        refine ⟨?_, ops[i], by simp [hi], fun e he hb => ?_⟩
        · have : i < listed.size := by omega
          simp [this] at hl ⊢; exact hl
        · have hk := earlier_at ops 0 hac i _ ho e.on (by unfold waitsOf; simp only [List.mem_map, List.mem_filter]; exact ⟨e, ⟨by simpa using he, hb⟩, rfl⟩)
          exact ih e.on (by omega) (by omega)
      rw [hr] at hm; cases hm
    · rfl

theorem SETS.sound {ops : List Oper} (hg : guardsOk n ops = true) (hac : earlier 0 ops = true) {I : (Nat → Bool) → Env → World → Prop} {Q : Exit → Act → World → Prop} (hs : SETS P n S ops I 0 ops)
    (fin : ∀ (X : Nat → Bool), (∀ i, i < ops.length → X i = true) → ∀ E a w, Kn n S E a → I X E w → Q .normal a w) :
    ∀ (fuel : Nat) (listed : Array Bool), listed.size = ops.length → listed.toList.countP (fun b => !b) ≤ fuel → ∀ (E : Env) (a : Act) (w : World), Kn n S E a → I (fun i => listed.getD i false) E w →
      wpAny P .any ops.toArray Q fuel listed a w := by
  intro fuel
  induction fuel with
  | zero =>
    intro listed hsz hc E a w ha hI
    have hall : ∀ i, i < ops.length → listed.getD i false = true := by
      intro i hi
      have hi' : i < listed.size := by omega
      have h0 : listed.toList.countP (fun b => !b) = 0 := by omega
      rw [List.countP_eq_zero] at h0
      have := h0 listed[i] (by simp)
      simpa [hi'] using this
    refine ⟨?_, fin _ hall E a w ha hI⟩
    rcases hr : Region.ready .any ops.toArray listed with _ | ⟨j, r⟩
    · rfl
    · exfalso
      have hj : j ∈ Region.ready .any ops.toArray listed := by rw [hr]; simp
      obtain ⟨h1, o, ho, _⟩ := mem_ready.1 hj
      have hlt : j < ops.length := by have := (Array.getElem?_eq_some_iff.1 ho).1; simpa using this
      have h2 := hall j hlt
      have hlt' : j < listed.size := by omega
      simp [hlt'] at h1 h2
      rw [h1] at h2; cases h2
  | succ fuel ih =>
    intro listed hsz hc E a w ha hI
    refine ⟨fun hr => fin _ (all_listed hac hsz hr) E a w ha hI, fun i hi => ?_⟩
    obtain ⟨h1, o, ho, hw⟩ := mem_ready.1 hi
    have hlt : i < ops.length := by have := (Array.getElem?_eq_some_iff.1 ho).1; simpa using this
    have hlt' : i < listed.size := by omega
    have ho' : ops[i]? = some o := by simpa using ho
    have hX : listed.getD i false = false := by simp [hlt'] at h1 ⊢; exact h1
    have hstep := SETS.at ops 0 hs i o ho' (fun i => listed.getD i false) E w (by simpa using hX) (waits_iff.2 hw) hI
    rw [Nat.zero_add] at hstep
    refine eff_wp hg ho' ha hstep fun E a w ha hI => ih (listed.setIfInBounds i true) (by simpa using hsz) ?_ E a w ha ?_
    · have hpos : listed.toList[i]? = some false := by
        simp [hlt'] at hX ⊢; exact hX
      obtain ⟨hlt2, hg2⟩ := List.getElem?_eq_some_iff.1 hpos
      have hset : (listed.setIfInBounds i true).toList = listed.toList.set i true := by simp
      rw [hset, List.countP_set hlt2, hg2]
      have : 0 < listed.toList.countP (fun b => !b) := List.countP_pos_iff.2 ⟨false, List.mem_of_getElem? hpos, rfl⟩
      simp only [Bool.not_false, Bool.not_true, ↓reduceIte, Bool.false_eq_true]
      omega
    · have hX' : (fun j => (listed.setIfInBounds i true).getD j false) = come (fun i => listed.getD i false) i := by
        funext j
        unfold come
        by_cases hj : j = i
        · subst hj; simp [hlt']
        · rw [if_neg hj, getD_set_ne false (Ne.symm hj)]
      rw [hX']; exact hI

theorem STEP_eq {ops : List Oper} {o : Oper} {E : Env} {w : World} {k : Env → World → Prop} :
    STEP P n S ops o E w k = if wantedE S ops o E then @UPON P n S o.dst E ⟨k⟩ ((execOp (E.ev S) o).run P w) else k (E.put? n S o.dst undef) w := rfl

theorem WP.vset {l : List Oper} {Q : Exit → Env → World → Prop} {E : Env} {w : World} {c : Code} (I : (Nat → Bool) → Env → World → Prop) (hs : vRegion c = some (l, true)) (hm : P.follows .mixedOrders = true)
    (hok : (guardsOk n l && earlier 0 l) = true) (h0 : ∀ U, I (fun _ => false) ⟨E.L, [], U⟩ w.drew) (step : SETS P n S l I 0 l)
    (fin : ∀ (X : Nat → Bool), (∀ i, i < l.length → X i = true) → ∀ E w, I X E w → Q .normal E w) : WP P n S c Q E w := by
  cases c <;> simp [vRegion] at hs
  obtain ⟨rfl, rfl⟩ := hs
  simp only [Bool.and_eq_true] at hok
  intro a ha
  refine wp_region_any hm ?_
  have hI := h0 (lk E.T E.U)
  have hsz : ∀ m, (Array.replicate m false).toList.countP (fun b => !b) = m := fun m => by simp [List.countP_replicate]
  refine SETS.sound hok.1 hok.2 step (Q := lift n S Q) (fun X hX E a w hE hI => ⟨E, hE, fin X hX E w hI⟩) _ _ (by simp) (by rw [hsz]; simp) _ a _ ha.drop ?_
  rw [show (fun i => (Array.replicate _ false).getD i false) = fun _ => false from funext fun i => getD_replicate_false _ _]
  exact hI
/-- Once number i has come up, slot t holds v. -/
def Fct (X : Nat → Bool) (E : Env) (i t : Nat) (v : Value) : Prop := X i = true → lk E.T E.U t = v
theorem Fct.none {E : Env} {i t : Nat} {v : Value} : Fct (fun _ => false) E i t v := fun h => by cases h
theorem Fct.keep {X : Nat → Bool} {L L' : List Value} {T : List (Nat × Value)} {U : Nat → Value} {i t : Nat} {v : Value} (h : Fct X ⟨L, T, U⟩ i t v) (j d : Nat) (u : Value) (hj : i ≠ j) (hd : t ≠ d) : Fct (come X j) ⟨L', (d, u) :: T, U⟩ i t v := fun hx => by
  have h1 : X i = true := by simpa [come, hj] using hx
  simpa [lk, hd] using h h1
theorem Fct.same {X : Nat → Bool} {L L' : List Value} {T : List (Nat × Value)} {U : Nat → Value} {i t : Nat} {v : Value} (h : Fct X ⟨L, T, U⟩ i t v) (j : Nat) (hj : i ≠ j) : Fct (come X j) ⟨L', T, U⟩ i t v := fun hx => h (by simpa [come, hj] using hx)
theorem Fct.here {X : Nat → Bool} {L : List Value} {T : List (Nat × Value)} {U : Nat → Value} {i t : Nat} {v : Value} : Fct (come X i) ⟨L, (t, v) :: T, U⟩ i t v := fun _ => by simp [lk]
theorem Fct.get {X : Nat → Bool} {L : List Value} {T : List (Nat × Value)} {U : Nat → Value} {i t : Nat} {v : Value} (h : Fct X ⟨L, T, U⟩ i t v) (hx : X i = true) : lk T U t = v := h hx
end
attribute [go_sem] STEP_eq
end Go.Proofs.Ytephkonhiaingaa

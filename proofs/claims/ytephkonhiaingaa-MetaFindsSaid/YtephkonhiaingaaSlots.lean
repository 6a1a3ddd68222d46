/- The plain law of the slots: what is looked for is found, where it lies; what isn't there has a place. -/
import Derived.Test.YtephkonhiaingaaFind
set_option linter.unusedSimpArgs false
set_option linter.unusedVariables false
namespace Go.Proofs.Ytephkonhiaingaa
open Go Go.RowKit

def posOf (n h q : Nat) : Nat := (h + q) % n

theorem posOf_lt {n h q : Nat} (hn : 0 < n) : posOf n h q < n := Nat.mod_lt _ hn
theorem posOf_zero {n h : Nat} (hh : h < n) : posOf n h 0 = h := by unfold posOf; rw [Nat.add_zero, Nat.mod_eq_of_lt hh]
theorem posOf_succ {n h q : Nat} : (posOf n h q + 1) % n = posOf n h (q + 1) := by
  unfold posOf
  rw [Nat.mod_add_mod, Nat.add_assoc]
theorem posOf_cover {n h z : Nat} (hh : h < n) (hz : z < n) : ∃ q, q < n ∧ posOf n h q = z := by
  unfold posOf
  by_cases h1 : h ≤ z
  · exact ⟨z - h, by omega, by rw [Nat.add_sub_cancel' h1, Nat.mod_eq_of_lt hz]⟩
  · refine ⟨z + n - h, by omega, ?_⟩
    rw [show h + (z + n - h) = z + n by omega, Nat.add_mod_right, Nat.mod_eq_of_lt hz]

/-- The slots tell of just the entries of pr. -/
structure SInv (ents : List Ent) (slots : List Int) (pr : Nat → Prop) : Prop where
  pow : ∃ k, slots.length = 2 ^ k
  slot : ∀ (i : Nat) (s : Int), slots[i]? = some s → s = 0 ∨ s = -1 ∨ ∃ j : Nat, s = (j : Int) + 1 ∧ pr j ∧ j < ents.length
  inj : ∀ (i i' : Nat) (s : Int), slots[i]? = some s → slots[i']? = some s → 1 ≤ s → i = i'
  path : ∀ (j : Nat) (e : Ent), pr j → ents[j]? = some e → ∃ p, p < slots.length ∧ slots[posOf slots.length (start slots e.key) p]? = some ((j : Int) + 1) ∧
    ∀ q, q < p → slots[posOf slots.length (start slots e.key) q]? ≠ some 0
  free : slots.countP (· ≠ 0) < slots.length
  keys : ∀ (j j' : Nat) (e e' : Ent), pr j → pr j' → ents[j]? = some e → ents[j']? = some e' → e.key = e'.key → j = j'

section
variable {ents : List Ent} {slots : List Int} {pr : Nat → Prop} {key : Val}

theorem SInv.pos (h : SInv ents slots pr) : 0 < slots.length := by
  obtain ⟨k, hk⟩ := h.pow; rw [hk]; exact Nat.pow_pos (by omega)
theorem SInv.start_lt (h : SInv ents slots pr) (key : Val) : start slots key < slots.length := by
  have := h.pos
  unfold start
  have := Nat.and_le_right (n := (hashV key / 2).toNat) (m := slots.length - 1)
  omega
theorem SInv.next (h : SInv ents slots pr) (i : Nat) : (i + 1) &&& (slots.length - 1) = (i + 1) % slots.length := by
  obtain ⟨k, hk⟩ := h.pow
  rw [hk, Nat.and_two_pow_sub_one_eq_mod]

theorem getD_of {i : Nat} {s : Int} (h : slots[i]? = some s) : slots.getD i 0 = s := by rw [List.getD_eq_getElem?_getD, h]; rfl

theorem SInv.keyAt_ne (h : SInv ents slots pr) {i : Nat} {s : Int} (hs : slots[i]? = some s) (h0 : s ≠ 0) (h1 : s ≠ -1) :
    ∃ (j : Nat) (e : Ent), s = (j : Int) + 1 ∧ pr j ∧ ents[j]? = some e ∧ keyAt ents s = some e.key := by
  rcases h.slot i s hs with h' | h' | ⟨j, hj, hp, hl⟩
  · exact absurd h' h0
  · exact absurd h' h1
  · refine ⟨j, ents[j], hj, hp, List.getElem?_eq_getElem hl, ?_⟩
    unfold keyAt
    rw [hj, show ((j : Int) + 1 - 1).toNat = j by omega, List.getElem?_eq_getElem hl]
    rfl

/-- A hit from place q on. -/
theorem SInv.hit_from (h : SInv ents slots pr) {j : Nat} {e : Ent} (hj : pr j) (he : ents[j]? = some e) {p : Nat} (hp : p < slots.length)
    (hs : slots[posOf slots.length (start slots e.key) p]? = some ((j : Int) + 1)) (hq : ∀ q, q < p → slots[posOf slots.length (start slots e.key) q]? ≠ some 0) :
    ∀ (d q n : Nat) (f : Int), q + d = p → n + q = slots.length → findL ents slots e.key (slots.length - 1) n (posOf slots.length (start slots e.key) q) f = (((posOf slots.length (start slots e.key) p : Nat) : Int), true) := by
  intro d
  induction d with
  | zero =>
    intro q n f hd hn
    obtain rfl : q = p := by omega
    obtain ⟨n, rfl⟩ : ∃ m, n = m + 1 := ⟨n - 1, by omega⟩
    have hk : keyAt ents ((j : Int) + 1) = some e.key := by unfold keyAt; rw [show ((j : Int) + 1 - 1).toNat = j by omega, he]; rfl
    rw [findL, getD_of hs, if_neg (by omega), if_neg (by omega), if_pos hk]
  | succ d ih =>
    intro q n f hd hn
    obtain ⟨n, rfl⟩ : ∃ m, n = m + 1 := ⟨n - 1, by omega⟩
    have hlt := posOf_lt (n := slots.length) (h := start slots e.key) (q := q) h.pos
    obtain ⟨s, hsq⟩ : ∃ s, slots[posOf slots.length (start slots e.key) q]? = some s := ⟨_, List.getElem?_eq_getElem hlt⟩
    have hne : s ≠ 0 := fun h0 => hq q (by omega) (h0 ▸ hsq)
    have hih := fun f => ih (q + 1) n f (by omega) (by omega)
    rw [findL, getD_of hsq, if_neg hne, h.next, posOf_succ]
    split
    · exact hih _
    · rename_i h1
      obtain ⟨j', e', hsj, hpj, he', hk⟩ := h.keyAt_ne hsq hne h1
      rw [if_neg]
      · exact hih _
      · rw [hk]
        intro hkk
        injection hkk with hkk
        have := h.keys j' j e' e hpj hj he' he hkk
        subst this
        have hpos := h.inj _ _ _ (hsj ▸ hsq) hs (by omega)
        -- the same place at two steps: below the number of slots there is none
        have h1 := h.start_lt e.key
        unfold posOf at hpos
        have e1 : q = p := by
          have a1 : (start slots e.key + q) % slots.length = (start slots e.key + p) % slots.length := hpos
          rcases Nat.lt_or_ge (start slots e.key + q) slots.length with c1 | c1 <;> rcases Nat.lt_or_ge (start slots e.key + p) slots.length with c2 | c2
          · rw [Nat.mod_eq_of_lt c1, Nat.mod_eq_of_lt c2] at a1; omega
          · rw [Nat.mod_eq_of_lt c1, Nat.mod_eq_sub_mod c2, Nat.mod_eq_of_lt (by omega)] at a1; omega
          · rw [Nat.mod_eq_of_lt c2, Nat.mod_eq_sub_mod c1, Nat.mod_eq_of_lt (by omega)] at a1; omega
          · rw [Nat.mod_eq_sub_mod c1, Nat.mod_eq_sub_mod c2, Nat.mod_eq_of_lt (by omega), Nat.mod_eq_of_lt (by omega)] at a1; omega
        omega

/-- Where a key that isn't there would go. -/
def Place (slots : List Int) (key : Val) (i : Nat) : Prop :=
  ∃ p, p < slots.length ∧ posOf slots.length (start slots key) p = i ∧ (slots[i]? = some 0 ∨ slots[i]? = some (-1)) ∧
    ∀ q, q < p → ∃ s, slots[posOf slots.length (start slots key) q]? = some s ∧ 1 ≤ s

theorem SInv.miss_from (h : SInv ents slots pr) (hno : ∀ j e, pr j → ents[j]? = some e → e.key ≠ key) {p : Nat} (hp : p < slots.length)
    (hs : slots[posOf slots.length (start slots key) p]? = some 0) (hq : ∀ q, q < p → slots[posOf slots.length (start slots key) q]? ≠ some 0) :
    ∀ (d q n : Nat) (f : Int), q + d = p → n + q = slots.length →
      ((0 ≤ f ∧ findL ents slots key (slots.length - 1) n (posOf slots.length (start slots key) q) f = (f, false)) ∨
       (f < 0 ∧ ((∀ q', q' < q → ∃ s, slots[posOf slots.length (start slots key) q']? = some s ∧ 1 ≤ s) → ∃ i : Nat, findL ents slots key (slots.length - 1) n (posOf slots.length (start slots key) q) f = ((i : Int), false) ∧ Place slots key i))) := by
  intro d
  induction d with
  | zero =>
    intro q n f hd hn
    obtain rfl : q = p := by omega
    obtain ⟨n, rfl⟩ : ∃ m, n = m + 1 := ⟨n - 1, by omega⟩
    rw [findL, getD_of hs, if_pos rfl]
    by_cases hf : f < 0
    · refine .inr ⟨hf, fun hall => ⟨_, by rw [if_pos hf], q, hp, rfl, .inl hs, hall⟩⟩
    · exact .inl ⟨by omega, by rw [if_neg hf]⟩
  | succ d ih =>
    intro q n f hd hn
    obtain ⟨n, rfl⟩ : ∃ m, n = m + 1 := ⟨n - 1, by omega⟩
    have hlt := posOf_lt (n := slots.length) (h := start slots key) (q := q) h.pos
    obtain ⟨s, hsq⟩ : ∃ s, slots[posOf slots.length (start slots key) q]? = some s := ⟨_, List.getElem?_eq_getElem hlt⟩
    have hne : s ≠ 0 := fun h0 => hq q (by omega) (h0 ▸ hsq)
    have hih := fun f => ih (q + 1) n f (by omega) (by omega)
    rw [findL, getD_of hsq, if_neg hne, h.next, posOf_succ]
    split
    · rename_i h1
      by_cases hf : f < 0
      · rw [if_pos hf]
        refine .inr ⟨hf, fun hall => ?_⟩
        rcases hih ((posOf slots.length (start slots key) q : Nat) : Int) with ⟨_, h2⟩ | ⟨h2, _⟩
        · exact ⟨_, h2, q, by omega, rfl, .inr (h1 ▸ hsq), hall⟩
        · omega
      · rw [if_neg hf]
        rcases hih f with h2 | ⟨h2, _⟩
        · exact .inl h2
        · omega
    · rename_i h1
      obtain ⟨j', e', hsj, hpj, he', hk⟩ := h.keyAt_ne hsq hne h1
      rw [if_neg (by rw [hk]; intro hkk; injection hkk with hkk; exact hno _ _ hpj he' hkk)]
      rcases hih f with h2 | ⟨h2, h3⟩
      · exact .inl h2
      · refine .inr ⟨h2, fun hall => h3 fun q' hq' => ?_⟩
        by_cases hqq : q' = q
        · subst hqq; exact ⟨s, hsq, by omega⟩
        · exact hall q' (by omega)

theorem SInv.start_pos (h : SInv ents slots pr) (key : Val) : posOf slots.length (start slots key) 0 = start slots key := posOf_zero (h.start_lt key)

/-- What is there is found. -/
theorem SInv.hit (h : SInv ents slots pr) {j : Nat} {e : Ent} (hj : pr j) (he : ents[j]? = some e) :
    ∃ i : Nat, findL ents slots e.key (slots.length - 1) slots.length (start slots e.key) (-1) = ((i : Int), true) ∧ slots[i]? = some ((j : Int) + 1) := by
  obtain ⟨p, hp, hs, hq⟩ := h.path j e hj he
  have := h.hit_from hj he hp hs hq p 0 slots.length (-1) (by omega) (by omega)
  rw [h.start_pos] at this
  exact ⟨_, this, hs⟩

/-- What isn't there has a place. -/
theorem SInv.miss (h : SInv ents slots pr) (hno : ∀ j e, pr j → ents[j]? = some e → e.key ≠ key) :
    ∃ i : Nat, findL ents slots key (slots.length - 1) slots.length (start slots key) (-1) = ((i : Int), false) ∧ Place slots key i := by
  have hz : ∃ z, z < slots.length ∧ slots[z]? = some 0 := by
    have hfree := h.free
    refine Classical.byContradiction fun hno => ?_
    have : slots.countP (· ≠ 0) = slots.length := List.countP_eq_length.2 fun a ha => by
      obtain ⟨z, hz⟩ := List.mem_iff_getElem?.1 ha
      have hzl : z < slots.length := (List.getElem?_eq_some_iff.1 hz).1
      simp only [ne_eq, decide_not, Bool.not_eq_eq_eq_not, Bool.not_true, decide_eq_false_iff_not]
      rintro rfl
      exact hno ⟨z, hzl, hz⟩
    omega
  obtain ⟨z, hzl, hz⟩ := hz
  obtain ⟨q0, hq0, hpq⟩ := posOf_cover (h.start_lt key) hzl
  obtain ⟨p, ⟨hpl, hps⟩, hmin⟩ := least_ex (fun p => p < slots.length ∧ slots[posOf slots.length (start slots key) p]? = some 0) ⟨q0, hq0, by rw [hpq]; exact hz⟩
  have := h.miss_from hno hpl hps (fun q hq h0 => by have := hmin q ⟨by omega, h0⟩; omega) p 0 slots.length (-1) (by omega) (by omega)
  rw [h.start_pos] at this
  rcases this with ⟨h1, _⟩ | ⟨_, h2⟩
  · omega
  · exact h2 fun q' hq' => by omega

theorem set_at {α : Type} {l : List α} {i : Nat} (hil : i < l.length) (v : α) (j : Nat) : (l.set i v)[j]? = if i = j then some v else l[j]? := by
  rw [List.getElem?_set]
  split <;> rfl
theorem start_set (i : Nat) (v : Int) (key : Val) : start (slots.set i v) key = start slots key := by unfold start; rw [List.length_set]

/-- A new one is put at its place. -/
theorem SInv.insert (h : SInv ents slots pr) {ents' : List Ent} {m i : Nat} {e : Ent} (hpl : Place slots key i) (hkey : e.key = key) (hem : ents'[m]? = some e)
    (hold : ∀ j, pr j → ents'[j]? = ents[j]?) (hno : ∀ j e, pr j → ents[j]? = some e → e.key ≠ key) (hm : ¬ pr m) (hprl : ∀ j, pr j → j < ents.length)
    (hfree : (slots.set i ((m : Int) + 1)).countP (· ≠ 0) < slots.length) : SInv ents' (slots.set i ((m : Int) + 1)) (fun j => pr j ∨ j = m) := by
  obtain ⟨p0, hp0, hpi, hs0, hq0⟩ := hpl
  have hil : i < slots.length := by rw [← hpi]; exact posOf_lt h.pos
  have hs0' : ∀ s, slots[i]? = some s → s ≤ 0 := by
    intro s hs
    rcases hs0 with h0 | h0 <;> rw [h0] at hs <;> injection hs with hs <;> omega
  refine ⟨by rw [List.length_set]; exact h.pow, ?_, ?_, ?_, by rw [List.length_set]; exact hfree, ?_⟩
  · intro i' s hs
    rw [set_at hil] at hs
    split at hs
    · 
      injection hs with hs
      exact .inr (.inr ⟨m, hs.symm, .inr rfl, (List.getElem?_eq_some_iff.1 hem).1⟩)
    · rcases h.slot i' s hs with h' | h' | ⟨j, hj, hpj, hjl⟩
      · exact .inl h'
      · exact .inr (.inl h')
      · refine .inr (.inr ⟨j, hj, .inl hpj, ?_⟩)
        have := hold j hpj
        rw [List.getElem?_eq_getElem hjl] at this
        exact (List.getElem?_eq_some_iff.1 this).1
  · intro a a' s ha ha' hs
    rw [set_at hil] at ha ha'
    have old : ∀ b : Nat, slots[b]? = some ((m : Int) + 1) → False := fun b hb => by
      rcases h.slot b _ hb with h' | h' | ⟨j, hj, hpj, _⟩
      · omega
      · omega
      · exact hm (by rw [show m = j by omega]; exact hpj)
    split at ha <;> split at ha'
    · omega
    · injection ha with ha; exact (old a' (ha ▸ ha')).elim
    · injection ha' with ha'; exact (old a (ha' ▸ ha)).elim
    · exact h.inj a a' s ha ha' hs
  · intro j e' hj he'
    simp only [List.length_set, start_set]
    by_cases hjm : j = m
    · subst hjm
      rw [hem] at he'
      injection he' with he'
      subst he'
      rw [hkey]
      refine ⟨p0, hp0, ?_, fun q hq => ?_⟩
      · rw [hpi, set_at hil, if_pos rfl]
      · obtain ⟨s, hs, h1⟩ := hq0 q hq
        rw [set_at hil]
        split
        · intro hc; injection hc with hc; omega
        · rw [hs]; intro hc; injection hc with hc; omega
    · have hpj := hj.resolve_right hjm
      rw [hold j hpj] at he'
      obtain ⟨p, hp, hs, hq⟩ := h.path j e' hpj he'
      refine ⟨p, hp, ?_, fun q hq' => ?_⟩
      · rw [set_at hil, if_neg]
        · exact hs
        · intro hc
          have := hs0' _ (hc ▸ hs)
          omega
      · rw [set_at hil]
        split
        · intro hc; injection hc with hc; omega
        · exact hq q hq'
  · intro a a' e1 e2 ha ha' h1 h2 hk
    by_cases ham : a = m <;> by_cases ham' : a' = m
    · omega
    · exfalso
      subst ham
      rw [hem] at h1; injection h1 with h1; subst h1
      have hp := ha'.resolve_right ham'
      rw [hold a' hp] at h2
      exact hno a' e2 hp h2 (hk ▸ hkey)
    · exfalso
      subst ham'
      rw [hem] at h2; injection h2 with h2; subst h2
      have hp := ha.resolve_right ham
      rw [hold a hp] at h1
      exact hno a e1 hp h1 (hk.trans hkey)
    · have hp := ha.resolve_right ham
      have hp' := ha'.resolve_right ham'
      rw [hold a hp] at h1
      rw [hold a' hp'] at h2
      exact h.keys a a' e1 e2 hp hp' h1 h2 hk

/-- One goes. -/
theorem SInv.remove (h : SInv ents slots pr) {ents' : List Ent} {m i : Nat} (hsi : slots[i]? = some ((m : Int) + 1))
    (hold : ∀ j, pr j → j ≠ m → ents'[j]? = ents[j]?) : SInv ents' (slots.set i (-1)) (fun j => pr j ∧ j ≠ m) := by
  have hil : i < slots.length := (List.getElem?_eq_some_iff.1 hsi).1
  refine ⟨by rw [List.length_set]; exact h.pow, ?_, ?_, ?_, ?_, ?_⟩
  · intro i' s hs
    rw [set_at hil] at hs
    split at hs
    · injection hs with hs; exact .inr (.inl hs.symm)
    · rename_i hne
      rcases h.slot i' s hs with h' | h' | ⟨j, hj, hpj, hjl⟩
      · exact .inl h'
      · exact .inr (.inl h')
      · have hjm : j ≠ m := by
          rintro rfl
          exact hne (h.inj i i' _ hsi (hj ▸ hs) (by omega))
        refine .inr (.inr ⟨j, hj, ⟨hpj, hjm⟩, ?_⟩)
        have := hold j hpj hjm
        rw [List.getElem?_eq_getElem hjl] at this
        exact (List.getElem?_eq_some_iff.1 this).1
  · intro a a' s ha ha' hs
    rw [set_at hil] at ha ha'
    split at ha
    · injection ha with ha; omega
    · split at ha'
      · injection ha' with ha'; omega
      · exact h.inj a a' s ha ha' hs
  · intro j e ⟨hpj, hjm⟩ he
    rw [hold j hpj hjm] at he
    simp only [List.length_set, start_set]
    obtain ⟨p, hp, hs, hq⟩ := h.path j e hpj he
    refine ⟨p, hp, ?_, fun q hq' => ?_⟩
    · rw [set_at hil, if_neg]
      · exact hs
      · intro hc
        rw [← hc, hsi] at hs
        injection hs with hs
        omega
    · rw [set_at hil]
      split
      · intro hc; injection hc with hc; omega
      · exact hq q hq'
  · rw [List.length_set, List.countP_set hil]
    have := h.free
    have h1 : slots[i] = (m : Int) + 1 := by rw [List.getElem?_eq_getElem hil] at hsi; injection hsi
    have h2 : 0 < slots.countP (· ≠ 0) := List.countP_pos_iff.2 ⟨slots[i], List.getElem_mem hil, by rw [h1]; simp; omega⟩
    rw [h1, if_pos (by simp; omega), if_pos (by decide)]
    omega
  · intro a a' e1 e2 ⟨ha, ham⟩ ⟨ha', ham'⟩ h1 h2 hk
    rw [hold a ha ham] at h1
    rw [hold a' ha' ham'] at h2
    exact h.keys a a' e1 e2 ha ha' h1 h2 hk
end

/-- Nothing is there yet. -/
theorem SInv.zero (ents : List Ent) {k : Nat} {pr : Nat → Prop} (hpr : ∀ j, ¬ pr j) : SInv ents (List.replicate (2 ^ k) 0) pr := by
  have hp : 0 < 2 ^ k := Nat.pow_pos (by omega)
  refine ⟨⟨k, by simp⟩, ?_, ?_, fun j _ hj => (hpr j hj).elim, ?_, fun j _ _ _ hj => (hpr j hj).elim⟩
  · intro i s hs
    rw [List.getElem?_replicate] at hs
    split at hs
    · injection hs with hs; exact .inl hs.symm
    · cases hs
  · intro i i' s hs _ h1
    rw [List.getElem?_replicate] at hs
    split at hs
    · injection hs with hs; omega
    · cases hs
  · rw [List.length_replicate, List.countP_replicate]
    simpa using hp
end Go.Proofs.Ytephkonhiaingaa

/- What a walk knows of memory, as one list of parts: each says something of blocks of its own. -/
import Derived.Test.YtephkonhiaingaaMem
set_option linter.unusedSimpArgs false
set_option linter.unusedVariables false
namespace Go.Proofs.Ytephkonhiaingaa
open Go Go.RowKit

/-- A part of memory: what it says of a world, and of the blocks that it owns. -/
structure Part where
  says : World → (Nat → Prop) → Prop
  chg : ∀ {w w' : World} {F F' : Nat → Prop}, says w F → Chg F' w w' → (∀ b, F b → ¬ F' b) → says w' F
  mono : ∀ {w : World} {F F' : Nat → Prop}, says w F → (∀ b, F b → F' b) → says w F'
  inside : ∀ {w : World} {F : Nat → Prop}, says w F → says w (fun b => F b ∧ b < w.heap.size)

/-- A block that is known whole. -/
abbrev box (b : Nat) (o : Obj) : Part :=
  ⟨fun w F => F b ∧ Has w b o, fun h hx hd => ⟨h.1, h.2.chg hx (hd _ h.1)⟩, fun h hF => ⟨hF _ h.1, h.2⟩, fun h => ⟨⟨h.1, h.2.lt⟩, h.2⟩⟩
/-- Nothing any more. -/
abbrev gone : Part := ⟨fun _ _ => True, fun _ _ _ => trivial, fun _ _ => trivial, fun _ => trivial⟩
/-- A slice that owns its row. -/
abbrev row (e s : Nat) (v : Value) (n : Nat) (cs : List Value) : Part :=
  ⟨fun w F => Own w e s v n cs F, fun h hx hd => h.chg hx hd, fun h hF => h.mono hF, fun h => ⟨h.1, fun g hg => ⟨h.2 g hg, h.lt g hg⟩⟩⟩

/-- What is known: each part says what it says, of blocks of its own; these are new since w0, or of G; and nothing else has turned. -/
structure St (w0 : World) (G : Nat → Prop) (l : List Part) (w : World) : Prop where
  chg : Chg G w0 w
  own : ∃ own : Nat → Nat, (∀ b, own b ≠ 0 → b < w.heap.size ∧ (G b ∨ w0.heap.size ≤ b)) ∧ ∀ (k : Nat) (p : Part), l[k]? = some p → p.says w (fun b => own b = k + 1)

section
variable {w0 w w' : World} {G F F' : Nat → Prop} {l : List Part} {p q : Part} {k i b : Nat} {o : Obj} {cs : Array Value} {T : TypeId} {z : Nat × Nat}

theorem St.start (w : World) (G : Nat → Prop) : St w G [] w := ⟨Chg.refl _ _, fun _ => 0, fun b h => absurd rfl h, fun k p h => by simp at h⟩

open Classical in
theorem St.start1 (h : p.says w F) : St w F [p] w :=
  ⟨Chg.refl _ _, fun b => if F b ∧ b < w.heap.size then 1 else 0, fun b hb => by
    by_cases h : F b ∧ b < w.heap.size
    · exact ⟨h.2, .inl h.1⟩
    · simp [h] at hb, fun k q hk => by
    rcases k with _ | k
    · simp only [List.getElem?_cons_zero, Option.some.injEq] at hk
      subst hk
      exact p.mono (p.inside h) fun b hb => by simp [hb]
    · simp at hk⟩
open Classical in
theorem St.start2 (h : p.says w F) (h' : q.says w F') (hd : ∀ b, F b → ¬ F' b) : St w (fun b => F b ∨ F' b) [p, q] w :=
  ⟨Chg.refl _ _, fun b => if F b ∧ b < w.heap.size then 1 else if F' b ∧ b < w.heap.size then 2 else 0, fun b hb => by
    by_cases h : F b ∧ b < w.heap.size
    · exact ⟨h.2, .inl (.inl h.1)⟩
    · by_cases h' : F' b ∧ b < w.heap.size
      · exact ⟨h'.2, .inl (.inr h'.1)⟩
      · simp [h, h'] at hb, fun k r hk => by
    rcases k with _ | _ | k
    · simp at hk; subst hk
      exact p.mono (p.inside h) fun b hb => by simp [hb]
    · simp at hk; subst hk
      exact q.mono (q.inside h') fun b hb => by
        have hn : ¬ F b := fun h => hd b h hb.1
        simp [hb, hn]
    · simp at hk⟩

theorem St.ext (h : St w0 G l w) (hx : Ext w w') : St w0 G l w' := by
  obtain ⟨hc, own, h1, h2⟩ := h
  exact ⟨hc.trans hx, own, fun b hb => ⟨Nat.lt_of_lt_of_le (h1 b hb).1 hx.size, (h1 b hb).2⟩, fun k p hk => p.chg (h2 k p hk) hx fun _ _ h => h⟩
theorem St.drew (h : St w0 G l w) : St w0 G l w.drew := h.ext ((Ext.refl w).drew)
theorem St.drewN (h : St w0 G l w) (n : Nat) : St w0 G l (w.drewN n) := h.ext ((Ext.refl w).drewN n)

/-- Something has come, and nothing else has turned. -/
theorem St.add (h : St w0 G l w) (hx : Ext w w') (p : Part) (hp : p.says w' (fun b => w.heap.size ≤ b)) : St w0 G (l ++ [p]) w' := by
  have hx' := hx.size
  obtain ⟨hc, own, h1, h2⟩ := h
  have hcs := hc.size
  refine ⟨hc.trans hx, fun b => if b < w.heap.size then own b else if b < w'.heap.size then l.length + 1 else 0, fun b hb => ?_, fun k q hk => ?_⟩
  · by_cases hlt : b < w.heap.size
    · simp only [hlt, if_true] at hb
      exact ⟨by omega, (h1 b hb).2⟩
    · by_cases hlt' : b < w'.heap.size
      · exact ⟨hlt', .inr (by omega)⟩
      · simp [hlt, hlt'] at hb
  · rcases Nat.lt_or_ge k l.length with hl | hl
    · rw [List.getElem?_append_left hl] at hk
      exact q.mono (q.chg (h2 k q hk) hx fun _ _ h => h) fun b hb => by
        have := (h1 b (by omega)).1
        simp [this, hb]
    · rw [List.getElem?_append_right hl] at hk
      obtain ⟨j, hj⟩ : ∃ j, j = k - l.length := ⟨_, rfl⟩
      rcases j with _ | j
      · rw [← hj] at hk
        simp at hk; subst hk
        have : k = l.length := by omega
        subst this
        exact p.mono (p.inside hp) fun b hb => by simp [hb.2, show ¬ b < w.heap.size from by have := hb.1; omega]
      · rw [← hj] at hk; simp at hk
theorem St.alloc (h : St w0 G l w) (o : Obj) : St w0 G (l ++ [box w.heap.size o]) (w.alloc o) :=
  h.add ((Ext.refl w).alloc o) _ ⟨Nat.le_refl _, Has.new w o⟩

theorem alloc_size (w : World) (o : Obj) : (w.alloc o).heap.size = w.heap.size + 1 := by simp
theorem St.alloc2 (h : St w0 G l w) (o1 o2 : Obj) : St w0 G (l ++ [box w.heap.size o1, box (w.heap.size + 1) o2]) ((w.alloc o1).alloc o2) := by
  have h := (h.alloc o1).alloc o2
  rw [alloc_size, List.append_assoc] at h
  exact h
theorem St.alloc3 (h : St w0 G l w) (o1 o2 o3 : Obj) : St w0 G (l ++ [box w.heap.size o1, box (w.heap.size + 1) o2, box (w.heap.size + 1 + 1) o3]) (((w.alloc o1).alloc o2).alloc o3) := by
  have h := (h.alloc2 o1 o2).alloc o3
  rw [alloc_size, alloc_size, List.append_assoc] at h
  exact h
theorem St.alloc4 (h : St w0 G l w) (o1 o2 o3 o4 : Obj) :
    St w0 G (l ++ [box w.heap.size o1, box (w.heap.size + 1) o2, box (w.heap.size + 1 + 1) o3, box (w.heap.size + 1 + 1 + 1) o4]) ((((w.alloc o1).alloc o2).alloc o3).alloc o4) := by
  have h := (h.alloc3 o1 o2 o3).alloc o4
  rw [alloc_size, alloc_size, alloc_size, List.append_assoc] at h
  exact h

/-- A part has turned, with new blocks perhaps. -/
theorem St.turn (h : St w0 G l w) (hk : l[k]? = some p) : ∃ F, p.says w F ∧ ∀ (q : Part) {w' : World}, q.says w' (fun b => F b ∨ w.heap.size ≤ b) → Chg F w w' → St w0 G (l.set k q) w' := by
  obtain ⟨hc, own, h1, h2⟩ := h
  refine ⟨_, h2 k p hk, fun q w' hq hx => ?_⟩
  have hx' := hx.size
  have hcs := hc.size
  refine ⟨hc.and_then hx fun b hb hb' => ?_, fun b => if b < w.heap.size then own b else if b < w'.heap.size then k + 1 else 0, fun b hb => ?_, fun j r hj => ?_⟩
  · rcases (h1 b (by omega)).2 with h | h
    · exact h
    · omega
  · by_cases hlt : b < w.heap.size
    · simp only [hlt, if_true] at hb
      exact ⟨by omega, (h1 b hb).2⟩
    · by_cases hlt' : b < w'.heap.size
      · exact ⟨hlt', .inr (by omega)⟩
      · simp [hlt, hlt'] at hb
  · rw [List.getElem?_set] at hj
    by_cases hkj : k = j
    · subst hkj
      rw [if_pos rfl, if_pos (List.getElem?_eq_some_iff.1 hk).1] at hj
      cases hj
      refine q.mono (q.inside hq) fun b hb => ?_
      rcases hb with ⟨hb | hb, hlt⟩
      · have := (h1 b (by omega)).1
        simp [this, hb]
      · simp [hlt, show ¬ b < w.heap.size by omega]
    · rw [if_neg hkj] at hj
      refine r.mono (r.chg (h2 j r hj) hx fun b hb hb' => by omega) fun b hb => ?_
      have := (h1 b (by omega)).1
      simp [this, hb]

/-- A part has taken in another one. -/
theorem St.take (h : St w0 G l w) {j : Nat} (hk : l[k]? = some p) (hj : l[j]? = some q) (hkj : k ≠ j) : ∃ F F', p.says w F ∧ q.says w F' ∧ (∀ b, F b → ¬ F' b) ∧
    ∀ (r : Part) {w' : World}, r.says w' (fun b => F b ∨ F' b ∨ w.heap.size ≤ b) → Chg (fun b => F b ∨ F' b) w w' → St w0 G ((l.set k r).set j gone) w' := by
  obtain ⟨hc, own, h1, h2⟩ := h
  refine ⟨_, _, h2 k p hk, h2 j q hj, fun b hb hb' => by omega, fun r w' hr hx => ?_⟩
  have hx' := hx.size
  have hcs := hc.size
  refine ⟨hc.and_then hx fun b hb hb' => ?_, fun b => if b < w.heap.size then (if own b = j + 1 then k + 1 else own b) else if b < w'.heap.size then k + 1 else 0, fun b hb => ?_, fun m s hm => ?_⟩
  · rcases (h1 b (by omega)).2 with h | h
    · exact h
    · omega
  · by_cases hlt : b < w.heap.size
    · simp only [hlt, if_true] at hb
      have : own b ≠ 0 := fun h => by rw [h, if_neg (by omega)] at hb; exact hb rfl
      exact ⟨by omega, (h1 b this).2⟩
    · by_cases hlt' : b < w'.heap.size
      · exact ⟨hlt', .inr (by omega)⟩
      · simp [hlt, hlt'] at hb
  · rw [List.getElem?_set] at hm
    have hkl := (List.getElem?_eq_some_iff.1 hk).1
    have hjl := (List.getElem?_eq_some_iff.1 hj).1
    by_cases hjm : j = m
    · subst hjm
      rw [if_pos rfl, if_pos (by simpa using hjl)] at hm
      cases hm
      trivial
    · rw [if_neg hjm, List.getElem?_set] at hm
      by_cases hkm : k = m
      · subst hkm
        rw [if_pos rfl, if_pos hkl] at hm
        cases hm
        refine r.mono (r.inside hr) fun b hb => ?_
        rcases hb with ⟨hb | hb | hb, hlt⟩
        · have := (h1 b (by omega)).1
          simp [this, hb]
        · have := (h1 b (by omega)).1
          simp [this, hb]
        · simp [hlt, show ¬ b < w.heap.size by omega]
      · rw [if_neg hkm] at hm
        refine s.mono (s.chg (h2 m s hm) hx fun b hb hb' => by omega) fun b hb => ?_
        have := (h1 b (by omega)).1
        simp [this, hb, show ¬ m = j from fun h => hjm h.symm]

/-- What a part says, of the function's own blocks. -/
theorem St.part (h : St w0 G l w) (hk : l[k]? = some p) : p.says w (fun b => G b ∨ w0.heap.size ≤ b) := by
  obtain ⟨hc, own, h1, h2⟩ := h
  exact p.mono (h2 k p hk) fun b hb => (h1 b (by omega)).2
theorem St.has (h : St w0 G l w) (hk : l[k]? = some (box b o)) : Has w b o := (h.part hk).2
theorem St.cell (h : St w0 G l w) (hk : l[k]? = some (box b (.cells cs T z))) (i : Nat) : w.cell? ⟨b, i, none⟩ = cs[i]? := (h.has hk).cell i
theorem St.frozen (h : St w0 G l w) (hk : l[k]? = some (box b (.cells cs T (0, 0)))) (i : Nat) : w.frozen? ⟨b, i, none⟩ = false := (h.has hk).frozen i
theorem St.drop (h : St w0 G l w) (hk : l[k]? = some p) : St w0 G (l.set k gone) w := by
  obtain ⟨F, hp, bk⟩ := h.turn hk
  exact bk gone trivial (Chg.refl _ _)
theorem St.ne {b' : Nat} {o' : Obj} {j : Nat} (h : St w0 G l w) (hk : l[k]? = some (box b o)) (hj : l[j]? = some (box b' o')) (hkj : k ≠ j) : b ≠ b' := by
  obtain ⟨hc, own, h1, h2⟩ := h
  have := (h2 k _ hk).1
  have := (h2 j _ hj).1
  rintro rfl
  omega
/-- Later parts are forgotten. -/
theorem St.less (h : St w0 G l w) (m : Nat) : St w0 G (l.take m) w := by
  obtain ⟨hc, own, h1, h2⟩ := h
  refine ⟨hc, own, h1, fun k p hk => ?_⟩
  rw [List.getElem?_take] at hk
  split at hk
  · exact h2 k p hk
  · cases hk
/-- A block comes where there was nothing. -/
theorem St.comes (h : St w0 G l w) (hk : l[k]? = some gone) (o : Obj) : St w0 G (l.set k (box w.heap.size o)) (w.alloc o) := by
  obtain ⟨F, hp, bk⟩ := h.turn hk
  exact bk _ ⟨.inr (Nat.le_refl _), Has.new w o⟩ ((Chg.refl F w).alloc o)
/-- A cell of a block is stored. -/
theorem St.set (h : St w0 G l w) (hk : l[k]? = some (box b (.cells cs T z))) (i : Nat) (v : Value) : St w0 G (l.set k (box b (.cells (cs.setIfInBounds i v) T z))) (w.setCell ⟨b, i, none⟩ v) := by
  obtain ⟨F, hp, bk⟩ := h.turn hk
  exact bk _ ⟨.inl hp.1, hp.2.setCell i v⟩ ((Chg.refl F w).setCell (fun _ => hp.1) v)
end
end Go.Proofs.Ytephkonhiaingaa

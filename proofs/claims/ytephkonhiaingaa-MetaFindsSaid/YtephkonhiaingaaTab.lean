/- Tables by their keys: the plain law of what is put, deleted and laid anew. -/
import Derived.Test.YtephkonhiaingaaSlots
set_option linter.unusedSimpArgs false
set_option linter.unusedVariables false
namespace Go.Proofs.Ytephkonhiaingaa
open Go Go.RowKit

structure Item where
  key : Val
  val : Val
  ser : Int

/-- A table as it is told: keys, their values and when they came. -/
structure Dict where
  items : List Item
  serial : Int

def Ent.item (e : Ent) : Item := ⟨e.key, e.val, e.ser⟩
def itemsOf (l : List Ent) : List Item := (l.filter fun e => !e.gone).map Ent.item
def Live (l : List Ent) (j : Nat) : Prop := ∃ e, l[j]? = some e ∧ e.gone = false

structure TInv (T : TabL) : Prop where
  slots : (T.slots = [] ∧ T.ents = [] ∧ T.used = 0) ∨ SInv T.ents T.slots (Live T.ents)
  live : T.live = ((itemsOf T.ents).length : Int)
  used : (T.slots.countP (· ≠ 0) : Int) ≤ T.used
  load : 4 * T.used ≤ 3 * (T.slots.length : Int)
  ser : T.ents.Pairwise (fun a b => a.ser < b.ser)
  serle : ∀ e ∈ T.ents, 1 ≤ e.ser ∧ e.ser ≤ T.serial
  ser0 : 0 ≤ T.serial
  size : (T.slots.length : Int) ≤ 8 * (T.serial + 1)
  kb : ∀ e ∈ T.ents, e.key.t.size ≤ 1000000000

def Dict.get (D : Dict) (key : Val) : Option Val := (D.items.find? fun x => x.key = key).map Item.val
def Dict.set (D : Dict) (key val : Val) : Dict := ⟨D.items.map fun x => if x.key = key then { x with val := val } else x, D.serial⟩
def Dict.add (D : Dict) (key val : Val) : Dict := ⟨D.items ++ [⟨key, val, D.serial + 1⟩], D.serial + 1⟩
def Dict.put (D : Dict) (key val : Val) : Dict := if (D.get key).isSome then D.set key val else D.add key val
def Dict.del (D : Dict) (key : Val) : Dict := ⟨D.items.filter fun x => x.key ≠ key, D.serial⟩
def Dict.next (D : Dict) (c : Int) : Option Item := D.items.find? fun x => c < x.ser
def Dict.empty : Dict := ⟨[], 0⟩

section
variable {T : TabL} {key val : Val}

theorem mem_at {α : Type} {l : List α} {j : Nat} {e : α} (h : l[j]? = some e) : e ∈ l := List.mem_of_getElem? h

theorem filter_set_live {l : List Ent} {j : Nat} {e e' : Ent} (he : l[j]? = some e) (hg : e.gone = false) (hg' : e'.gone = false) :
    itemsOf (l.set j e') = (itemsOf (l.take j)) ++ e'.item :: itemsOf (l.drop (j + 1)) := by
  have hj : j < l.length := (List.getElem?_eq_some_iff.1 he).1
  rw [List.set_eq_take_append_cons_drop, if_pos hj]
  unfold itemsOf
  rw [List.filter_append, List.filter_cons, if_pos (by simp [hg']), List.map_append, List.map_cons]
theorem filter_at_live {l : List Ent} {j : Nat} {e : Ent} (he : l[j]? = some e) (hg : e.gone = false) :
    itemsOf l = (itemsOf (l.take j)) ++ e.item :: itemsOf (l.drop (j + 1)) := by
  have hj : j < l.length := (List.getElem?_eq_some_iff.1 he).1
  have : l.set j e = l := by
    apply List.ext_getElem?
    intro i
    rw [set_at hj]
    split
    · rename_i h; subst h; exact he.symm
    · rfl
  rw [← filter_set_live he hg hg, this]
theorem filter_set_gone {l : List Ent} {j : Nat} {e e' : Ent} (he : l[j]? = some e) (hg' : e'.gone = true) :
    itemsOf (l.set j e') = (itemsOf (l.take j)) ++ itemsOf (l.drop (j + 1)) := by
  have hj : j < l.length := (List.getElem?_eq_some_iff.1 he).1
  rw [List.set_eq_take_append_cons_drop, if_pos hj]
  unfold itemsOf
  rw [List.filter_append, List.filter_cons, if_neg (by simp [hg']), List.map_append]

/-- No key is told twice. -/
theorem TInv.nodup (h : TInv T) {j j' : Nat} {e e' : Ent} (he : T.ents[j]? = some e) (he' : T.ents[j']? = some e') (hg : e.gone = false) (hg' : e'.gone = false) (hk : e.key = e'.key) : j = j' := by
  rcases h.slots with ⟨_, h0, _⟩ | hs
  · rw [h0] at he; cases he
  · exact hs.keys j j' e e' ⟨e, he, hg⟩ ⟨e', he', hg'⟩ he he' hk

theorem mem_itemsOf {l : List Ent} {x : Item} : x ∈ itemsOf l ↔ ∃ e ∈ l, e.gone = false ∧ e.item = x := by
  unfold itemsOf
  simp only [List.mem_map, List.mem_filter, Bool.not_eq_eq_eq_not, Bool.not_true, and_assoc]

theorem TInv.others (h : TInv T) {j : Nat} {e : Ent} (he : T.ents[j]? = some e) (hg : e.gone = false) :
    (∀ x ∈ itemsOf (T.ents.take j), x.key ≠ e.key) ∧ ∀ x ∈ itemsOf (T.ents.drop (j + 1)), x.key ≠ e.key := by
  constructor
  · intro x hx hk
    obtain ⟨e', hm, hg', rfl⟩ := mem_itemsOf.1 hx
    obtain ⟨i, hi⟩ := List.mem_iff_getElem?.1 hm
    rw [List.getElem?_take] at hi
    split at hi
    · rename_i hlt
      have := h.nodup hi he hg' hg hk
      omega
    · cases hi
  · intro x hx hk
    obtain ⟨e', hm, hg', rfl⟩ := mem_itemsOf.1 hx
    obtain ⟨i, hi⟩ := List.mem_iff_getElem?.1 hm
    rw [List.getElem?_drop] at hi
    have := h.nodup hi he hg' hg hk
    omega

theorem find_mid {A B : List Item} {x : Item} {key : Val} (hA : ∀ y ∈ A, y.key ≠ key) (hx : x.key = key) : (A ++ x :: B).find? (fun y => y.key = key) = some x := by
  rw [List.find?_append, List.find?_eq_none.2 (fun y hy => by simpa using hA y hy)]
  simp [hx]

/-- What a table's search comes to. -/
theorem TInv.find (h : TInv T) (D : Dict) (hD : itemsOf T.ents = D.items) (key : Val) :
    (∃ (j : Nat) (e : Ent) (i : Nat), T.ents[j]? = some e ∧ e.gone = false ∧ e.key = key ∧ findM T key = ((i : Int), true) ∧ T.slots[i]? = some ((j : Int) + 1) ∧ D.get key = some e.val) ∨
    (D.get key = none ∧ (∀ (j : Nat) (e : Ent), T.ents[j]? = some e → e.gone = false → e.key ≠ key) ∧ ∃ i : Nat, findM T key = ((i : Int), false) ∧ ((T.slots = [] ∧ T.ents = []) ∨ (Place T.slots key i ∧ i < T.slots.length))) := by
  by_cases hex : ∃ (j : Nat) (e : Ent), T.ents[j]? = some e ∧ e.gone = false ∧ e.key = key
  · obtain ⟨j, e, he, hg, hk⟩ := hex
    rcases h.slots with ⟨_, h0, _⟩ | hs
    · rw [h0] at he; cases he
    · obtain ⟨i, hi, hsl⟩ := hs.hit ⟨e, he, hg⟩ he
      have hne : T.slots.length ≠ 0 := by have := hs.pos; omega
      refine .inl ⟨j, e, i, he, hg, hk, ?_, hsl, ?_⟩
      · unfold findM; rw [if_neg hne, ← hk]; exact hi
      · unfold Dict.get
        rw [← hD, filter_at_live he hg, find_mid (x := e.item) (fun y hy => hk ▸ (h.others he hg).1 y hy) hk]
        rfl
  · have hno : ∀ (j : Nat) (e : Ent), T.ents[j]? = some e → e.gone = false → e.key ≠ key := fun j e he hg hk => hex ⟨j, e, he, hg, hk⟩
    refine .inr ⟨?_, hno, ?_⟩
    · unfold Dict.get
      rw [← hD, Option.map_eq_none_iff, List.find?_eq_none]
      intro x hx
      obtain ⟨e, hm, hg, rfl⟩ := mem_itemsOf.1 hx
      obtain ⟨j, hj⟩ := List.mem_iff_getElem?.1 hm
      intro hc
      exact hno j e hj hg (of_decide_eq_true hc)
    · rcases h.slots with ⟨h0, h1, _⟩ | hs
      · exact ⟨0, by unfold findM; rw [if_pos (by rw [h0]; rfl)]; rfl, .inl ⟨h0, h1⟩⟩
      · have hne : T.slots.length ≠ 0 := by have := hs.pos; omega
        obtain ⟨i, hi, hp⟩ := hs.miss (key := key) (fun j e ⟨e', he', hg'⟩ he => by rw [he] at he'; injection he' with he'; subst he'; exact hno j e he hg')
        refine ⟨i, by unfold findM; rw [if_neg hne]; exact hi, .inr ⟨hp, ?_⟩⟩
        obtain ⟨p, hp, rfl, _⟩ := hp
        exact posOf_lt hs.pos

theorem TInv.slotsOk (h : TInv T) : SlotsOk T := by
  intro s hs
  rcases h.slots with ⟨h0, _, _⟩ | hi
  · rw [h0] at hs; cases hs
  · obtain ⟨i, hi'⟩ := List.mem_iff_getElem?.1 hs
    rcases hi.slot i s hi' with h' | h' | ⟨j, hj, _, hl⟩
    · exact .inl h'
    · exact .inr (.inl h')
    · exact .inr (.inr ⟨by omega, by omega⟩)

theorem pairwise_len {l : List Ent} {lo hi : Int} (h : l.Pairwise (fun a b => a.ser < b.ser)) (h1 : ∀ e ∈ l, lo < e.ser ∧ e.ser ≤ hi) : (l.length : Int) ≤ max 0 (hi - lo) := by
  induction l generalizing lo with
  | nil => simp; omega
  | cons e l ih =>
    rw [List.pairwise_cons] at h
    have he := h1 e (by simp)
    have := ih (lo := e.ser) h.2 (fun x hx => ⟨h.1 x hx, (h1 x (by simp [hx])).2⟩)
    rw [List.length_cons]
    omega
theorem TInv.len (h : TInv T) : (T.ents.length : Int) ≤ T.serial := by
  have := pairwise_len (lo := 0) (hi := T.serial) h.ser (fun e he => by have := h.serle e he; omega)
  have := h.ser0
  omega
theorem TInv.bounds (h : TInv T) (hb : T.serial ≤ 100000000) : T.slots.length ≤ 1000000000 ∧ T.ents.length ≤ 1000000000 := by
  have h1 := h.len
  have h2 := h.size
  omega

theorem live_set_other {l : List Ent} {j : Nat} {e e' : Ent} (he : l[j]? = some e) (hg : e.gone = e'.gone) : Live (l.set j e') = Live l := by
  have hj : j < l.length := (List.getElem?_eq_some_iff.1 he).1
  funext i
  apply propext
  unfold Live
  rw [set_at hj]
  split
  · rename_i h
    subst h
    rw [he]
    simp [hg]
  · exact Iff.rfl

/-- Another value. -/
theorem TInv.setVal (h : TInv T) {j : Nat} {e : Ent} (he : T.ents[j]? = some e) (hg : e.gone = false) (v : Val) :
    TInv { T with ents := T.ents.set j { e with val := v } } ∧ ∀ D : Dict, itemsOf T.ents = D.items → itemsOf (T.ents.set j { e with val := v }) = (D.set e.key v).items := by
  have hj : j < T.ents.length := (List.getElem?_eq_some_iff.1 he).1
  have hmem : ∀ x ∈ T.ents.set j { e with val := v }, ∃ y ∈ T.ents, x.ser = y.ser ∧ x.key = y.key := by
    intro x hx
    rcases List.mem_or_eq_of_mem_set hx with hx | rfl
    · exact ⟨x, hx, rfl, rfl⟩
    · exact ⟨e, mem_at he, rfl, rfl⟩
  constructor
  · refine ⟨?_, ?_, h.used, h.load, ?_, ?_, h.ser0, h.size, ?_⟩
    · rcases h.slots with ⟨_, h0, _⟩ | hs
      · rw [h0] at he; cases he
      · refine .inr ?_
        rw [live_set_other (e' := { e with val := v }) he rfl]
        have hat : ∀ (i : Nat) (x : Ent), (T.ents.set j { e with val := v })[i]? = some x → ∃ y : Ent, T.ents[i]? = some y ∧ y.key = x.key := by
          intro i x hx
          rw [set_at hj] at hx
          split at hx
          · rename_i hij; subst hij; injection hx with hx; subst hx; exact ⟨e, he, rfl⟩
          · exact ⟨x, hx, rfl⟩
        refine ⟨hs.pow, ?_, hs.inj, ?_, hs.free, ?_⟩
        · intro i s hi; simpa using hs.slot i s hi
        · intro i x hp hx
          obtain ⟨y, hy, hk⟩ := hat i x hx
          rw [← hk]
          exact hs.path i y hp hy
        · intro i i' x x' hp hp' hx hx' hk
          obtain ⟨y, hy, hky⟩ := hat i x hx
          obtain ⟨y', hy', hky'⟩ := hat i' x' hx'
          exact hs.keys i i' y y' hp hp' hy hy' (hky.trans (hk.trans hky'.symm))
    · rw [h.live, filter_at_live he hg, filter_set_live (e' := { e with val := v }) he hg hg]; simp
    · rw [List.pairwise_iff_getElem]
      intro a b ha hb hab
      have := List.pairwise_iff_getElem.1 h.ser a b (by simpa using ha) (by simpa using hb) hab
      have hser : ∀ (c : Nat) (hc : c < (T.ents.set j { e with val := v }).length) (hc' : c < T.ents.length), (T.ents.set j { e with val := v })[c].ser = T.ents[c].ser := by
        intro c hc hc'
        rw [List.getElem_set]
        split
        · rename_i h'; subst h'
          rw [List.getElem?_eq_getElem hc'] at he; injection he with he; rw [he]
        · rfl
      simp only [List.length_set] at ha hb
      rw [hser a _ ha, hser b _ hb]
      exact this
    · intro x hx; obtain ⟨y, hy, h1, _⟩ := hmem x hx; rw [h1]; exact h.serle y hy
    · intro x hx; obtain ⟨y, hy, _, h2⟩ := hmem x hx; rw [h2]; exact h.kb y hy
  · intro D hD
    unfold Dict.set
    simp only
    obtain ⟨o1, o2⟩ := h.others he hg
    rw [← hD, filter_at_live he hg, filter_set_live (e' := { e with val := v }) he hg hg, List.map_append, List.map_cons]
    congr 1
    · rw [List.map_congr_left (g := id) (fun x hx => by rw [if_neg (o1 x hx)]; rfl), List.map_id]
    · congr 1
      · simp [Ent.item]
      · rw [List.map_congr_left (g := id) (fun x hx => by rw [if_neg (o2 x hx)]; rfl), List.map_id]

theorem live_append {l : List Ent} {e : Ent} (hg : e.gone = false) : Live (l ++ [e]) = fun j => Live l j ∨ j = l.length := by
  funext i
  apply propext
  unfold Live
  constructor
  · rintro ⟨x, hx, hxg⟩
    rcases Nat.lt_or_ge i l.length with hi | hi
    · rw [List.getElem?_append_left hi] at hx; exact .inl ⟨x, hx, hxg⟩
    · right
      have := (List.getElem?_eq_some_iff.1 hx).1
      simp at this; omega
  · rintro (⟨x, hx, hxg⟩ | rfl)
    · have hi := (List.getElem?_eq_some_iff.1 hx).1
      exact ⟨x, by rw [List.getElem?_append_left hi]; exact hx, hxg⟩
    · exact ⟨e, by simp, hg⟩

/-- One more. -/
theorem TInv.push (h : TInv T) {i : Nat} (hpl : Place T.slots key i) (hi : i < T.slots.length) (hno : ∀ (j : Nat) (e : Ent), T.ents[j]? = some e → e.gone = false → e.key ≠ key)
    (hl : 4 * (T.used + 1) ≤ 3 * (T.slots.length : Int)) (hk : key.t.size ≤ 1000000000) (val : Val) (u : Int) (hu : u = if T.slots[i]? = some 0 then T.used + 1 else T.used) :
    TInv ⟨T.ents ++ [⟨key, val, T.serial + 1, false⟩], T.slots.set i ((T.ents.length : Int) + 1), T.live + 1, u, T.serial + 1⟩ := by
  have hcount : ((T.slots.set i ((T.ents.length : Int) + 1)).countP (· ≠ 0) : Int) ≤ u := by
    have hu' := h.used
    have hsi : T.slots[i]? = some T.slots[i] := List.getElem?_eq_getElem hi
    rw [List.countP_set hi, hu, hsi]
    by_cases h0 : T.slots[i] = 0
    · rw [if_neg (by simp [h0]), if_pos (by simp; omega), if_pos (by rw [h0])]; omega
    · have : 0 < T.slots.countP (· ≠ 0) := List.countP_pos_iff.2 ⟨T.slots[i], List.getElem_mem hi, by simpa using h0⟩
      rw [if_pos (by simpa using h0), if_pos (by simp; omega), if_neg (by intro hc; injection hc; contradiction)]; omega
  have hule : u ≤ T.used + 1 := by rw [hu]; split <;> omega
  have hser := h.ser0
  refine ⟨?_, ?_, hcount, ?_, ?_, ?_, by simp only; omega, ?_, ?_⟩
  · rcases h.slots with ⟨h0, _, _⟩ | hs
    · rw [h0] at hi; simp at hi
    · refine .inr ?_
      simp only
      rw [live_append rfl]
      refine hs.insert (e := ⟨key, val, T.serial + 1, false⟩) hpl rfl (by simp) ?_ ?_ ?_ ?_ ?_
      · rintro j ⟨e, he, _⟩
        rw [List.getElem?_append_left (List.getElem?_eq_some_iff.1 he).1]
      · rintro j e ⟨e', he', hg'⟩ he
        rw [he] at he'; injection he' with he'; subst he'
        exact hno j e he hg'
      · rintro ⟨e, he, _⟩
        have := (List.getElem?_eq_some_iff.1 he).1
        omega
      · rintro j ⟨e, he, _⟩
        exact (List.getElem?_eq_some_iff.1 he).1
      · have := hs.pos
        omega
  · simp only [itemsOf, List.filter_append, List.filter_cons, List.filter_nil, Bool.not_false, if_true, List.map_append, List.map_cons, List.map_nil, List.length_append, List.length_cons, List.length_nil]
    have := h.live
    simp only [itemsOf] at this
    rw [this]
    simp
  · simp only [List.length_set]; omega
  · rw [List.pairwise_append]
    refine ⟨h.ser, by simp, fun a ha b hb => ?_⟩
    simp only [List.mem_cons, List.not_mem_nil, or_false] at hb
    subst hb
    have := (h.serle a ha).2
    simp only; omega
  · intro e he
    rcases List.mem_append.1 he with he | he
    · have := h.serle e he; simp only; omega
    · simp only [List.mem_cons, List.not_mem_nil, or_false] at he; subst he; simp only; omega
  · simp only [List.length_set]; have := h.size; omega
  · intro e he
    rcases List.mem_append.1 he with he | he
    · exact h.kb e he
    · simp only [List.mem_cons, List.not_mem_nil, or_false] at he; subst he; exact hk

theorem itemsOf_push {l : List Ent} {key val : Val} {s : Int} : itemsOf (l ++ [⟨key, val, s, false⟩]) = itemsOf l ++ [⟨key, val, s⟩] := by
  simp [itemsOf, Ent.item]

/-- One goes. -/
theorem TInv.drop (h : TInv T) {j i : Nat} {e : Ent} (he : T.ents[j]? = some e) (hg : e.gone = false) (hsi : T.slots[i]? = some ((j : Int) + 1)) (x : Ent) (hx : x.gone = true) (hxs : x.ser = e.ser) (hxk : x.key.t.size ≤ 1000000000) :
    TInv { T with ents := T.ents.set j x, slots := T.slots.set i (-1), live := T.live - 1 } ∧ ∀ D : Dict, itemsOf T.ents = D.items → itemsOf (T.ents.set j x) = (D.del e.key).items := by
  have hj : j < T.ents.length := (List.getElem?_eq_some_iff.1 he).1
  have hi : i < T.slots.length := (List.getElem?_eq_some_iff.1 hsi).1
  have hlive : Live (T.ents.set j x) = fun k => Live T.ents k ∧ k ≠ j := by
    funext k
    apply propext
    unfold Live
    rw [set_at hj]
    by_cases hkj : j = k
    · subst hkj; simp [hj, hx]
    · rw [if_neg hkj]; simp [Ne.symm hkj]
  constructor
  · refine ⟨?_, ?_, ?_, by simpa using h.load, ?_, ?_, h.ser0, by simpa using h.size, ?_⟩
    · rcases h.slots with ⟨_, h0, _⟩ | hs
      · rw [h0] at he; cases he
      · refine .inr ?_
        simp only
        rw [hlive]
        exact hs.remove hsi fun k _ hk => by rw [set_at hj, if_neg (Ne.symm hk)]
    · simp only
      rw [h.live, filter_at_live he hg, filter_set_gone he hx]
      simp; omega
    · simp only
      have h1 : T.slots[i] = (j : Int) + 1 := by rw [List.getElem?_eq_getElem hi] at hsi; injection hsi
      have hp : 0 < T.slots.countP (· ≠ 0) := List.countP_pos_iff.2 ⟨T.slots[i], List.getElem_mem hi, by rw [h1]; simp; omega⟩
      rw [List.countP_set hi, h1, if_pos (by simp; omega), if_pos (by decide)]
      have := h.used
      omega
    · rw [List.pairwise_iff_getElem]
      intro a b ha hb hab
      have := List.pairwise_iff_getElem.1 h.ser a b (by simpa using ha) (by simpa using hb) hab
      have hser : ∀ (c : Nat) (hc : c < (T.ents.set j x).length) (hc' : c < T.ents.length), (T.ents.set j x)[c].ser = T.ents[c].ser := by
        intro c hc hc'
        rw [List.getElem_set]
        split
        · rename_i h'; subst h'
          rw [List.getElem?_eq_getElem hc'] at he; injection he with he; rw [he, hxs]
        · rfl
      simp only [List.length_set] at ha hb
      rw [hser a _ ha, hser b _ hb]
      exact this
    · intro y hy
      rcases List.mem_or_eq_of_mem_set hy with hy | rfl
      · exact h.serle y hy
      · rw [hxs]; exact h.serle e (mem_at he)
    · intro y hy
      rcases List.mem_or_eq_of_mem_set hy with hy | rfl
      · exact h.kb y hy
      · exact hxk
  · intro D hD
    unfold Dict.del
    simp only
    obtain ⟨o1, o2⟩ := h.others he hg
    rw [← hD, filter_at_live he hg, filter_set_gone he hx, List.filter_append, List.filter_cons, if_neg (by simp [Ent.item])]
    congr 1
    · exact (List.filter_eq_self.2 fun x hx => by simpa using o1 x hx).symm
    · exact (List.filter_eq_self.2 fun x hx => by simpa using o2 x hx).symm
end
end Go.Proofs.Ytephkonhiaingaa

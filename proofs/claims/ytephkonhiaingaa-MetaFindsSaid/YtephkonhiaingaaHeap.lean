/- The heap: what it is, where it lies, and how its parts turn. -/
import Derived.Test.YtephkonhiaingaaPut
import Derived.Test.YtephkonhiaingaaClone
set_option linter.unusedSimpArgs false
set_option linter.unusedVariables false
namespace Go.Proofs.Ytephkonhiaingaa
open Go Go.RowKit

structure CellM where
  ad : Nat
  kind : Int
  vals : List Val
  list : Option (Nat × List Val)
  table : Option (Nat × Dict)
  nums : List Int
  text : ByteArray

structure HeapM where
  cells : List (Option CellM)
  free : List Nat
  live : Nat
  limit : Nat
  freed : Int
  runs : Int

abbrev optp {α : Type} (o : Option (Nat × α)) : Value := .pointer (o.map fun x => ⟨x.1, 0, none⟩)
abbrev cptr (o : Option CellM) : Value := .pointer (o.map fun x => ⟨x.ad, 0, none⟩)
abbrev nints (l : List Nat) : List Value := l.map fun (n : Nat) => Value.int .i64 (n : Int)

/-- A list: its block, what it holds. -/
def LRep (w : World) (b : Nat) (xs : List Val) (F : Nat → Prop) : Prop :=
  ∃ v, F b ∧ Has w b (.cells #[v] 118 (0, 0)) ∧ Own w 35 3 v xs.length (vcells xs) F

structure CX (w : World) (c : CellM) (vv nv : Value) (F L T : Nat → Prop) : Prop where
  inb : F c.ad
  has : Has w c.ad (.cells #[.int .i64 c.kind, vv, optp c.list, optp c.table, nv, .string c.text] 56 (0, 0))
  vals : Own w 35 3 vv c.vals.length (vcells c.vals) F
  nums : Own w 2 1 nv c.nums.length (ints c.nums) F
  list : ∀ b xs, c.list = some (b, xs) → LRep w b xs L
  table : ∀ b D, c.table = some (b, D) → TRep w b D T

structure HOk (H : HeapM) : Prop where
  nodup : H.free.Nodup
  mem : ∀ n, n ∈ H.free ↔ H.cells[n]? = some none
  live : H.live = (H.cells.filter Option.isSome).length
  room : H.cells.length ≤ H.limit
  sum : H.free.length + H.live = H.cells.length
  lim : H.limit ≤ 1048576

structure HX (w : World) (h : Nat) (cv fv : Value) (H : HeapM) (col : Nat → Nat) : Prop where
  inb : col h = 1
  has : Has w h (.cells #[cv, fv, .int .i64 H.live, .int .i64 H.limit, .int .i64 H.freed, .int .i64 H.runs] 107 (0, 0))
  cells : Own w 49 1 cv H.cells.length (H.cells.map cptr) (fun b => col b = 1)
  free : Own w 3 1 fv H.free.length (nints H.free) (fun b => col b = 1)
  cell : ∀ i c, H.cells[i]? = some (some c) → ∃ vv nv, CX w c vv nv (fun b => col b = 2 + 3 * i) (fun b => col b = 3 + 3 * i) (fun b => col b = 4 + 3 * i)
  ok : HOk H
  ins : ∀ b, col b ≠ 0 → b < w.heap.size

def HRep (w : World) (h : Nat) (H : HeapM) (F : Nat → Prop) : Prop := ∃ col cv fv, HX w h cv fv H col ∧ ∀ b, col b ≠ 0 → F b

section
variable {w w' : World} {b h : Nat} {F F' L L' T T' : Nat → Prop} {c : CellM} {vv nv cv fv : Value} {H H' : HeapM} {col : Nat → Nat} {xs : List Val} {D : Dict}

theorem LRep.chg (h : LRep w b xs F) (hx : Chg F' w w') (hd : ∀ b, F b → ¬ F' b) : LRep w' b xs F := let ⟨v, h1, h2, h3⟩ := h; ⟨v, h1, h2.chg hx (hd _ h1), h3.chg hx hd⟩
theorem LRep.mono (h : LRep w b xs F) (hF : ∀ b, F b → F' b) : LRep w b xs F' := let ⟨v, h1, h2, h3⟩ := h; ⟨v, hF _ h1, h2, h3.mono hF⟩
theorem LRep.inside (h : LRep w b xs F) : LRep w b xs (fun x => F x ∧ x < w.heap.size) := let ⟨v, h1, h2, h3⟩ := h; ⟨v, ⟨h1, h2.lt⟩, h2, h3.inside⟩
theorem LRep.in_ (h : LRep w b xs F) : F b ∧ b < w.heap.size := let ⟨v, h1, h2, h3⟩ := h; ⟨h1, h2.lt⟩
theorem LRep.ext (h : LRep w b xs F) (hx : Ext w w') : LRep w' b xs F := h.chg hx fun _ _ h => h
theorem TRep.inside (h : TRep w b D F) : TRep w b D (fun x => F x ∧ x < w.heap.size) := let ⟨T, h1, h2⟩ := h; ⟨T, h1.inside, h2⟩

theorem CX.chg (h : CX w c vv nv F L T) (hx : Chg F' w w') (h1 : ∀ b, F b → ¬ F' b) (h2 : ∀ b, L b → ¬ F' b) (h3 : ∀ b, T b → ¬ F' b) : CX w' c vv nv F L T :=
  ⟨h.inb, h.has.chg hx (h1 _ h.inb), h.vals.chg hx h1, h.nums.chg hx h1, fun b xs e => (h.list b xs e).chg hx h2, fun b D e => (h.table b D e).chg hx h3⟩
theorem CX.mono (h : CX w c vv nv F L T) (h1 : ∀ b, F b → F' b) (h2 : ∀ b, L b → L' b) (h3 : ∀ b, T b → T' b) : CX w c vv nv F' L' T' :=
  ⟨h1 _ h.inb, h.has, h.vals.mono h1, h.nums.mono h1, fun b xs e => (h.list b xs e).mono h2, fun b D e => (h.table b D e).mono h3⟩
theorem CX.ext (h : CX w c vv nv F L T) (hx : Ext w w') : CX w' c vv nv F L T := h.chg hx (fun _ _ h => h) (fun _ _ h => h) (fun _ _ h => h)

theorem HX.ext (h0 : HX w h cv fv H col) (hx : Ext w w') : HX w' h cv fv H col :=
  ⟨h0.inb, h0.has.ext hx, h0.cells.ext hx, h0.free.ext hx, fun i c e => let ⟨vv, nv, hc⟩ := h0.cell i c e; ⟨vv, nv, hc.ext hx⟩, h0.ok, fun b hb => Nat.lt_of_lt_of_le (h0.ins b hb) hx.size⟩
theorem HX.chg (h0 : HX w h cv fv H col) (hx : Chg F w w') (hd : ∀ b, col b ≠ 0 → ¬ F b) : HX w' h cv fv H col :=
  ⟨h0.inb, h0.has.chg hx (hd _ (by rw [h0.inb]; omega)), h0.cells.chg hx (fun b e => hd b (by omega)), h0.free.chg hx (fun b e => hd b (by omega)),
    fun i c e => let ⟨vv, nv, hc⟩ := h0.cell i c e; ⟨vv, nv, hc.chg hx (fun b e => hd b (by omega)) (fun b e => hd b (by omega)) (fun b e => hd b (by omega))⟩, h0.ok, fun b hb => Nat.lt_of_lt_of_le (h0.ins b hb) hx.size⟩
theorem HRep.ext (h0 : HRep w h H F) (hx : Ext w w') : HRep w' h H F := let ⟨col, cv, fv, h1, h2⟩ := h0; ⟨col, cv, fv, h1.ext hx, h2⟩
theorem HRep.mono (h0 : HRep w h H F) (hF : ∀ b, F b → F' b) : HRep w h H F' := let ⟨col, cv, fv, h1, h2⟩ := h0; ⟨col, cv, fv, h1, fun b hb => hF b (h2 b hb)⟩
theorem HRep.chg (h0 : HRep w h H F) (hx : Chg F' w w') (hd : ∀ b, F b → ¬ F' b) : HRep w' h H F := let ⟨col, cv, fv, h1, h2⟩ := h0; ⟨col, cv, fv, h1.chg hx (fun b hb => hd b (h2 b hb)), h2⟩
theorem HRep.ok (h0 : HRep w h H F) : HOk H := let ⟨_, _, _, h1, _⟩ := h0; h1.ok
theorem HRep.inside (h0 : HRep w h H F) : HRep w h H (fun x => F x ∧ x < w.heap.size) := let ⟨col, cv, fv, h1, h2⟩ := h0; ⟨col, cv, fv, h1, fun b hb => ⟨h2 b hb, h1.ins b hb⟩⟩

/-- The blocks' colours once more blocks, of the colour k, have come. -/
def more (col : Nat → Nat) (w w' : World) (k : Nat) : Nat → Nat := fun x => if x < w.heap.size then col x else if x < w'.heap.size then k else 0
theorem more_keep {w' : World} {k j x : Nat} (hx : x < w.heap.size) (h : col x = j) : more col w w' k x = j := by unfold more; rw [if_pos hx, h]
theorem more_new {w' : World} {k x : Nat} (h : (col x = k ∧ x < w.heap.size) ∨ w.heap.size ≤ x) (hx : x < w'.heap.size) : more col w w' k x = k := by
  unfold more
  rcases h with ⟨h1, h2⟩ | h
  · rw [if_pos h2, h1]
  · rw [if_neg (by omega), if_pos hx]

def HeapM.setC (H : HeapM) (i : Nat) (c : CellM) : HeapM := { H with cells := H.cells.set i (some c) }

theorem set_cptr {l : List (Option CellM)} {i : Nat} {c c' : CellM} (h : l[i]? = some (some c)) (had : c'.ad = c.ad) : (l.set i (some c')).map cptr = l.map cptr := by
  apply List.ext_getElem?
  intro j
  rw [List.getElem?_map, List.getElem?_map, List.getElem?_set]
  obtain ⟨hlt, hg⟩ := List.getElem?_eq_some_iff.1 h
  by_cases hj : i = j
  · subst hj; rw [if_pos rfl, if_pos hlt, h]; simp [had]
  · rw [if_neg hj]
theorem HOk.setC {i : Nat} {c c' : CellM} (hk : HOk H) (h : H.cells[i]? = some (some c)) : HOk (H.setC i c') := by
  obtain ⟨hlt, hg⟩ := List.getElem?_eq_some_iff.1 h
  refine ⟨hk.nodup, fun n => ?_, ?_, by simpa [HeapM.setC] using hk.room, by simpa [HeapM.setC] using hk.sum, hk.lim⟩
  · rw [show (H.setC i c').free = H.free from rfl, hk.mem n]
    simp only [HeapM.setC, List.getElem?_set]
    by_cases hj : i = n
    · subst hj; simp [hlt, hg]
    · simp [hj]
  · rw [show (H.setC i c').live = H.live from rfl, hk.live]
    simp only [HeapM.setC]
    rw [← List.countP_eq_length_filter, ← List.countP_eq_length_filter, List.countP_set hlt]
    rw [hg]
    have : 0 < H.cells.countP Option.isSome := List.countP_pos_iff.2 ⟨_, List.getElem_mem hlt, by rw [hg]; rfl⟩
    simp; omega

/-- A part of a cell turns. -/
theorem HX.turn {i p : Nat} {c c' : CellM} (h0 : HX w h cv fv H col) (hc : H.cells[i]? = some (some c)) (hp : p < 3) (hx : Chg (fun x => col x = 2 + 3 * i + p) w w') (had : c'.ad = c.ad)
    (hc' : ∃ vv nv, CX w' c' vv nv (fun b => more col w w' (2 + 3 * i + p) b = 2 + 3 * i) (fun b => more col w w' (2 + 3 * i + p) b = 3 + 3 * i) (fun b => more col w w' (2 + 3 * i + p) b = 4 + 3 * i)) :
    HX w' h cv fv (H.setC i c') (more col w w' (2 + 3 * i + p)) := by
  refine ⟨more_keep h0.has.lt h0.inb, h0.has.chg hx (by rw [h0.inb]; omega), ?_, ?_, fun j cj e => ?_, h0.ok.setC hc, fun b hb => ?_⟩
  · rw [show (H.setC i c').cells = H.cells.set i (some c') from rfl, set_cptr hc had, List.length_set]
    exact (h0.cells.inside.chg hx (fun b hb => by omega)).mono fun b hb => more_keep hb.2 hb.1
  · exact (h0.free.inside.chg hx (fun b hb => by omega)).mono fun b hb => more_keep hb.2 hb.1
  · rw [show (H.setC i c').cells = H.cells.set i (some c') from rfl, List.getElem?_set] at e
    by_cases hj : i = j
    · subst hj
      rw [if_pos rfl, if_pos (List.getElem?_eq_some_iff.1 hc).1] at e
      cases e
      exact hc'
    · rw [if_neg hj] at e
      obtain ⟨vv, nv, h1⟩ := h0.cell j cj e
      refine ⟨vv, nv, (h1.chg hx (fun b hb => by omega) (fun b hb => by omega) (fun b hb => by omega)).mono (fun b hb => ?_) (fun b hb => ?_) (fun b hb => ?_)⟩ <;> exact more_keep (h0.ins b (by omega)) hb
  · unfold more at hb
    have := hx.size
    split at hb
    · omega
    · split at hb <;> omega

theorem HX.setTable {i : Nat} {c : CellM} {tb : Nat} {D D' : Dict} (h0 : HX w h cv fv H col) (hc : H.cells[i]? = some (some c)) (ht : c.table = some (tb, D)) (hx : Chg (fun x => col x = 4 + 3 * i) w w')
    (hT : TRep w' tb D' (fun x => (col x = 4 + 3 * i) ∨ w.heap.size ≤ x)) : HX w' h cv fv (H.setC i { c with table := some (tb, D') }) (more col w w' (4 + 3 * i)) := by
  obtain ⟨vv, nv, h1⟩ := h0.cell i c hc
  have he : 2 + 3 * i + 2 = 4 + 3 * i := by omega
  rw [← he] at hx ⊢
  refine h0.turn hc (by omega) hx rfl ⟨vv, nv, ?_⟩
  refine ⟨more_keep h1.has.lt h1.inb, ?_, ?_, ?_, fun b xs e => ?_, fun b D1 e => ?_⟩
  · have h2 := h1.has.chg hx (by have := h1.inb; omega)
    rw [ht] at h2
    exact h2
  · exact (h1.vals.chg hx (fun b hb => by omega)).mono fun b hb => more_keep (h0.ins b (by omega)) hb
  · exact (h1.nums.chg hx (fun b hb => by omega)).mono fun b hb => more_keep (h0.ins b (by omega)) hb
  · exact ((h1.list b xs e).chg hx (fun b hb => by omega)).mono fun b hb => more_keep (h0.ins b (by omega)) hb
  · simp only [Option.some.injEq, Prod.mk.injEq] at e
    obtain ⟨rfl, rfl⟩ := e
    refine hT.inside.mono fun b hb => ?_
    rw [← he] at hb ⊢
    refine more_new ?_ hb.2
    rcases hb.1 with h | h
    · exact .inl ⟨h, h0.ins b (by omega)⟩
    · exact .inr h

/-- A cell more. -/
def HeapM.alloc (H : HeapM) (c : CellM) : HeapM × Nat := match H.free.getLast? with
  | some n => ({ H with cells := H.cells.set n (some c), free := H.free.dropLast, live := H.live + 1 }, n)
  | none => ({ H with cells := H.cells ++ [some c], live := H.live + 1 }, H.cells.length)

theorem HOk.alloc (hk : HOk H) (hl : H.live < H.limit) : HOk (H.alloc c).1 := by
  unfold HeapM.alloc
  rcases hf : H.free.getLast? with _ | n
  · simp only
    rw [List.getLast?_eq_none_iff] at hf
    have hall : ∀ n, H.cells[n]? ≠ some none := fun n e => by have := (hk.mem n).2 e; rw [hf] at this; cases this
    have hfil : H.cells.filter Option.isSome = H.cells := by
      rw [List.filter_eq_self]
      intro x hx
      obtain ⟨n, hn⟩ := List.getElem?_of_mem hx
      rcases x with _ | x
      · exact absurd hn (hall n)
      · rfl
    have hlive := hk.live
    rw [hfil] at hlive
    refine ⟨hk.nodup, fun n => ?_, ?_, ?_, by have := hk.sum; simp; omega, hk.lim⟩
    · rw [hk.mem n]
      simp only
      rw [List.getElem?_append]
      split
      · rfl
      · rename_i h1
        rw [List.getElem?_eq_none (by omega)]
        constructor
        · intro h; cases h
        · intro h
          rcases Nat.eq_zero_or_pos (n - H.cells.length) with h0 | h0
          · rw [h0] at h; cases h
          · rw [List.getElem?_eq_none (by simp; omega)] at h; cases h
    · simp only
      rw [List.filter_append, List.length_append, hfil, hlive]; rfl
    · simp only [List.length_append, List.length_singleton]; omega
  · simp only
    obtain ⟨ys, hys⟩ := List.getLast?_eq_some_iff.1 hf
    have hd : H.free.dropLast = ys := by rw [hys]; simp
    have hnd := hk.nodup
    rw [hys, List.nodup_append] at hnd
    have hn0 := (hk.mem n).1 (by rw [hys]; simp)
    obtain ⟨hlt, hg⟩ := List.getElem?_eq_some_iff.1 hn0
    refine ⟨?_, fun m => ?_, ?_, ?_, by have := hk.sum; rw [hys] at this; simp at this; simp [hys]; omega, hk.lim⟩
    · simp only [hd]; exact hnd.1
    · simp only [hd, List.getElem?_set]
      by_cases hm : n = m
      · subst hm
        simp only [if_true, if_pos hlt]
        constructor
        · intro h; exact absurd rfl (hnd.2.2 n h n (by simp))
        · intro h; cases h
      · rw [if_neg hm, ← hk.mem m, hys]
        simp [Ne.symm hm]
    · simp only
      rw [hk.live, ← List.countP_eq_length_filter, ← List.countP_eq_length_filter, List.countP_set hlt, hg]
      simp
    · simpa using hk.room

/-- A cell has come: what the blocks' colours are. -/
noncomputable def fill (col : Nat → Nat) (L T : Nat → Prop) (s0 s1 s2 i : Nat) : Nat → Nat := open Classical in fun x =>
  if x < s0 then (if L x then 3 + 3 * i else if T x then 4 + 3 * i else col x) else if x < s1 then 2 + 3 * i else if x < s2 then 1 else 0

theorem HX.fill {i s0 : Nat} (h0 : HX w h cv fv H col) (h1 : CX w c vv nv (fun x => s0 ≤ x) L T) (hs : ∀ b, col b ≠ 0 → b < s0) (hL : ∀ x, L x → col x = 0 ∧ x < s0) (hT : ∀ x, T x → col x = 0 ∧ x < s0 ∧ ¬ L x) {cv' fv' : Value}
    (hx : Chg (fun x => col x = 1) w w') (hs0 : s0 ≤ w.heap.size)
    (hh : Has w' h (.cells #[cv', fv', .int .i64 H'.live, .int .i64 H'.limit, .int .i64 H'.freed, .int .i64 H'.runs] 107 (0, 0)))
    (hcs : Own w' 49 1 cv' H'.cells.length (H'.cells.map cptr) (fun b => col b = 1 ∨ w.heap.size ≤ b))
    (hf : Own w' 3 1 fv' H'.free.length (nints H'.free) (fun b => col b = 1)) (hk : HOk H')
    (hi : H'.cells[i]? = some (some c)) (hj : ∀ j, j ≠ i → ∀ c, H'.cells[j]? = some (some c) → H.cells[j]? = some (some c)) :
    HX w' h cv' fv' H' (Go.Proofs.Ytephkonhiaingaa.fill col L T s0 w.heap.size w'.heap.size i) := by
  have hsz := hx.size
  have hkeep : ∀ x j, col x = j → j ≠ 0 → Go.Proofs.Ytephkonhiaingaa.fill col L T s0 w.heap.size w'.heap.size i x = j := by
    intro x j hj h0
    unfold Go.Proofs.Ytephkonhiaingaa.fill
    rw [if_pos (hs x (by omega)), if_neg (fun h => by have := (hL x h).1; omega), if_neg (fun h => by have := (hT x h).1; omega), hj]
  refine ⟨hkeep _ _ h0.inb (by omega), hh, ?_, hf.mono fun b hb => hkeep _ _ hb (by omega), fun j cj e => ?_, hk, fun b hb => ?_⟩
  · refine hcs.inside.mono fun b hb => ?_
    rcases hb with ⟨hb | hb, hb2⟩
    · exact hkeep _ _ hb (by omega)
    · unfold Go.Proofs.Ytephkonhiaingaa.fill
      rw [if_neg (by omega), if_neg (by omega), if_pos hb2]
  · by_cases hji : j = i
    · subst hji
      rw [hi] at e
      cases e
      have h2 : CX w c vv nv (fun x => s0 ≤ x ∧ x < w.heap.size) L T := ⟨⟨h1.inb, h1.has.lt⟩, h1.has, h1.vals.inside, h1.nums.inside, h1.list, h1.table⟩
      refine ⟨vv, nv, (h2.chg hx (fun b hb hb1 => ?_) (fun b hb hb1 => ?_) (fun b hb hb1 => ?_)).mono (fun b hb => ?_) (fun b hb => ?_) (fun b hb => ?_)⟩
      · have := hs b (by omega); omega
      · have := hL b hb; omega
      · have := hT b hb; omega
      · unfold Go.Proofs.Ytephkonhiaingaa.fill; rw [if_neg (by omega), if_pos hb.2]
      · unfold Go.Proofs.Ytephkonhiaingaa.fill; rw [if_pos (hL b hb).2, if_pos hb]
      · unfold Go.Proofs.Ytephkonhiaingaa.fill; rw [if_pos (hT b hb).2.1, if_neg (hT b hb).2.2, if_pos hb]
    · obtain ⟨vv', nv', h2⟩ := h0.cell j cj (hj j hji cj e)
      refine ⟨vv', nv', (h2.chg hx (fun b hb => by omega) (fun b hb => by omega) (fun b hb => by omega)).mono (fun b hb => ?_) (fun b hb => ?_) (fun b hb => ?_)⟩ <;> exact hkeep _ _ hb (by omega)
  · unfold Go.Proofs.Ytephkonhiaingaa.fill at hb
    split at hb
    · omega
    · split at hb
      · omega
      · split at hb
        · omega
        · omega
theorem fill_in {s0 s1 s2 i x : Nat} (h : Go.Proofs.Ytephkonhiaingaa.fill col L T s0 s1 s2 i x ≠ 0) : col x ≠ 0 ∨ L x ∨ T x ∨ s0 ≤ x := by
  unfold Go.Proofs.Ytephkonhiaingaa.fill at h
  split at h
  · split at h
    · exact .inr (.inl ‹_›)
    · split at h
      · exact .inr (.inr (.inl ‹_›))
      · exact .inl h
  · exact .inr (.inr (.inr (by omega)))

def getH (H : HeapM) (a : Int) : Option CellM × Int :=
  if a < 0 ∨ (H.cells.length : Int) ≤ a then (none, 1) else match H.cells[a.toNat]? with
    | some (some c) => (some c, 0)
    | _ => (none, 41)

set_option maxRecDepth 4000 in
theorem hGet_ok (h0 : HRep w h H F) (a : Int) :
    Ret Try.prog 53 #[.pointer (some ⟨h, 0, none⟩), .int .i64 a] w fun r w' => r = .tuple #[cptr (getH H a).1, .int .i64 (getH H a).2] ∧ Ext w w' := by
  obtain ⟨col, cv, fv, hX, hF⟩ := h0
  have hr := hX.ok.room
  have hl := hX.ok.lim
  refine ret_E (n := 32) (S := [0, 1, 2, 3, 4, 5]) 4 Try.func53 rfl rfl rfl rfl ?_
  refine WP.vseq rfl fun K hK => ?_
  refine WP.vregion rfl rfl fun U => ?_
  simp [go_sem]
  refine hK _ _ ?_; clear hK K
  obtain ⟨A, c, rfl⟩ := hX.cells.len
  have hc := hX.has.cell
  by_cases hlo : a < 0
  · refine WP.vseq rfl fun K hK => ?_
    refine WP.vseq rfl fun K hK => ?_
    refine WP.vregion rfl rfl fun U => ?_
    simp [go_sem, hc, hlo]
    refine hK _ _ ?_; clear hK K
    refine WP.vcond_t rfl (by simp [go_sem, hlo]) ?_
    refine WP.vseq rfl fun K hK => ?_
    refine WP.vregion rfl rfl fun U => ?_
    simp [go_sem]
    refine hK _ _ ?_; clear hK K
    refine WP.vret rfl ?_
    try simp only [thenE_ret, blockE_ret]
    refine ret_done (by simp [go_sem] <;> rfl) ?_
    have hg : getH H a = (none, 1) := by unfold getH; rw [if_pos (.inl hlo)]
    rw [hg]
    exact ⟨rfl, Ext.refl _⟩
  by_cases hhi : (H.cells.length : Int) ≤ a
  · refine WP.vseq rfl fun K hK => ?_
    refine WP.vseq rfl fun K hK => ?_
    refine WP.vregion rfl rfl fun U => ?_
    simp [go_sem, hc, hlo]
    refine hK _ _ ?_; clear hK K
    refine WP.vcond_t rfl (by simp [go_sem, hlo, hhi]) ?_
    refine WP.vseq rfl fun K hK => ?_
    refine WP.vregion rfl rfl fun U => ?_
    simp [go_sem]
    refine hK _ _ ?_; clear hK K
    refine WP.vret rfl ?_
    try simp only [thenE_ret, blockE_ret]
    refine ret_done (by simp [go_sem] <;> rfl) ?_
    have hg : getH H a = (none, 1) := by unfold getH; rw [if_pos (.inr hhi)]
    rw [hg]
    exact ⟨rfl, Ext.refl _⟩
  obtain ⟨n, rfl⟩ : ∃ n : Nat, a = n := ⟨a.toNat, by omega⟩
  have hn : n < H.cells.length := by omega
  obtain ⟨g, cap, hv, _, _, hcc, _⟩ := hX.cells.at_ (by omega)
  injection hv with h1 h2 h3
  subst h1; subst h3
  obtain ⟨o, ho⟩ : ∃ o, H.cells[n]? = some o := ⟨_, List.getElem?_eq_getElem hn⟩
  have hcn := hcc n (cptr o) (by rw [List.getElem?_map, ho]; rfl)
  refine WP.vseq rfl fun K hK => ?_
  refine WP.vseq rfl fun K hK => ?_
  refine WP.vregion rfl rfl fun U => ?_
  simp [go_sem, hc, hlo]
  refine hK _ _ ?_; clear hK K
  refine WP.vcond_f rfl (by simp [go_sem, hlo] <;> omega) ?_
  refine WP.vskip rfl ?_
  simp only [go_sem]
  refine hK _ _ ?_; clear hK K
  refine WP.vseq rfl fun K hK => ?_
  refine WP.vseq rfl fun K hK => ?_
  refine WP.vregion rfl rfl fun U => ?_
  simp [go_sem, hc, hcn, hn]
  refine hK _ _ ?_; clear hK K
  have hg : getH H n = (o, if o.isSome then 0 else 41) := by
    unfold getH; rw [if_neg (by omega), Int.toNat_natCast, ho]
    rcases o with _ | o <;> rfl
  rcases o with _ | o
  · refine WP.vcond_t rfl (by simp [go_sem]) ?_
    refine WP.vseq rfl fun K hK => ?_
    refine WP.vregion rfl rfl fun U => ?_
    simp [go_sem]
    refine hK _ _ ?_; clear hK K
    refine WP.vret rfl ?_
    try simp only [thenE_ret, blockE_ret]
    refine ret_done (by simp [go_sem] <;> rfl) ?_
    rw [hg]
    exact ⟨rfl, Ext.refl _⟩
  · refine WP.vcond_f rfl (by simp [go_sem]) ?_
    refine WP.vskip rfl ?_
    simp only [go_sem]
    refine hK _ _ ?_; clear hK K
    refine WP.vseq rfl fun K hK => ?_
    refine WP.vregion rfl rfl fun U => ?_
    simp [go_sem, hc, hcn, hn]
    refine hK _ _ ?_; clear hK K
    refine WP.vret rfl ?_
    try simp only [thenE_ret, blockE_ret]
    refine ret_done (by simp [go_sem] <;> rfl) ?_
    rw [hg]
    exact ⟨rfl, Ext.refl _⟩
end
end Go.Proofs.Ytephkonhiaingaa

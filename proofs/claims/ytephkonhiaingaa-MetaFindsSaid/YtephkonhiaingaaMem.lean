/- Worlds: what a block holds, what has turned from one world to another. -/
import Derived.Test.YtephkonhiaingaaEng
import Derived.Below
import Derived.Deep.Draws
import Derived.Laws.OwnMore
import Derived.Laws.Rows
import Derived.Maps.AppendAt
import Derived.OwnWalk
import Derived.IntWalk
import Derived.Deep.AppendLies
set_option linter.unusedSimpArgs false
set_option linter.unusedVariables false
namespace Go.Proofs.Ytephkonhiaingaa
open Go Go.RowKit

/-- Block b is just that. -/
def Has (w : World) (b : Nat) (o : Obj) : Prop := w.heap[b]? = some o

/-- From one world to another: only blocks of F have turned, and new ones have come. -/
structure Chg (F : Nat → Prop) (w w' : World) : Prop where
  os : w'.os = w.os
  tape : w'.tape = w.tape
  output : w'.output = w.output
  size : w.heap.size ≤ w'.heap.size
  block : ∀ b, b < w.heap.size → ¬ F b → w'.heap[b]? = w.heap[b]?

/-- All that was is as it was. -/
abbrev Ext (w w' : World) : Prop := Chg (fun _ => False) w w'

section
variable {w w' w'' : World} {b : Nat} {o : Obj} {F F' : Nat → Prop} {cs : Array Value} {T : TypeId} {z : Nat × Nat}

theorem Has.lt (h : Has w b o) : b < w.heap.size := by
  rcases Nat.lt_or_ge b w.heap.size with hlt | hge
  · exact hlt
  · unfold Has at h; rw [Array.getElem?_eq_none hge] at h; cases h
theorem Has.chg (h : Has w b o) (hx : Chg F w w') (hb : ¬ F b) : Has w' b o := (hx.block b h.lt hb).trans h
theorem Has.ext (h : Has w b o) (hx : Ext w w') : Has w' b o := h.chg hx (fun h => h)
theorem Has.cell (h : Has w b (.cells cs T z)) (i : Nat) : w.cell? ⟨b, i, none⟩ = cs[i]? := cell_of_row w b i cs T z h
theorem Has.frozen (h : Has w b (.cells cs T (0, 0))) (i : Nat) : w.frozen? ⟨b, i, none⟩ = false := by
  unfold Has at h
  simp [World.frozen?, h]
theorem Has.new (w : World) (o : Obj) : Has (w.alloc o) w.heap.size o := heap_alloc_new w o
theorem Has.alloc (h : Has w b o) (o' : Obj) : Has (w.alloc o') b o := (Below.heap_alloc w o' b h.lt).trans h
theorem Has.drewN (h : Has w b o) (n : Nat) : Has (w.drewN n) b o := h
theorem Has.drew (h : Has w b o) : Has w.drew b o := h
theorem Has.setCell (h : Has w b (.cells cs T z)) (i : Nat) (v : Value) : Has (w.setCell ⟨b, i, none⟩ v) b (.cells (cs.setIfInBounds i v) T z) := by
  unfold Has at *
  simp [World.setCell, Array.getElem?_modify, h]
theorem Has.far (h : Has w b o) {a : Addr} (hb : b ≠ a.block) (v : Value) : Has (w.setCell a v) b o := by
  unfold Has at *
  simp [World.setCell, Array.getElem?_modify, h, Ne.symm hb]
theorem Has.inj {o' : Obj} (h : Has w b o) (h' : Has w b o') : o = o' := by unfold Has at *; rw [h] at h'; injection h'

theorem Chg.refl (F : Nat → Prop) (w : World) : Chg F w w := ⟨rfl, rfl, rfl, Nat.le_refl _, fun _ _ _ => rfl⟩
theorem Ext.refl (w : World) : Ext w w := Chg.refl _ w
theorem Chg.and_then (h : Chg F w w') (h' : Chg F' w' w'') (hF : ∀ b, b < w.heap.size → F' b → F b) : Chg F w w'' :=
  ⟨h'.os.trans h.os, h'.tape.trans h.tape, h'.output.trans h.output, Nat.le_trans h.size h'.size, fun b hb hn =>
    (h'.block b (Nat.lt_of_lt_of_le hb h.size) (fun e => hn (hF b hb e))).trans (h.block b hb hn)⟩
theorem Chg.mono (h : Chg F w w') (hF : ∀ b, b < w.heap.size → F b → F' b) : Chg F' w w' := ⟨h.os, h.tape, h.output, h.size, fun b hb hn => h.block b hb (fun e => hn (hF b hb e))⟩
/-- Something, and then nothing but new blocks. -/
theorem Chg.trans (h : Chg F w w') (h' : Ext w' w'') : Chg F w w'' := h.and_then h' (fun _ _ e => e.elim)
/-- Nothing but new blocks, and then something. -/
theorem Ext.then (h : Ext w w') (h' : Chg F w' w'') : Chg F w w'' := Chg.and_then (h.mono (fun _ _ e => e.elim)) h' (fun _ _ e => e)
theorem Chg.alloc (h : Chg F w w') (o : Obj) : Chg F w (w'.alloc o) :=
  ⟨h.os, h.tape, h.output, Nat.le_trans h.size (by simp), fun b hb hn => by
    rw [← h.block b hb hn]
    exact Below.heap_alloc w' o b (Nat.lt_of_lt_of_le hb h.size)⟩
theorem Chg.setCell (h : Chg F w w') {a : Addr} (ha : a.block < w.heap.size → F a.block) (v : Value) : Chg F w (w'.setCell a v) :=
  ⟨h.os, h.tape, h.output, by simpa [World.setCell] using h.size, fun b hb hn => by
    rw [← h.block b hb hn]
    have : a.block ≠ b := fun e => hn (e ▸ ha (e ▸ hb))
    simp [World.setCell, Array.getElem?_modify, this]⟩
theorem Chg.drewN (h : Chg F w w') (n : Nat) : Chg F w (w'.drewN n) := ⟨h.os, h.tape, h.output, h.size, h.block⟩
theorem Chg.drew (h : Chg F w w') : Chg F w w'.drew := ⟨h.os, h.tape, h.output, h.size, h.block⟩
theorem Chg.below (h : Ext w w') : Below w.heap.size w w' := ⟨h.os, h.tape, h.output, h.size, fun b hb => h.block b hb (fun h => h)⟩
theorem Ext.of_below (h : Below w.heap.size w w') : Ext w w' := ⟨h.os, h.tape, h.output, h.size, fun b hb _ => h.block b hb⟩
end

/-- A slice value that reads as the cells cs: n elements of s cells each. -/
def Rd (w : World) (v : Value) (n s : Nat) (cs : List Value) : Prop :=
  cs.length = n * s ∧ ∃ (A : Option Addr) (c : Nat), v = .slice A n c ∧ (0 < n → ∃ g o, A = some ⟨g, o, none⟩ ∧ ∀ j u, cs[j]? = some u → w.cell? ⟨g, o + j, none⟩ = some u)

/-- A slice value that lies at the head of a row of its own, or is nil. -/
def Own (w : World) (e s : Nat) (v : Value) (n : Nat) (cs : List Value) (F : Nat → Prop) : Prop := w.ownsRow 0 e s v n cs ∧ ∀ g, v.ownBlock = some g → F g

section
variable {w w' : World} {v : Value} {n s e : Nat} {cs : List Value} {F F' : Nat → Prop}

theorem cell_lt {a : Addr} {u : Value} (h : w.cell? a = some u) : a.block < w.heap.size := World.block_lt_of_cell? w a h

theorem Chg.cell {a : Addr} {u : Value} (hx : Chg F w w') (h : w.cell? a = some u) (hF : ¬ F a.block) : w'.cell? a = some u := by
  unfold World.cell? at *
  rw [hx.block _ (cell_lt (by unfold World.cell?; exact h)) hF]; exact h

theorem Rd.ext (h : Rd w v n s cs) (hx : Ext w w') : Rd w' v n s cs := by
  obtain ⟨hl, A, c, rfl, hr⟩ := h
  refine ⟨hl, A, c, rfl, fun hn => ?_⟩
  obtain ⟨g, o, rfl, hc⟩ := hr hn
  exact ⟨g, o, rfl, fun j u hu => hx.cell (hc j u hu) (fun h => h)⟩
theorem Rd.nil (w : World) (s c : Nat) : Rd w (.slice none 0 c) 0 s [] := ⟨by simp, none, c, rfl, fun h => absurd h (by omega)⟩

theorem Own.rd (h : Own w e s v n cs F) : Rd w v n s cs := by
  obtain ⟨⟨hl, h⟩, _⟩ := h
  rcases h with ⟨rfl, rfl⟩ | ⟨g, cap, cur, rfl, _, hh, hn, hc, hs, ht⟩
  · exact ⟨hl, none, 0, rfl, fun h => absurd h (by omega)⟩
  · refine ⟨hl, _, cap, rfl, fun _ => ⟨g, 0, rfl, fun j u hu => ?_⟩⟩
    rw [Nat.zero_add, Has.cell (T := e) hh j]
    subst ht
    rw [List.getElem?_take] at hu
    split at hu
    · simpa using hu
    · cases hu
theorem Own.mono (h : Own w e s v n cs F) (hF : ∀ b, F b → F' b) : Own w e s v n cs F' := ⟨h.1, fun g hg => hF g (h.2 g hg)⟩
theorem Own.nil (w : World) (e s : Nat) (F : Nat → Prop) : Own w e s (.slice none 0 0) 0 [] F := ⟨World.ownsRow_nil w 0 e s, fun g h => by simp [Value.ownBlock] at h⟩
theorem Own.chg (h : Own w e s v n cs F) (hx : Chg F' w w') (hF : ∀ b, F b → ¬ F' b) : Own w' e s v n cs F := by
  obtain ⟨⟨hl, h⟩, hf⟩ := h
  refine ⟨⟨hl, ?_⟩, hf⟩
  rcases h with h | ⟨g, cap, cur, rfl, hb, hh, hr⟩
  · exact .inl h
  · refine .inr ⟨g, cap, cur, rfl, hb, ?_, hr⟩
    exact Has.chg (o := .cells cur e (0, 0)) hh hx (hF g (hf g rfl))
theorem Own.ext (h : Own w e s v n cs F) (hx : Ext w w') : Own w' e s v n cs F := h.chg hx (fun _ _ h => h)
theorem Own.lt (h : Own w e s v n cs F) : ∀ g, v.ownBlock = some g → g < w.heap.size := by
  intro g hg
  rcases h.1.2 with ⟨rfl, _⟩ | ⟨g', cap, cur, rfl, hb, hh, hr⟩
  · simp [Value.ownBlock] at hg
  · have : g' = g := by simpa [Value.ownBlock] using hg
    subst this
    exact Has.lt (o := .cells cur e (0, 0)) hh
/-- Its form where there is an element. -/
theorem Own.at_ (h : Own w e s v n cs F) (hn : 0 < n) : ∃ g cap, v = .slice (some ⟨g, 0, none⟩) n cap ∧ F g ∧ g < w.heap.size ∧ (∀ j u, cs[j]? = some u → w.cell? ⟨g, j, none⟩ = some u) ∧ ∀ j, w.frozen? ⟨g, j, none⟩ = false := by
  have hrd := h.rd
  have hlt := h.lt
  obtain ⟨⟨hl, h'⟩, hf⟩ := h
  rcases h' with ⟨rfl, rfl⟩ | ⟨g, cap, cur, rfl, hb, hh, hr⟩
  · omega
  · obtain ⟨_, A, c, hv, hx⟩ := hrd
    obtain ⟨g', o, rfl, hc⟩ := hx hn
    simp only [Value.slice.injEq, Option.some.injEq, Addr.mk.injEq] at hv
    obtain ⟨⟨rfl, rfl, _⟩, _⟩ := hv
    exact ⟨g, cap, rfl, hf g rfl, hlt g rfl, fun j u hu => by have := hc j u hu; rwa [Nat.zero_add] at this, Has.frozen (T := e) (cs := cur) hh⟩
theorem Own.len (h : Own w e s v n cs F) : ∃ A c, v = .slice A n c := by
  obtain ⟨_, A, c, hv, _⟩ := h.rd
  exact ⟨A, c, hv⟩
theorem Own.cap_le {A : Option Addr} {c : Nat} (h : Own w e s (.slice A n c) n cs F) : n ≤ c := by
  rcases h.1.2 with ⟨hv, rfl⟩ | ⟨g, cap, cur, hv, _, _, hn, _⟩
  · exact Nat.zero_le _
  · injection hv with _ _ h3; rw [h3]; exact hn
theorem Own.length (h : Own w e s v n cs F) : cs.length = n * s := h.1.1
theorem Rd.len (h : Rd w v n s cs) : ∃ A c, v = .slice A n c := by
  obtain ⟨_, A, c, hv, _⟩ := h
  exact ⟨A, c, hv⟩
theorem Rd.at_ (h : Rd w v n s cs) (hn : 0 < n) : ∃ g o c, v = .slice (some ⟨g, o, none⟩) n c ∧ ∀ j u, cs[j]? = some u → w.cell? ⟨g, o + j, none⟩ = some u := by
  obtain ⟨_, A, c, rfl, h⟩ := h
  obtain ⟨g, o, rfl, hc⟩ := h hn
  exact ⟨g, o, c, rfl, hc⟩

theorem Own.shrink {g cap k : Nat} (h : Own w e s (.slice (some ⟨g, 0, none⟩) n cap) n cs F) (hk : k ≤ n) : Own w e s (.slice (some ⟨g, 0, none⟩) k cap) k (cs.take (k * s)) F := by
  obtain ⟨⟨hl, h⟩, hf⟩ := h
  have hks : k * s ≤ n * s := Nat.mul_le_mul_right _ hk
  refine ⟨⟨by rw [List.length_take, hl]; omega, ?_⟩, fun x hx => hf x hx⟩
  rcases h with ⟨hc, _⟩ | ⟨g', cap', cur, hv, hb, hh, hn, hc, hs, ht⟩
  · cases hc
  · simp only [Value.slice.injEq, Option.some.injEq, Addr.mk.injEq] at hv
    obtain ⟨⟨rfl, _⟩, _, rfl⟩ := hv
    refine .inr ⟨g, cap, cur, rfl, hb, hh, by omega, hc, hs, ?_⟩
    rw [← ht, List.take_take, Nat.min_eq_left hks]
theorem Own.tail {g cap o : Nat} (h : Own w e s (.slice (some ⟨g, 0, none⟩) n cap) n cs F) (ho : n * s ≤ o) (u : Value) : Own (w.setCell ⟨g, o, none⟩ u) e s (.slice (some ⟨g, 0, none⟩) n cap) n cs F := by
  obtain ⟨⟨hl, h⟩, hf⟩ := h
  refine ⟨⟨hl, ?_⟩, fun x hx => hf x hx⟩
  rcases h with ⟨hc, _⟩ | ⟨g', cap', cur, hv, hb, hh, hn, hc, hs, ht⟩
  · cases hc
  · simp only [Value.slice.injEq, Option.some.injEq, Addr.mk.injEq] at hv
    obtain ⟨⟨rfl, _⟩, _, rfl⟩ := hv
    refine .inr ⟨g, cap, cur.setIfInBounds o u, rfl, hb, Has.setCell (T := e) hh o u, hn, hc, by simpa using hs, ?_⟩
    rw [Array.toList_setIfInBounds, List.take_set_of_le ho, ht]
theorem Own.tails {g cap : Nat} : ∀ (vs : List Value) (o : Nat) (w : World), Own w e s (.slice (some ⟨g, 0, none⟩) n cap) n cs F → n * s ≤ o → Own (w.setCells g o vs) e s (.slice (some ⟨g, 0, none⟩) n cap) n cs F
  | [], _, _, h, _ => h
  | v :: vs, o, w, h, ho => Own.tails vs (o + 1) _ (h.tail ho v) (by omega)
theorem Chg.setCells {g : Nat} : ∀ (vs : List Value) (o : Nat) {w' : World}, Chg F w w' → (g < w.heap.size → F g) → Chg F w (w'.setCells g o vs)
  | [], _, _, h, _ => h
  | v :: vs, o, w', h, hg => Chg.setCells vs (o + 1) (h.setCell (a := ⟨g, o, none⟩) hg v) hg

theorem run_clear {P : Program} {t e ty : TypeId} {z : Value} (ht : P.underlying t = some (.slice e)) (hv : ∀ w, (zeroValue e).run P w = .ok z w) (h1 : ∀ u ∈ z.cells, u.oneCell' = true) (b o m c : Nat) (hn : 0 < m)
    (hc : ∀ j, j < m * z.cells.size → (w.cell? ⟨b, o + j, none⟩).isSome = true) (hf : ∀ j, j < m * z.cells.size → w.frozen? ⟨b, o + j, none⟩ = false) :
    (Builtin.clear_ #[t] ty #[.slice (some ⟨b, o, none⟩) m c]).run P w = .ok (.tuple #[]) (w.setCells b o (Builtin.zeroCells z.cells m).toList) := by
  have hlen : (Builtin.zeroCells z.cells m).toList.length = m * z.cells.size := by simp [Builtin.zeroCells]
  have hst := run_storeCells_cells (P := P) b o (Builtin.zeroCells z.cells m).toList 0 w (by rw [hlen]; simpa using hc) (by rw [hlen]; simpa using hf) (by
    intro v hv'
    simp only [Builtin.zeroCells, Array.toList_map, List.mem_map] at hv'
    obtain ⟨i, hi, rfl⟩ := hv'
    have hi' : i < m * z.cells.size := by simpa using hi
    have hpos : 0 < z.cells.size := by
      rcases Nat.eq_zero_or_pos z.cells.size with h0 | h0
      · rw [h0] at hi'; omega
      · exact h0
    have hlt : i % z.cells.size < z.cells.size := Nat.mod_lt _ hpos
    rw [getElem!_pos z.cells (i % z.cells.size) hlt]
    exact h1 _ (Array.getElem_mem hlt))
  simp only [Nat.add_zero] at hst
  obtain ⟨m, rfl⟩ : ∃ k, m = k + 1 := ⟨m - 1, by omega⟩
  simp [Builtin.clear_, run_underlying ht, hv, hst]

theorem Chg.of_grown {row : Option Nat} (h : w.grownBy w' row) (hr : ∀ g, row = some g → F g) : Chg F w w' :=
  ⟨h.os, h.tape, h.output, h.size, fun b hb hn => h.block b hb (fun e => hn (hr b e.symm))⟩

/-- append, whatever it is put onto. -/
theorem run_append {P : Program} {t ty e : TypeId} {i : TypeInfo} {z : Value} {size bytes : Nat} (ht : P.underlying t = some (.slice e)) (hi : P.info? e = some i) (hz : i.zero = some z)
    (hsize : i.size = size) (hby : i.bytes = bytes) (hzs : z.cells.size = size) (hsz : 0 < size)
    {xs : List Value} (hown : Own w e size v n xs F) {x : Value} {m : Nat} {news : List Value} (hr : Rd w x m size news) (h1 : ∀ u ∈ news, u.oneCell' = true)
    (h63 : n + m ≤ maxLen) (hbytes : (n + m) * bytes ≤ 140737488355328) :
    ∃ v' w', (Builtin.append_ #[t, t] ty #[v, x]).run P w = .ok v' w' ∧ Own w' e size v' (n + m) (xs ++ news) (fun b => F b ∨ w.heap.size ≤ b) ∧ Chg F w w' := by
  obtain ⟨hl, A, c, rfl, hr⟩ := hr
  rcases Nat.eq_zero_or_pos m with h0 | h0
  · subst h0
    have hnw : news = [] := List.eq_nil_of_length_eq_zero (by simpa using hl)
    subst hnw
    refine ⟨v, w, ?_, by simpa using hown.mono (fun _ h => .inl h), Chg.refl _ _⟩
    rcases hown.1.2 with ⟨rfl, rfl⟩ | ⟨g, cap, cur, rfl, _, _, hnc, _⟩ <;> rcases A with _ | ⟨ab, ao, as⟩
    · simp [Builtin.append_, run_underlying ht, sizeOf, typeInfo, hi, Builtin.lenOf, Builtin.firstCells]
    · simp [Builtin.append_, run_underlying ht, sizeOf, typeInfo, hi, Builtin.lenOf, Builtin.firstCells, loadCells, loadCellsFrom]
    · simp [Builtin.append_, run_underlying ht, sizeOf, typeInfo, hi, Builtin.lenOf, Builtin.firstCells, hnc, storeCells]
    · simp [Builtin.append_, run_underlying ht, sizeOf, typeInfo, hi, Builtin.lenOf, Builtin.firstCells, hnc, storeCells, loadCells, loadCellsFrom]
  · obtain ⟨g, o, rfl, hc⟩ := hr h0
    have hcells : ∀ j u, news[j]? = some u → w.cell? ((⟨g, o, none⟩ : Addr).add j) = some u := by
      intro j u hu
      have := hc j u hu
      unfold Addr.add
      split
      · rename_i h; subst h; exact this
      · exact this
    obtain ⟨v', w', hrun, h2, h3, _, h5⟩ := run_append_own_at (P := P) w 0 t ty e i z size bytes ht hi hz hsize hby hzs hsz v n xs hown.1 ⟨g, o, none⟩ m c news hl hcells h1 h63 hbytes (Nat.zero_le _)
    refine ⟨v', w', hrun, ⟨h2, fun b hb => ?_⟩, Chg.of_grown h3 (fun b hb => hown.2 b hb)⟩
    rcases h5 with e | e
    · exact .inl (hown.2 b (e ▸ hb))
    · rw [e] at hb
      injection hb with hb
      exact .inr (by omega)

theorem wrap_succ {i : Nat} (h : i < 4611686018427387904) : IntKind.i64.wrap ((i : Int) + 1) = (i : Int) + 1 := IntWalk.i64_in _ (by omega)
/-- So many elements at most are put together here. -/
def appMax : Nat := 1099511627776
theorem le_app {n : Nat} (h : n ≤ 1000000000000) : n ≤ appMax := by unfold appMax; omega
theorem app_le {n : Nat} (h : n ≤ appMax) : n ≤ maxLen := by unfold appMax at h; unfold maxLen; omega
theorem app_bytes {n b : Nat} (h : n ≤ appMax) (hb : b ≤ 128) : n * b ≤ 140737488355328 := Nat.le_trans (Nat.mul_le_mul h hb) (by unfold appMax; decide)

theorem APPEND.own {P : Program} {t ty e : TypeId} {i : TypeInfo} {z : Value} {size bytes : Nat} (ht : P.underlying t = some (.slice e)) (hi : P.info? e = some i) (hz : i.zero = some z)
    (hsize : i.size = size) (hby : i.bytes = bytes) (hzs : z.cells.size = size) (hsz : 0 < size) (hb : bytes ≤ 128)
    {xs : List Value} (hown : Own w e size v n xs F) {x : Value} {m : Nat} {news : List Value} (hr : Rd w x m size news) (h1 : ∀ u ∈ news, u.oneCell' = true)
    (h63 : n + m ≤ appMax) {k : Value → World → Prop}
    (hk : ∀ v' w', Own w' e size v' (n + m) (xs ++ news) (fun b => F b ∨ w.heap.size ≤ b) → Chg F w w' → k v' w') : APPEND P t t ty v x w k := by
  obtain ⟨v', w', hrun, h2, h3⟩ := run_append (ty := ty) ht hi hz hsize hby hzs hsz hown hr h1 (app_le h63) (app_bytes h63 hb)
  refine ⟨?_⟩
  rw [hrun]
  exact hk v' w' h2 h3

/-- A new row reads as its cells. -/
theorem Rd.top {b n s c : Nat} {cs : List Value} {T : TypeId} (hb : w.heap.size = b) (h : cs.length = n * s) : Rd (w.alloc (.cells cs.toArray T)) (.slice (some ⟨b, 0, none⟩) n c) n s cs :=
  ⟨h, _, c, rfl, fun _ => ⟨_, 0, rfl, fun j u hu => by rw [Nat.zero_add, ← hb, (Has.new w _).cell]; simpa using hu⟩⟩
end
end Go.Proofs.Ytephkonhiaingaa

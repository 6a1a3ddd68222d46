/- What MetaFinds asks: the plain law. -/
import Derived.Test.YtephkonhiaingaaMake
set_option linter.unusedSimpArgs false
set_option linter.unusedVariables false
namespace Go.Proofs.Ytephkonhiaingaa
open Go Go.RowKit

section
variable {H : HeapM} {i t d u c : Nat} {x : CellM} {key : Val} {name : ByteArray}

theorem of_at (hc : H.cells[i]? = some (some x)) (k : Int) : ofH H (vRef i) k = if k ≠ 0 ∧ x.kind ≠ k then (none, 30) else (some x, 0) := by
  obtain ⟨hin, _⟩ := List.getElem?_eq_some_iff.1 hc
  unfold ofH getH
  rw [if_neg (by simp), if_neg (by simp only; omega)]
  simp [hc]
theorem of_not {v : Val} (hv : v.k ≠ 4) (k : Int) : ofH H v k = (none, 30) := by
  unfold ofH
  rw [if_pos hv]
theorem deleg_at (hc : H.cells[i]? = some (some x)) (hk : x.kind = 2) : delegH H (vRef i) = (x.vals.headD vNull, 0) := by
  unfold delegH
  rw [of_at hc, if_neg (by simp [hk])]
theorem deleg_no (hc : H.cells[i]? = some (some x)) (hk : x.kind ≠ 2) : delegH H (vRef i) = (vNull, 30) := by
  unfold delegH
  rw [of_at hc, if_pos ⟨by decide, hk⟩]
theorem class_at (hc : H.cells[i]? = some (some x)) (hk : x.kind = 4) : classH H (vRef i) = x.vals.headD vNull := by
  unfold classH
  rw [of_at hc, if_neg (by simp [hk])]
theorem class_no (hc : H.cells[i]? = some (some x)) (hk : x.kind ≠ 4) : classH H (vRef i) = vNull := by
  unfold classH
  rw [of_at hc, if_pos ⟨by decide, hk⟩]
theorem tab_at {tb : Nat} {D : Dict} (hc : H.cells[i]? = some (some x)) (hk : x.kind = 2) (ht : x.table = some (tb, D)) (n : Nat) : tabG H key (n + 1) (vRef i) = match D.get key with
    | some y => (y, 0)
    | none => tabG H key n (x.vals.headD vNull) := by
  rw [tabG, if_neg (by simp), of_at hc, if_neg (by simp [hk])]
  simp only [ht]
  cases D.get key <;> rfl
theorem tab_null (n : Nat) : tabG H key n vNull = (vNull, 3) := by
  cases n with
  | zero => rfl
  | succ n => rw [tabG, if_pos rfl]
theorem get_table (hc : H.cells[i]? = some (some x)) (hk : x.kind = 2) : getG H (vRef i) key = tabG H key 1048577 (vRef i) := by
  unfold getG
  rw [if_neg (by simp), if_neg (by simp), of_at hc, if_neg (by simp)]
  simp [hk]
theorem member_at {tb : Nat} {D : Dict} (hc : H.cells[i]? = some (some x)) (hk : x.kind = 3) (ht : x.table = some (tb, D)) : memberH H (vRef i) key = getD D key := by
  unfold memberH
  rw [of_at hc, if_neg (by simp [hk])]
  simp only [ht]

theorem findE_table (hc : H.cells[i]? = some (some x)) (hk : x.kind = 2) (hd : (x.vals.headD vNull).k ≠ 0) : findE H (vRef i) name = getG H (x.vals.headD vNull) (vStr name) := by
  unfold findE
  rw [deleg_at hc hk, if_pos ⟨rfl, hd⟩]
theorem findE_inst (hc : H.cells[i]? = some (some x)) (hk : x.kind = 4) (hd : (x.vals.headD vNull).k ≠ 0) : findE H (vRef i) name = memberH H (x.vals.headD vNull) (vStr name) := by
  unfold findE
  rw [deleg_no hc (by omega), if_neg (by simp), class_at hc hk, if_pos hd]
theorem findE_none (hc : H.cells[i]? = some (some x)) (hk : x.kind = 3) : findE H (vRef i) name = (vNull, 3) := by
  unfold findE
  rw [deleg_no hc (by omega), if_neg (by simp), class_no hc (by omega), if_neg (by simp)]
theorem findE_plain {v : Val} (hv : v.k ≠ 4) : findE H v name = (vNull, 3) := by
  unfold findE delegH classH
  rw [of_not hv, of_not hv, if_neg (by simp), if_neg (by simp)]

theorem method_at (hc : H.cells[i]? = some (some x)) (hk : x.kind = 5 ∨ x.kind = 6) : methodH H (vRef i) = true := by
  unfold methodH
  rw [of_at hc, of_at hc]
  rcases hk with hk | hk <;> simp [hk]
theorem method_no {v : Val} (hv : v.k ≠ 4) : methodH H v = false := by
  unfold methodH
  rw [of_not hv, of_not hv]; rfl

theorem alloc_end (H : HeapM) (x : CellM) (hf : H.free = []) : H.alloc x = ({ H with cells := H.cells ++ [some x], live := H.live + 1 }, H.cells.length) := by
  unfold HeapM.alloc
  rw [hf]; rfl

/-- What layer 18's statements know of a heap: each cell is one of some kinds, in order. -/
def CellOk (x : CellM) : Prop := x.list = none ∧ x.kind ≠ 1 ∧ (∀ d ∈ x.vals, d.t.size ≤ 1000000000) ∧ (x.kind = 2 ∨ x.kind = 3 ∨ x.kind = 4 → ∃ b D d, x.table = some (b, D) ∧ D.serial ≤ 100000000 ∧ x.vals = [d])
theorem wf_of (h : ∀ x, some x ∈ H.cells → CellOk x) : HWf 100000000 H := fun i c hc => ⟨fun h1 => absurd h1 (h c (List.mem_of_getElem? hc)).2.1, (h c (List.mem_of_getElem? hc)).2.2.2⟩
theorem of_mem {v : Val} {k : Int} (h : (ofH H v k).1 = some x) : some x ∈ H.cells := by
  unfold ofH at h
  split at h
  · cases h
  · unfold getH at h
    split at h
    · rename_i c e heq
      split at heq
      · cases heq
      · split at heq
        · rename_i c' hc'
          injection heq with h1 h2
          injection h1 with h1
          subst h1
          split at h
          · cases h
          · injection h with h; subst h
            exact List.mem_of_getElem? hc'
        · cases heq
    · cases h
theorem deleg_size (h : ∀ x, some x ∈ H.cells → CellOk x) (v : Val) : (delegH H v).1.t.size ≤ 1000000000 := by
  unfold delegH
  split
  · rename_i c e heq
    have hc := (h c (of_mem (v := v) (k := 2) (by rw [heq]))).2.2.1
    show (c.vals.headD vNull).t.size ≤ _
    rcases hv : c.vals with _ | ⟨d, r⟩
    · exact Nat.zero_le _
    · exact hc d (by rw [hv]; simp)
  · exact Nat.zero_le _
theorem len_of (h : ∀ x, some x ∈ H.cells → CellOk x) : HLen 1000000000 H := fun i c b xs hc hl => by
  have := (h c (List.mem_of_getElem? hc)).1
  rw [hl] at this; cases this
end
end Go.Proofs.Ytephkonhiaingaa

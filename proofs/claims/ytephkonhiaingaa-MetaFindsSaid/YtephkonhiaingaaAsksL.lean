/- What layer 18's statements ask ahead: the plain law. -/
import Derived.Test.YtephkonhiaingaaMeta2
set_option linter.unusedSimpArgs false
set_option linter.unusedVariables false
namespace Go.Proofs.Ytephkonhiaingaa
open Go Go.RowKit

abbrev funcCell (a : Nat) : CellM := ⟨a, 5, [], none, none, [], ⟨#[]⟩⟩
abbrev addName : ByteArray := ⟨#[95, 97, 100, 100]⟩
def aD : Dict := Dict.empty.put (vStr addName) (vRef 0)
def aH1 (a1 : Nat) : HeapM := ⟨[some (funcCell a1)], [], 1, 50, 0, 0⟩
def aH2 (a1 a2 t2 : Nat) : HeapM := ⟨[some (funcCell a1), some (tableCell a2 t2 Dict.empty vNull)], [], 2, 50, 0, 0⟩
def aH3 (a1 a2 t2 a3 t3 : Nat) : HeapM := ⟨[some (funcCell a1), some (tableCell a2 t2 Dict.empty vNull), some (tableCell a3 t3 Dict.empty vNull)], [], 3, 50, 0, 0⟩
def aH4 (a1 a2 t2 a3 t3 : Nat) : HeapM := ⟨[some (funcCell a1), some (tableCell a2 t2 Dict.empty vNull), some (tableCell a3 t3 aD vNull)], [], 3, 50, 0, 0⟩
def aH5 (a1 a2 t2 a3 t3 : Nat) : HeapM := ⟨[some (funcCell a1), some (tableCell a2 t2 Dict.empty (vRef 2)), some (tableCell a3 t3 aD vNull)], [], 3, 50, 0, 0⟩

section
variable {a1 a2 t2 a3 t3 : Nat}
theorem a_alloc1 : (HeapM.anew 50).alloc (funcCell a1) = (aH1 a1, 0) := rfl
theorem a_alloc2 : (aH1 a1).alloc (tableCell a2 t2 Dict.empty vNull) = (aH2 a1 a2 t2, 1) := rfl
theorem a_alloc3 : (aH2 a1 a2 t2).alloc (tableCell a3 t3 Dict.empty vNull) = (aH3 a1 a2 t2 a3 t3, 2) := rfl
theorem a_set4 : (aH3 a1 a2 t2 a3 t3).setC 2 { tableCell a3 t3 Dict.empty vNull with table := some (t3, Dict.empty.put (vStr addName) (vRef 0)) } = aH4 a1 a2 t2 a3 t3 := rfl
theorem a_set5 : (aH4 a1 a2 t2 a3 t3).setC 1 { tableCell a2 t2 Dict.empty vNull with vals := [vRef 2] } = aH5 a1 a2 t2 a3 t3 := rfl
theorem a_of4 : ofH (aH4 a1 a2 t2 a3 t3) (vRef 2) 2 = (some (tableCell a3 t3 aD vNull), 0) := rfl
theorem a_walk : walkG (aH4 a1 a2 t2 a3 t3) (vRef 1) 64 (vRef 2) = 0 := by
  rw [walkG, if_neg (by decide), if_neg (by decide), if_neg (by decide)]
  rw [show (delegH (aH4 a1 a2 t2 a3 t3) (vRef 2)).1 = vNull from rfl, walkG, if_pos rfl]
theorem aD_get : aD.get (vStr addName) = some (vRef 0) := rfl
theorem aD_serial : aD.serial ≤ 100000000 := by decide
theorem a_wf4 : HWf 100000000 (aH4 a1 a2 t2 a3 t3) := by
  intro i c hc
  rcases i with _ | _ | _ | i <;> simp [aH4] at hc <;> subst hc
  · exact ⟨fun h => by simp at h, fun h => by simp at h⟩
  · exact ⟨fun h => by simp at h, fun _ => ⟨t2, Dict.empty, vNull, rfl, by decide, rfl⟩⟩
  · exact ⟨fun h => by simp at h, fun _ => ⟨t3, aD, vNull, rfl, by decide, rfl⟩⟩
theorem a_wf5 : HWf 100000000 (aH5 a1 a2 t2 a3 t3) := by
  intro i c hc
  rcases i with _ | _ | _ | i <;> simp [aH5] at hc <;> subst hc
  · exact ⟨fun h => by simp at h, fun h => by simp at h⟩
  · exact ⟨fun h => by simp at h, fun _ => ⟨t2, Dict.empty, vRef 2, rfl, by decide, rfl⟩⟩
  · exact ⟨fun h => by simp at h, fun _ => ⟨t3, aD, vNull, rfl, by decide, rfl⟩⟩
theorem a_len5 : HLen 1000000000 (aH5 a1 a2 t2 a3 t3) := by
  intro i c b xs hc hl
  rcases i with _ | _ | _ | i <;> simp [aH5] at hc <;> subst hc <;> simp at hl
theorem a_deleg1 : delegH (aH5 a1 a2 t2 a3 t3) (vRef 1) = (vRef 2, 0) := rfl
theorem a_deleg2 : delegH (aH5 a1 a2 t2 a3 t3) (vRef 2) = (vNull, 0) := rfl
theorem a_find1 : findG (aH5 a1 a2 t2 a3 t3) (vRef 1) addName = (vRef 0, true) := by
  have h1 : getG (aH5 a1 a2 t2 a3 t3) (vRef 2) (vStr addName) = (vRef 0, 0) := by
    unfold getG
    rw [if_neg (by decide), if_neg (by decide), show ofH (aH5 a1 a2 t2 a3 t3) (vRef 2) 0 = (some (tableCell a3 t3 aD vNull), 0) from rfl]
    simp only [if_neg (show ¬ (2 : Int) = 1 by decide), if_true]
    rw [tabG, if_neg (by decide), show ofH (aH5 a1 a2 t2 a3 t3) (vRef 2) 2 = (some (tableCell a3 t3 aD vNull), 0) from rfl]
    rfl
  have h2 : findE (aH5 a1 a2 t2 a3 t3) (vRef 1) addName = (vRef 0, 0) := by
    unfold findE
    rw [a_deleg1, if_pos (by decide), h1]
  unfold findG
  rw [h2]
  rfl
theorem a_find2 : findG (aH5 a1 a2 t2 a3 t3) (vRef 2) addName = (vNull, false) := by
  have h2 : findE (aH5 a1 a2 t2 a3 t3) (vRef 2) addName = (vNull, 3) := by
    unfold findE
    rw [a_deleg2, if_neg (by decide), show classH (aH5 a1 a2 t2 a3 t3) (vRef 2) = vNull from rfl, if_neg (by decide)]
  unfold findG
  rw [h2]
  rfl
end
end Go.Proofs.Ytephkonhiaingaa

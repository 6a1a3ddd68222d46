/- The heaps that MetaFinds makes. -/
import Derived.Test.YtephkonhiaingaaMFindsL
set_option linter.unusedSimpArgs false
set_option linter.unusedVariables false
namespace Go.Proofs.Ytephkonhiaingaa
open Go Go.RowKit

abbrev natCell (ad : Nat) : CellM := ⟨ad, 6, [vNull], none, none, [0], ⟨#[]⟩⟩
def natPre (called : Bool) (ad : Nat) : List (Option CellM) := if called then [some (natCell ad)] else []
def natVal (called : Bool) : Val := if called then vRef 0 else vInt 5
/-- Three tables and a class, behind what was there. -/
def fH (pre : List (Option CellM)) (a1 t1 a2 t2 a3 t3 a4 t4 : Nat) (D : Int → Dict) (dt dd : Val) : HeapM :=
  ⟨pre ++ [some (tableCell a1 t1 (D 0) dt), some (tableCell a2 t2 (D 1) dd), some (tableCell a3 t3 (D 2) vNull), some (classCell a4 t4 (D 3) vNull)], [], pre.length + 4, 50, 0, 0⟩
def fD (wh : Int) (name : ByteArray) (v : Val) (j : Int) : Dict := if wh = j then Dict.empty.put (vStr name) v else Dict.empty

section
variable {pre : List (Option CellM)} {a1 t1 a2 t2 a3 t3 a4 t4 a5 t5 : Nat} {D : Int → Dict} {dt dd v : Val} {wh : Int} {name : ByteArray} {called : Bool} {ad : Nat}

theorem app_get {α : Type} (l m : List α) (j : Nat) : (l ++ m)[l.length + j]? = m[j]? := by
  rw [List.getElem?_append_right (by omega)]
  congr 1; omega
theorem app_set {α : Type} (l m : List α) (j : Nat) (x : α) : (l ++ m).set (l.length + j) x = l ++ m.set j x := by
  rw [List.set_append_right _ _ (by omega)]
  congr 2; omega

theorem f_alloc1 : (⟨pre, [], pre.length, 50, 0, 0⟩ : HeapM).alloc (tableCell a1 t1 Dict.empty vNull) = (⟨pre ++ [some (tableCell a1 t1 Dict.empty vNull)], [], pre.length + 1, 50, 0, 0⟩, pre.length) := alloc_end _ _ rfl
theorem f_alloc2 : (⟨pre ++ [some (tableCell a1 t1 Dict.empty vNull)], [], pre.length + 1, 50, 0, 0⟩ : HeapM).alloc (tableCell a2 t2 Dict.empty vNull) =
    (⟨pre ++ [some (tableCell a1 t1 Dict.empty vNull), some (tableCell a2 t2 Dict.empty vNull)], [], pre.length + 2, 50, 0, 0⟩, pre.length + 1) := by
  rw [alloc_end _ _ rfl]; simp
theorem f_alloc3 : (⟨pre ++ [some (tableCell a1 t1 Dict.empty vNull), some (tableCell a2 t2 Dict.empty vNull)], [], pre.length + 2, 50, 0, 0⟩ : HeapM).alloc (tableCell a3 t3 Dict.empty vNull) =
    (⟨pre ++ [some (tableCell a1 t1 Dict.empty vNull), some (tableCell a2 t2 Dict.empty vNull), some (tableCell a3 t3 Dict.empty vNull)], [], pre.length + 3, 50, 0, 0⟩, pre.length + 2) := by
  rw [alloc_end _ _ rfl]; simp
theorem f_alloc4 : (⟨pre ++ [some (tableCell a1 t1 Dict.empty vNull), some (tableCell a2 t2 Dict.empty vNull), some (tableCell a3 t3 Dict.empty vNull)], [], pre.length + 3, 50, 0, 0⟩ : HeapM).alloc (classCell a4 t4 Dict.empty vNull) =
    (fH pre a1 t1 a2 t2 a3 t3 a4 t4 (fun _ => Dict.empty) vNull vNull, pre.length + 3) := by
  rw [alloc_end _ _ rfl]; simp [fH]

theorem f_get0 : (fH pre a1 t1 a2 t2 a3 t3 a4 t4 D dt dd).cells[pre.length]? = some (some (tableCell a1 t1 (D 0) dt)) := app_get _ _ 0
theorem f_get1 : (fH pre a1 t1 a2 t2 a3 t3 a4 t4 D dt dd).cells[pre.length + 1]? = some (some (tableCell a2 t2 (D 1) dd)) := app_get _ _ 1
theorem f_get2 : (fH pre a1 t1 a2 t2 a3 t3 a4 t4 D dt dd).cells[pre.length + 2]? = some (some (tableCell a3 t3 (D 2) vNull)) := app_get _ _ 2
theorem f_get3 : (fH pre a1 t1 a2 t2 a3 t3 a4 t4 D dt dd).cells[pre.length + 3]? = some (some (classCell a4 t4 (D 3) vNull)) := app_get _ _ 3
theorem f_del0 (to : Val) : (fH pre a1 t1 a2 t2 a3 t3 a4 t4 D dt dd).setC pre.length { tableCell a1 t1 (D 0) dt with vals := [to] } = fH pre a1 t1 a2 t2 a3 t3 a4 t4 D to dd := by
  unfold HeapM.setC fH
  congr 1
  exact app_set _ _ 0 _
theorem f_del1 (to : Val) : (fH pre a1 t1 a2 t2 a3 t3 a4 t4 D dt dd).setC (pre.length + 1) { tableCell a2 t2 (D 1) dd with vals := [to] } = fH pre a1 t1 a2 t2 a3 t3 a4 t4 D dt to := by
  unfold HeapM.setC fH
  congr 1
  exact app_set _ _ 1 _
theorem f_put0 : (fH pre a1 t1 a2 t2 a3 t3 a4 t4 (fun _ => Dict.empty) dt dd).setC pre.length { tableCell a1 t1 Dict.empty dt with table := some (t1, Dict.empty.put (vStr name) v) } = fH pre a1 t1 a2 t2 a3 t3 a4 t4 (fD 0 name v) dt dd := by
  unfold HeapM.setC fH
  congr 1
  exact app_set _ _ 0 _
theorem f_put1 : (fH pre a1 t1 a2 t2 a3 t3 a4 t4 (fun _ => Dict.empty) dt dd).setC (pre.length + 1) { tableCell a2 t2 Dict.empty dd with table := some (t2, Dict.empty.put (vStr name) v) } = fH pre a1 t1 a2 t2 a3 t3 a4 t4 (fD 1 name v) dt dd := by
  unfold HeapM.setC fH
  congr 1
  exact app_set _ _ 1 _
theorem f_put2 : (fH pre a1 t1 a2 t2 a3 t3 a4 t4 (fun _ => Dict.empty) dt dd).setC (pre.length + 2) { tableCell a3 t3 Dict.empty vNull with table := some (t3, Dict.empty.put (vStr name) v) } = fH pre a1 t1 a2 t2 a3 t3 a4 t4 (fD 2 name v) dt dd := by
  unfold HeapM.setC fH
  congr 1
  exact app_set _ _ 2 _
theorem f_put3 : (fH pre a1 t1 a2 t2 a3 t3 a4 t4 (fun _ => Dict.empty) dt dd).setC (pre.length + 3) { classCell a4 t4 Dict.empty vNull with table := some (t4, Dict.empty.put (vStr name) v) } = fH pre a1 t1 a2 t2 a3 t3 a4 t4 (fD 3 name v) dt dd := by
  unfold HeapM.setC fH
  congr 1
  exact app_set _ _ 3 _
theorem f_put_none (h0 : wh ≠ 0) (h1 : wh ≠ 1) (h2 : wh ≠ 2) (h3 : wh ≠ 3) : fH pre a1 t1 a2 t2 a3 t3 a4 t4 (fun _ => Dict.empty) dt dd = fH pre a1 t1 a2 t2 a3 t3 a4 t4 (fD wh name v) dt dd := by
  unfold fH fD
  simp [h0, h1, h2, h3]

theorem fD_get {j : Int} : (fD wh name v j).get (vStr name) = if wh = j then some v else none := by
  unfold fD
  split
  · simp [Dict.put, Dict.get, Dict.empty, Dict.add]
  · rfl
theorem fD_serial {j : Int} : (fD wh name v j).serial ≤ 1 := by
  unfold fD
  split
  · have := put_serial Dict.empty (vStr name) v
    simpa [Dict.empty] using this
  · exact Int.zero_le_ofNat 1
theorem fD_items {j : Int} : (fD wh name v j).items = if wh = j then [⟨vStr name, v, 1⟩] else [] := by
  unfold fD
  split
  · simp [Dict.put, Dict.get, Dict.empty, Dict.add]
  · rfl

theorem nat_ok : ∀ x, some x ∈ natPre called ad → CellOk x := by
  intro x hx
  unfold natPre at hx
  split at hx
  · simp at hx; subst hx
    exact ⟨rfl, by simp, fun d hd => by simp at hd; subst hd; exact Nat.zero_le _, fun h => by simp at h⟩
  · simp at hx
theorem fH_ok (hp : ∀ x, some x ∈ pre → CellOk x) (hdt : dt.t.size ≤ 1000000000) (hdd : dd.t.size ≤ 1000000000) (hD : ∀ j, (D j).serial ≤ 100000000) : ∀ x, some x ∈ (fH pre a1 t1 a2 t2 a3 t3 a4 t4 D dt dd).cells → CellOk x := by
  intro x hx
  simp only [fH, List.mem_append, List.mem_cons, Option.some.injEq, List.not_mem_nil, or_false] at hx
  rcases hx with hx | rfl | rfl | rfl | rfl
  · exact hp x hx
  · exact ⟨rfl, by simp, by simpa using hdt, fun _ => ⟨_, _, _, rfl, hD 0, rfl⟩⟩
  · exact ⟨rfl, by simp, by simpa using hdd, fun _ => ⟨_, _, _, rfl, hD 1, rfl⟩⟩
  · exact ⟨rfl, by simp, fun d hd => by simp at hd; subst hd; exact Nat.zero_le _, fun _ => ⟨_, _, _, rfl, hD 2, rfl⟩⟩
  · exact ⟨rfl, by simp, fun d hd => by simp at hd; subst hd; exact Nat.zero_le _, fun _ => ⟨_, _, _, rfl, hD 3, rfl⟩⟩
theorem ok_alloc {H : HeapM} {x : CellM} (hf : H.free = []) (h : ∀ x, some x ∈ H.cells → CellOk x) (hx : CellOk x) : ∀ y, some y ∈ (H.alloc x).1.cells → CellOk y := by
  intro y hy
  rw [alloc_end _ _ hf] at hy
  simp only [List.mem_append, List.mem_cons, Option.some.injEq, List.not_mem_nil, or_false] at hy
  rcases hy with hy | rfl
  · exact h y hy
  · exact hx
theorem fields_le (H : HeapM) (l : List Item) : (fieldsH H l).serial ≤ l.length := fields_serial H l

theorem nat_method {H : HeapM} (h0 : called = true → H.cells[0]? = some (some (natCell ad))) : methodH H (natVal called) = called := by
  cases called with
  | true => exact method_at (i := 0) (h0 rfl) (.inr rfl)
  | false => exact method_no (by decide)
theorem pre_zero {m : List (Option CellM)} (h : called = true) : (natPre called ad ++ m)[0]? = some (some (natCell ad)) := by
  subst h; rfl

/-- The heap in which is looked: an instance is there too. -/
theorem f_finds {a5 t5 : Nat} {Di : Dict} : let H := ((fH (natPre called ad) a1 t1 a2 t2 a3 t3 a4 t4 (fD wh name (natVal called)) (vRef ((natPre called ad).length + 1 : Nat)) (vRef ((natPre called ad).length + 2 : Nat))).alloc (instCell a5 t5 Di (vRef ((natPre called ad).length + 3 : Nat)))).1
    findG H (vRef ((natPre called ad).length : Nat)) name = (if wh = 1 ∨ wh = 2 then natVal called else vNull, called && decide (wh = 1 ∨ wh = 2)) ∧
    findG H (vRef ((natPre called ad).length + 4 : Nat)) name = (if wh = 3 then natVal called else vNull, called && decide (wh = 3)) ∧
    (findG H (vRef ((natPre called ad).length + 3 : Nat)) name).2 = false ∧ (findG H (vInt 1) name).2 = false := by
  intro H
  have hH : H.cells = natPre called ad ++ [some (tableCell a1 t1 (fD wh name (natVal called) 0) (vRef ((natPre called ad).length + 1 : Nat))), some (tableCell a2 t2 (fD wh name (natVal called) 1) (vRef ((natPre called ad).length + 2 : Nat))),
      some (tableCell a3 t3 (fD wh name (natVal called) 2) vNull), some (classCell a4 t4 (fD wh name (natVal called) 3) vNull), some (instCell a5 t5 Di (vRef ((natPre called ad).length + 3 : Nat)))] := by
    simp only [H]
    rw [alloc_end _ _ rfl]
    simp [fH]
  have g0 := hH ▸ app_get (natPre called ad) _ 0
  rw [Nat.add_zero] at g0
  have g1 := hH ▸ app_get (natPre called ad) _ 1
  have g2 := hH ▸ app_get (natPre called ad) _ 2
  have g3 := hH ▸ app_get (natPre called ad) _ 3
  have g4 := hH ▸ app_get (natPre called ad) _ 4
  have hm : methodH H (natVal called) = called := nat_method (ad := ad) fun h => by rw [hH]; exact pre_zero h
  have e0 : findE H (vRef ((natPre called ad).length : Nat)) name = (if wh = 1 ∨ wh = 2 then (natVal called, 0) else (vNull, 3)) := by
    rw [findE_table g0 rfl (by simp)]
    simp only [List.headD_cons]
    rw [get_table g1 rfl, tab_at g1 rfl rfl 1048576, fD_get]
    by_cases h1 : wh = 1
    · simp [h1]
    · rw [if_neg h1]
      simp only [List.headD_cons]
      rw [tab_at g2 rfl rfl 1048575, fD_get]
      by_cases h2 : wh = 2
      · simp [h2]
      · simp [h1, h2, tab_null]
  have e4 : findE H (vRef ((natPre called ad).length + 4 : Nat)) name = (if wh = 3 then (natVal called, 0) else (vNull, 3)) := by
    rw [findE_inst g4 rfl (by simp)]
    simp only [List.headD_cons]
    rw [member_at g3 rfl rfl]
    unfold getD
    rw [fD_get]
    by_cases h3 : wh = 3 <;> simp [h3]
  refine ⟨?_, ?_, ?_, ?_⟩
  · unfold findG
    rw [e0]
    by_cases h : wh = 1 ∨ wh = 2 <;> simp [h, hm]
  · unfold findG
    rw [e4]
    by_cases h : wh = 3 <;> simp [h, hm]
  · unfold findG
    rw [findE_none g3 rfl]; rfl
  · unfold findG
    rw [findE_plain (by decide)]; rfl

theorem walk_one {H : HeapM} {i j : Nat} {x : CellM} (hc : H.cells[j]? = some (some x)) (hk : x.kind = 2) (hd : x.vals.headD vNull = vNull) (hij : i ≠ j) : walkG H (vRef i) 64 (vRef j) = 0 := by
  rw [walkG, if_neg (by simp), if_neg (by simp; omega), if_neg (by decide), deleg_at hc hk, hd, walkG, if_pos rfl]
end
end Go.Proofs.Ytephkonhiaingaa

/-
  No cell of these rows narrows 'for every input' (looked for: loops, veiled, ifaces, maps, wideKeys, modest, calm, conditions, laid).
  DERIVED. THE GIVEN ROWS OF THIS SEAT. 7 by the template 'for every input the law returns true; each argument reads behind the call as it read before'; 0 by the template 'total and deterministic' (their statements: YtephkonhiaingaaTotals.lean).
  GIVEN WITH THE SEED: the statements are not yours to turn. If you find one false, say at which input.
  Laid BY PROGRAM, IN A SANDBOX (cutbox-rows.mjs): the forced cells as the released guide's own fill.sh prints them over the translation 9dbc09ec70f49849… (all of the seat's roots in one cut). By AI agents, Wed Nov 11 2026. No macro, syntax, notation, axiom, sorry.
-/
import Derived.Test.YtephkonhiaingaaChecked
import GoSem.Claim
import GoSem.ClaimJoined
import GoSem.ClaimMapViews
import Derived.JoinedTies
import Derived.KernelRfl
namespace Go.Proofs.Ytephkonhiaingaa
/- THE CELL 'sum', in the pinned program and in every row, IS THE sha256 OF THE DUMP (.gsa) THAT YtephkonhiaingaaProg.lean LOADS. Nothing in Lean hashes anything: it is a label: what it is worth is what the hold of that sum in a sandbox is worth. -/
noncomputable def Try.pinned : Pinned := { name := "ytephkonhiaingaa", sum := "9dbc09ec70f49849fe84322c53d80582ac1840c24a7106361f5aec27d4c1df9c", checked := Try.checked }
namespace Rows
def none {H : Type} : Left H := { results := [], args := [] }

/-- 'dreylaw06.HeapPlays': WHATEVER THE INPUT: true; the input reads as it did. -/
def heapPlaysSpec : ChangeSpec := { name := "heapPlays", fn := fun _ => fun
  | [d1, d2] => { results := [.lit (.bool true)], args := [d1, d2] }
  | _ => none }
def heapPlaysRow : OpenClaim := { program := "ytephkonhiaingaa", sum := "9dbc09ec70f49849fe84322c53d80582ac1840c24a7106361f5aec27d4c1df9c", func := "drey/dreylaw06.HeapPlays", spec := "heapPlays", unfollowed := true, recurses := true, apart := false }
def HeapPlaysSaid : Prop := heapPlaysRow.holds Try.pinned (OpenSpec.ofChange heapPlaysSpec)

/-- ITS FALSE NEIGHBOUR: 'it returns false'. Refute it at one input. -/
def heapPlaysWrong : ChangeSpec := { name := "heapPlays", fn := fun _ => fun
  | [d1, d2] => { results := [.lit (.bool false)], args := [d1, d2] }
  | _ => none }
def HeapPlaysWrongFalsely : Prop := heapPlaysRow.holds Try.pinned (OpenSpec.ofChange heapPlaysWrong)

/-- 'dreylaw17.SlotPlays': WHATEVER THE INPUT: true; the input reads as it did. -/
def slotPlaysSpec : ChangeSpec := { name := "slotPlays", fn := fun _ => fun
  | [d1, d2] => { results := [.lit (.bool true)], args := [d1, d2] }
  | _ => none }
def slotPlaysRow : OpenClaim := { program := "ytephkonhiaingaa", sum := "9dbc09ec70f49849fe84322c53d80582ac1840c24a7106361f5aec27d4c1df9c", func := "drey/dreylaw17.SlotPlays", spec := "slotPlays", unfollowed := true, recurses := true, apart := false }
def SlotPlaysSaid : Prop := slotPlaysRow.holds Try.pinned (OpenSpec.ofChange slotPlaysSpec)

/-- ITS FALSE NEIGHBOUR: 'it returns false'. Refute it at one input. -/
def slotPlaysWrong : ChangeSpec := { name := "slotPlays", fn := fun _ => fun
  | [d1, d2] => { results := [.lit (.bool false)], args := [d1, d2] }
  | _ => none }
def SlotPlaysWrongFalsely : Prop := slotPlaysRow.holds Try.pinned (OpenSpec.ofChange slotPlaysWrong)

/-- 'dreylaw17.SlotNext': WHATEVER THE INPUT: true; the input reads as it did. -/
def slotNextSpec : ChangeSpec := { name := "slotNext", fn := fun _ => fun
  | [d1, d2, d3] => { results := [.lit (.bool true)], args := [d1, d2, d3] }
  | _ => none }
def slotNextRow : OpenClaim := { program := "ytephkonhiaingaa", sum := "9dbc09ec70f49849fe84322c53d80582ac1840c24a7106361f5aec27d4c1df9c", func := "drey/dreylaw17.SlotNext", spec := "slotNext", unfollowed := true, recurses := true, apart := false }
def SlotNextSaid : Prop := slotNextRow.holds Try.pinned (OpenSpec.ofChange slotNextSpec)

/-- ITS FALSE NEIGHBOUR: 'it returns false'. Refute it at one input. -/
def slotNextWrong : ChangeSpec := { name := "slotNext", fn := fun _ => fun
  | [d1, d2, d3] => { results := [.lit (.bool false)], args := [d1, d2, d3] }
  | _ => none }
def SlotNextWrongFalsely : Prop := slotNextRow.holds Try.pinned (OpenSpec.ofChange slotNextWrong)

/-- 'dreylaw17.SlotKinds': WHATEVER THE INPUT: true; the input reads as it did. -/
def slotKindsSpec : ChangeSpec := { name := "slotKinds", fn := fun _ => fun
  | [d1, d2, d3] => { results := [.lit (.bool true)], args := [d1, d2, d3] }
  | _ => none }
def slotKindsRow : OpenClaim := { program := "ytephkonhiaingaa", sum := "9dbc09ec70f49849fe84322c53d80582ac1840c24a7106361f5aec27d4c1df9c", func := "drey/dreylaw17.SlotKinds", spec := "slotKinds", unfollowed := true, recurses := true, apart := false }
def SlotKindsSaid : Prop := slotKindsRow.holds Try.pinned (OpenSpec.ofChange slotKindsSpec)

/-- ITS FALSE NEIGHBOUR: 'it returns false'. Refute it at one input. -/
def slotKindsWrong : ChangeSpec := { name := "slotKinds", fn := fun _ => fun
  | [d1, d2, d3] => { results := [.lit (.bool false)], args := [d1, d2, d3] }
  | _ => none }
def SlotKindsWrongFalsely : Prop := slotKindsRow.holds Try.pinned (OpenSpec.ofChange slotKindsWrong)

/-- 'dreylaw18.MetaTexts': WHATEVER THE INPUT: true; the input reads as it did. -/
def metaTextsSpec : ChangeSpec := { name := "metaTexts", fn := fun _ => fun
  | [d] => { results := [.lit (.bool true)], args := [d] }
  | _ => none }
def metaTextsRow : OpenClaim := { program := "ytephkonhiaingaa", sum := "9dbc09ec70f49849fe84322c53d80582ac1840c24a7106361f5aec27d4c1df9c", func := "drey/dreylaw18.MetaTexts", spec := "metaTexts", inPlace := ["internal/abi.NoEscape", "internal/bytealg.MakeNoZero"], unfollowed := true, recurses := true, apart := false }
def MetaTextsSaid : Prop := metaTextsRow.holds Try.pinned (OpenSpec.ofChange metaTextsSpec)

/-- ITS FALSE NEIGHBOUR: 'it returns false'. Refute it at one input. -/
def metaTextsWrong : ChangeSpec := { name := "metaTexts", fn := fun _ => fun
  | [d] => { results := [.lit (.bool false)], args := [d] }
  | _ => none }
def MetaTextsWrongFalsely : Prop := metaTextsRow.holds Try.pinned (OpenSpec.ofChange metaTextsWrong)

/-- 'dreylaw18.MetaFinds': WHATEVER THE INPUT: true; the input reads as it did. -/
def metaFindsSpec : ChangeSpec := { name := "metaFinds", fn := fun _ => fun
  | [d1, d2, d3] => { results := [.lit (.bool true)], args := [d1, d2, d3] }
  | _ => none }
def metaFindsRow : OpenClaim := { program := "ytephkonhiaingaa", sum := "9dbc09ec70f49849fe84322c53d80582ac1840c24a7106361f5aec27d4c1df9c", func := "drey/dreylaw18.MetaFinds", spec := "metaFinds", inPlace := ["internal/abi.NoEscape", "internal/bytealg.MakeNoZero"], unfollowed := true, recurses := true, apart := false }
def MetaFindsSaid : Prop := metaFindsRow.holds Try.pinned (OpenSpec.ofChange metaFindsSpec)

/-- ITS FALSE NEIGHBOUR: 'it returns false'. Refute it at one input. -/
def metaFindsWrong : ChangeSpec := { name := "metaFinds", fn := fun _ => fun
  | [d1, d2, d3] => { results := [.lit (.bool false)], args := [d1, d2, d3] }
  | _ => none }
def MetaFindsWrongFalsely : Prop := metaFindsRow.holds Try.pinned (OpenSpec.ofChange metaFindsWrong)

/-- 'dreylaw18.MetaArith': WHATEVER THE INPUT: true; the input reads as it did. -/
def metaArithSpec : ChangeSpec := { name := "metaArith", fn := fun _ => fun
  | [d1, d2, d3] => { results := [.lit (.bool true)], args := [d1, d2, d3] }
  | _ => none }
def metaArithRow : OpenClaim := { program := "ytephkonhiaingaa", sum := "9dbc09ec70f49849fe84322c53d80582ac1840c24a7106361f5aec27d4c1df9c", func := "drey/dreylaw18.MetaArith", spec := "metaArith", inPlace := ["internal/abi.NoEscape", "internal/bytealg.MakeNoZero"], unfollowed := true, recurses := true, apart := false }
def MetaArithSaid : Prop := metaArithRow.holds Try.pinned (OpenSpec.ofChange metaArithSpec)

/-- ITS FALSE NEIGHBOUR: 'it returns false'. Refute it at one input. -/
def metaArithWrong : ChangeSpec := { name := "metaArith", fn := fun _ => fun
  | [d1, d2, d3] => { results := [.lit (.bool false)], args := [d1, d2, d3] }
  | _ => none }
def MetaArithWrongFalsely : Prop := metaArithRow.holds Try.pinned (OpenSpec.ofChange metaArithWrong)

/- THE SECOND FORM. 'bulk': how many values and letters a reading holds, each counted each time it is reached (what is shared counts as often as it is met; a slice's spare places count too). A statement '..UptoSaid' is the law's where the arguments, and the package variables that the reading takes, are together of bulk at most 1048576: NARROWER than '..Said'. Prove '..Said' where nothing that the law and all that it calls make is longer than what came in: it says more and counts as full. Else prove '..UptoSaid'. A law counts once. -/
mutual
def uptoBulk {H : Type} : DataW H → Nat
  | .lit (.string bytes) => bytes.length + 1
  | .lit _ => 1
  | .nil => 1
  | .ptr d => uptoBulk d + 1
  | .slice elems spare => uptoBulkAll elems + uptoBulkAll spare + 1
  | .agg parts => uptoBulkAll parts + 1
  | .iface _ d => uptoBulk d + 1
  | .map entries => uptoBulkEntries entries + 1
  | .held _ => 1
def uptoBulkAll {H : Type} : List (DataW H) → Nat
  | [] => 0
  | d :: r => uptoBulk d + uptoBulkAll r
def uptoBulkEntries {H : Type} : List (Lit × DataW H) → Nat
  | [] => 0
  | x :: r => uptoBulkEntry x + uptoBulkEntries r
def uptoBulkEntry {H : Type} : Lit × DataW H → Nat
  | (.string bytes, d) => bytes.length + uptoBulk d + 1
  | (_, d) => uptoBulk d + 1
 end
def uptoSmall : (H : Type) → List (DataW H) → Bool := fun _ ds => decide (uptoBulkAll ds ≤ 1048576)
def OpenSpec.upto (s : _root_.Go.ChangeSpec) : _root_.Go.OpenSpec := { _root_.Go.OpenSpec.ofChange s with cond := some uptoSmall }

/-- 'dreylaw06.HeapPlays', WHERE WHAT IT READS IS OF BULK AT MOST 1048576: true; the input reads as it did. -/
def heapPlaysUptoRow : OpenClaim := { program := "ytephkonhiaingaa", sum := "9dbc09ec70f49849fe84322c53d80582ac1840c24a7106361f5aec27d4c1df9c", func := "drey/dreylaw06.HeapPlays", spec := "heapPlays", unfollowed := true, recurses := true, apart := false, narrowed := true }
def HeapPlaysUptoSaid : Prop := heapPlaysUptoRow.holds Try.pinned (OpenSpec.upto heapPlaysSpec)

/-- 'dreylaw17.SlotPlays', WHERE WHAT IT READS IS OF BULK AT MOST 1048576: true; the input reads as it did. -/
def slotPlaysUptoRow : OpenClaim := { program := "ytephkonhiaingaa", sum := "9dbc09ec70f49849fe84322c53d80582ac1840c24a7106361f5aec27d4c1df9c", func := "drey/dreylaw17.SlotPlays", spec := "slotPlays", unfollowed := true, recurses := true, apart := false, narrowed := true }
def SlotPlaysUptoSaid : Prop := slotPlaysUptoRow.holds Try.pinned (OpenSpec.upto slotPlaysSpec)

/-- 'dreylaw17.SlotNext', WHERE WHAT IT READS IS OF BULK AT MOST 1048576: true; the input reads as it did. -/
def slotNextUptoRow : OpenClaim := { program := "ytephkonhiaingaa", sum := "9dbc09ec70f49849fe84322c53d80582ac1840c24a7106361f5aec27d4c1df9c", func := "drey/dreylaw17.SlotNext", spec := "slotNext", unfollowed := true, recurses := true, apart := false, narrowed := true }
def SlotNextUptoSaid : Prop := slotNextUptoRow.holds Try.pinned (OpenSpec.upto slotNextSpec)

/-- 'dreylaw17.SlotKinds', WHERE WHAT IT READS IS OF BULK AT MOST 1048576: true; the input reads as it did. -/
def slotKindsUptoRow : OpenClaim := { program := "ytephkonhiaingaa", sum := "9dbc09ec70f49849fe84322c53d80582ac1840c24a7106361f5aec27d4c1df9c", func := "drey/dreylaw17.SlotKinds", spec := "slotKinds", unfollowed := true, recurses := true, apart := false, narrowed := true }
def SlotKindsUptoSaid : Prop := slotKindsUptoRow.holds Try.pinned (OpenSpec.upto slotKindsSpec)

/-- 'dreylaw18.MetaTexts', WHERE WHAT IT READS IS OF BULK AT MOST 1048576: true; the input reads as it did. -/
def metaTextsUptoRow : OpenClaim := { program := "ytephkonhiaingaa", sum := "9dbc09ec70f49849fe84322c53d80582ac1840c24a7106361f5aec27d4c1df9c", func := "drey/dreylaw18.MetaTexts", spec := "metaTexts", inPlace := ["internal/abi.NoEscape", "internal/bytealg.MakeNoZero"], unfollowed := true, recurses := true, apart := false, narrowed := true }
def MetaTextsUptoSaid : Prop := metaTextsUptoRow.holds Try.pinned (OpenSpec.upto metaTextsSpec)

/-- 'dreylaw18.MetaFinds', WHERE WHAT IT READS IS OF BULK AT MOST 1048576: true; the input reads as it did. -/
def metaFindsUptoRow : OpenClaim := { program := "ytephkonhiaingaa", sum := "9dbc09ec70f49849fe84322c53d80582ac1840c24a7106361f5aec27d4c1df9c", func := "drey/dreylaw18.MetaFinds", spec := "metaFinds", inPlace := ["internal/abi.NoEscape", "internal/bytealg.MakeNoZero"], unfollowed := true, recurses := true, apart := false, narrowed := true }
def MetaFindsUptoSaid : Prop := metaFindsUptoRow.holds Try.pinned (OpenSpec.upto metaFindsSpec)

/-- 'dreylaw18.MetaArith', WHERE WHAT IT READS IS OF BULK AT MOST 1048576: true; the input reads as it did. -/
def metaArithUptoRow : OpenClaim := { program := "ytephkonhiaingaa", sum := "9dbc09ec70f49849fe84322c53d80582ac1840c24a7106361f5aec27d4c1df9c", func := "drey/dreylaw18.MetaArith", spec := "metaArith", inPlace := ["internal/abi.NoEscape", "internal/bytealg.MakeNoZero"], unfollowed := true, recurses := true, apart := false, narrowed := true }
def MetaArithUptoSaid : Prop := metaArithUptoRow.holds Try.pinned (OpenSpec.upto metaArithSpec)

end Rows
end Go.Proofs.Ytephkonhiaingaa

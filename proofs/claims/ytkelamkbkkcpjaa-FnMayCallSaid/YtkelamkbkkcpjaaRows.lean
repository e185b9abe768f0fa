/-
  No cell of these rows narrows 'for every input' (looked for: loops, veiled, ifaces, maps, wideKeys, modest, calm, conditions, laid).
  DERIVED. THE GIVEN ROWS OF THIS SEAT. 10 by the template 'for every input the law returns true; each argument reads behind the call as it read before'; 0 by the template 'total and deterministic' (their statements: YtkelamkbkkcpjaaTotals.lean).
  GIVEN WITH THE SEED: the statements are not yours to turn. If you find one false, say at which input.
  Laid BY PROGRAM, IN A SANDBOX (cutbox-rows.mjs): the forced cells as the released guide's own fill.sh prints them over the translation b0f624083768f05d… (all of the seat's roots in one cut). By AI agents, Wed Nov 11 2026. No macro, syntax, notation, axiom, sorry.
-/
import Derived.Test.YtkelamkbkkcpjaaChecked
import GoSem.Claim
import GoSem.ClaimJoined
import GoSem.ClaimMapViews
import Derived.JoinedTies
import Derived.KernelRfl
namespace Go.Proofs.Ytkelamkbkkcpjaa
/- THE CELL 'sum', in the pinned program and in every row, IS THE sha256 OF THE DUMP (.gsa) THAT YtkelamkbkkcpjaaProg.lean LOADS. Nothing in Lean hashes anything: it is a label: what it is worth is what the hold of that sum in a sandbox is worth. -/
noncomputable def Try.pinned : Pinned := { name := "ytkelamkbkkcpjaa", sum := "b0f624083768f05dfe37b7494d8049661d85c79b52bec0d13f8719f8a2cb71cd", checked := Try.checked }
namespace Rows
def none {H : Type} : Left H := { results := [], args := [] }

/-- 'laws.FnExactRightHolds': WHATEVER THE INPUT: true; the input reads as it did. -/
def fnExactRightHoldsSpec : ChangeSpec := { name := "fnExactRightHolds", fn := fun _ => fun
  | [d1, d2] => { results := [.lit (.bool true)], args := [d1, d2] }
  | _ => none }
def fnExactRightHoldsRow : OpenClaim := { program := "ytkelamkbkkcpjaa", sum := "b0f624083768f05dfe37b7494d8049661d85c79b52bec0d13f8719f8a2cb71cd", func := "loop.example/elevators/laws.FnExactRightHolds", spec := "fnExactRightHolds", apart := false }
def FnExactRightHoldsSaid : Prop := fnExactRightHoldsRow.holds Try.pinned (OpenSpec.ofChange fnExactRightHoldsSpec)

/-- ITS FALSE NEIGHBOUR: 'it returns false'. Refute it at one input. -/
def fnExactRightHoldsWrong : ChangeSpec := { name := "fnExactRightHolds", fn := fun _ => fun
  | [d1, d2] => { results := [.lit (.bool false)], args := [d1, d2] }
  | _ => none }
def FnExactRightHoldsWrongFalsely : Prop := fnExactRightHoldsRow.holds Try.pinned (OpenSpec.ofChange fnExactRightHoldsWrong)

/-- 'laws.FnExactRightsValid': WHATEVER THE INPUT: true; the input reads as it did. -/
def fnExactRightsValidSpec : ChangeSpec := { name := "fnExactRightsValid", fn := fun _ => fun
  | [d] => { results := [.lit (.bool true)], args := [d] }
  | _ => none }
def fnExactRightsValidRow : OpenClaim := { program := "ytkelamkbkkcpjaa", sum := "b0f624083768f05dfe37b7494d8049661d85c79b52bec0d13f8719f8a2cb71cd", func := "loop.example/elevators/laws.FnExactRightsValid", spec := "fnExactRightsValid", apart := false }
def FnExactRightsValidSaid : Prop := fnExactRightsValidRow.holds Try.pinned (OpenSpec.ofChange fnExactRightsValidSpec)

/-- ITS FALSE NEIGHBOUR: 'it returns false'. Refute it at one input. -/
def fnExactRightsValidWrong : ChangeSpec := { name := "fnExactRightsValid", fn := fun _ => fun
  | [d] => { results := [.lit (.bool false)], args := [d] }
  | _ => none }
def FnExactRightsValidWrongFalsely : Prop := fnExactRightsValidRow.holds Try.pinned (OpenSpec.ofChange fnExactRightsValidWrong)

/-- 'laws.FnExactMayCall': WHATEVER THE INPUT: true; the input reads as it did. -/
def fnExactMayCallSpec : ChangeSpec := { name := "fnExactMayCall", fn := fun _ => fun
  | [d1, d2, d3, d4] => { results := [.lit (.bool true)], args := [d1, d2, d3, d4] }
  | _ => none }
def fnExactMayCallRow : OpenClaim := { program := "ytkelamkbkkcpjaa", sum := "b0f624083768f05dfe37b7494d8049661d85c79b52bec0d13f8719f8a2cb71cd", func := "loop.example/elevators/laws.FnExactMayCall", spec := "fnExactMayCall", apart := false }
def FnExactMayCallSaid : Prop := fnExactMayCallRow.holds Try.pinned (OpenSpec.ofChange fnExactMayCallSpec)

/-- ITS FALSE NEIGHBOUR: 'it returns false'. Refute it at one input. -/
def fnExactMayCallWrong : ChangeSpec := { name := "fnExactMayCall", fn := fun _ => fun
  | [d1, d2, d3, d4] => { results := [.lit (.bool false)], args := [d1, d2, d3, d4] }
  | _ => none }
def FnExactMayCallWrongFalsely : Prop := fnExactMayCallRow.holds Try.pinned (OpenSpec.ofChange fnExactMayCallWrong)

/-- 'laws.FnExactMayHours': WHATEVER THE INPUT: true; the input reads as it did. -/
def fnExactMayHoursSpec : ChangeSpec := { name := "fnExactMayHours", fn := fun _ => fun
  | [d1, d2, d3] => { results := [.lit (.bool true)], args := [d1, d2, d3] }
  | _ => none }
def fnExactMayHoursRow : OpenClaim := { program := "ytkelamkbkkcpjaa", sum := "b0f624083768f05dfe37b7494d8049661d85c79b52bec0d13f8719f8a2cb71cd", func := "loop.example/elevators/laws.FnExactMayHours", spec := "fnExactMayHours", apart := false }
def FnExactMayHoursSaid : Prop := fnExactMayHoursRow.holds Try.pinned (OpenSpec.ofChange fnExactMayHoursSpec)

/-- ITS FALSE NEIGHBOUR: 'it returns false'. Refute it at one input. -/
def fnExactMayHoursWrong : ChangeSpec := { name := "fnExactMayHours", fn := fun _ => fun
  | [d1, d2, d3] => { results := [.lit (.bool false)], args := [d1, d2, d3] }
  | _ => none }
def FnExactMayHoursWrongFalsely : Prop := fnExactMayHoursRow.holds Try.pinned (OpenSpec.ofChange fnExactMayHoursWrong)

/-- 'laws.FnExactMayFloors': WHATEVER THE INPUT: true; the input reads as it did. -/
def fnExactMayFloorsSpec : ChangeSpec := { name := "fnExactMayFloors", fn := fun _ => fun
  | [d1, d2, d3] => { results := [.lit (.bool true)], args := [d1, d2, d3] }
  | _ => none }
def fnExactMayFloorsRow : OpenClaim := { program := "ytkelamkbkkcpjaa", sum := "b0f624083768f05dfe37b7494d8049661d85c79b52bec0d13f8719f8a2cb71cd", func := "loop.example/elevators/laws.FnExactMayFloors", spec := "fnExactMayFloors", apart := false }
def FnExactMayFloorsSaid : Prop := fnExactMayFloorsRow.holds Try.pinned (OpenSpec.ofChange fnExactMayFloorsSpec)

/-- ITS FALSE NEIGHBOUR: 'it returns false'. Refute it at one input. -/
def fnExactMayFloorsWrong : ChangeSpec := { name := "fnExactMayFloors", fn := fun _ => fun
  | [d1, d2, d3] => { results := [.lit (.bool false)], args := [d1, d2, d3] }
  | _ => none }
def FnExactMayFloorsWrongFalsely : Prop := fnExactMayFloorsRow.holds Try.pinned (OpenSpec.ofChange fnExactMayFloorsWrong)

/-- 'laws.FnRightHolds': WHATEVER THE INPUT: true; the input reads as it did. -/
def fnRightHoldsSpec : ChangeSpec := { name := "fnRightHolds", fn := fun _ => fun
  | [d] => { results := [.lit (.bool true)], args := [d] }
  | _ => none }
def fnRightHoldsRow : OpenClaim := { program := "ytkelamkbkkcpjaa", sum := "b0f624083768f05dfe37b7494d8049661d85c79b52bec0d13f8719f8a2cb71cd", func := "loop.example/elevators/laws.FnRightHolds", spec := "fnRightHolds", apart := false }
def FnRightHoldsSaid : Prop := fnRightHoldsRow.holds Try.pinned (OpenSpec.ofChange fnRightHoldsSpec)

/-- ITS FALSE NEIGHBOUR: 'it returns false'. Refute it at one input. -/
def fnRightHoldsWrong : ChangeSpec := { name := "fnRightHolds", fn := fun _ => fun
  | [d] => { results := [.lit (.bool false)], args := [d] }
  | _ => none }
def FnRightHoldsWrongFalsely : Prop := fnRightHoldsRow.holds Try.pinned (OpenSpec.ofChange fnRightHoldsWrong)

/-- 'laws.FnRightsValid': WHATEVER THE INPUT: true; the input reads as it did. -/
def fnRightsValidSpec : ChangeSpec := { name := "fnRightsValid", fn := fun _ => fun
  | [d] => { results := [.lit (.bool true)], args := [d] }
  | _ => none }
def fnRightsValidRow : OpenClaim := { program := "ytkelamkbkkcpjaa", sum := "b0f624083768f05dfe37b7494d8049661d85c79b52bec0d13f8719f8a2cb71cd", func := "loop.example/elevators/laws.FnRightsValid", spec := "fnRightsValid", apart := false }
def FnRightsValidSaid : Prop := fnRightsValidRow.holds Try.pinned (OpenSpec.ofChange fnRightsValidSpec)

/-- ITS FALSE NEIGHBOUR: 'it returns false'. Refute it at one input. -/
def fnRightsValidWrong : ChangeSpec := { name := "fnRightsValid", fn := fun _ => fun
  | [d] => { results := [.lit (.bool false)], args := [d] }
  | _ => none }
def FnRightsValidWrongFalsely : Prop := fnRightsValidRow.holds Try.pinned (OpenSpec.ofChange fnRightsValidWrong)

/-- 'laws.FnMayCall': WHATEVER THE INPUT: true; the input reads as it did. -/
def fnMayCallSpec : ChangeSpec := { name := "fnMayCall", fn := fun _ => fun
  | [d] => { results := [.lit (.bool true)], args := [d] }
  | _ => none }
def fnMayCallRow : OpenClaim := { program := "ytkelamkbkkcpjaa", sum := "b0f624083768f05dfe37b7494d8049661d85c79b52bec0d13f8719f8a2cb71cd", func := "loop.example/elevators/laws.FnMayCall", spec := "fnMayCall", apart := false }
def FnMayCallSaid : Prop := fnMayCallRow.holds Try.pinned (OpenSpec.ofChange fnMayCallSpec)

/-- ITS FALSE NEIGHBOUR: 'it returns false'. Refute it at one input. -/
def fnMayCallWrong : ChangeSpec := { name := "fnMayCall", fn := fun _ => fun
  | [d] => { results := [.lit (.bool false)], args := [d] }
  | _ => none }
def FnMayCallWrongFalsely : Prop := fnMayCallRow.holds Try.pinned (OpenSpec.ofChange fnMayCallWrong)

/-- 'laws.FnMayHours': WHATEVER THE INPUT: true; the input reads as it did. -/
def fnMayHoursSpec : ChangeSpec := { name := "fnMayHours", fn := fun _ => fun
  | [d] => { results := [.lit (.bool true)], args := [d] }
  | _ => none }
def fnMayHoursRow : OpenClaim := { program := "ytkelamkbkkcpjaa", sum := "b0f624083768f05dfe37b7494d8049661d85c79b52bec0d13f8719f8a2cb71cd", func := "loop.example/elevators/laws.FnMayHours", spec := "fnMayHours", apart := false }
def FnMayHoursSaid : Prop := fnMayHoursRow.holds Try.pinned (OpenSpec.ofChange fnMayHoursSpec)

/-- ITS FALSE NEIGHBOUR: 'it returns false'. Refute it at one input. -/
def fnMayHoursWrong : ChangeSpec := { name := "fnMayHours", fn := fun _ => fun
  | [d] => { results := [.lit (.bool false)], args := [d] }
  | _ => none }
def FnMayHoursWrongFalsely : Prop := fnMayHoursRow.holds Try.pinned (OpenSpec.ofChange fnMayHoursWrong)

/-- 'laws.FnMayFloors': WHATEVER THE INPUT: true; the input reads as it did. -/
def fnMayFloorsSpec : ChangeSpec := { name := "fnMayFloors", fn := fun _ => fun
  | [d] => { results := [.lit (.bool true)], args := [d] }
  | _ => none }
def fnMayFloorsRow : OpenClaim := { program := "ytkelamkbkkcpjaa", sum := "b0f624083768f05dfe37b7494d8049661d85c79b52bec0d13f8719f8a2cb71cd", func := "loop.example/elevators/laws.FnMayFloors", spec := "fnMayFloors", apart := false }
def FnMayFloorsSaid : Prop := fnMayFloorsRow.holds Try.pinned (OpenSpec.ofChange fnMayFloorsSpec)

/-- ITS FALSE NEIGHBOUR: 'it returns false'. Refute it at one input. -/
def fnMayFloorsWrong : ChangeSpec := { name := "fnMayFloors", fn := fun _ => fun
  | [d] => { results := [.lit (.bool false)], args := [d] }
  | _ => none }
def FnMayFloorsWrongFalsely : Prop := fnMayFloorsRow.holds Try.pinned (OpenSpec.ofChange fnMayFloorsWrong)

/- THE SECOND FORM. 'bulk': how many values and letters a reading holds, each counted each time it is reached (what is shared counts as often as it is met; a slice's spare places count too). A statement '..UptoSaid' is the law's where the arguments, and the package variables that the reading takes, are together of bulk at most 1048576: NARROWER than '..Said'. Prove '..Said' where nothing that the law and all that it calls make is longer than what came in: it says more and counts as full. Else prove '..UptoSaid'. A law counts once. -/
mutual
def uptoBulk {H : Type} : DataW H → Nat
  | .lit (.string bytes) => bytes.length + 1
  | .lit _ => 1
  | .nil => 1
  | .ptr d => uptoBulk d + 1
  | .slice elems spare => uptoBulkAll elems + uptoBulkAll spare + 1
  | .agg parts => uptoBulkAll parts + 1
  | .iface _ d => uptoBulk d + 1
  | .map entries => uptoBulkEntries entries + 1
  | .held _ => 1
def uptoBulkAll {H : Type} : List (DataW H) → Nat
  | [] => 0
  | d :: r => uptoBulk d + uptoBulkAll r
def uptoBulkEntries {H : Type} : List (Lit × DataW H) → Nat
  | [] => 0
  | x :: r => uptoBulkEntry x + uptoBulkEntries r
def uptoBulkEntry {H : Type} : Lit × DataW H → Nat
  | (.string bytes, d) => bytes.length + uptoBulk d + 1
  | (_, d) => uptoBulk d + 1
 end
def uptoSmall : (H : Type) → List (DataW H) → Bool := fun _ ds => decide (uptoBulkAll ds ≤ 1048576)
def OpenSpec.upto (s : _root_.Go.ChangeSpec) : _root_.Go.OpenSpec := { _root_.Go.OpenSpec.ofChange s with cond := some uptoSmall }

/-- 'laws.FnExactRightHolds', WHERE WHAT IT READS IS OF BULK AT MOST 1048576: true; the input reads as it did. -/
def fnExactRightHoldsUptoRow : OpenClaim := { program := "ytkelamkbkkcpjaa", sum := "b0f624083768f05dfe37b7494d8049661d85c79b52bec0d13f8719f8a2cb71cd", func := "loop.example/elevators/laws.FnExactRightHolds", spec := "fnExactRightHolds", apart := false, narrowed := true }
def FnExactRightHoldsUptoSaid : Prop := fnExactRightHoldsUptoRow.holds Try.pinned (OpenSpec.upto fnExactRightHoldsSpec)

/-- 'laws.FnExactRightsValid', WHERE WHAT IT READS IS OF BULK AT MOST 1048576: true; the input reads as it did. -/
def fnExactRightsValidUptoRow : OpenClaim := { program := "ytkelamkbkkcpjaa", sum := "b0f624083768f05dfe37b7494d8049661d85c79b52bec0d13f8719f8a2cb71cd", func := "loop.example/elevators/laws.FnExactRightsValid", spec := "fnExactRightsValid", apart := false, narrowed := true }
def FnExactRightsValidUptoSaid : Prop := fnExactRightsValidUptoRow.holds Try.pinned (OpenSpec.upto fnExactRightsValidSpec)

/-- 'laws.FnExactMayCall', WHERE WHAT IT READS IS OF BULK AT MOST 1048576: true; the input reads as it did. -/
def fnExactMayCallUptoRow : OpenClaim := { program := "ytkelamkbkkcpjaa", sum := "b0f624083768f05dfe37b7494d8049661d85c79b52bec0d13f8719f8a2cb71cd", func := "loop.example/elevators/laws.FnExactMayCall", spec := "fnExactMayCall", apart := false, narrowed := true }
def FnExactMayCallUptoSaid : Prop := fnExactMayCallUptoRow.holds Try.pinned (OpenSpec.upto fnExactMayCallSpec)

/-- 'laws.FnExactMayHours', WHERE WHAT IT READS IS OF BULK AT MOST 1048576: true; the input reads as it did. -/
def fnExactMayHoursUptoRow : OpenClaim := { program := "ytkelamkbkkcpjaa", sum := "b0f624083768f05dfe37b7494d8049661d85c79b52bec0d13f8719f8a2cb71cd", func := "loop.example/elevators/laws.FnExactMayHours", spec := "fnExactMayHours", apart := false, narrowed := true }
def FnExactMayHoursUptoSaid : Prop := fnExactMayHoursUptoRow.holds Try.pinned (OpenSpec.upto fnExactMayHoursSpec)

/-- 'laws.FnExactMayFloors', WHERE WHAT IT READS IS OF BULK AT MOST 1048576: true; the input reads as it did. -/
def fnExactMayFloorsUptoRow : OpenClaim := { program := "ytkelamkbkkcpjaa", sum := "b0f624083768f05dfe37b7494d8049661d85c79b52bec0d13f8719f8a2cb71cd", func := "loop.example/elevators/laws.FnExactMayFloors", spec := "fnExactMayFloors", apart := false, narrowed := true }
def FnExactMayFloorsUptoSaid : Prop := fnExactMayFloorsUptoRow.holds Try.pinned (OpenSpec.upto fnExactMayFloorsSpec)

/-- 'laws.FnRightHolds', WHERE WHAT IT READS IS OF BULK AT MOST 1048576: true; the input reads as it did. -/
def fnRightHoldsUptoRow : OpenClaim := { program := "ytkelamkbkkcpjaa", sum := "b0f624083768f05dfe37b7494d8049661d85c79b52bec0d13f8719f8a2cb71cd", func := "loop.example/elevators/laws.FnRightHolds", spec := "fnRightHolds", apart := false, narrowed := true }
def FnRightHoldsUptoSaid : Prop := fnRightHoldsUptoRow.holds Try.pinned (OpenSpec.upto fnRightHoldsSpec)

/-- 'laws.FnRightsValid', WHERE WHAT IT READS IS OF BULK AT MOST 1048576: true; the input reads as it did. -/
def fnRightsValidUptoRow : OpenClaim := { program := "ytkelamkbkkcpjaa", sum := "b0f624083768f05dfe37b7494d8049661d85c79b52bec0d13f8719f8a2cb71cd", func := "loop.example/elevators/laws.FnRightsValid", spec := "fnRightsValid", apart := false, narrowed := true }
def FnRightsValidUptoSaid : Prop := fnRightsValidUptoRow.holds Try.pinned (OpenSpec.upto fnRightsValidSpec)

/-- 'laws.FnMayCall', WHERE WHAT IT READS IS OF BULK AT MOST 1048576: true; the input reads as it did. -/
def fnMayCallUptoRow : OpenClaim := { program := "ytkelamkbkkcpjaa", sum := "b0f624083768f05dfe37b7494d8049661d85c79b52bec0d13f8719f8a2cb71cd", func := "loop.example/elevators/laws.FnMayCall", spec := "fnMayCall", apart := false, narrowed := true }
def FnMayCallUptoSaid : Prop := fnMayCallUptoRow.holds Try.pinned (OpenSpec.upto fnMayCallSpec)

/-- 'laws.FnMayHours', WHERE WHAT IT READS IS OF BULK AT MOST 1048576: true; the input reads as it did. -/
def fnMayHoursUptoRow : OpenClaim := { program := "ytkelamkbkkcpjaa", sum := "b0f624083768f05dfe37b7494d8049661d85c79b52bec0d13f8719f8a2cb71cd", func := "loop.example/elevators/laws.FnMayHours", spec := "fnMayHours", apart := false, narrowed := true }
def FnMayHoursUptoSaid : Prop := fnMayHoursUptoRow.holds Try.pinned (OpenSpec.upto fnMayHoursSpec)

/-- 'laws.FnMayFloors', WHERE WHAT IT READS IS OF BULK AT MOST 1048576: true; the input reads as it did. -/
def fnMayFloorsUptoRow : OpenClaim := { program := "ytkelamkbkkcpjaa", sum := "b0f624083768f05dfe37b7494d8049661d85c79b52bec0d13f8719f8a2cb71cd", func := "loop.example/elevators/laws.FnMayFloors", spec := "fnMayFloors", apart := false, narrowed := true }
def FnMayFloorsUptoSaid : Prop := fnMayFloorsUptoRow.holds Try.pinned (OpenSpec.upto fnMayFloorsSpec)

end Rows
end Go.Proofs.Ytkelamkbkkcpjaa

/-
  No cell of these rows narrows 'for every input' (looked for: loops, veiled, ifaces, maps, wideKeys, modest, calm, conditions, laid).
  DERIVED. THE GIVEN ROWS OF THIS SEAT. 8 by the template 'for every input the law returns true; each argument reads behind the call as it read before'; 0 by the template 'total and deterministic' (their statements: YtebbodjecaiooaaTotals.lean).
  GIVEN WITH THE SEED: the statements are not yours to turn. If you find one false, say at which input.
  Laid BY PROGRAM, IN A SANDBOX (cutbox-rows.mjs): the forced cells as the released guide's own fill.sh prints them over the translation 47334203592eeb6c… (all of the seat's roots in one cut). By AI agents, Wed Nov 11 2026. No macro, syntax, notation, axiom, sorry.
-/
import Derived.Test.YtebbodjecaiooaaChecked
import GoSem.Claim
import GoSem.ClaimJoined
import GoSem.ClaimMapViews
import Derived.JoinedTies
import Derived.KernelRfl
namespace Go.Proofs.Ytebbodjecaiooaa
/- THE CELL 'sum', in the pinned program and in every row, IS THE sha256 OF THE DUMP (.gsa) THAT YtebbodjecaiooaaProg.lean LOADS. Nothing in Lean hashes anything: it is a label: what it is worth is what the hold of that sum in a sandbox is worth. -/
noncomputable def Try.pinned : Pinned := { name := "ytebbodjecaiooaa", sum := "47334203592eeb6c0cd10094614982a9661d5c81b458ce6970657b10269016e8", checked := Try.checked }
namespace Rows
def none {H : Type} : Left H := { results := [], args := [] }

/-- 'laws.FnExactBitsValid': WHATEVER THE INPUT: true; the input reads as it did. -/
def fnExactBitsValidSpec : ChangeSpec := { name := "fnExactBitsValid", fn := fun _ => fun
  | [d] => { results := [.lit (.bool true)], args := [d] }
  | _ => none }
def fnExactBitsValidRow : OpenClaim := { program := "ytebbodjecaiooaa", sum := "47334203592eeb6c0cd10094614982a9661d5c81b458ce6970657b10269016e8", func := "loop.example/elevators/laws.FnExactBitsValid", spec := "fnExactBitsValid", apart := false }
def FnExactBitsValidSaid : Prop := fnExactBitsValidRow.holds Try.pinned (OpenSpec.ofChange fnExactBitsValidSpec)

/-- ITS FALSE NEIGHBOUR: 'it returns false'. Refute it at one input. -/
def fnExactBitsValidWrong : ChangeSpec := { name := "fnExactBitsValid", fn := fun _ => fun
  | [d] => { results := [.lit (.bool false)], args := [d] }
  | _ => none }
def FnExactBitsValidWrongFalsely : Prop := fnExactBitsValidRow.holds Try.pinned (OpenSpec.ofChange fnExactBitsValidWrong)

/-- 'laws.FnExactLongestRun': WHATEVER THE INPUT: true; the input reads as it did. -/
def fnExactLongestRunSpec : ChangeSpec := { name := "fnExactLongestRun", fn := fun _ => fun
  | [d] => { results := [.lit (.bool true)], args := [d] }
  | _ => none }
def fnExactLongestRunRow : OpenClaim := { program := "ytebbodjecaiooaa", sum := "47334203592eeb6c0cd10094614982a9661d5c81b458ce6970657b10269016e8", func := "loop.example/elevators/laws.FnExactLongestRun", spec := "fnExactLongestRun", apart := false }
def FnExactLongestRunSaid : Prop := fnExactLongestRunRow.holds Try.pinned (OpenSpec.ofChange fnExactLongestRunSpec)

/-- ITS FALSE NEIGHBOUR: 'it returns false'. Refute it at one input. -/
def fnExactLongestRunWrong : ChangeSpec := { name := "fnExactLongestRun", fn := fun _ => fun
  | [d] => { results := [.lit (.bool false)], args := [d] }
  | _ => none }
def FnExactLongestRunWrongFalsely : Prop := fnExactLongestRunRow.holds Try.pinned (OpenSpec.ofChange fnExactLongestRunWrong)

/-- 'laws.FnExactStuff': WHATEVER THE INPUT: true; the input reads as it did. -/
def fnExactStuffSpec : ChangeSpec := { name := "fnExactStuff", fn := fun _ => fun
  | [d] => { results := [.lit (.bool true)], args := [d] }
  | _ => none }
def fnExactStuffRow : OpenClaim := { program := "ytebbodjecaiooaa", sum := "47334203592eeb6c0cd10094614982a9661d5c81b458ce6970657b10269016e8", func := "loop.example/elevators/laws.FnExactStuff", spec := "fnExactStuff", apart := false }
def FnExactStuffSaid : Prop := fnExactStuffRow.holds Try.pinned (OpenSpec.ofChange fnExactStuffSpec)

/-- ITS FALSE NEIGHBOUR: 'it returns false'. Refute it at one input. -/
def fnExactStuffWrong : ChangeSpec := { name := "fnExactStuff", fn := fun _ => fun
  | [d] => { results := [.lit (.bool false)], args := [d] }
  | _ => none }
def FnExactStuffWrongFalsely : Prop := fnExactStuffRow.holds Try.pinned (OpenSpec.ofChange fnExactStuffWrong)

/-- 'laws.FnExactUnstuff': WHATEVER THE INPUT: true; the input reads as it did. -/
def fnExactUnstuffSpec : ChangeSpec := { name := "fnExactUnstuff", fn := fun _ => fun
  | [d] => { results := [.lit (.bool true)], args := [d] }
  | _ => none }
def fnExactUnstuffRow : OpenClaim := { program := "ytebbodjecaiooaa", sum := "47334203592eeb6c0cd10094614982a9661d5c81b458ce6970657b10269016e8", func := "loop.example/elevators/laws.FnExactUnstuff", spec := "fnExactUnstuff", apart := false }
def FnExactUnstuffSaid : Prop := fnExactUnstuffRow.holds Try.pinned (OpenSpec.ofChange fnExactUnstuffSpec)

/-- ITS FALSE NEIGHBOUR: 'it returns false'. Refute it at one input. -/
def fnExactUnstuffWrong : ChangeSpec := { name := "fnExactUnstuff", fn := fun _ => fun
  | [d] => { results := [.lit (.bool false)], args := [d] }
  | _ => none }
def FnExactUnstuffWrongFalsely : Prop := fnExactUnstuffRow.holds Try.pinned (OpenSpec.ofChange fnExactUnstuffWrong)

/-- 'laws.FnBitsValid': WHATEVER THE INPUT: true; the input reads as it did. -/
def fnBitsValidSpec : ChangeSpec := { name := "fnBitsValid", fn := fun _ => fun
  | [d] => { results := [.lit (.bool true)], args := [d] }
  | _ => none }
def fnBitsValidRow : OpenClaim := { program := "ytebbodjecaiooaa", sum := "47334203592eeb6c0cd10094614982a9661d5c81b458ce6970657b10269016e8", func := "loop.example/elevators/laws.FnBitsValid", spec := "fnBitsValid", apart := false }
def FnBitsValidSaid : Prop := fnBitsValidRow.holds Try.pinned (OpenSpec.ofChange fnBitsValidSpec)

/-- ITS FALSE NEIGHBOUR: 'it returns false'. Refute it at one input. -/
def fnBitsValidWrong : ChangeSpec := { name := "fnBitsValid", fn := fun _ => fun
  | [d] => { results := [.lit (.bool false)], args := [d] }
  | _ => none }
def FnBitsValidWrongFalsely : Prop := fnBitsValidRow.holds Try.pinned (OpenSpec.ofChange fnBitsValidWrong)

/-- 'laws.FnLongestRun': WHATEVER THE INPUT: true; the input reads as it did. -/
def fnLongestRunSpec : ChangeSpec := { name := "fnLongestRun", fn := fun _ => fun
  | [d] => { results := [.lit (.bool true)], args := [d] }
  | _ => none }
def fnLongestRunRow : OpenClaim := { program := "ytebbodjecaiooaa", sum := "47334203592eeb6c0cd10094614982a9661d5c81b458ce6970657b10269016e8", func := "loop.example/elevators/laws.FnLongestRun", spec := "fnLongestRun", apart := false }
def FnLongestRunSaid : Prop := fnLongestRunRow.holds Try.pinned (OpenSpec.ofChange fnLongestRunSpec)

/-- ITS FALSE NEIGHBOUR: 'it returns false'. Refute it at one input. -/
def fnLongestRunWrong : ChangeSpec := { name := "fnLongestRun", fn := fun _ => fun
  | [d] => { results := [.lit (.bool false)], args := [d] }
  | _ => none }
def FnLongestRunWrongFalsely : Prop := fnLongestRunRow.holds Try.pinned (OpenSpec.ofChange fnLongestRunWrong)

/-- 'laws.FnStuff': WHATEVER THE INPUT: true; the input reads as it did. -/
def fnStuffSpec : ChangeSpec := { name := "fnStuff", fn := fun _ => fun
  | [d] => { results := [.lit (.bool true)], args := [d] }
  | _ => none }
def fnStuffRow : OpenClaim := { program := "ytebbodjecaiooaa", sum := "47334203592eeb6c0cd10094614982a9661d5c81b458ce6970657b10269016e8", func := "loop.example/elevators/laws.FnStuff", spec := "fnStuff", apart := false }
def FnStuffSaid : Prop := fnStuffRow.holds Try.pinned (OpenSpec.ofChange fnStuffSpec)

/-- ITS FALSE NEIGHBOUR: 'it returns false'. Refute it at one input. -/
def fnStuffWrong : ChangeSpec := { name := "fnStuff", fn := fun _ => fun
  | [d] => { results := [.lit (.bool false)], args := [d] }
  | _ => none }
def FnStuffWrongFalsely : Prop := fnStuffRow.holds Try.pinned (OpenSpec.ofChange fnStuffWrong)

/-- 'laws.FnUnstuff': WHATEVER THE INPUT: true; the input reads as it did. -/
def fnUnstuffSpec : ChangeSpec := { name := "fnUnstuff", fn := fun _ => fun
  | [d] => { results := [.lit (.bool true)], args := [d] }
  | _ => none }
def fnUnstuffRow : OpenClaim := { program := "ytebbodjecaiooaa", sum := "47334203592eeb6c0cd10094614982a9661d5c81b458ce6970657b10269016e8", func := "loop.example/elevators/laws.FnUnstuff", spec := "fnUnstuff", apart := false }
def FnUnstuffSaid : Prop := fnUnstuffRow.holds Try.pinned (OpenSpec.ofChange fnUnstuffSpec)

/-- ITS FALSE NEIGHBOUR: 'it returns false'. Refute it at one input. -/
def fnUnstuffWrong : ChangeSpec := { name := "fnUnstuff", fn := fun _ => fun
  | [d] => { results := [.lit (.bool false)], args := [d] }
  | _ => none }
def FnUnstuffWrongFalsely : Prop := fnUnstuffRow.holds Try.pinned (OpenSpec.ofChange fnUnstuffWrong)

/- THE SECOND FORM. 'bulk': how many values and letters a reading holds, each counted each time it is reached (what is shared counts as often as it is met; a slice's spare places count too). A statement '..UptoSaid' is the law's where the arguments, and the package variables that the reading takes, are together of bulk at most 1048576: NARROWER than '..Said'. Prove '..Said' where nothing that the law and all that it calls make is longer than what came in: it says more and counts as full. Else prove '..UptoSaid'. A law counts once. -/
mutual
def uptoBulk {H : Type} : DataW H → Nat
  | .lit (.string bytes) => bytes.length + 1
  | .lit _ => 1
  | .nil => 1
  | .ptr d => uptoBulk d + 1
  | .slice elems spare => uptoBulkAll elems + uptoBulkAll spare + 1
  | .agg parts => uptoBulkAll parts + 1
  | .iface _ d => uptoBulk d + 1
  | .map entries => uptoBulkEntries entries + 1
  | .held _ => 1
def uptoBulkAll {H : Type} : List (DataW H) → Nat
  | [] => 0
  | d :: r => uptoBulk d + uptoBulkAll r
def uptoBulkEntries {H : Type} : List (Lit × DataW H) → Nat
  | [] => 0
  | x :: r => uptoBulkEntry x + uptoBulkEntries r
def uptoBulkEntry {H : Type} : Lit × DataW H → Nat
  | (.string bytes, d) => bytes.length + uptoBulk d + 1
  | (_, d) => uptoBulk d + 1
 end
def uptoSmall : (H : Type) → List (DataW H) → Bool := fun _ ds => decide (uptoBulkAll ds ≤ 1048576)
def OpenSpec.upto (s : _root_.Go.ChangeSpec) : _root_.Go.OpenSpec := { _root_.Go.OpenSpec.ofChange s with cond := some uptoSmall }

/-- 'laws.FnExactBitsValid', WHERE WHAT IT READS IS OF BULK AT MOST 1048576: true; the input reads as it did. -/
def fnExactBitsValidUptoRow : OpenClaim := { program := "ytebbodjecaiooaa", sum := "47334203592eeb6c0cd10094614982a9661d5c81b458ce6970657b10269016e8", func := "loop.example/elevators/laws.FnExactBitsValid", spec := "fnExactBitsValid", apart := false, narrowed := true }
def FnExactBitsValidUptoSaid : Prop := fnExactBitsValidUptoRow.holds Try.pinned (OpenSpec.upto fnExactBitsValidSpec)

/-- 'laws.FnExactLongestRun', WHERE WHAT IT READS IS OF BULK AT MOST 1048576: true; the input reads as it did. -/
def fnExactLongestRunUptoRow : OpenClaim := { program := "ytebbodjecaiooaa", sum := "47334203592eeb6c0cd10094614982a9661d5c81b458ce6970657b10269016e8", func := "loop.example/elevators/laws.FnExactLongestRun", spec := "fnExactLongestRun", apart := false, narrowed := true }
def FnExactLongestRunUptoSaid : Prop := fnExactLongestRunUptoRow.holds Try.pinned (OpenSpec.upto fnExactLongestRunSpec)

/-- 'laws.FnExactStuff', WHERE WHAT IT READS IS OF BULK AT MOST 1048576: true; the input reads as it did. -/
def fnExactStuffUptoRow : OpenClaim := { program := "ytebbodjecaiooaa", sum := "47334203592eeb6c0cd10094614982a9661d5c81b458ce6970657b10269016e8", func := "loop.example/elevators/laws.FnExactStuff", spec := "fnExactStuff", apart := false, narrowed := true }
def FnExactStuffUptoSaid : Prop := fnExactStuffUptoRow.holds Try.pinned (OpenSpec.upto fnExactStuffSpec)

/-- 'laws.FnExactUnstuff', WHERE WHAT IT READS IS OF BULK AT MOST 1048576: true; the input reads as it did. -/
def fnExactUnstuffUptoRow : OpenClaim := { program := "ytebbodjecaiooaa", sum := "47334203592eeb6c0cd10094614982a9661d5c81b458ce6970657b10269016e8", func := "loop.example/elevators/laws.FnExactUnstuff", spec := "fnExactUnstuff", apart := false, narrowed := true }
def FnExactUnstuffUptoSaid : Prop := fnExactUnstuffUptoRow.holds Try.pinned (OpenSpec.upto fnExactUnstuffSpec)

/-- 'laws.FnBitsValid', WHERE WHAT IT READS IS OF BULK AT MOST 1048576: true; the input reads as it did. -/
def fnBitsValidUptoRow : OpenClaim := { program := "ytebbodjecaiooaa", sum := "47334203592eeb6c0cd10094614982a9661d5c81b458ce6970657b10269016e8", func := "loop.example/elevators/laws.FnBitsValid", spec := "fnBitsValid", apart := false, narrowed := true }
def FnBitsValidUptoSaid : Prop := fnBitsValidUptoRow.holds Try.pinned (OpenSpec.upto fnBitsValidSpec)

/-- 'laws.FnLongestRun', WHERE WHAT IT READS IS OF BULK AT MOST 1048576: true; the input reads as it did. -/
def fnLongestRunUptoRow : OpenClaim := { program := "ytebbodjecaiooaa", sum := "47334203592eeb6c0cd10094614982a9661d5c81b458ce6970657b10269016e8", func := "loop.example/elevators/laws.FnLongestRun", spec := "fnLongestRun", apart := false, narrowed := true }
def FnLongestRunUptoSaid : Prop := fnLongestRunUptoRow.holds Try.pinned (OpenSpec.upto fnLongestRunSpec)

/-- 'laws.FnStuff', WHERE WHAT IT READS IS OF BULK AT MOST 1048576: true; the input reads as it did. -/
def fnStuffUptoRow : OpenClaim := { program := "ytebbodjecaiooaa", sum := "47334203592eeb6c0cd10094614982a9661d5c81b458ce6970657b10269016e8", func := "loop.example/elevators/laws.FnStuff", spec := "fnStuff", apart := false, narrowed := true }
def FnStuffUptoSaid : Prop := fnStuffUptoRow.holds Try.pinned (OpenSpec.upto fnStuffSpec)

/-- 'laws.FnUnstuff', WHERE WHAT IT READS IS OF BULK AT MOST 1048576: true; the input reads as it did. -/
def fnUnstuffUptoRow : OpenClaim := { program := "ytebbodjecaiooaa", sum := "47334203592eeb6c0cd10094614982a9661d5c81b458ce6970657b10269016e8", func := "loop.example/elevators/laws.FnUnstuff", spec := "fnUnstuff", apart := false, narrowed := true }
def FnUnstuffUptoSaid : Prop := fnUnstuffUptoRow.holds Try.pinned (OpenSpec.upto fnUnstuffSpec)

end Rows
end Go.Proofs.Ytebbodjecaiooaa

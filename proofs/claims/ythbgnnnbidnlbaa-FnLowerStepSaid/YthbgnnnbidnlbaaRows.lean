/-
  No cell of these rows narrows 'for every input' (looked for: loops, veiled, ifaces, maps, wideKeys, modest, calm, conditions, laid).
  DERIVED. THE GIVEN ROWS OF THIS SEAT. 8 by the template 'for every input the law returns true; each argument reads behind the call as it read before'; 0 by the template 'total and deterministic' (their statements: YthbgnnnbidnlbaaTotals.lean).
  GIVEN WITH THE SEED: the statements are not yours to turn. If you find one false, say at which input.
  Laid BY PROGRAM, IN A SANDBOX (cutbox-rows.mjs): the forced cells as the released guide's own fill.sh prints them over the translation 3628b8da190aca83… (all of the seat's roots in one cut). By AI agents, Wed Nov 11 2026. No macro, syntax, notation, axiom, sorry.
-/
import Derived.Test.YthbgnnnbidnlbaaChecked
import GoSem.Claim
import GoSem.ClaimJoined
import GoSem.ClaimMapViews
import Derived.JoinedTies
import Derived.KernelRfl
namespace Go.Proofs.Ythbgnnnbidnlbaa
/- THE CELL 'sum', in the pinned program and in every row, IS THE sha256 OF THE DUMP (.gsa) THAT YthbgnnnbidnlbaaProg.lean LOADS. Nothing in Lean hashes anything: it is a label: what it is worth is what the hold of that sum in a sandbox is worth. -/
noncomputable def Try.pinned : Pinned := { name := "ythbgnnnbidnlbaa", sum := "3628b8da190aca83e5e3d5ea8fe62cf1c77d60e0a6624b6cc3efd8c400799df9", checked := Try.checked }
namespace Rows
def none {H : Type} : Left H := { results := [], args := [] }

/-- 'laws.FnExactLowerOk': WHATEVER THE INPUT: true; the input reads as it did. -/
def fnExactLowerOkSpec : ChangeSpec := { name := "fnExactLowerOk", fn := fun _ => fun
  | [d1, d2] => { results := [.lit (.bool true)], args := [d1, d2] }
  | _ => none }
def fnExactLowerOkRow : OpenClaim := { program := "ythbgnnnbidnlbaa", sum := "3628b8da190aca83e5e3d5ea8fe62cf1c77d60e0a6624b6cc3efd8c400799df9", func := "loop.example/elevators/laws.FnExactLowerOk", spec := "fnExactLowerOk", apart := false }
def FnExactLowerOkSaid : Prop := fnExactLowerOkRow.holds Try.pinned (OpenSpec.ofChange fnExactLowerOkSpec)

/-- ITS FALSE NEIGHBOUR: 'it returns false'. Refute it at one input. -/
def fnExactLowerOkWrong : ChangeSpec := { name := "fnExactLowerOk", fn := fun _ => fun
  | [d1, d2] => { results := [.lit (.bool false)], args := [d1, d2] }
  | _ => none }
def FnExactLowerOkWrongFalsely : Prop := fnExactLowerOkRow.holds Try.pinned (OpenSpec.ofChange fnExactLowerOkWrong)

/-- 'laws.FnExactLowerStep': WHATEVER THE INPUT: true; the input reads as it did. -/
def fnExactLowerStepSpec : ChangeSpec := { name := "fnExactLowerStep", fn := fun _ => fun
  | [d1, d2] => { results := [.lit (.bool true)], args := [d1, d2] }
  | _ => none }
def fnExactLowerStepRow : OpenClaim := { program := "ythbgnnnbidnlbaa", sum := "3628b8da190aca83e5e3d5ea8fe62cf1c77d60e0a6624b6cc3efd8c400799df9", func := "loop.example/elevators/laws.FnExactLowerStep", spec := "fnExactLowerStep", apart := false }
def FnExactLowerStepSaid : Prop := fnExactLowerStepRow.holds Try.pinned (OpenSpec.ofChange fnExactLowerStepSpec)

/-- ITS FALSE NEIGHBOUR: 'it returns false'. Refute it at one input. -/
def fnExactLowerStepWrong : ChangeSpec := { name := "fnExactLowerStep", fn := fun _ => fun
  | [d1, d2] => { results := [.lit (.bool false)], args := [d1, d2] }
  | _ => none }
def FnExactLowerStepWrongFalsely : Prop := fnExactLowerStepRow.holds Try.pinned (OpenSpec.ofChange fnExactLowerStepWrong)

/-- 'laws.FnExactLowerTicks': WHATEVER THE INPUT: true; the input reads as it did. -/
def fnExactLowerTicksSpec : ChangeSpec := { name := "fnExactLowerTicks", fn := fun _ => fun
  | [d1, d2] => { results := [.lit (.bool true)], args := [d1, d2] }
  | _ => none }
def fnExactLowerTicksRow : OpenClaim := { program := "ythbgnnnbidnlbaa", sum := "3628b8da190aca83e5e3d5ea8fe62cf1c77d60e0a6624b6cc3efd8c400799df9", func := "loop.example/elevators/laws.FnExactLowerTicks", spec := "fnExactLowerTicks", apart := false }
def FnExactLowerTicksSaid : Prop := fnExactLowerTicksRow.holds Try.pinned (OpenSpec.ofChange fnExactLowerTicksSpec)

/-- ITS FALSE NEIGHBOUR: 'it returns false'. Refute it at one input. -/
def fnExactLowerTicksWrong : ChangeSpec := { name := "fnExactLowerTicks", fn := fun _ => fun
  | [d1, d2] => { results := [.lit (.bool false)], args := [d1, d2] }
  | _ => none }
def FnExactLowerTicksWrongFalsely : Prop := fnExactLowerTicksRow.holds Try.pinned (OpenSpec.ofChange fnExactLowerTicksWrong)

/-- 'laws.FnExactLowerWait': WHATEVER THE INPUT: true; the input reads as it did. -/
def fnExactLowerWaitSpec : ChangeSpec := { name := "fnExactLowerWait", fn := fun _ => fun
  | [d1, d2] => { results := [.lit (.bool true)], args := [d1, d2] }
  | _ => none }
def fnExactLowerWaitRow : OpenClaim := { program := "ythbgnnnbidnlbaa", sum := "3628b8da190aca83e5e3d5ea8fe62cf1c77d60e0a6624b6cc3efd8c400799df9", func := "loop.example/elevators/laws.FnExactLowerWait", spec := "fnExactLowerWait", apart := false }
def FnExactLowerWaitSaid : Prop := fnExactLowerWaitRow.holds Try.pinned (OpenSpec.ofChange fnExactLowerWaitSpec)

/-- ITS FALSE NEIGHBOUR: 'it returns false'. Refute it at one input. -/
def fnExactLowerWaitWrong : ChangeSpec := { name := "fnExactLowerWait", fn := fun _ => fun
  | [d1, d2] => { results := [.lit (.bool false)], args := [d1, d2] }
  | _ => none }
def FnExactLowerWaitWrongFalsely : Prop := fnExactLowerWaitRow.holds Try.pinned (OpenSpec.ofChange fnExactLowerWaitWrong)

/-- 'laws.FnLowerOk': WHATEVER THE INPUT: true; the input reads as it did. -/
def fnLowerOkSpec : ChangeSpec := { name := "fnLowerOk", fn := fun _ => fun
  | [d] => { results := [.lit (.bool true)], args := [d] }
  | _ => none }
def fnLowerOkRow : OpenClaim := { program := "ythbgnnnbidnlbaa", sum := "3628b8da190aca83e5e3d5ea8fe62cf1c77d60e0a6624b6cc3efd8c400799df9", func := "loop.example/elevators/laws.FnLowerOk", spec := "fnLowerOk", apart := false }
def FnLowerOkSaid : Prop := fnLowerOkRow.holds Try.pinned (OpenSpec.ofChange fnLowerOkSpec)

/-- ITS FALSE NEIGHBOUR: 'it returns false'. Refute it at one input. -/
def fnLowerOkWrong : ChangeSpec := { name := "fnLowerOk", fn := fun _ => fun
  | [d] => { results := [.lit (.bool false)], args := [d] }
  | _ => none }
def FnLowerOkWrongFalsely : Prop := fnLowerOkRow.holds Try.pinned (OpenSpec.ofChange fnLowerOkWrong)

/-- 'laws.FnLowerStep': WHATEVER THE INPUT: true; the input reads as it did. -/
def fnLowerStepSpec : ChangeSpec := { name := "fnLowerStep", fn := fun _ => fun
  | [d] => { results := [.lit (.bool true)], args := [d] }
  | _ => none }
def fnLowerStepRow : OpenClaim := { program := "ythbgnnnbidnlbaa", sum := "3628b8da190aca83e5e3d5ea8fe62cf1c77d60e0a6624b6cc3efd8c400799df9", func := "loop.example/elevators/laws.FnLowerStep", spec := "fnLowerStep", apart := false }
def FnLowerStepSaid : Prop := fnLowerStepRow.holds Try.pinned (OpenSpec.ofChange fnLowerStepSpec)

/-- ITS FALSE NEIGHBOUR: 'it returns false'. Refute it at one input. -/
def fnLowerStepWrong : ChangeSpec := { name := "fnLowerStep", fn := fun _ => fun
  | [d] => { results := [.lit (.bool false)], args := [d] }
  | _ => none }
def FnLowerStepWrongFalsely : Prop := fnLowerStepRow.holds Try.pinned (OpenSpec.ofChange fnLowerStepWrong)

/-- 'laws.FnLowerTicks': WHATEVER THE INPUT: true; the input reads as it did. -/
def fnLowerTicksSpec : ChangeSpec := { name := "fnLowerTicks", fn := fun _ => fun
  | [d] => { results := [.lit (.bool true)], args := [d] }
  | _ => none }
def fnLowerTicksRow : OpenClaim := { program := "ythbgnnnbidnlbaa", sum := "3628b8da190aca83e5e3d5ea8fe62cf1c77d60e0a6624b6cc3efd8c400799df9", func := "loop.example/elevators/laws.FnLowerTicks", spec := "fnLowerTicks", apart := false }
def FnLowerTicksSaid : Prop := fnLowerTicksRow.holds Try.pinned (OpenSpec.ofChange fnLowerTicksSpec)

/-- ITS FALSE NEIGHBOUR: 'it returns false'. Refute it at one input. -/
def fnLowerTicksWrong : ChangeSpec := { name := "fnLowerTicks", fn := fun _ => fun
  | [d] => { results := [.lit (.bool false)], args := [d] }
  | _ => none }
def FnLowerTicksWrongFalsely : Prop := fnLowerTicksRow.holds Try.pinned (OpenSpec.ofChange fnLowerTicksWrong)

/-- 'laws.FnLowerWait': WHATEVER THE INPUT: true; the input reads as it did. -/
def fnLowerWaitSpec : ChangeSpec := { name := "fnLowerWait", fn := fun _ => fun
  | [d] => { results := [.lit (.bool true)], args := [d] }
  | _ => none }
def fnLowerWaitRow : OpenClaim := { program := "ythbgnnnbidnlbaa", sum := "3628b8da190aca83e5e3d5ea8fe62cf1c77d60e0a6624b6cc3efd8c400799df9", func := "loop.example/elevators/laws.FnLowerWait", spec := "fnLowerWait", apart := false }
def FnLowerWaitSaid : Prop := fnLowerWaitRow.holds Try.pinned (OpenSpec.ofChange fnLowerWaitSpec)

/-- ITS FALSE NEIGHBOUR: 'it returns false'. Refute it at one input. -/
def fnLowerWaitWrong : ChangeSpec := { name := "fnLowerWait", fn := fun _ => fun
  | [d] => { results := [.lit (.bool false)], args := [d] }
  | _ => none }
def FnLowerWaitWrongFalsely : Prop := fnLowerWaitRow.holds Try.pinned (OpenSpec.ofChange fnLowerWaitWrong)

/- THE SECOND FORM. 'bulk': how many values and letters a reading holds, each counted each time it is reached (what is shared counts as often as it is met; a slice's spare places count too). A statement '..UptoSaid' is the law's where the arguments, and the package variables that the reading takes, are together of bulk at most 1048576: NARROWER than '..Said'. Prove '..Said' where nothing that the law and all that it calls make is longer than what came in: it says more and counts as full. Else prove '..UptoSaid'. A law counts once. -/
mutual
def uptoBulk {H : Type} : DataW H → Nat
  | .lit (.string bytes) => bytes.length + 1
  | .lit _ => 1
  | .nil => 1
  | .ptr d => uptoBulk d + 1
  | .slice elems spare => uptoBulkAll elems + uptoBulkAll spare + 1
  | .agg parts => uptoBulkAll parts + 1
  | .iface _ d => uptoBulk d + 1
  | .map entries => uptoBulkEntries entries + 1
  | .held _ => 1
def uptoBulkAll {H : Type} : List (DataW H) → Nat
  | [] => 0
  | d :: r => uptoBulk d + uptoBulkAll r
def uptoBulkEntries {H : Type} : List (Lit × DataW H) → Nat
  | [] => 0
  | x :: r => uptoBulkEntry x + uptoBulkEntries r
def uptoBulkEntry {H : Type} : Lit × DataW H → Nat
  | (.string bytes, d) => bytes.length + uptoBulk d + 1
  | (_, d) => uptoBulk d + 1
 end
def uptoSmall : (H : Type) → List (DataW H) → Bool := fun _ ds => decide (uptoBulkAll ds ≤ 1048576)
def OpenSpec.upto (s : _root_.Go.ChangeSpec) : _root_.Go.OpenSpec := { _root_.Go.OpenSpec.ofChange s with cond := some uptoSmall }

/-- 'laws.FnExactLowerOk', WHERE WHAT IT READS IS OF BULK AT MOST 1048576: true; the input reads as it did. -/
def fnExactLowerOkUptoRow : OpenClaim := { program := "ythbgnnnbidnlbaa", sum := "3628b8da190aca83e5e3d5ea8fe62cf1c77d60e0a6624b6cc3efd8c400799df9", func := "loop.example/elevators/laws.FnExactLowerOk", spec := "fnExactLowerOk", apart := false, narrowed := true }
def FnExactLowerOkUptoSaid : Prop := fnExactLowerOkUptoRow.holds Try.pinned (OpenSpec.upto fnExactLowerOkSpec)

/-- 'laws.FnExactLowerStep', WHERE WHAT IT READS IS OF BULK AT MOST 1048576: true; the input reads as it did. -/
def fnExactLowerStepUptoRow : OpenClaim := { program := "ythbgnnnbidnlbaa", sum := "3628b8da190aca83e5e3d5ea8fe62cf1c77d60e0a6624b6cc3efd8c400799df9", func := "loop.example/elevators/laws.FnExactLowerStep", spec := "fnExactLowerStep", apart := false, narrowed := true }
def FnExactLowerStepUptoSaid : Prop := fnExactLowerStepUptoRow.holds Try.pinned (OpenSpec.upto fnExactLowerStepSpec)

/-- 'laws.FnExactLowerTicks', WHERE WHAT IT READS IS OF BULK AT MOST 1048576: true; the input reads as it did. -/
def fnExactLowerTicksUptoRow : OpenClaim := { program := "ythbgnnnbidnlbaa", sum := "3628b8da190aca83e5e3d5ea8fe62cf1c77d60e0a6624b6cc3efd8c400799df9", func := "loop.example/elevators/laws.FnExactLowerTicks", spec := "fnExactLowerTicks", apart := false, narrowed := true }
def FnExactLowerTicksUptoSaid : Prop := fnExactLowerTicksUptoRow.holds Try.pinned (OpenSpec.upto fnExactLowerTicksSpec)

/-- 'laws.FnExactLowerWait', WHERE WHAT IT READS IS OF BULK AT MOST 1048576: true; the input reads as it did. -/
def fnExactLowerWaitUptoRow : OpenClaim := { program := "ythbgnnnbidnlbaa", sum := "3628b8da190aca83e5e3d5ea8fe62cf1c77d60e0a6624b6cc3efd8c400799df9", func := "loop.example/elevators/laws.FnExactLowerWait", spec := "fnExactLowerWait", apart := false, narrowed := true }
def FnExactLowerWaitUptoSaid : Prop := fnExactLowerWaitUptoRow.holds Try.pinned (OpenSpec.upto fnExactLowerWaitSpec)

/-- 'laws.FnLowerOk', WHERE WHAT IT READS IS OF BULK AT MOST 1048576: true; the input reads as it did. -/
def fnLowerOkUptoRow : OpenClaim := { program := "ythbgnnnbidnlbaa", sum := "3628b8da190aca83e5e3d5ea8fe62cf1c77d60e0a6624b6cc3efd8c400799df9", func := "loop.example/elevators/laws.FnLowerOk", spec := "fnLowerOk", apart := false, narrowed := true }
def FnLowerOkUptoSaid : Prop := fnLowerOkUptoRow.holds Try.pinned (OpenSpec.upto fnLowerOkSpec)

/-- 'laws.FnLowerStep', WHERE WHAT IT READS IS OF BULK AT MOST 1048576: true; the input reads as it did. -/
def fnLowerStepUptoRow : OpenClaim := { program := "ythbgnnnbidnlbaa", sum := "3628b8da190aca83e5e3d5ea8fe62cf1c77d60e0a6624b6cc3efd8c400799df9", func := "loop.example/elevators/laws.FnLowerStep", spec := "fnLowerStep", apart := false, narrowed := true }
def FnLowerStepUptoSaid : Prop := fnLowerStepUptoRow.holds Try.pinned (OpenSpec.upto fnLowerStepSpec)

/-- 'laws.FnLowerTicks', WHERE WHAT IT READS IS OF BULK AT MOST 1048576: true; the input reads as it did. -/
def fnLowerTicksUptoRow : OpenClaim := { program := "ythbgnnnbidnlbaa", sum := "3628b8da190aca83e5e3d5ea8fe62cf1c77d60e0a6624b6cc3efd8c400799df9", func := "loop.example/elevators/laws.FnLowerTicks", spec := "fnLowerTicks", apart := false, narrowed := true }
def FnLowerTicksUptoSaid : Prop := fnLowerTicksUptoRow.holds Try.pinned (OpenSpec.upto fnLowerTicksSpec)

/-- 'laws.FnLowerWait', WHERE WHAT IT READS IS OF BULK AT MOST 1048576: true; the input reads as it did. -/
def fnLowerWaitUptoRow : OpenClaim := { program := "ythbgnnnbidnlbaa", sum := "3628b8da190aca83e5e3d5ea8fe62cf1c77d60e0a6624b6cc3efd8c400799df9", func := "loop.example/elevators/laws.FnLowerWait", spec := "fnLowerWait", apart := false, narrowed := true }
def FnLowerWaitUptoSaid : Prop := fnLowerWaitUptoRow.holds Try.pinned (OpenSpec.upto fnLowerWaitSpec)

end Rows
end Go.Proofs.Ythbgnnnbidnlbaa

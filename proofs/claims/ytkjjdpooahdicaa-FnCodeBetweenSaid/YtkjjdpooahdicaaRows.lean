/-
  No cell of these rows narrows 'for every input' (looked for: loops, veiled, ifaces, maps, wideKeys, modest, calm, conditions, laid).
  DERIVED. THE GIVEN ROWS OF THIS SEAT. 8 by the template 'for every input the law returns true; each argument reads behind the call as it read before'; 0 by the template 'total and deterministic' (their statements: YtkjjdpooahdicaaTotals.lean).
  GIVEN WITH THE SEED: the statements are not yours to turn. If you find one false, say at which input.
  Laid BY PROGRAM, IN A SANDBOX (cutbox-rows.mjs): the forced cells as the released guide's own fill.sh prints them over the translation f0a9cb31ec2156a7… (all of the seat's roots in one cut). By AI agents, Wed Nov 11 2026. No macro, syntax, notation, axiom, sorry.
-/
import Derived.Test.YtkjjdpooahdicaaChecked
import GoSem.Claim
import GoSem.ClaimJoined
import GoSem.ClaimMapViews
import Derived.JoinedTies
import Derived.KernelRfl
namespace Go.Proofs.Ytkjjdpooahdicaa
/- THE CELL 'sum', in the pinned program and in every row, IS THE sha256 OF THE DUMP (.gsa) THAT YtkjjdpooahdicaaProg.lean LOADS. Nothing in Lean hashes anything: it is a label: what it is worth is what the hold of that sum in a sandbox is worth. -/
noncomputable def Try.pinned : Pinned := { name := "ytkjjdpooahdicaa", sum := "f0a9cb31ec2156a760839a18155c141caa68250db146c540ae4bcbe1057a9cb0", checked := Try.checked }
namespace Rows
def none {H : Type} : Left H := { results := [], args := [] }

/-- 'laws.FnExactCodeOf': WHATEVER THE INPUT: true; the input reads as it did. -/
def fnExactCodeOfSpec : ChangeSpec := { name := "fnExactCodeOf", fn := fun _ => fun
  | [d] => { results := [.lit (.bool true)], args := [d] }
  | _ => none }
def fnExactCodeOfRow : OpenClaim := { program := "ytkjjdpooahdicaa", sum := "f0a9cb31ec2156a760839a18155c141caa68250db146c540ae4bcbe1057a9cb0", func := "loop.example/elevators/laws.FnExactCodeOf", spec := "fnExactCodeOf", apart := false }
def FnExactCodeOfSaid : Prop := fnExactCodeOfRow.holds Try.pinned (OpenSpec.ofChange fnExactCodeOfSpec)

/-- ITS FALSE NEIGHBOUR: 'it returns false'. Refute it at one input. -/
def fnExactCodeOfWrong : ChangeSpec := { name := "fnExactCodeOf", fn := fun _ => fun
  | [d] => { results := [.lit (.bool false)], args := [d] }
  | _ => none }
def FnExactCodeOfWrongFalsely : Prop := fnExactCodeOfRow.holds Try.pinned (OpenSpec.ofChange fnExactCodeOfWrong)

/-- 'laws.FnExactCodeRead': WHATEVER THE INPUT: true; the input reads as it did. -/
def fnExactCodeReadSpec : ChangeSpec := { name := "fnExactCodeRead", fn := fun _ => fun
  | [d] => { results := [.lit (.bool true)], args := [d] }
  | _ => none }
def fnExactCodeReadRow : OpenClaim := { program := "ytkjjdpooahdicaa", sum := "f0a9cb31ec2156a760839a18155c141caa68250db146c540ae4bcbe1057a9cb0", func := "loop.example/elevators/laws.FnExactCodeRead", spec := "fnExactCodeRead", apart := false }
def FnExactCodeReadSaid : Prop := fnExactCodeReadRow.holds Try.pinned (OpenSpec.ofChange fnExactCodeReadSpec)

/-- ITS FALSE NEIGHBOUR: 'it returns false'. Refute it at one input. -/
def fnExactCodeReadWrong : ChangeSpec := { name := "fnExactCodeRead", fn := fun _ => fun
  | [d] => { results := [.lit (.bool false)], args := [d] }
  | _ => none }
def FnExactCodeReadWrongFalsely : Prop := fnExactCodeReadRow.holds Try.pinned (OpenSpec.ofChange fnExactCodeReadWrong)

/-- 'laws.FnExactBitsApart': WHATEVER THE INPUT: true; the input reads as it did. -/
def fnExactBitsApartSpec : ChangeSpec := { name := "fnExactBitsApart", fn := fun _ => fun
  | [d1, d2] => { results := [.lit (.bool true)], args := [d1, d2] }
  | _ => none }
def fnExactBitsApartRow : OpenClaim := { program := "ytkjjdpooahdicaa", sum := "f0a9cb31ec2156a760839a18155c141caa68250db146c540ae4bcbe1057a9cb0", func := "loop.example/elevators/laws.FnExactBitsApart", spec := "fnExactBitsApart", apart := false }
def FnExactBitsApartSaid : Prop := fnExactBitsApartRow.holds Try.pinned (OpenSpec.ofChange fnExactBitsApartSpec)

/-- ITS FALSE NEIGHBOUR: 'it returns false'. Refute it at one input. -/
def fnExactBitsApartWrong : ChangeSpec := { name := "fnExactBitsApart", fn := fun _ => fun
  | [d1, d2] => { results := [.lit (.bool false)], args := [d1, d2] }
  | _ => none }
def FnExactBitsApartWrongFalsely : Prop := fnExactBitsApartRow.holds Try.pinned (OpenSpec.ofChange fnExactBitsApartWrong)

/-- 'laws.FnExactCodeBetween': WHATEVER THE INPUT: true; the input reads as it did. -/
def fnExactCodeBetweenSpec : ChangeSpec := { name := "fnExactCodeBetween", fn := fun _ => fun
  | [d1, d2] => { results := [.lit (.bool true)], args := [d1, d2] }
  | _ => none }
def fnExactCodeBetweenRow : OpenClaim := { program := "ytkjjdpooahdicaa", sum := "f0a9cb31ec2156a760839a18155c141caa68250db146c540ae4bcbe1057a9cb0", func := "loop.example/elevators/laws.FnExactCodeBetween", spec := "fnExactCodeBetween", apart := false }
def FnExactCodeBetweenSaid : Prop := fnExactCodeBetweenRow.holds Try.pinned (OpenSpec.ofChange fnExactCodeBetweenSpec)

/-- ITS FALSE NEIGHBOUR: 'it returns false'. Refute it at one input. -/
def fnExactCodeBetweenWrong : ChangeSpec := { name := "fnExactCodeBetween", fn := fun _ => fun
  | [d1, d2] => { results := [.lit (.bool false)], args := [d1, d2] }
  | _ => none }
def FnExactCodeBetweenWrongFalsely : Prop := fnExactCodeBetweenRow.holds Try.pinned (OpenSpec.ofChange fnExactCodeBetweenWrong)

/-- 'laws.FnCodeOf': WHATEVER THE INPUT: true; the input reads as it did. -/
def fnCodeOfSpec : ChangeSpec := { name := "fnCodeOf", fn := fun _ => fun
  | [d] => { results := [.lit (.bool true)], args := [d] }
  | _ => none }
def fnCodeOfRow : OpenClaim := { program := "ytkjjdpooahdicaa", sum := "f0a9cb31ec2156a760839a18155c141caa68250db146c540ae4bcbe1057a9cb0", func := "loop.example/elevators/laws.FnCodeOf", spec := "fnCodeOf", apart := false }
def FnCodeOfSaid : Prop := fnCodeOfRow.holds Try.pinned (OpenSpec.ofChange fnCodeOfSpec)

/-- ITS FALSE NEIGHBOUR: 'it returns false'. Refute it at one input. -/
def fnCodeOfWrong : ChangeSpec := { name := "fnCodeOf", fn := fun _ => fun
  | [d] => { results := [.lit (.bool false)], args := [d] }
  | _ => none }
def FnCodeOfWrongFalsely : Prop := fnCodeOfRow.holds Try.pinned (OpenSpec.ofChange fnCodeOfWrong)

/-- 'laws.FnCodeRead': WHATEVER THE INPUT: true; the input reads as it did. -/
def fnCodeReadSpec : ChangeSpec := { name := "fnCodeRead", fn := fun _ => fun
  | [d] => { results := [.lit (.bool true)], args := [d] }
  | _ => none }
def fnCodeReadRow : OpenClaim := { program := "ytkjjdpooahdicaa", sum := "f0a9cb31ec2156a760839a18155c141caa68250db146c540ae4bcbe1057a9cb0", func := "loop.example/elevators/laws.FnCodeRead", spec := "fnCodeRead", apart := false }
def FnCodeReadSaid : Prop := fnCodeReadRow.holds Try.pinned (OpenSpec.ofChange fnCodeReadSpec)

/-- ITS FALSE NEIGHBOUR: 'it returns false'. Refute it at one input. -/
def fnCodeReadWrong : ChangeSpec := { name := "fnCodeRead", fn := fun _ => fun
  | [d] => { results := [.lit (.bool false)], args := [d] }
  | _ => none }
def FnCodeReadWrongFalsely : Prop := fnCodeReadRow.holds Try.pinned (OpenSpec.ofChange fnCodeReadWrong)

/-- 'laws.FnBitsApart': WHATEVER THE INPUT: true; the input reads as it did. -/
def fnBitsApartSpec : ChangeSpec := { name := "fnBitsApart", fn := fun _ => fun
  | [d] => { results := [.lit (.bool true)], args := [d] }
  | _ => none }
def fnBitsApartRow : OpenClaim := { program := "ytkjjdpooahdicaa", sum := "f0a9cb31ec2156a760839a18155c141caa68250db146c540ae4bcbe1057a9cb0", func := "loop.example/elevators/laws.FnBitsApart", spec := "fnBitsApart", apart := false }
def FnBitsApartSaid : Prop := fnBitsApartRow.holds Try.pinned (OpenSpec.ofChange fnBitsApartSpec)

/-- ITS FALSE NEIGHBOUR: 'it returns false'. Refute it at one input. -/
def fnBitsApartWrong : ChangeSpec := { name := "fnBitsApart", fn := fun _ => fun
  | [d] => { results := [.lit (.bool false)], args := [d] }
  | _ => none }
def FnBitsApartWrongFalsely : Prop := fnBitsApartRow.holds Try.pinned (OpenSpec.ofChange fnBitsApartWrong)

/-- 'laws.FnCodeBetween': WHATEVER THE INPUT: true; the input reads as it did. -/
def fnCodeBetweenSpec : ChangeSpec := { name := "fnCodeBetween", fn := fun _ => fun
  | [d] => { results := [.lit (.bool true)], args := [d] }
  | _ => none }
def fnCodeBetweenRow : OpenClaim := { program := "ytkjjdpooahdicaa", sum := "f0a9cb31ec2156a760839a18155c141caa68250db146c540ae4bcbe1057a9cb0", func := "loop.example/elevators/laws.FnCodeBetween", spec := "fnCodeBetween", apart := false }
def FnCodeBetweenSaid : Prop := fnCodeBetweenRow.holds Try.pinned (OpenSpec.ofChange fnCodeBetweenSpec)

/-- ITS FALSE NEIGHBOUR: 'it returns false'. Refute it at one input. -/
def fnCodeBetweenWrong : ChangeSpec := { name := "fnCodeBetween", fn := fun _ => fun
  | [d] => { results := [.lit (.bool false)], args := [d] }
  | _ => none }
def FnCodeBetweenWrongFalsely : Prop := fnCodeBetweenRow.holds Try.pinned (OpenSpec.ofChange fnCodeBetweenWrong)

/- THE SECOND FORM. 'bulk': how many values and letters a reading holds, each counted each time it is reached (what is shared counts as often as it is met; a slice's spare places count too). A statement '..UptoSaid' is the law's where the arguments, and the package variables that the reading takes, are together of bulk at most 1048576: NARROWER than '..Said'. Prove '..Said' where nothing that the law and all that it calls make is longer than what came in: it says more and counts as full. Else prove '..UptoSaid'. A law counts once. -/
mutual
def uptoBulk {H : Type} : DataW H → Nat
  | .lit (.string bytes) => bytes.length + 1
  | .lit _ => 1
  | .nil => 1
  | .ptr d => uptoBulk d + 1
  | .slice elems spare => uptoBulkAll elems + uptoBulkAll spare + 1
  | .agg parts => uptoBulkAll parts + 1
  | .iface _ d => uptoBulk d + 1
  | .map entries => uptoBulkEntries entries + 1
  | .held _ => 1
def uptoBulkAll {H : Type} : List (DataW H) → Nat
  | [] => 0
  | d :: r => uptoBulk d + uptoBulkAll r
def uptoBulkEntries {H : Type} : List (Lit × DataW H) → Nat
  | [] => 0
  | x :: r => uptoBulkEntry x + uptoBulkEntries r
def uptoBulkEntry {H : Type} : Lit × DataW H → Nat
  | (.string bytes, d) => bytes.length + uptoBulk d + 1
  | (_, d) => uptoBulk d + 1
 end
def uptoSmall : (H : Type) → List (DataW H) → Bool := fun _ ds => decide (uptoBulkAll ds ≤ 1048576)
def OpenSpec.upto (s : _root_.Go.ChangeSpec) : _root_.Go.OpenSpec := { _root_.Go.OpenSpec.ofChange s with cond := some uptoSmall }

/-- 'laws.FnExactCodeOf', WHERE WHAT IT READS IS OF BULK AT MOST 1048576: true; the input reads as it did. -/
def fnExactCodeOfUptoRow : OpenClaim := { program := "ytkjjdpooahdicaa", sum := "f0a9cb31ec2156a760839a18155c141caa68250db146c540ae4bcbe1057a9cb0", func := "loop.example/elevators/laws.FnExactCodeOf", spec := "fnExactCodeOf", apart := false, narrowed := true }
def FnExactCodeOfUptoSaid : Prop := fnExactCodeOfUptoRow.holds Try.pinned (OpenSpec.upto fnExactCodeOfSpec)

/-- 'laws.FnExactCodeRead', WHERE WHAT IT READS IS OF BULK AT MOST 1048576: true; the input reads as it did. -/
def fnExactCodeReadUptoRow : OpenClaim := { program := "ytkjjdpooahdicaa", sum := "f0a9cb31ec2156a760839a18155c141caa68250db146c540ae4bcbe1057a9cb0", func := "loop.example/elevators/laws.FnExactCodeRead", spec := "fnExactCodeRead", apart := false, narrowed := true }
def FnExactCodeReadUptoSaid : Prop := fnExactCodeReadUptoRow.holds Try.pinned (OpenSpec.upto fnExactCodeReadSpec)

/-- 'laws.FnExactBitsApart', WHERE WHAT IT READS IS OF BULK AT MOST 1048576: true; the input reads as it did. -/
def fnExactBitsApartUptoRow : OpenClaim := { program := "ytkjjdpooahdicaa", sum := "f0a9cb31ec2156a760839a18155c141caa68250db146c540ae4bcbe1057a9cb0", func := "loop.example/elevators/laws.FnExactBitsApart", spec := "fnExactBitsApart", apart := false, narrowed := true }
def FnExactBitsApartUptoSaid : Prop := fnExactBitsApartUptoRow.holds Try.pinned (OpenSpec.upto fnExactBitsApartSpec)

/-- 'laws.FnExactCodeBetween', WHERE WHAT IT READS IS OF BULK AT MOST 1048576: true; the input reads as it did. -/
def fnExactCodeBetweenUptoRow : OpenClaim := { program := "ytkjjdpooahdicaa", sum := "f0a9cb31ec2156a760839a18155c141caa68250db146c540ae4bcbe1057a9cb0", func := "loop.example/elevators/laws.FnExactCodeBetween", spec := "fnExactCodeBetween", apart := false, narrowed := true }
def FnExactCodeBetweenUptoSaid : Prop := fnExactCodeBetweenUptoRow.holds Try.pinned (OpenSpec.upto fnExactCodeBetweenSpec)

/-- 'laws.FnCodeOf', WHERE WHAT IT READS IS OF BULK AT MOST 1048576: true; the input reads as it did. -/
def fnCodeOfUptoRow : OpenClaim := { program := "ytkjjdpooahdicaa", sum := "f0a9cb31ec2156a760839a18155c141caa68250db146c540ae4bcbe1057a9cb0", func := "loop.example/elevators/laws.FnCodeOf", spec := "fnCodeOf", apart := false, narrowed := true }
def FnCodeOfUptoSaid : Prop := fnCodeOfUptoRow.holds Try.pinned (OpenSpec.upto fnCodeOfSpec)

/-- 'laws.FnCodeRead', WHERE WHAT IT READS IS OF BULK AT MOST 1048576: true; the input reads as it did. -/
def fnCodeReadUptoRow : OpenClaim := { program := "ytkjjdpooahdicaa", sum := "f0a9cb31ec2156a760839a18155c141caa68250db146c540ae4bcbe1057a9cb0", func := "loop.example/elevators/laws.FnCodeRead", spec := "fnCodeRead", apart := false, narrowed := true }
def FnCodeReadUptoSaid : Prop := fnCodeReadUptoRow.holds Try.pinned (OpenSpec.upto fnCodeReadSpec)

/-- 'laws.FnBitsApart', WHERE WHAT IT READS IS OF BULK AT MOST 1048576: true; the input reads as it did. -/
def fnBitsApartUptoRow : OpenClaim := { program := "ytkjjdpooahdicaa", sum := "f0a9cb31ec2156a760839a18155c141caa68250db146c540ae4bcbe1057a9cb0", func := "loop.example/elevators/laws.FnBitsApart", spec := "fnBitsApart", apart := false, narrowed := true }
def FnBitsApartUptoSaid : Prop := fnBitsApartUptoRow.holds Try.pinned (OpenSpec.upto fnBitsApartSpec)

/-- 'laws.FnCodeBetween', WHERE WHAT IT READS IS OF BULK AT MOST 1048576: true; the input reads as it did. -/
def fnCodeBetweenUptoRow : OpenClaim := { program := "ytkjjdpooahdicaa", sum := "f0a9cb31ec2156a760839a18155c141caa68250db146c540ae4bcbe1057a9cb0", func := "loop.example/elevators/laws.FnCodeBetween", spec := "fnCodeBetween", apart := false, narrowed := true }
def FnCodeBetweenUptoSaid : Prop := fnCodeBetweenUptoRow.holds Try.pinned (OpenSpec.upto fnCodeBetweenSpec)

end Rows
end Go.Proofs.Ytkjjdpooahdicaa

/-
  No cell of these rows narrows 'for every input' (looked for: loops, veiled, ifaces, maps, wideKeys, modest, calm, conditions, laid).
  DERIVED. THE GIVEN ROWS OF THIS SEAT. 8 by the template 'for every input the law returns true; each argument reads behind the call as it read before'; 0 by the template 'total and deterministic' (their statements: YtjfninibloakgaaTotals.lean).
  GIVEN WITH THE SEED: the statements are not yours to turn. If you find one false, say at which input.
  Laid BY PROGRAM, IN A SANDBOX (cutbox-rows.mjs): the forced cells as the released guide's own fill.sh prints them over the translation 2c6f78106e091f88… (all of the seat's roots in one cut). By AI agents, Wed Nov 11 2026. No macro, syntax, notation, axiom, sorry.
-/
import Derived.Test.YtjfninibloakgaaChecked
import GoSem.Claim
import GoSem.ClaimJoined
import GoSem.ClaimMapViews
import Derived.JoinedTies
import Derived.KernelRfl
namespace Go.Proofs.Ytjfninibloakgaa
/- THE CELL 'sum', in the pinned program and in every row, IS THE sha256 OF THE DUMP (.gsa) THAT YtjfninibloakgaaProg.lean LOADS. Nothing in Lean hashes anything: it is a label: what it is worth is what the hold of that sum in a sandbox is worth. -/
noncomputable def Try.pinned : Pinned := { name := "ytjfninibloakgaa", sum := "2c6f78106e091f88b7158997e487485dab65f3508520ea64b1e29619164078ea", checked := Try.checked }
namespace Rows
def none {H : Type} : Left H := { results := [], args := [] }

/-- 'laws.FnExactIdsValid': WHATEVER THE INPUT: true; the input reads as it did. -/
def fnExactIdsValidSpec : ChangeSpec := { name := "fnExactIdsValid", fn := fun _ => fun
  | [d] => { results := [.lit (.bool true)], args := [d] }
  | _ => none }
def fnExactIdsValidRow : OpenClaim := { program := "ytjfninibloakgaa", sum := "2c6f78106e091f88b7158997e487485dab65f3508520ea64b1e29619164078ea", func := "loop.example/elevators/laws.FnExactIdsValid", spec := "fnExactIdsValid", apart := false }
def FnExactIdsValidSaid : Prop := fnExactIdsValidRow.holds Try.pinned (OpenSpec.ofChange fnExactIdsValidSpec)

/-- ITS FALSE NEIGHBOUR: 'it returns false'. Refute it at one input. -/
def fnExactIdsValidWrong : ChangeSpec := { name := "fnExactIdsValid", fn := fun _ => fun
  | [d] => { results := [.lit (.bool false)], args := [d] }
  | _ => none }
def FnExactIdsValidWrongFalsely : Prop := fnExactIdsValidRow.holds Try.pinned (OpenSpec.ofChange fnExactIdsValidWrong)

/-- 'laws.FnExactWireBit': WHATEVER THE INPUT: true; the input reads as it did. -/
def fnExactWireBitSpec : ChangeSpec := { name := "fnExactWireBit", fn := fun _ => fun
  | [d] => { results := [.lit (.bool true)], args := [d] }
  | _ => none }
def fnExactWireBitRow : OpenClaim := { program := "ytjfninibloakgaa", sum := "2c6f78106e091f88b7158997e487485dab65f3508520ea64b1e29619164078ea", func := "loop.example/elevators/laws.FnExactWireBit", spec := "fnExactWireBit", apart := false }
def FnExactWireBitSaid : Prop := fnExactWireBitRow.holds Try.pinned (OpenSpec.ofChange fnExactWireBitSpec)

/-- ITS FALSE NEIGHBOUR: 'it returns false'. Refute it at one input. -/
def fnExactWireBitWrong : ChangeSpec := { name := "fnExactWireBit", fn := fun _ => fun
  | [d] => { results := [.lit (.bool false)], args := [d] }
  | _ => none }
def FnExactWireBitWrongFalsely : Prop := fnExactWireBitRow.holds Try.pinned (OpenSpec.ofChange fnExactWireBitWrong)

/-- 'laws.FnExactArbitrate': WHATEVER THE INPUT: true; the input reads as it did. -/
def fnExactArbitrateSpec : ChangeSpec := { name := "fnExactArbitrate", fn := fun _ => fun
  | [d] => { results := [.lit (.bool true)], args := [d] }
  | _ => none }
def fnExactArbitrateRow : OpenClaim := { program := "ytjfninibloakgaa", sum := "2c6f78106e091f88b7158997e487485dab65f3508520ea64b1e29619164078ea", func := "loop.example/elevators/laws.FnExactArbitrate", spec := "fnExactArbitrate", apart := false }
def FnExactArbitrateSaid : Prop := fnExactArbitrateRow.holds Try.pinned (OpenSpec.ofChange fnExactArbitrateSpec)

/-- ITS FALSE NEIGHBOUR: 'it returns false'. Refute it at one input. -/
def fnExactArbitrateWrong : ChangeSpec := { name := "fnExactArbitrate", fn := fun _ => fun
  | [d] => { results := [.lit (.bool false)], args := [d] }
  | _ => none }
def FnExactArbitrateWrongFalsely : Prop := fnExactArbitrateRow.holds Try.pinned (OpenSpec.ofChange fnExactArbitrateWrong)

/-- 'laws.FnExactSendOrder': WHATEVER THE INPUT: true; the input reads as it did. -/
def fnExactSendOrderSpec : ChangeSpec := { name := "fnExactSendOrder", fn := fun _ => fun
  | [d] => { results := [.lit (.bool true)], args := [d] }
  | _ => none }
def fnExactSendOrderRow : OpenClaim := { program := "ytjfninibloakgaa", sum := "2c6f78106e091f88b7158997e487485dab65f3508520ea64b1e29619164078ea", func := "loop.example/elevators/laws.FnExactSendOrder", spec := "fnExactSendOrder", apart := false }
def FnExactSendOrderSaid : Prop := fnExactSendOrderRow.holds Try.pinned (OpenSpec.ofChange fnExactSendOrderSpec)

/-- ITS FALSE NEIGHBOUR: 'it returns false'. Refute it at one input. -/
def fnExactSendOrderWrong : ChangeSpec := { name := "fnExactSendOrder", fn := fun _ => fun
  | [d] => { results := [.lit (.bool false)], args := [d] }
  | _ => none }
def FnExactSendOrderWrongFalsely : Prop := fnExactSendOrderRow.holds Try.pinned (OpenSpec.ofChange fnExactSendOrderWrong)

/-- 'laws.FnIdsValid': WHATEVER THE INPUT: true; the input reads as it did. -/
def fnIdsValidSpec : ChangeSpec := { name := "fnIdsValid", fn := fun _ => fun
  | [d] => { results := [.lit (.bool true)], args := [d] }
  | _ => none }
def fnIdsValidRow : OpenClaim := { program := "ytjfninibloakgaa", sum := "2c6f78106e091f88b7158997e487485dab65f3508520ea64b1e29619164078ea", func := "loop.example/elevators/laws.FnIdsValid", spec := "fnIdsValid", apart := false }
def FnIdsValidSaid : Prop := fnIdsValidRow.holds Try.pinned (OpenSpec.ofChange fnIdsValidSpec)

/-- ITS FALSE NEIGHBOUR: 'it returns false'. Refute it at one input. -/
def fnIdsValidWrong : ChangeSpec := { name := "fnIdsValid", fn := fun _ => fun
  | [d] => { results := [.lit (.bool false)], args := [d] }
  | _ => none }
def FnIdsValidWrongFalsely : Prop := fnIdsValidRow.holds Try.pinned (OpenSpec.ofChange fnIdsValidWrong)

/-- 'laws.FnWireBit': WHATEVER THE INPUT: true; the input reads as it did. -/
def fnWireBitSpec : ChangeSpec := { name := "fnWireBit", fn := fun _ => fun
  | [d] => { results := [.lit (.bool true)], args := [d] }
  | _ => none }
def fnWireBitRow : OpenClaim := { program := "ytjfninibloakgaa", sum := "2c6f78106e091f88b7158997e487485dab65f3508520ea64b1e29619164078ea", func := "loop.example/elevators/laws.FnWireBit", spec := "fnWireBit", apart := false }
def FnWireBitSaid : Prop := fnWireBitRow.holds Try.pinned (OpenSpec.ofChange fnWireBitSpec)

/-- ITS FALSE NEIGHBOUR: 'it returns false'. Refute it at one input. -/
def fnWireBitWrong : ChangeSpec := { name := "fnWireBit", fn := fun _ => fun
  | [d] => { results := [.lit (.bool false)], args := [d] }
  | _ => none }
def FnWireBitWrongFalsely : Prop := fnWireBitRow.holds Try.pinned (OpenSpec.ofChange fnWireBitWrong)

/-- 'laws.FnArbitrate': WHATEVER THE INPUT: true; the input reads as it did. -/
def fnArbitrateSpec : ChangeSpec := { name := "fnArbitrate", fn := fun _ => fun
  | [d] => { results := [.lit (.bool true)], args := [d] }
  | _ => none }
def fnArbitrateRow : OpenClaim := { program := "ytjfninibloakgaa", sum := "2c6f78106e091f88b7158997e487485dab65f3508520ea64b1e29619164078ea", func := "loop.example/elevators/laws.FnArbitrate", spec := "fnArbitrate", apart := false }
def FnArbitrateSaid : Prop := fnArbitrateRow.holds Try.pinned (OpenSpec.ofChange fnArbitrateSpec)

/-- ITS FALSE NEIGHBOUR: 'it returns false'. Refute it at one input. -/
def fnArbitrateWrong : ChangeSpec := { name := "fnArbitrate", fn := fun _ => fun
  | [d] => { results := [.lit (.bool false)], args := [d] }
  | _ => none }
def FnArbitrateWrongFalsely : Prop := fnArbitrateRow.holds Try.pinned (OpenSpec.ofChange fnArbitrateWrong)

/-- 'laws.FnSendOrder': WHATEVER THE INPUT: true; the input reads as it did. -/
def fnSendOrderSpec : ChangeSpec := { name := "fnSendOrder", fn := fun _ => fun
  | [d] => { results := [.lit (.bool true)], args := [d] }
  | _ => none }
def fnSendOrderRow : OpenClaim := { program := "ytjfninibloakgaa", sum := "2c6f78106e091f88b7158997e487485dab65f3508520ea64b1e29619164078ea", func := "loop.example/elevators/laws.FnSendOrder", spec := "fnSendOrder", apart := false }
def FnSendOrderSaid : Prop := fnSendOrderRow.holds Try.pinned (OpenSpec.ofChange fnSendOrderSpec)

/-- ITS FALSE NEIGHBOUR: 'it returns false'. Refute it at one input. -/
def fnSendOrderWrong : ChangeSpec := { name := "fnSendOrder", fn := fun _ => fun
  | [d] => { results := [.lit (.bool false)], args := [d] }
  | _ => none }
def FnSendOrderWrongFalsely : Prop := fnSendOrderRow.holds Try.pinned (OpenSpec.ofChange fnSendOrderWrong)

/- THE SECOND FORM. 'bulk': how many values and letters a reading holds, each counted each time it is reached (what is shared counts as often as it is met; a slice's spare places count too). A statement '..UptoSaid' is the law's where the arguments, and the package variables that the reading takes, are together of bulk at most 1048576: NARROWER than '..Said'. Prove '..Said' where nothing that the law and all that it calls make is longer than what came in: it says more and counts as full. Else prove '..UptoSaid'. A law counts once. -/
mutual
def uptoBulk {H : Type} : DataW H → Nat
  | .lit (.string bytes) => bytes.length + 1
  | .lit _ => 1
  | .nil => 1
  | .ptr d => uptoBulk d + 1
  | .slice elems spare => uptoBulkAll elems + uptoBulkAll spare + 1
  | .agg parts => uptoBulkAll parts + 1
  | .iface _ d => uptoBulk d + 1
  | .map entries => uptoBulkEntries entries + 1
  | .held _ => 1
def uptoBulkAll {H : Type} : List (DataW H) → Nat
  | [] => 0
  | d :: r => uptoBulk d + uptoBulkAll r
def uptoBulkEntries {H : Type} : List (Lit × DataW H) → Nat
  | [] => 0
  | x :: r => uptoBulkEntry x + uptoBulkEntries r
def uptoBulkEntry {H : Type} : Lit × DataW H → Nat
  | (.string bytes, d) => bytes.length + uptoBulk d + 1
  | (_, d) => uptoBulk d + 1
 end
def uptoSmall : (H : Type) → List (DataW H) → Bool := fun _ ds => decide (uptoBulkAll ds ≤ 1048576)
def OpenSpec.upto (s : _root_.Go.ChangeSpec) : _root_.Go.OpenSpec := { _root_.Go.OpenSpec.ofChange s with cond := some uptoSmall }

/-- 'laws.FnExactIdsValid', WHERE WHAT IT READS IS OF BULK AT MOST 1048576: true; the input reads as it did. -/
def fnExactIdsValidUptoRow : OpenClaim := { program := "ytjfninibloakgaa", sum := "2c6f78106e091f88b7158997e487485dab65f3508520ea64b1e29619164078ea", func := "loop.example/elevators/laws.FnExactIdsValid", spec := "fnExactIdsValid", apart := false, narrowed := true }
def FnExactIdsValidUptoSaid : Prop := fnExactIdsValidUptoRow.holds Try.pinned (OpenSpec.upto fnExactIdsValidSpec)

/-- 'laws.FnExactWireBit', WHERE WHAT IT READS IS OF BULK AT MOST 1048576: true; the input reads as it did. -/
def fnExactWireBitUptoRow : OpenClaim := { program := "ytjfninibloakgaa", sum := "2c6f78106e091f88b7158997e487485dab65f3508520ea64b1e29619164078ea", func := "loop.example/elevators/laws.FnExactWireBit", spec := "fnExactWireBit", apart := false, narrowed := true }
def FnExactWireBitUptoSaid : Prop := fnExactWireBitUptoRow.holds Try.pinned (OpenSpec.upto fnExactWireBitSpec)

/-- 'laws.FnExactArbitrate', WHERE WHAT IT READS IS OF BULK AT MOST 1048576: true; the input reads as it did. -/
def fnExactArbitrateUptoRow : OpenClaim := { program := "ytjfninibloakgaa", sum := "2c6f78106e091f88b7158997e487485dab65f3508520ea64b1e29619164078ea", func := "loop.example/elevators/laws.FnExactArbitrate", spec := "fnExactArbitrate", apart := false, narrowed := true }
def FnExactArbitrateUptoSaid : Prop := fnExactArbitrateUptoRow.holds Try.pinned (OpenSpec.upto fnExactArbitrateSpec)

/-- 'laws.FnExactSendOrder', WHERE WHAT IT READS IS OF BULK AT MOST 1048576: true; the input reads as it did. -/
def fnExactSendOrderUptoRow : OpenClaim := { program := "ytjfninibloakgaa", sum := "2c6f78106e091f88b7158997e487485dab65f3508520ea64b1e29619164078ea", func := "loop.example/elevators/laws.FnExactSendOrder", spec := "fnExactSendOrder", apart := false, narrowed := true }
def FnExactSendOrderUptoSaid : Prop := fnExactSendOrderUptoRow.holds Try.pinned (OpenSpec.upto fnExactSendOrderSpec)

/-- 'laws.FnIdsValid', WHERE WHAT IT READS IS OF BULK AT MOST 1048576: true; the input reads as it did. -/
def fnIdsValidUptoRow : OpenClaim := { program := "ytjfninibloakgaa", sum := "2c6f78106e091f88b7158997e487485dab65f3508520ea64b1e29619164078ea", func := "loop.example/elevators/laws.FnIdsValid", spec := "fnIdsValid", apart := false, narrowed := true }
def FnIdsValidUptoSaid : Prop := fnIdsValidUptoRow.holds Try.pinned (OpenSpec.upto fnIdsValidSpec)

/-- 'laws.FnWireBit', WHERE WHAT IT READS IS OF BULK AT MOST 1048576: true; the input reads as it did. -/
def fnWireBitUptoRow : OpenClaim := { program := "ytjfninibloakgaa", sum := "2c6f78106e091f88b7158997e487485dab65f3508520ea64b1e29619164078ea", func := "loop.example/elevators/laws.FnWireBit", spec := "fnWireBit", apart := false, narrowed := true }
def FnWireBitUptoSaid : Prop := fnWireBitUptoRow.holds Try.pinned (OpenSpec.upto fnWireBitSpec)

/-- 'laws.FnArbitrate', WHERE WHAT IT READS IS OF BULK AT MOST 1048576: true; the input reads as it did. -/
def fnArbitrateUptoRow : OpenClaim := { program := "ytjfninibloakgaa", sum := "2c6f78106e091f88b7158997e487485dab65f3508520ea64b1e29619164078ea", func := "loop.example/elevators/laws.FnArbitrate", spec := "fnArbitrate", apart := false, narrowed := true }
def FnArbitrateUptoSaid : Prop := fnArbitrateUptoRow.holds Try.pinned (OpenSpec.upto fnArbitrateSpec)

/-- 'laws.FnSendOrder', WHERE WHAT IT READS IS OF BULK AT MOST 1048576: true; the input reads as it did. -/
def fnSendOrderUptoRow : OpenClaim := { program := "ytjfninibloakgaa", sum := "2c6f78106e091f88b7158997e487485dab65f3508520ea64b1e29619164078ea", func := "loop.example/elevators/laws.FnSendOrder", spec := "fnSendOrder", apart := false, narrowed := true }
def FnSendOrderUptoSaid : Prop := fnSendOrderUptoRow.holds Try.pinned (OpenSpec.upto fnSendOrderSpec)

end Rows
end Go.Proofs.Ytjfninibloakgaa

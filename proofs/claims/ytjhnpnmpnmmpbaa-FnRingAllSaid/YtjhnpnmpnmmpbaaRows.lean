/-
  No cell of these rows narrows 'for every input' (looked for: loops, veiled, ifaces, maps, wideKeys, modest, calm, conditions, laid).
  DERIVED. THE GIVEN ROWS OF THIS SEAT. 10 by the template 'for every input the law returns true; each argument reads behind the call as it read before'; 0 by the template 'total and deterministic' (their statements: YtjhnpnmpnmmpbaaTotals.lean).
  GIVEN WITH THE SEED: the statements are not yours to turn. If you find one false, say at which input.
  Laid BY PROGRAM, IN A SANDBOX (cutbox-rows.mjs): the forced cells as the released guide's own fill.sh prints them over the translation 58965100aa259ada… (all of the seat's roots in one cut). By AI agents, Wed Nov 11 2026. No macro, syntax, notation, axiom, sorry.
-/
import Derived.Test.YtjhnpnmpnmmpbaaChecked
import GoSem.Claim
import GoSem.ClaimJoined
import GoSem.ClaimMapViews
import Derived.JoinedTies
import Derived.KernelRfl
namespace Go.Proofs.Ytjhnpnmpnmmpbaa
/- THE CELL 'sum', in the pinned program and in every row, IS THE sha256 OF THE DUMP (.gsa) THAT YtjhnpnmpnmmpbaaProg.lean LOADS. Nothing in Lean hashes anything: it is a label: what it is worth is what the hold of that sum in a sandbox is worth. -/
noncomputable def Try.pinned : Pinned := { name := "ytjhnpnmpnmmpbaa", sum := "58965100aa259adacda17572a1d5dcd9d6a0cd7dd54482c588f5905b568c9f73", checked := Try.checked }
namespace Rows
def none {H : Type} : Left H := { results := [], args := [] }

/-- 'laws.FnExactRingValid': WHATEVER THE INPUT: true; the input reads as it did. -/
def fnExactRingValidSpec : ChangeSpec := { name := "fnExactRingValid", fn := fun _ => fun
  | [d] => { results := [.lit (.bool true)], args := [d] }
  | _ => none }
def fnExactRingValidRow : OpenClaim := { program := "ytjhnpnmpnmmpbaa", sum := "58965100aa259adacda17572a1d5dcd9d6a0cd7dd54482c588f5905b568c9f73", func := "loop.example/elevators/laws.FnExactRingValid", spec := "fnExactRingValid", apart := false }
def FnExactRingValidSaid : Prop := fnExactRingValidRow.holds Try.pinned (OpenSpec.ofChange fnExactRingValidSpec)

/-- ITS FALSE NEIGHBOUR: 'it returns false'. Refute it at one input. -/
def fnExactRingValidWrong : ChangeSpec := { name := "fnExactRingValid", fn := fun _ => fun
  | [d] => { results := [.lit (.bool false)], args := [d] }
  | _ => none }
def FnExactRingValidWrongFalsely : Prop := fnExactRingValidRow.holds Try.pinned (OpenSpec.ofChange fnExactRingValidWrong)

/-- 'laws.FnExactRingNext': WHATEVER THE INPUT: true; the input reads as it did. -/
def fnExactRingNextSpec : ChangeSpec := { name := "fnExactRingNext", fn := fun _ => fun
  | [d] => { results := [.lit (.bool true)], args := [d] }
  | _ => none }
def fnExactRingNextRow : OpenClaim := { program := "ytjhnpnmpnmmpbaa", sum := "58965100aa259adacda17572a1d5dcd9d6a0cd7dd54482c588f5905b568c9f73", func := "loop.example/elevators/laws.FnExactRingNext", spec := "fnExactRingNext", apart := false }
def FnExactRingNextSaid : Prop := fnExactRingNextRow.holds Try.pinned (OpenSpec.ofChange fnExactRingNextSpec)

/-- ITS FALSE NEIGHBOUR: 'it returns false'. Refute it at one input. -/
def fnExactRingNextWrong : ChangeSpec := { name := "fnExactRingNext", fn := fun _ => fun
  | [d] => { results := [.lit (.bool false)], args := [d] }
  | _ => none }
def FnExactRingNextWrongFalsely : Prop := fnExactRingNextRow.holds Try.pinned (OpenSpec.ofChange fnExactRingNextWrong)

/-- 'laws.FnExactRingRead': WHATEVER THE INPUT: true; the input reads as it did. -/
def fnExactRingReadSpec : ChangeSpec := { name := "fnExactRingRead", fn := fun _ => fun
  | [d1, d2] => { results := [.lit (.bool true)], args := [d1, d2] }
  | _ => none }
def fnExactRingReadRow : OpenClaim := { program := "ytjhnpnmpnmmpbaa", sum := "58965100aa259adacda17572a1d5dcd9d6a0cd7dd54482c588f5905b568c9f73", func := "loop.example/elevators/laws.FnExactRingRead", spec := "fnExactRingRead", apart := false }
def FnExactRingReadSaid : Prop := fnExactRingReadRow.holds Try.pinned (OpenSpec.ofChange fnExactRingReadSpec)

/-- ITS FALSE NEIGHBOUR: 'it returns false'. Refute it at one input. -/
def fnExactRingReadWrong : ChangeSpec := { name := "fnExactRingRead", fn := fun _ => fun
  | [d1, d2] => { results := [.lit (.bool false)], args := [d1, d2] }
  | _ => none }
def FnExactRingReadWrongFalsely : Prop := fnExactRingReadRow.holds Try.pinned (OpenSpec.ofChange fnExactRingReadWrong)

/-- 'laws.FnExactRingAll': WHATEVER THE INPUT: true; the input reads as it did. -/
def fnExactRingAllSpec : ChangeSpec := { name := "fnExactRingAll", fn := fun _ => fun
  | [d] => { results := [.lit (.bool true)], args := [d] }
  | _ => none }
def fnExactRingAllRow : OpenClaim := { program := "ytjhnpnmpnmmpbaa", sum := "58965100aa259adacda17572a1d5dcd9d6a0cd7dd54482c588f5905b568c9f73", func := "loop.example/elevators/laws.FnExactRingAll", spec := "fnExactRingAll", apart := false }
def FnExactRingAllSaid : Prop := fnExactRingAllRow.holds Try.pinned (OpenSpec.ofChange fnExactRingAllSpec)

/-- ITS FALSE NEIGHBOUR: 'it returns false'. Refute it at one input. -/
def fnExactRingAllWrong : ChangeSpec := { name := "fnExactRingAll", fn := fun _ => fun
  | [d] => { results := [.lit (.bool false)], args := [d] }
  | _ => none }
def FnExactRingAllWrongFalsely : Prop := fnExactRingAllRow.holds Try.pinned (OpenSpec.ofChange fnExactRingAllWrong)

/-- 'laws.FnExactRingPut': WHATEVER THE INPUT: true; the input reads as it did. -/
def fnExactRingPutSpec : ChangeSpec := { name := "fnExactRingPut", fn := fun _ => fun
  | [d1, d2] => { results := [.lit (.bool true)], args := [d1, d2] }
  | _ => none }
def fnExactRingPutRow : OpenClaim := { program := "ytjhnpnmpnmmpbaa", sum := "58965100aa259adacda17572a1d5dcd9d6a0cd7dd54482c588f5905b568c9f73", func := "loop.example/elevators/laws.FnExactRingPut", spec := "fnExactRingPut", apart := false }
def FnExactRingPutSaid : Prop := fnExactRingPutRow.holds Try.pinned (OpenSpec.ofChange fnExactRingPutSpec)

/-- ITS FALSE NEIGHBOUR: 'it returns false'. Refute it at one input. -/
def fnExactRingPutWrong : ChangeSpec := { name := "fnExactRingPut", fn := fun _ => fun
  | [d1, d2] => { results := [.lit (.bool false)], args := [d1, d2] }
  | _ => none }
def FnExactRingPutWrongFalsely : Prop := fnExactRingPutRow.holds Try.pinned (OpenSpec.ofChange fnExactRingPutWrong)

/-- 'laws.FnRingValid': WHATEVER THE INPUT: true; the input reads as it did. -/
def fnRingValidSpec : ChangeSpec := { name := "fnRingValid", fn := fun _ => fun
  | [d] => { results := [.lit (.bool true)], args := [d] }
  | _ => none }
def fnRingValidRow : OpenClaim := { program := "ytjhnpnmpnmmpbaa", sum := "58965100aa259adacda17572a1d5dcd9d6a0cd7dd54482c588f5905b568c9f73", func := "loop.example/elevators/laws.FnRingValid", spec := "fnRingValid", apart := false }
def FnRingValidSaid : Prop := fnRingValidRow.holds Try.pinned (OpenSpec.ofChange fnRingValidSpec)

/-- ITS FALSE NEIGHBOUR: 'it returns false'. Refute it at one input. -/
def fnRingValidWrong : ChangeSpec := { name := "fnRingValid", fn := fun _ => fun
  | [d] => { results := [.lit (.bool false)], args := [d] }
  | _ => none }
def FnRingValidWrongFalsely : Prop := fnRingValidRow.holds Try.pinned (OpenSpec.ofChange fnRingValidWrong)

/-- 'laws.FnRingNext': WHATEVER THE INPUT: true; the input reads as it did. -/
def fnRingNextSpec : ChangeSpec := { name := "fnRingNext", fn := fun _ => fun
  | [d] => { results := [.lit (.bool true)], args := [d] }
  | _ => none }
def fnRingNextRow : OpenClaim := { program := "ytjhnpnmpnmmpbaa", sum := "58965100aa259adacda17572a1d5dcd9d6a0cd7dd54482c588f5905b568c9f73", func := "loop.example/elevators/laws.FnRingNext", spec := "fnRingNext", apart := false }
def FnRingNextSaid : Prop := fnRingNextRow.holds Try.pinned (OpenSpec.ofChange fnRingNextSpec)

/-- ITS FALSE NEIGHBOUR: 'it returns false'. Refute it at one input. -/
def fnRingNextWrong : ChangeSpec := { name := "fnRingNext", fn := fun _ => fun
  | [d] => { results := [.lit (.bool false)], args := [d] }
  | _ => none }
def FnRingNextWrongFalsely : Prop := fnRingNextRow.holds Try.pinned (OpenSpec.ofChange fnRingNextWrong)

/-- 'laws.FnRingRead': WHATEVER THE INPUT: true; the input reads as it did. -/
def fnRingReadSpec : ChangeSpec := { name := "fnRingRead", fn := fun _ => fun
  | [d] => { results := [.lit (.bool true)], args := [d] }
  | _ => none }
def fnRingReadRow : OpenClaim := { program := "ytjhnpnmpnmmpbaa", sum := "58965100aa259adacda17572a1d5dcd9d6a0cd7dd54482c588f5905b568c9f73", func := "loop.example/elevators/laws.FnRingRead", spec := "fnRingRead", apart := false }
def FnRingReadSaid : Prop := fnRingReadRow.holds Try.pinned (OpenSpec.ofChange fnRingReadSpec)

/-- ITS FALSE NEIGHBOUR: 'it returns false'. Refute it at one input. -/
def fnRingReadWrong : ChangeSpec := { name := "fnRingRead", fn := fun _ => fun
  | [d] => { results := [.lit (.bool false)], args := [d] }
  | _ => none }
def FnRingReadWrongFalsely : Prop := fnRingReadRow.holds Try.pinned (OpenSpec.ofChange fnRingReadWrong)

/-- 'laws.FnRingAll': WHATEVER THE INPUT: true; the input reads as it did. -/
def fnRingAllSpec : ChangeSpec := { name := "fnRingAll", fn := fun _ => fun
  | [d] => { results := [.lit (.bool true)], args := [d] }
  | _ => none }
def fnRingAllRow : OpenClaim := { program := "ytjhnpnmpnmmpbaa", sum := "58965100aa259adacda17572a1d5dcd9d6a0cd7dd54482c588f5905b568c9f73", func := "loop.example/elevators/laws.FnRingAll", spec := "fnRingAll", apart := false }
def FnRingAllSaid : Prop := fnRingAllRow.holds Try.pinned (OpenSpec.ofChange fnRingAllSpec)

/-- ITS FALSE NEIGHBOUR: 'it returns false'. Refute it at one input. -/
def fnRingAllWrong : ChangeSpec := { name := "fnRingAll", fn := fun _ => fun
  | [d] => { results := [.lit (.bool false)], args := [d] }
  | _ => none }
def FnRingAllWrongFalsely : Prop := fnRingAllRow.holds Try.pinned (OpenSpec.ofChange fnRingAllWrong)

/-- 'laws.FnRingPut': WHATEVER THE INPUT: true; the input reads as it did. -/
def fnRingPutSpec : ChangeSpec := { name := "fnRingPut", fn := fun _ => fun
  | [d] => { results := [.lit (.bool true)], args := [d] }
  | _ => none }
def fnRingPutRow : OpenClaim := { program := "ytjhnpnmpnmmpbaa", sum := "58965100aa259adacda17572a1d5dcd9d6a0cd7dd54482c588f5905b568c9f73", func := "loop.example/elevators/laws.FnRingPut", spec := "fnRingPut", apart := false }
def FnRingPutSaid : Prop := fnRingPutRow.holds Try.pinned (OpenSpec.ofChange fnRingPutSpec)

/-- ITS FALSE NEIGHBOUR: 'it returns false'. Refute it at one input. -/
def fnRingPutWrong : ChangeSpec := { name := "fnRingPut", fn := fun _ => fun
  | [d] => { results := [.lit (.bool false)], args := [d] }
  | _ => none }
def FnRingPutWrongFalsely : Prop := fnRingPutRow.holds Try.pinned (OpenSpec.ofChange fnRingPutWrong)

/- THE SECOND FORM. 'bulk': how many values and letters a reading holds, each counted each time it is reached (what is shared counts as often as it is met; a slice's spare places count too). A statement '..UptoSaid' is the law's where the arguments, and the package variables that the reading takes, are together of bulk at most 1048576: NARROWER than '..Said'. Prove '..Said' where nothing that the law and all that it calls make is longer than what came in: it says more and counts as full. Else prove '..UptoSaid'. A law counts once. -/
mutual
def uptoBulk {H : Type} : DataW H → Nat
  | .lit (.string bytes) => bytes.length + 1
  | .lit _ => 1
  | .nil => 1
  | .ptr d => uptoBulk d + 1
  | .slice elems spare => uptoBulkAll elems + uptoBulkAll spare + 1
  | .agg parts => uptoBulkAll parts + 1
  | .iface _ d => uptoBulk d + 1
  | .map entries => uptoBulkEntries entries + 1
  | .held _ => 1
def uptoBulkAll {H : Type} : List (DataW H) → Nat
  | [] => 0
  | d :: r => uptoBulk d + uptoBulkAll r
def uptoBulkEntries {H : Type} : List (Lit × DataW H) → Nat
  | [] => 0
  | x :: r => uptoBulkEntry x + uptoBulkEntries r
def uptoBulkEntry {H : Type} : Lit × DataW H → Nat
  | (.string bytes, d) => bytes.length + uptoBulk d + 1
  | (_, d) => uptoBulk d + 1
 end
def uptoSmall : (H : Type) → List (DataW H) → Bool := fun _ ds => decide (uptoBulkAll ds ≤ 1048576)
def OpenSpec.upto (s : _root_.Go.ChangeSpec) : _root_.Go.OpenSpec := { _root_.Go.OpenSpec.ofChange s with cond := some uptoSmall }

/-- 'laws.FnExactRingValid', WHERE WHAT IT READS IS OF BULK AT MOST 1048576: true; the input reads as it did. -/
def fnExactRingValidUptoRow : OpenClaim := { program := "ytjhnpnmpnmmpbaa", sum := "58965100aa259adacda17572a1d5dcd9d6a0cd7dd54482c588f5905b568c9f73", func := "loop.example/elevators/laws.FnExactRingValid", spec := "fnExactRingValid", apart := false, narrowed := true }
def FnExactRingValidUptoSaid : Prop := fnExactRingValidUptoRow.holds Try.pinned (OpenSpec.upto fnExactRingValidSpec)

/-- 'laws.FnExactRingNext', WHERE WHAT IT READS IS OF BULK AT MOST 1048576: true; the input reads as it did. -/
def fnExactRingNextUptoRow : OpenClaim := { program := "ytjhnpnmpnmmpbaa", sum := "58965100aa259adacda17572a1d5dcd9d6a0cd7dd54482c588f5905b568c9f73", func := "loop.example/elevators/laws.FnExactRingNext", spec := "fnExactRingNext", apart := false, narrowed := true }
def FnExactRingNextUptoSaid : Prop := fnExactRingNextUptoRow.holds Try.pinned (OpenSpec.upto fnExactRingNextSpec)

/-- 'laws.FnExactRingRead', WHERE WHAT IT READS IS OF BULK AT MOST 1048576: true; the input reads as it did. -/
def fnExactRingReadUptoRow : OpenClaim := { program := "ytjhnpnmpnmmpbaa", sum := "58965100aa259adacda17572a1d5dcd9d6a0cd7dd54482c588f5905b568c9f73", func := "loop.example/elevators/laws.FnExactRingRead", spec := "fnExactRingRead", apart := false, narrowed := true }
def FnExactRingReadUptoSaid : Prop := fnExactRingReadUptoRow.holds Try.pinned (OpenSpec.upto fnExactRingReadSpec)

/-- 'laws.FnExactRingAll', WHERE WHAT IT READS IS OF BULK AT MOST 1048576: true; the input reads as it did. -/
def fnExactRingAllUptoRow : OpenClaim := { program := "ytjhnpnmpnmmpbaa", sum := "58965100aa259adacda17572a1d5dcd9d6a0cd7dd54482c588f5905b568c9f73", func := "loop.example/elevators/laws.FnExactRingAll", spec := "fnExactRingAll", apart := false, narrowed := true }
def FnExactRingAllUptoSaid : Prop := fnExactRingAllUptoRow.holds Try.pinned (OpenSpec.upto fnExactRingAllSpec)

/-- 'laws.FnExactRingPut', WHERE WHAT IT READS IS OF BULK AT MOST 1048576: true; the input reads as it did. -/
def fnExactRingPutUptoRow : OpenClaim := { program := "ytjhnpnmpnmmpbaa", sum := "58965100aa259adacda17572a1d5dcd9d6a0cd7dd54482c588f5905b568c9f73", func := "loop.example/elevators/laws.FnExactRingPut", spec := "fnExactRingPut", apart := false, narrowed := true }
def FnExactRingPutUptoSaid : Prop := fnExactRingPutUptoRow.holds Try.pinned (OpenSpec.upto fnExactRingPutSpec)

/-- 'laws.FnRingValid', WHERE WHAT IT READS IS OF BULK AT MOST 1048576: true; the input reads as it did. -/
def fnRingValidUptoRow : OpenClaim := { program := "ytjhnpnmpnmmpbaa", sum := "58965100aa259adacda17572a1d5dcd9d6a0cd7dd54482c588f5905b568c9f73", func := "loop.example/elevators/laws.FnRingValid", spec := "fnRingValid", apart := false, narrowed := true }
def FnRingValidUptoSaid : Prop := fnRingValidUptoRow.holds Try.pinned (OpenSpec.upto fnRingValidSpec)

/-- 'laws.FnRingNext', WHERE WHAT IT READS IS OF BULK AT MOST 1048576: true; the input reads as it did. -/
def fnRingNextUptoRow : OpenClaim := { program := "ytjhnpnmpnmmpbaa", sum := "58965100aa259adacda17572a1d5dcd9d6a0cd7dd54482c588f5905b568c9f73", func := "loop.example/elevators/laws.FnRingNext", spec := "fnRingNext", apart := false, narrowed := true }
def FnRingNextUptoSaid : Prop := fnRingNextUptoRow.holds Try.pinned (OpenSpec.upto fnRingNextSpec)

/-- 'laws.FnRingRead', WHERE WHAT IT READS IS OF BULK AT MOST 1048576: true; the input reads as it did. -/
def fnRingReadUptoRow : OpenClaim := { program := "ytjhnpnmpnmmpbaa", sum := "58965100aa259adacda17572a1d5dcd9d6a0cd7dd54482c588f5905b568c9f73", func := "loop.example/elevators/laws.FnRingRead", spec := "fnRingRead", apart := false, narrowed := true }
def FnRingReadUptoSaid : Prop := fnRingReadUptoRow.holds Try.pinned (OpenSpec.upto fnRingReadSpec)

/-- 'laws.FnRingAll', WHERE WHAT IT READS IS OF BULK AT MOST 1048576: true; the input reads as it did. -/
def fnRingAllUptoRow : OpenClaim := { program := "ytjhnpnmpnmmpbaa", sum := "58965100aa259adacda17572a1d5dcd9d6a0cd7dd54482c588f5905b568c9f73", func := "loop.example/elevators/laws.FnRingAll", spec := "fnRingAll", apart := false, narrowed := true }
def FnRingAllUptoSaid : Prop := fnRingAllUptoRow.holds Try.pinned (OpenSpec.upto fnRingAllSpec)

/-- 'laws.FnRingPut', WHERE WHAT IT READS IS OF BULK AT MOST 1048576: true; the input reads as it did. -/
def fnRingPutUptoRow : OpenClaim := { program := "ytjhnpnmpnmmpbaa", sum := "58965100aa259adacda17572a1d5dcd9d6a0cd7dd54482c588f5905b568c9f73", func := "loop.example/elevators/laws.FnRingPut", spec := "fnRingPut", apart := false, narrowed := true }
def FnRingPutUptoSaid : Prop := fnRingPutUptoRow.holds Try.pinned (OpenSpec.upto fnRingPutSpec)

end Rows
end Go.Proofs.Ytjhnpnmpnmmpbaa

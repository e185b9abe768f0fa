/-
  The facts on lowering decided: 4 cars, the first one at floor 0 or 1.
-/
import Derived.Test.YthbgnnnbidnlbaaLowerPlain
namespace Go.Proofs.Ythbgnnnbidnlbaa
set_option maxRecDepth 100000
theorem ask_4_0 : (allCars 3 fun l => askB (0 :: l)) = true := by decide +kernel
theorem ask_4_1 : (allCars 3 fun l => askB (1 :: l)) = true := by decide +kernel
end Go.Proofs.Ythbgnnnbidnlbaa

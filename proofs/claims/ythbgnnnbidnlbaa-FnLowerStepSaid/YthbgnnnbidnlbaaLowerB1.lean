/-
  The facts on lowering decided: 4 cars, the first one at floor 2 or 3.
-/
import Derived.Test.YthbgnnnbidnlbaaLowerPlain
namespace Go.Proofs.Ythbgnnnbidnlbaa
set_option maxRecDepth 100000
theorem ask_4_2 : (allCars 3 fun l => askB (2 :: l)) = true := by decide +kernel
theorem ask_4_3 : (allCars 3 fun l => askB (3 :: l)) = true := by decide +kernel
end Go.Proofs.Ythbgnnnbidnlbaa

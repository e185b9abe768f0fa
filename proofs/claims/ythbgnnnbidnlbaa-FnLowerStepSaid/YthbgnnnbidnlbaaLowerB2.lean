/-
  The facts on lowering decided: 4 cars, the first one at floor 4 or 5.
-/
import Derived.Test.YthbgnnnbidnlbaaLowerPlain
namespace Go.Proofs.Ythbgnnnbidnlbaa
set_option maxRecDepth 100000
theorem ask_4_4 : (allCars 3 fun l => askB (4 :: l)) = true := by decide +kernel
theorem ask_4_5 : (allCars 3 fun l => askB (5 :: l)) = true := by decide +kernel
end Go.Proofs.Ythbgnnnbidnlbaa

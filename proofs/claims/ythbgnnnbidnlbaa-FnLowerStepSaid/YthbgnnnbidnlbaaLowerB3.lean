/-
  The facts on lowering decided: 4 cars, the first one at floor 6 or 7.
-/
import Derived.Test.YthbgnnnbidnlbaaLowerPlain
namespace Go.Proofs.Ythbgnnnbidnlbaa
set_option maxRecDepth 100000
theorem ask_4_6 : (allCars 3 fun l => askB (6 :: l)) = true := by decide +kernel
theorem ask_4_7 : (allCars 3 fun l => askB (7 :: l)) = true := by decide +kernel
end Go.Proofs.Ythbgnnnbidnlbaa

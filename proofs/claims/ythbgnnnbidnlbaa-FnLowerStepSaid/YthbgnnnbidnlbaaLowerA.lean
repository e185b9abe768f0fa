/-
  The facts on lowering decided: 1 to 3 cars.
-/
import Derived.Test.YthbgnnnbidnlbaaLowerPlain
namespace Go.Proofs.Ythbgnnnbidnlbaa
set_option maxRecDepth 100000
theorem ask_1 : allCars 1 askB = true := by decide +kernel
theorem ask_2 : allCars 2 askB = true := by decide +kernel
theorem ask_3 : allCars 3 askB = true := by decide +kernel
end Go.Proofs.Ythbgnnnbidnlbaa

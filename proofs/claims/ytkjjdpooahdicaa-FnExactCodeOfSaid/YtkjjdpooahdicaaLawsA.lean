/-
  The walk of the law FnExactCodeOf.
-/
import Derived.Test.YtkjjdpooahdicaaCodes
namespace Go.Proofs.Ytkjjdpooahdicaa
open Go.RowKit CodesPlain

theorem walk_FnExactCodeOf (a0 : Int) (w : World) (_w0 : (Lit.int .i64 a0).wf = true) :
    Calls Try.prog 3 #[.int .i64 a0] w fun e w' => e = .returned (.bool true) ∧ Below w.heap.size w w' := by
  have hb : (codeOf a0 != codeOf a0) = false := by simp
  go_enter Try.func3, Try.ntmps3
  go_wp2_with (first
    | (go_at_call 11; refine (specCodeOf_any _ _).mono ?_; rintro e w' ⟨rfl, rfl⟩)
    | (go_at_call 12; refine (implCodeOf_any _ _).mono ?_; rintro e w' ⟨rfl, rfl⟩))
  go_ret
  exact ⟨rfl, Below.refl _ _⟩
end Go.Proofs.Ytkjjdpooahdicaa

/-
  The walk of the law FnExactCodeBetween.
-/
import Derived.Test.YtkjjdpooahdicaaCodes5
namespace Go.Proofs.Ytkjjdpooahdicaa
open Go.RowKit CodesPlain

set_option maxHeartbeats 800000 in
theorem walk_FnExactCodeBetween (a0 a1 : Int) (w : World) (_w0 : (Lit.int .i64 a0).wf = true) (_w1 : (Lit.int .i64 a1).wf = true) :
    Calls Try.prog 6 #[.int .i64 a0, .int .i64 a1] w fun e w' => e = .returned (.bool true) ∧ Below w.heap.size w w' := by
  have hs := sameB_refl (between a0 a1)
  go_enter Try.func6, Try.ntmps6
  go_wp2_with fail
  refine (specCodeBetween_any a0 a1 _).mono ?_
  rintro e w1 ⟨A1, n1, c1, rfl, _, r1, b1⟩
  go_wp2_with fail
  refine (implCodeBetween_any a0 a1 _).mono ?_
  rintro e w2 ⟨A2, n2, c2, rfl, _, r2, b2⟩
  have hl2 := r2.le
  go_wp2_with fail
  refine (eqIntS_any A2 A1 n2 n1 c2 c1 _ _ _ r2.rd (r1.rd.below b2)).mono ?_
  rintro e w3 ⟨rfl, q3, rfl⟩
  go_wp2_with fail
  refine (markIntS_any A2 n2 c2 w1.heap.size _ 1 _ (r2.drewN q3) (by omega) (by omega)).mono ?_
  rintro e w4 ⟨rfl, r4, b4, hs4⟩
  have HS4 := Lib.hid hs4
  clear hs4
  go_wp2_with fail
  refine (heldIntS_any A2 n2 c2 _ 1 _ r4.rd (by omega) (by omega)).mono ?_
  rintro e w5 ⟨rfl, rfl⟩
  go_wp2_with fail
  refine (implCodeBetween_any a0 a1 _).mono ?_
  rintro e w6 ⟨A6, n6, c6, rfl, _, r6, b6⟩
  have b14 : Below w1.heap.size w1 w4 := (below_drewN_ b2 q3).trans b4
  go_wp2_with fail
  refine (eqIntS_any A6 A1 n6 n1 c6 c1 _ _ _ r6.rd ((r1.rd.below b14).below b6)).mono ?_
  rintro e w7 ⟨rfl, q7, rfl⟩
  go_wp2_with fail
  refine (heldIntS_any A2 n2 c2 _ 1 _ ((r4.rd.below b6).drewN q7) (by omega) (by omega)).mono ?_
  rintro e w8 ⟨rfl, rfl⟩
  go_wp2
  go_ret
  exact ⟨rfl, below_drewN_ (below_step (below_step b1 b14) b6) q7⟩
end Go.Proofs.Ytkjjdpooahdicaa

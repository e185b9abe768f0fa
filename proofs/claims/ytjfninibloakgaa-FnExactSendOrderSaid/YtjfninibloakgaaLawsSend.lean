/-
  The walk of the law FnExactSendOrder.
-/
import Derived.Test.YtjfninibloakgaaSend
import Derived.Test.YtjfninibloakgaaSame
import Derived.Test.YtjfninibloakgaaMark2
namespace Go.Proofs.Ytjfninibloakgaa
open Go.RowKit

set_option maxHeartbeats 800000 in
theorem walk_FnExactSendOrder (a0 : Option Addr) (len0 cap0 : Nat) (z0 : List Int) (w : World) (w0 : IsRow .i64 w a0 len0 cap0 z0) :
    Calls Try.prog 6 #[.slice a0 len0 cap0] w fun e w' => e = .returned (.bool true) ∧ Below w.heap.size w w' := by
  by_cases hlen : 1048576 < len0
  · go_enter Try.func6, Try.ntmps6
    go_wp2
    go_ret
    exact ⟨rfl, Below.refl _ _⟩
  · have hr := w0.rd (by omega)
    generalize z0.take len0 = xs at hr
    have hs := sameB_refl xs
    have hs' := sameB_refl (send xs)
    go_enter Try.func6, Try.ntmps6
    go_wp2_with fail
    refine (toIntS_any a0 len0 cap0 xs _ hr).mono ?_
    rintro e w1 ⟨rfl, r1, b1⟩
    go_wp2_with fail
    refine (specSendOrder_any _ _ _ xs _ r1.rd (by omega)).mono ?_
    rintro e w2 ⟨A2, n2, c2, rfl, _, r2, b2⟩
    have b12 := below_step b1 b2
    go_wp2_with fail
    refine (toIntS_new a0 len0 cap0 xs _ (hr.below b12)).mono ?_
    rintro e w3 ⟨rfl, r3, b3, hz3⟩
    have b13 := below_step b12 b3
    go_wp2_with fail
    refine (implSendOrder_any _ _ _ xs _ r3.rd (Nat.le_refl _)).mono ?_
    rintro e w4 ⟨A4, n4, c4, rfl, _, r4, b4⟩
    have hl4 := r4.le
    have hs2 := b12.size
    have hs3 := b3.size
    have hs4 := b4.size
    have b24 : Below w2.heap.size w2 w4 := below_step b3 b4
    go_wp2_with fail
    refine (eqIntS_any A4 A2 n4 n2 c4 c2 _ _ _ r4.rd (r2.rd.below b24)).mono ?_
    rintro e w5 ⟨rfl, q5, rfl⟩
    have b25 : Below w2.heap.size w2 (w4.drewN q5) := below_drewN_ b24 q5
    go_wp2_with fail
    refine (toIntS_any a0 len0 cap0 xs _ (hr.below (below_step b12 b25))).mono ?_
    rintro e w6 ⟨rfl, r6, b6⟩
    have b6' : Below w4.heap.size w4 w6 := below_step (below_drewN_ (Below.refl w4.heap.size w4) q5) b6
    have b26 := below_step b24 b6'
    go_wp2_with fail
    refine (eqIntS_any _ _ _ _ _ _ xs xs _ ((r3.rd.below b4).below b6') r6.rd).mono ?_
    rintro e w7 ⟨rfl, q7, rfl⟩
    have r3' := ((r3.below b4).below b6').drewN q7
    have r4' := (r4.below b6').drewN q7
    have hs6 := b6'.size
    go_wp2_with fail
    refine (markIntS_at _ 0 _ _ _ xs 1 _ r3' (by omega) (by omega)).mono ?_
    rintro e w8 ⟨rfl, g8⟩
    have r48 := r4'.grown_ge (by omega) g8
    have b28 : Below w2.heap.size w2 w8 := (below_drewN_ b26 q7).trans (below_grown g8 (Nat.le_refl _) (by show w2.heap.size ≤ w6.heap.size; omega))
    have hs8 : w6.heap.size ≤ w8.heap.size := g8.size
    clear r3' r4' g8 r6 b6 b6' r4 r3
    go_wp2_with fail
    refine (eqIntS_any A4 A2 n4 n2 c4 c2 _ _ _ r48.rd (r2.rd.below b28)).mono ?_
    rintro e w9 ⟨rfl, q9, rfl⟩
    go_wp2_with fail
    refine (markIntS_any A4 n4 c4 w3.heap.size _ 1 _ (r48.drewN q9) (by omega) (by omega)).mono ?_
    rintro e w10 ⟨rfl, r10, b10, hs10⟩
    have HS10 := Lib.hid hs10
    have b210 : Below w2.heap.size w2 w10 := (below_drewN_ b28 q9).trans (b10.mono (by omega))
    clear hs10 r48
    go_wp2_with fail
    refine (heldIntS_any A4 n4 c4 _ 1 _ r10.rd (by omega) (by omega)).mono ?_
    rintro e w11 ⟨rfl, rfl⟩
    go_wp2_with fail
    refine (toIntS_any a0 len0 cap0 xs _ (hr.below (below_step b12 b210))).mono ?_
    rintro e w11 ⟨rfl, r11, b11⟩
    go_wp2_with fail
    refine (implSendOrder_any _ _ _ xs _ r11.rd (Nat.le_refl _)).mono ?_
    rintro e w12 ⟨A12, n12, c12, rfl, _, r12, b12'⟩
    have b212 := below_step (below_step b210 b11) b12'
    go_wp2_with fail
    refine (eqIntS_any A12 A2 n12 n2 c12 c2 _ _ _ r12.rd (r2.rd.below b212)).mono ?_
    rintro e w13 ⟨rfl, q13, rfl⟩
    go_wp2_with fail
    refine (heldIntS_any A4 n4 c4 _ 1 _ (((r10.rd.below b11).below b12').drewN q13) (by omega) (by omega)).mono ?_
    rintro e w14 ⟨rfl, rfl⟩
    go_wp2
    go_ret
    exact ⟨rfl, below_drewN_ (below_step b12 b212) q13⟩
end Go.Proofs.Ytjfninibloakgaa

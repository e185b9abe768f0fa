/-
  The walk of the law FnExactRingAll.
-/
import Derived.Test.YtjhnpnmpnmmpbaaRingMark
namespace Go.Proofs.Ytjhnpnmpnmmpbaa
open Go.RowKit

set_option maxHeartbeats 3200000 in
set_option maxRecDepth 100000 in
theorem walk_FnExactRingAll (a0 : Option Addr) (len0 cap0 : Nat) (z0 : List Int) (w : World) (w0 : IsRow .i64 w a0 len0 cap0 z0) :
    Calls Try.prog 6 #[.slice a0 len0 cap0] w fun e w' => e = .returned (.bool true) ∧ Below w.heap.size w w' := by
  by_cases hlen : 1048576 < len0
  · go_enter Try.func6, Try.ntmps6
    go_wp2
    go_ret
    exact ⟨rfl, Below.refl _ _⟩
  · have hr := w0.rd (by omega)
    generalize z0.take len0 = xs at hr
    have hs := sameB_refl xs
    have hs' := sameB_refl (allTo xs xs.length).2
    generalize hgf : (allTo xs xs.length).1 = f at *
    generalize hgl : (allTo xs xs.length).2 = ys at *
    have HG := Lib.hid (And.intro hgf hgl)
    clear hgf hgl
    go_enter Try.func6, Try.ntmps6
    go_wp2_with fail
    refine (toIntS_any a0 len0 cap0 xs _ hr).mono ?_
    rintro e w1 ⟨rfl, r1, b1⟩
    go_wp2_with fail
    refine (specRingAll_any _ _ _ xs _ r1.rd).mono ?_
    rintro e w2 ⟨A2, n2, c2, rfl, _, r2, b2⟩
    rw [HG.out.1]
    rw [HG.out.2] at r2
    have b02 : Below w.heap.size w (w2.alloc (ringBox f A2 n2 c2)) := (below_step b1 b2).alloc (below_step b1 b2).size _
    have hx3 := Bx.new w2 27 f A2 n2 c2
    have hr3 := hr.below b02
    have r23 := r2.rd.alloc (ringBox f A2 n2 c2)
    obtain ⟨wa, hwa⟩ : ∃ wa, wa = w2.alloc (ringBox f A2 n2 c2) := ⟨_, rfl⟩
    have hza : w2.heap.size < wa.heap.size := by rw [hwa]; simp
    go_wp2_with fail
    rw [← hwa] at b02 hx3 hr3 r23 ⊢
    clear hwa r1 r2 b1 b2
    refine (toIntS_new a0 len0 cap0 xs _ hr3).mono ?_
    rintro e w3 ⟨rfl, r3, b3, hz3⟩
    go_wp2_with fail
    refine (implRingAll_any _ _ _ xs _ r3.rd).mono ?_
    rintro e w4 ⟨A4, n4, c4, rfl, _, r4, b4⟩
    rw [HG.out.1]
    rw [HG.out.2] at r4
    have hl4 := r4.le
    have hah := r4.ahead
    have hx5 := Bx.new w4 27 f A4 n4 c4
    have b34 := below_step b3 b4
    have bab : Below wa.heap.size wa (w4.alloc (ringBox f A4 n4 c4)) := b34.alloc b34.size _
    have r3b := (r3.below b4).alloc (ringBox f A4 n4 c4)
    have r4b := r4.alloc (ringBox f A4 n4 c4)
    have hz4 : w3.heap.size ≤ w4.heap.size := b4.size
    have hc0 := hx5.c0
    have hc1 := hx5.c1
    have hy3 := hx3.below bab
    have hd0 := hy3.c0
    have hd1 := hy3.c1
    go_wp2_with fail
    clear hc0 hc1 hd0 hd1 hy3
    obtain ⟨wb, hwb⟩ : ∃ wb, wb = w4.alloc (ringBox f A4 n4 c4) := ⟨_, rfl⟩
    have hzb : w4.heap.size < wb.heap.size := by rw [hwb]; simp
    rw [← hwb] at hx5 bab r3b r4b ⊢
    clear hwb r3 r4 b3 b4 b34
    refine (eqRing_any f f _ _ _ _ _ _ ys ys _ r4b.rd (r23.below bab) rfl hs').mono ?_
    rintro e w5 ⟨rfl, b5⟩
    have ba5 := below_step bab b5
    go_wp2_with fail
    refine (toIntS_any a0 len0 cap0 xs _ (hr3.below ba5)).mono ?_
    rintro e w6 ⟨rfl, r6, b6⟩
    have bb6 := below_step b5 b6
    go_wp2_with fail
    refine (eqIntS_any _ _ _ _ _ _ xs xs _ (r3b.rd.below bb6) r6.rd).mono ?_
    rintro e w7 ⟨rfl, q7, rfl⟩
    have bb7 : Below wb.heap.size wb (w6.drewN q7) := below_drewN_ bb6 q7
    clear r6
    obtain ⟨w7, hw7⟩ : ∃ w7, w7 = w6.drewN q7 := ⟨_, rfl⟩
    rw [← hw7] at bb7
    have hz7 := bb7.size
    go_wp2_with fail
    rw [← hw7]
    clear hw7 b5 b6 bb6 ba5
    have hx57 := hx5.below bb7
    have r37 := r3b.below bb7
    have r47 := r4b.below bb7
    have ba7 := below_step bab bb7
    clear hx5 r3b r4b bb7 bab
    refine (markIntS_at _ 0 _ _ _ xs 1 _ r37 (by omega) (by omega)).mono ?_
    rintro e w8 ⟨rfl, g8⟩
    have hz8 : w7.heap.size ≤ w8.heap.size := g8.size
    have ba8 : Below wa.heap.size wa w8 := ba7.trans (below_grown g8 (Nat.le_refl _) (by omega))
    have hx58 := hx57.grown g8 (by omega)
    have r48 := r47.grown_ge (by omega) g8
    have hx38 := hx3.below ba8
    have hc0 := hx58.c0
    have hc1 := hx58.c1
    have hd0 := hx38.c0
    have hd1 := hx38.c1
    clear g8 r37 r47 hx57 ba7
    go_wp2_with fail
    refine (eqRing_any f f _ _ _ _ _ _ ys ys _ r48.rd (r23.below ba8) rfl hs').mono ?_
    rintro e w9 ⟨rfl, b9⟩
    have hx59 := hx58.below b9
    have r49 := r48.below b9
    have ba9 := below_step ba8 b9
    have hz9 := b9.size
    clear hc0 hc1 hd0 hd1 hx38 hx58 r48 ba8 b9
    have hc0 := hx59.c0
    have hc1 := hx59.c1
    go_wp2_with fail
    refine (markRing_in f A4 n4 c4 _ w4.heap.size ys 1 _ r49 hah (by omega) (by omega)).mono ?_
    rintro e w10 ⟨rfl, r410, m10⟩
    have hx510 := hx59.mid m10 (.inr (Nat.le_refl _))
    have ba10 : Below wa.heap.size wa w10 := ba9.trans (m10.below (by omega) (by omega))
    clear hc0 hc1 hx59 r49 ba9 m10
    have hc0 := hx510.c0
    have hc1 := hx510.c1
    go_wp2_with fail
    refine (heldRing_any f A4 n4 c4 ys 1 _ r410.rd (by omega) (by omega)).mono ?_
    rintro e w11 ⟨rfl, b11⟩
    have ba11 := below_step ba10 b11
    have hd2 : decide ((1 : Int) + (n4 : Int) < 0) = false := by simp; omega
    clear hc0 hc1
    go_wp2_with fail
    refine (toIntS_any a0 len0 cap0 xs _ (hr3.below ba11)).mono ?_
    rintro e w12 ⟨rfl, r12, b12⟩
    go_wp2_with fail
    refine (implRingAll_any _ _ _ xs _ r12.rd).mono ?_
    rintro e w13 ⟨A13, n13, c13, rfl, _, r13, b13⟩
    rw [HG.out.1]
    rw [HG.out.2] at r13
    have b1013 := below_step (below_step b11 b12) b13
    have b1014 : Below w10.heap.size w10 (w13.alloc (ringBox f A13 n13 c13)) := b1013.alloc b1013.size _
    have hx14 := Bx.new w13 27 f A13 n13 c13
    have r14 := r13.alloc (ringBox f A13 n13 c13)
    have ba14 := below_step ba10 b1014
    have hc0 := hx14.c0
    have hc1 := hx14.c1
    have hx314 := hx3.below ba14
    have hd0 := hx314.c0
    have hd1 := hx314.c1
    go_wp2_with fail
    clear hc0 hc1 hd0 hd1
    clear r12 r13 b11 b12 b13 b1013 ba11
    refine (eqRing_any f f _ _ _ _ _ _ ys ys _ r14.rd (r23.below ba14) rfl hs').mono ?_
    rintro e w15 ⟨rfl, b15⟩
    have b1015 := below_step b1014 b15
    have hx515 := hx510.below b1015
    have hc0 := hx515.c0
    have hc1 := hx515.c1
    go_wp2_with fail
    refine (heldRing_any f A4 n4 c4 ys 1 _ (r410.rd.below b1015) (by omega) (by omega)).mono ?_
    rintro e w16 ⟨rfl, b16⟩
    have ba16 := below_step (below_step ba10 b1015) b16
    clear hc0 hc1
    go_wp2_with fail
    go_ret
    exact ⟨rfl, below_step b02 ba16⟩
end Go.Proofs.Ytjhnpnmpnmmpbaa

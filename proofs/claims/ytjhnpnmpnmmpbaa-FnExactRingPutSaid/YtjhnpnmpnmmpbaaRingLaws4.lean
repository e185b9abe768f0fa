/-
  The walk of the law FnExactRingPut.
-/
import Derived.Test.YtjhnpnmpnmmpbaaRingMark
namespace Go.Proofs.Ytjhnpnmpnmmpbaa
open Go.RowKit

set_option maxHeartbeats 6400000 in
set_option maxRecDepth 100000 in
theorem walk_FnExactRingPut (f : Int) (a0 : Option Addr) (len0 cap0 : Nat) (z0 : List Int) (m : Int) (w : World) (_u0 : (Lit.int .i64 f).wf = true) (w0 : IsRow .i64 w a0 len0 cap0 z0) (_w1' : (Lit.int .i64 m).wf = true) :
    Calls Try.prog 7 #[.agg #[.int .i64 f, .slice a0 len0 cap0], .int .i64 m] w fun e w' => e = .returned (.bool true) ∧ Below w.heap.size w w' := by
  have hb0 := below_box w (.cells #[.int .i64 f, .slice a0 len0 cap0] 24)
  have hx0 := Bx.new w 24 f a0 len0 cap0
  by_cases hlen : 1048576 < len0
  · have hl := w0.len_le
    go_enter Try.func7, Try.ntmps7
    go_wp2_with fail
    refine (szRing_no f a0 len0 cap0 _ (by omega) hlen).mono ?_
    rintro e w1 ⟨rfl, b1⟩
    clear hl
    go_wp2_with fail
    go_ret
    exact ⟨rfl, below_step hb0 b1⟩
  · have hr := w0.rd (by omega)
    generalize z0.take len0 = xs at hr
    have hs := sameB_refl xs
    have hs' := sameB_refl (putL f xs m)
    have hself : (putB f xs m != putB f xs m) = false := by simp
    have hself2 : (putB f xs m == putB f xs m) = true := by simp
    have hd : decide ((1048576 : Int) - (len0 : Int) < 0) = false := by simp; omega
    generalize hgf : putF f xs m = fy at *
    generalize hgl : putL f xs m = ys at *
    generalize hgb : putB f xs m = b at *
    have HG := Lib.hid (And.intro hgf (And.intro hgl hgb))
    clear hgf hgl hgb
    go_enter Try.func7, Try.ntmps7
    go_wp2_with fail
    refine (szRing_yes f a0 len0 cap0 _ (by omega)).mono ?_
    rintro e w1 ⟨rfl, b1⟩
    have b01 := below_step hb0 b1
    have hx1 := hx0.below b1
    have hc0 := hx1.c0
    have hc1 := hx1.c1
    go_wp2_with fail
    refine (toRing_any f a0 len0 cap0 xs _ (hr.below b01)).mono ?_
    rintro e w2 ⟨g2, rfl, _, _, r2, b2⟩
    have b02 := below_step b01 b2
    clear hc0 hc1
    go_wp2_with fail
    refine (specRingPut_any f _ len0 len0 xs m _ r2.rd).mono ?_
    rintro e w3 ⟨A3, n3, c3, rfl, _, r3, b3⟩
    rw [HG.out.1, HG.out.2.2]
    rw [HG.out.2.1] at r3
    have b03 := below_step b02 b3
    have ba : Below w.heap.size w (w3.alloc (ringBox fy A3 n3 c3)) := b03.alloc b03.size _
    have hx3 := ((hx1.below b2).below b3).alloc (ringBox fy A3 n3 c3)
    have hy3 := Bx.new w3 27 fy A3 n3 c3
    have r3a := r3.rd.alloc (ringBox fy A3 n3 c3)
    have hra := hr.below ba
    have hc0 := hx3.c0
    have hc1 := hx3.c1
    go_wp2_with fail
    clear hc0 hc1
    obtain ⟨wa, hwa⟩ : ∃ wa, wa = w3.alloc (ringBox fy A3 n3 c3) := ⟨_, rfl⟩
    have hza : w3.heap.size < wa.heap.size := by rw [hwa]; simp
    have hzx : w.heap.size < w3.heap.size := Nat.lt_of_lt_of_le hx1.lt (below_step b2 b3).size
    rw [← hwa] at ba hx3 hy3 r3a hra ⊢
    clear hwa r2 r3 b2 b3 b02 b03 b1 b01 hb0 hx0 hx1
    refine (toRing_any f a0 len0 cap0 xs _ hra).mono ?_
    rintro e w4 ⟨g4, rfl, hg4a, hg4b, r4, b4⟩
    have r5 := r4.alloc (ringBox f (some ⟨g4, 0, none⟩) len0 len0)
    have ba5 : Below wa.heap.size wa (w4.alloc (ringBox f (some ⟨g4, 0, none⟩) len0 len0)) := b4.alloc b4.size _
    have hv5 := Bx.new w4 27 f (some ⟨g4, 0, none⟩) len0 len0
    have hc0 := hv5.c0
    have hc1 := hv5.c1
    go_wp2_with fail
    clear hc0 hc1
    obtain ⟨wb, hwb⟩ : ∃ wb, wb = w4.alloc (ringBox f (some ⟨g4, 0, none⟩) len0 len0) := ⟨_, rfl⟩
    have hzb : w4.heap.size < wb.heap.size := by rw [hwb]; simp
    rw [← hwb] at r5 ba5 hv5 ⊢
    clear hwb r4 b4
    refine (implRingPut_any f _ len0 len0 xs m _ r5.rd).mono ?_
    rintro e w6 ⟨A6, n6, c6, rfl, _, r6, b6⟩
    rw [HG.out.1, HG.out.2.2]
    rw [HG.out.2.1] at r6
    have hl6 := r6.le
    have hah := r6.ahead
    have hw6 := Bx.new w6 27 fy A6 n6 c6
    have ba6 := below_step ba5 b6
    have ba7 : Below wa.heap.size wa (w6.alloc (ringBox fy A6 n6 c6)) := ba6.alloc ba6.size _
    have hv7 := (hv5.below b6).alloc (ringBox fy A6 n6 c6)
    have r57 := (r5.below b6).alloc (ringBox fy A6 n6 c6)
    have r67 := r6.alloc (ringBox fy A6 n6 c6)
    have hz6 := b6.size
    have hy7 := hy3.below ba7
    have hc0 := hw6.c0
    have hc1 := hw6.c1
    have hd0 := hy7.c0
    have hd1 := hy7.c1
    go_wp2_with fail
    clear hc0 hc1 hd0 hd1 hy7
    obtain ⟨wc, hwc⟩ : ∃ wc, wc = w6.alloc (ringBox fy A6 n6 c6) := ⟨_, rfl⟩
    have hzc : w6.heap.size < wc.heap.size := by rw [hwc]; simp
    rw [← hwc] at hw6 ba7 hv7 r57 r67 ⊢
    clear hwc r5 r6 b6 ba5 ba6 hv5
    refine (eqRing_any fy fy _ _ _ _ _ _ ys ys _ r67.rd (r3a.below ba7) rfl hs').mono ?_
    rintro e w8 ⟨rfl, b8⟩
    have ba8 := below_step ba7 b8
    have hv8 := hv7.below b8
    have hx8 := hx3.below ba8
    have hw8 := hw6.below b8
    have r58 := r57.below b8
    have r68 := r67.below b8
    have hz8 := b8.size
    have hra8 := hra.below ba8
    clear hv7 hw6 r57 r67 ba7 b8
    have hc0 := hx8.c0
    have hc1 := hx8.c1
    have hd0 := hv8.c0
    have hd1 := hv8.c1
    cases b
    all_goals
      go_wp2_with fail
      go_region_with (first
        | (go_at_call 15; refine (toRing_any f a0 len0 cap0 xs _ hra8.drew).mono ?_; rintro e w9 ⟨g9, rfl, _, _, r9, b9⟩; have hy9 := hv8.drew.below b9; have he0 := hy9.c0; have he1 := hy9.c1; have r59 := r58.drew.below b9)
        | (go_at_call 17; refine (eqRing_any f f _ _ len0 len0 len0 len0 xs xs _ r59.rd r9.rd rfl hs).mono ?_; rintro e w10 ⟨rfl, b10⟩))
      all_goals
        have b810 : Below w8.heap.size w8 w10 := below_step (below_step (Below.drew (Below.refl w8.heap.size w8)) b9) b10
        have hv10 := hv8.below b810
        have hw10 := hw8.below b810
        have r510 := r58.below b810
        have r610 := r68.below b810
        have ba10 := below_step ba8 b810
        have hz10 := b810.size
        clear hc0 hc1 hd0 hd1 he0 he1 b9 b10 b810 r9 r59 hy9
        have hd0 := hv10.c0
        have hd1 := hv10.c1
        go_wp2_with fail
        refine (markRing_at f g4 len0 len0 g4 xs 1 _ r510 (by omega) (by omega)).mono ?_
        rintro e w11 ⟨rfl, g11⟩
        have hz11 : w10.heap.size ≤ w11.heap.size := by have := g11.size; simp at this; omega
        have hw11 := (hw10.alloc (ringBox f (some ⟨g4, 0, none⟩) len0 len0)).grown g11 (by omega)
        have r611 := (r610.alloc (ringBox f (some ⟨g4, 0, none⟩) len0 len0)).grown_ge (by omega) g11
        have ba11 : Below wa.heap.size wa w11 := (ba10.alloc (by omega) _).trans (below_grown g11 hg4a (by simp; omega))
        have hk0 : decide ((1 : Int) + (len0 : Int) < 0) = false := by simp; omega
        have hy11 := hy3.below ba11
        clear hd0 hd1 g11 r510 r610 hv10 hw10
        have hc0 := hw11.c0
        have hc1 := hw11.c1
        have hd0 := hy11.c0
        have hd1 := hy11.c1
        go_wp2_with fail
        refine (eqRing_any fy fy _ _ _ _ _ _ ys ys _ r611.rd (r3a.below ba11) rfl hs').mono ?_
        rintro e w12 ⟨rfl, b12⟩
        have ba12 := below_step ba11 b12
        have hw12 := hw11.below b12
        have r612 := r611.below b12
        have hz12 := b12.size
        clear hc0 hc1 hd0 hd1 hw11 r611 b12 hk0
        have hc0 := hw12.c0
        have hc1 := hw12.c1
        go_wp2_with fail
        refine (markRing_in fy A6 n6 c6 _ w6.heap.size ys 1 _ r612 hah (by omega) (by omega)).mono ?_
        rintro e w13 ⟨rfl, r613, m13⟩
        have hw13 := hw12.mid m13 (.inr (Nat.le_refl _))
        have ba13 : Below wa.heap.size wa w13 := ba12.trans (m13.below (by omega) (by omega))
        clear hc0 hc1 hw12 r612 ba12 m13
        have hc0 := hw13.c0
        have hc1 := hw13.c1
        go_wp2_with fail
        refine (heldRing_any fy A6 n6 c6 ys 1 _ r613.rd (by omega) (by omega)).mono ?_
        rintro e w14 ⟨rfl, b14⟩
        have ba14 := below_step ba13 b14
        have hx14 := hx3.below ba14
        have hd2 : decide ((1 : Int) + (n6 : Int) < 0) = false := by simp; omega
        clear hc0 hc1
        have hc0 := hx14.c0
        have hc1 := hx14.c1
        go_wp2_with fail
        refine (toRing_any f a0 len0 cap0 xs _ (hra.below ba14)).mono ?_
        rintro e w15 ⟨g15, rfl, _, _, r15, b15⟩
        clear hc0 hc1
        go_wp2_with fail
        refine (implRingPut_any f _ len0 len0 xs m _ r15.rd).mono ?_
        rintro e w16 ⟨A16, n16, c16, rfl, _, r16, b16⟩
        rw [HG.out.1, HG.out.2.2]
        rw [HG.out.2.1] at r16
        have b1316 := below_step (below_step b14 b15) b16
        have b1317 : Below w13.heap.size w13 (w16.alloc (ringBox fy A16 n16 c16)) := b1316.alloc b1316.size _
        have hu17 := Bx.new w16 27 fy A16 n16 c16
        have r17 := r16.alloc (ringBox fy A16 n16 c16)
        have ba17 := below_step ba13 b1317
        have hy17 := hy3.below ba17
        have hc0 := hu17.c0
        have hc1 := hu17.c1
        have hd0 := hy17.c0
        have hd1 := hy17.c1
        go_wp2_with fail
        clear hc0 hc1 hd0 hd1 b14 b15 b16 b1316 r15 r16 ba14 hx14
        refine (eqRing_any fy fy _ _ _ _ _ _ ys ys _ r17.rd (r3a.below ba17) rfl hs').mono ?_
        rintro e w18 ⟨rfl, b18⟩
        have b1318 := below_step b1317 b18
        have hw18 := hw13.below b1318
        have hc0 := hw18.c0
        have hc1 := hw18.c1
        go_wp2_with fail
        refine (heldRing_any fy A6 n6 c6 ys 1 _ (r613.rd.below b1318) (by omega) (by omega)).mono ?_
        rintro e w19 ⟨rfl, b19⟩
        have ba19 := below_step (below_step ba13 b1318) b19
        clear hc0 hc1
        go_wp2_with fail
        go_ret
        exact ⟨rfl, below_step ba ba19⟩
end Go.Proofs.Ytjhnpnmpnmmpbaa

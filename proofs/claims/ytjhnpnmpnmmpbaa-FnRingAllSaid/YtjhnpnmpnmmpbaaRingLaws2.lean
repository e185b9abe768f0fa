/-
  The walk of the law FnExactRingRead.
-/
import Derived.Test.YtjhnpnmpnmmpbaaRingRead
namespace Go.Proofs.Ytjhnpnmpnmmpbaa
open Go.RowKit

theorem markRing_at (f : Int) (g n c lo : Nat) (xs : List Int) (k : Int) (w : World) (h : Row w lo (some ⟨g, 0, none⟩) n xs) (h0 : 0 ≤ k) (h1 : k ≤ 4194304) :
    Calls Try.prog 23 #[.agg #[.int .i64 f, .slice (some ⟨g, 0, none⟩) n c], .int .i64 k] w fun e w' => e = .returned (.int .i64 (k + n)) ∧ (w.alloc (ringBox f (some ⟨g, 0, none⟩) n c)).grownBy w' (some g) := by
  have hn := h.le
  have hr := h.alloc (ringBox f (some ⟨g, 0, none⟩) n c)
  go_enter Try.func23, Try.ntmps23
  go_wp2_with fail
  refine (markIntS_at g 0 n c lo xs k _ hr h0 h1).mono ?_
  rintro e w1 ⟨rfl, hg⟩
  go_wp2_with fail
  go_ret
  exact ⟨rfl, hg⟩
theorem wf_i64 {m : Int} (h : (Lit.int .i64 m).wf = true) : -9223372036854775808 ≤ m ∧ m ≤ 9223372036854775807 := by
  simpa [Lit.wf, IntKind.min, IntKind.max, IntKind.signed, IntKind.bits] using h

set_option maxHeartbeats 3200000 in
set_option maxRecDepth 100000 in
theorem walk_FnExactRingRead (f : Int) (a0 : Option Addr) (len0 cap0 : Nat) (z0 : List Int) (m : Int) (w : World) (_u0 : (Lit.int .i64 f).wf = true) (w0 : IsRow .i64 w a0 len0 cap0 z0) (w1' : (Lit.int .i64 m).wf = true) :
    Calls Try.prog 5 #[.agg #[.int .i64 f, .slice a0 len0 cap0], .int .i64 m] w fun e w' => e = .returned (.bool true) ∧ Below w.heap.size w w' := by
  have hb0 := below_box w (.cells #[.int .i64 f, .slice a0 len0 cap0] 24)
  have hx0 := Bx.new w 24 f a0 len0 cap0
  by_cases hlen : 1048576 < len0
  · have hl := w0.len_le
    go_enter Try.func5, Try.ntmps5
    go_wp2_with fail
    refine (szRing_no f a0 len0 cap0 _ (by omega) hlen).mono ?_
    rintro e w1 ⟨rfl, b1⟩
    clear hl
    go_wp2_with fail
    go_ret
    exact ⟨rfl, below_step hb0 b1⟩
  · have hr := w0.rd (by omega)
    obtain ⟨hm1, hm2⟩ := wf_i64 w1'
    have HM := Lib.hid (⟨hm1, hm2⟩ : -9223372036854775808 ≤ m ∧ m ≤ 9223372036854775807)
    clear hm1 hm2 w1'
    generalize z0.take len0 = xs at hr
    have hs := sameB_refl xs
    have hs' := sameB_refl (readL f xs m)
    have hself : (readZ f xs m != readZ f xs m) = false := by simp
    have hd : decide ((1048576 : Int) - (len0 : Int) < 0) = false := by simp; omega
    go_enter Try.func5, Try.ntmps5
    go_wp2_with fail
    refine (szRing_yes f a0 len0 cap0 _ (by omega)).mono ?_
    rintro e w1 ⟨rfl, b1⟩
    have b01 := below_step hb0 b1
    have hx1 := hx0.below b1
    have hc0 := hx1.c0
    have hc1 := hx1.c1
    go_wp2_with fail
    refine (toRing_any f a0 len0 cap0 xs _ (hr.below b01)).mono ?_
    rintro e w2 ⟨g2, rfl, _, _, r2, b2⟩
    have b02 := below_step b01 b2
    go_wp2_with fail
    refine (specRingRead_any f _ len0 len0 xs m _ r2.rd (Nat.le_refl _)).mono ?_
    rintro e w3 ⟨A3, n3, c3, rfl, _, r3, b3⟩
    have b03 := below_step b02 b3
    have hx3 := (hx1.below b2).below b3
    clear hc0 hc1
    have hc0 := hx3.c0
    have hc1 := hx3.c1
    go_wp2_with fail
    refine (toRing_any f a0 len0 cap0 xs _ (hr.below b03)).mono ?_
    rintro e w4 ⟨g4, rfl, hg4a, hg4b, r4, b4⟩
    have b04 := below_step b03 b4
    have b05 : Below w.heap.size w (w4.alloc (ringBox f (some ⟨g4, 0, none⟩) len0 len0)) := b04.alloc b04.size _
    have hx4 := hx3.below b4
    have hy4 := Bx.new w4 27 f (some ⟨g4, 0, none⟩) len0 len0
    have r5 := r4.alloc (ringBox f (some ⟨g4, 0, none⟩) len0 len0)
    have b45 := below_new w4 (ringBox f (some ⟨g4, 0, none⟩) len0 len0)
    go_wp2_with fail
    refine (implRingRead_any f _ len0 len0 xs m _ r5.rd (Nat.le_refl _) (fun h => by cases h) HM.out.1 HM.out.2).mono ?_
    rintro e w6 ⟨A6, n6, c6, rfl, _, r6, b6⟩
    have hl6 := r6.le
    have b06 := below_step b05 b6
    have b36 : Below w3.heap.size w3 w6 := below_step (below_step b4 b45) b6
    have hx6 := (hx4.alloc (ringBox f (some ⟨g4, 0, none⟩) len0 len0)).below b6
    have hy6 := hy4.below b6
    have r56 := r5.below b6
    clear hc0 hc1
    go_wp2_with fail
    refine (eqIntS_any A6 A3 n6 n3 c6 c3 _ _ _ r6.rd (r3.rd.below b36)).mono ?_
    rintro e w7 ⟨rfl, q7, rfl⟩
    have hx7 := hx6.drewN q7
    have hy7 := hy6.drewN q7
    have r57 := r56.drewN q7
    have r67 := r6.drewN q7
    have b37 : Below w3.heap.size w3 (w6.drewN q7) := below_drewN_ b36 q7
    have b07 : Below w.heap.size w (w6.drewN q7) := below_drewN_ b06 q7
    have hz7 : w4.heap.size < (w6.drewN q7).heap.size := hy7.lt
    obtain ⟨w8, hw8⟩ : ∃ w8 : World, w8 = w6.drewN q7 := ⟨_, rfl⟩
    rw [← hw8] at hx7 hy7 r57 r67 b37 b07 hz7
    rw [← hw8]
    clear hw8 r6 r56 hx6 hy6
    have hc0 := hx7.c0
    have hc1 := hx7.c1
    have hd0 := hy7.c0
    have hd1 := hy7.c1
    have hr7 := hr.below b07
    go_wp2_with fail
    go_region_with (first
      | (go_at_call 15; refine (toRing_any f a0 len0 cap0 xs _ hr7.drew).mono ?_; rintro e w9 ⟨g9, rfl, _, _, r9, b9⟩; have hy9 := hy7.drew.below b9; have he0 := hy9.c0; have he1 := hy9.c1; have r59 := r57.drew.below b9)
      | (go_at_call 17; refine (eqRing_any f f _ _ len0 len0 len0 len0 xs xs _ r59.rd r9.rd rfl hs).mono ?_; rintro e w10 ⟨rfl, b10⟩))
    all_goals
      have b810 : Below w8.heap.size w8 w10 := below_step (below_step (Below.drew (Below.refl w8.heap.size w8)) b9) b10
      have hx10 := hx7.below b810
      have hy10 := hy7.below b810
      have r510 := r57.below b810
      have r610 := r67.below b810
      have b310 := below_step b37 b810
      have b010 := below_step b07 b810
      have hz10 := b810.size
      clear hc0 hc1 hd0 hd1
      have hd0 := hy10.c0
      have hd1 := hy10.c1
      go_wp2_with fail
      refine (markRing_at f g4 len0 len0 g4 xs 1 _ r510 (by omega) (by omega)).mono ?_
      rintro e w11 ⟨rfl, g11⟩
      have hlt0 := hx0.lt
      have hs1 := b1.size
      have hs2 := b2.size
      have hs3 := b3.size
      have hz11 := g11.size
      have hx11 := (hx10.alloc (ringBox f (some ⟨g4, 0, none⟩) len0 len0)).grown g11 (by have := hx3.lt; omega)
      have r611 := (r610.alloc (ringBox f (some ⟨g4, 0, none⟩) len0 len0)).grown_ge (by simp; omega) g11
      have hs310 := b310.size
      have b311 : Below w3.heap.size w3 w11 := (b310.alloc hs310 _).trans (below_grown g11 hg4a (by simp; omega))
      have b011 : Below w.heap.size w w11 := below_next b03 b03.size b311
      have hk0 : decide ((1 : Int) + (len0 : Int) < 0) = false := by simp; omega
      clear hd0 hd1 g11 r510 r610 hx10 hy10
      go_wp2_with fail
      refine (eqIntS_any A6 A3 n6 n3 c6 c3 _ _ _ r611.rd (r3.rd.below b311)).mono ?_
      rintro e w12 ⟨rfl, q12, rfl⟩
      go_wp2_with fail
      refine (markIntS_any A6 n6 c6 _ _ 1 _ (r611.drewN q12) (by omega) (by omega)).mono ?_
      rintro e w13 ⟨rfl, r13, b13, hs13⟩
      have HS13 := Lib.hid hs13
      clear hs13
      have b313 : Below w3.heap.size w3 w13 := (below_drewN_ b311 q12).trans (b13.mono (by have h1 := b4.size; have h2 := hg4b; simp; omega))
      have b013 : Below w.heap.size w w13 := below_next b03 b03.size b313
      have hx13 : Bx w13 w.heap.size 24 f a0 len0 cap0 := (b13.block w.heap.size (by have := hx3.lt; simp; omega)).trans hx11
      go_wp2_with fail
      refine (heldIntS_any A6 n6 c6 _ 1 _ r13.rd (by omega) (by omega)).mono ?_
      rintro e w14 ⟨rfl, rfl⟩
      have he0 := hx13.c0
      have he1 := hx13.c1
      have hk1 : decide ((1 : Int) + (n6 : Int) < 0) = false := by simp; omega
      go_wp2_with fail
      refine (toRing_any f a0 len0 cap0 xs _ (hr.below b013)).mono ?_
      rintro e w15 ⟨g15, rfl, _, _, r15, b15⟩
      go_wp2_with fail
      refine (implRingRead_any f _ len0 len0 xs m _ r15.rd (Nat.le_refl _) (fun h => by cases h) HM.out.1 HM.out.2).mono ?_
      rintro e w16 ⟨A16, n16, c16, rfl, _, r16, b16⟩
      have b1316 := below_step b15 b16
      go_wp2_with fail
      refine (eqIntS_any A16 A3 n16 n3 c16 c3 _ _ _ r16.rd (r3.rd.below (below_step b313 b1316))).mono ?_
      rintro e w17 ⟨rfl, q17, rfl⟩
      go_wp2_with fail
      refine (heldIntS_any A6 n6 c6 _ 1 _ ((r13.rd.below b1316).drewN q17) (by omega) (by omega)).mono ?_
      rintro e w18 ⟨rfl, rfl⟩
      go_wp2_with fail
      go_ret
      exact ⟨rfl, below_drewN_ (below_step b013 b1316) q17⟩
end Go.Proofs.Ytjhnpnmpnmmpbaa

/-
  The walks of the laws FnRingValid and FnRingNext.
-/
import Derived.Test.YtjhnpnmpnmmpbaaDrawRings
import Derived.Test.YtjhnpnmpnmmpbaaAlive
namespace Go.Proofs.Ytjhnpnmpnmmpbaa
open Go.RowKit

set_option maxHeartbeats 800000 in
theorem sameRing_any (f f' : Int) (A B : Option Addr) (n m c d : Nat) (xs ys : List Int) (w : World) (h : Rd w A n xs) (h' : Rd w B m ys) :
    Calls Try.prog 38 #[.agg #[.int .i64 f, .slice A n c], .agg #[.int .i64 f', .slice B m d]] w (Bool' (decide (f = f') && sameB xs ys) w) := by
  have b0 : Below w.heap.size w ((w.alloc (ringBox f A n c)).alloc (ringBox f' B m d)) := (below_box w _).alloc (by simp) _
  by_cases he : f = f'
  · subst he
    have hself : (f == f) = true := by simp
    go_enter Try.func38, Try.ntmps38
    go_wp2_with fail
    refine (sameInts_any A B n m c d xs ys _ (h.below b0) (h'.below b0)).mono ?_
    rintro e w1 ⟨rfl, q, rfl⟩
    go_wp2_with fail
    go_ret
    exact ⟨ret_bool (by simp), below_drewN_ b0 q⟩
  · have hne : (f == f') = false := by simp [he]
    have HF : Hid ((decide (f = f') && sameB xs ys) = false) := by show _ = _; simp [he]
    go_enter Try.func38, Try.ntmps38
    go_wp2_with fail
    go_ret
    exact ⟨ret_bool HF.out.symm, b0⟩
theorem sameR_true (f : Int) (xs : List Int) : (decide (f = f) && sameB xs xs) = true := by simp [sameB_refl]

set_option maxHeartbeats 3200000 in
theorem walk_FnRingValid (a0 : Option Addr) (len0 cap0 : Nat) (z0 : List Int) (w : World) (w0 : IsRow .u8 w a0 len0 cap0 z0) :
    Calls Try.prog 8 #[.slice a0 len0 cap0] w fun e w' => e = .returned (.bool true) ∧ Below w.heap.size w w' := by
  by_cases hlen : 1048576 < len0
  · go_enter Try.func8, Try.ntmps8
    go_wp2
    go_ret
    exact ⟨rfl, Below.refl _ _⟩
  · go_enter Try.func8, Try.ntmps8
    go_wp2_with fail
    refine (DrawRingValid_any a0 len0 cap0 z0 _ w0).mono ?_
    rintro e w1 ⟨f, A, n, c, xs, rfl, v1, v2, hn7, hnc, hN, rd1, b1⟩
    have HL := Lib.hid rd1.len
    have b02 : Below w.heap.size w (w1.alloc (ringBox f A n c)) := b1.alloc b1.size _
    have hx2 := Bx.new w1 27 f A n c
    have rd2 := rd1.alloc (ringBox f A n c)
    have hc0 := hx2.c0
    have hc1 := hx2.c1
    clear b1 rd1
    go_wp2_with fail
    refine (implRingValid_any f A n c xs _ rd2).mono ?_
    rintro e w3 ⟨rfl, b3⟩
    have hx3 := hx2.below b3
    have rd3 := rd2.below b3
    have b03 := below_step b02 b3
    clear hc0 hc1 hx2 rd2 b02 b3
    have hc0 := hx3.c0
    have hc1 := hx3.c1
    go_wp2_with fail
    refine (specRingValid_any f A n c xs _ rd3).mono ?_
    rintro e w4 ⟨rfl, b4⟩
    have hx4 := hx3.below b4
    have b04 := below_step b03 b4
    clear hc0 hc1 hx3 rd3 b03 b4
    have R0 := Lib.hid (show ringB 0 [] = true by decide)
    have R1 := Lib.hid (show ringB 1 [] = false by decide)
    cases hv : ringB f xs
    · go_wp2_with fail
      refine (implRingValid_any 0 none 0 0 [] _ Rd.nil_).mono ?_
      rintro e w5 ⟨rfl, b5⟩
      rw [R0.out]
      go_wp2_with fail
      refine (implRingValid_any 1 none 0 0 [] _ Rd.nil_).mono ?_
      rintro e w6 ⟨rfl, b6⟩
      rw [R1.out]
      go_wp2_with fail
      refine (alive_any _).mono ?_
      rintro e w7 ⟨rfl, b7⟩
      go_wp2_with fail
      go_ret
      exact ⟨rfl, below_step (below_step (below_step b04 b5) b6) b7⟩
    · obtain ⟨_, _, _, _, h6⟩ := ringB_true.1 hv
      rw [HL.out] at h6
      go_wp2_with fail
      refine (implRingValid_any 0 none 0 0 [] _ Rd.nil_).mono ?_
      rintro e w5 ⟨rfl, b5⟩
      rw [R0.out]
      go_wp2_with fail
      refine (implRingValid_any 1 none 0 0 [] _ Rd.nil_).mono ?_
      rintro e w6 ⟨rfl, b6⟩
      rw [R1.out]
      have hx6 := (hx4.below b5).below b6
      have hc0 := hx6.c0
      have hc1 := hx6.c1
      by_cases h0 : f = 0
      · have e0 : (f == 0) = true := by simp [h0]
        clear h0 h6
        go_wp2_with fail
        refine (alive_any _).mono ?_
        rintro e w7 ⟨rfl, b7⟩
        go_wp2_with fail
        go_ret
        exact ⟨rfl, below_step (below_step (below_step b04 b5) b6) b7⟩
      · have e0 : (f == 0) = false := by simp [h0]
        have e6 : ((n : Int) == 6) = true := by simp; omega
        clear h0 h6
        go_wp2_with fail
        refine (alive_any _).mono ?_
        rintro e w7 ⟨rfl, b7⟩
        go_wp2_with fail
        go_ret
        exact ⟨rfl, below_step (below_step (below_step b04 b5) b6) b7⟩

theorem read_zero {f : Int} {xs : List Int} (h : ringB f xs = true) : readL f xs 0 = xs ∧ readZ f xs 0 = f := by
  obtain ⟨a, b, c, _⟩ := ringB_true.1 h
  have hr : readB f xs 0 = true := readB_true.2 ⟨h, by omega, by omega⟩
  rcases Int.lt_or_le 0 f with h0 | h0
  · obtain ⟨e1, e2⟩ := read_old hr h0
    exact ⟨e1, by omega⟩
  · obtain ⟨e1, e2⟩ := read_new hr (by omega)
    obtain rfl : f = 0 := by omega
    exact ⟨by rw [e1]; rfl, e2⟩

set_option maxHeartbeats 3200000 in
theorem walk_FnRingNext (a0 : Option Addr) (len0 cap0 : Nat) (z0 : List Int) (w : World) (w0 : IsRow .u8 w a0 len0 cap0 z0) :
    Calls Try.prog 9 #[.slice a0 len0 cap0] w fun e w' => e = .returned (.bool true) ∧ Below w.heap.size w w' := by
  by_cases hlen : 1048576 < len0
  · go_enter Try.func9, Try.ntmps9
    go_wp2
    go_ret
    exact ⟨rfl, Below.refl _ _⟩
  · go_enter Try.func9, Try.ntmps9
    go_wp2_with fail
    refine (DrawRingNext_any a0 len0 cap0 z0 _ w0).mono ?_
    rintro e w1 ⟨f, A, n, c, xs, rfl, v1, v2, hn7, hnc, hN, rd1, b1⟩
    have HL := Lib.hid rd1.len
    have b02 : Below w.heap.size w (w1.alloc (ringBox f A n c)) := b1.alloc b1.size _
    have hx2 := Bx.new w1 27 f A n c
    have rd2 := rd1.alloc (ringBox f A n c)
    have hc0 := hx2.c0
    have hc1 := hx2.c1
    clear b1 rd1
    go_wp2_with fail
    refine (implRingNext_any f A n c xs _ rd2).mono ?_
    rintro e w3 ⟨rfl, b3⟩
    have hx3 := hx2.below b3
    have rd3 := rd2.below b3
    have b03 := below_step b02 b3
    clear hc0 hc1 hx2 rd2 b02 b3
    have hc0 := hx3.c0
    have hc1 := hx3.c1
    go_wp2_with fail
    refine (specRingNext_any f A n c xs _ rd3).mono ?_
    rintro e w4 ⟨rfl, b4⟩
    have hx4 := hx3.below b4
    have rd4 := rd3.below b4
    have b04 := below_step b03 b4
    have hself : (nextZ f xs != nextZ f xs) = false := by simp
    clear hc0 hc1 hx3 rd3 b03 b4
    have hc0 := hx4.c0
    have hc1 := hx4.c1
    have HNN := Lib.hid hN
    clear hN
    go_wp2_with fail
    refine (implRingRead_any f A n c xs 0 _ rd4 hnc HNN.out (by omega) (by omega)).mono ?_
    rintro e w5 ⟨A5, n5, c5, rfl, _, r5, b5⟩
    have b05 := below_step b04 b5
    have hx5 := hx4.below b5
    have rd5 := rd4.below b5
    clear hc0 hc1 hx4 rd4 b04 b5 hself
    have hc0 := hx5.c0
    have hc1 := hx5.c1
    cases hv : ringB f xs
    · obtain ⟨p1, p2⟩ := read_no (readB_no (f := f) (m := 0) (xs := xs) (by rw [hv]; simp))
      rw [p1] at r5
      have h50 : n5 = 0 := by have := r5.len; simpa using this.symm
      subst h50
      rw [nextZ_no hv, p2]
      clear p1 p2 hv
      go_wp2_with fail
      refine (alive_any _).mono ?_
      rintro e w6 ⟨rfl, b6⟩
      go_wp2_with fail
      go_ret
      exact ⟨rfl, below_step b05 b6⟩
    · obtain ⟨p1, p2⟩ := read_zero hv
      obtain ⟨a, b, _⟩ := ringB_true.1 hv
      rw [p1] at r5
      have h5n : n5 = n := by have := r5.len; rw [HL.out] at this; exact this.symm
      subst h5n
      rw [nextZ_yes hv, p2, HL.out]
      clear p1 p2 hv
      have hd : decide (f + (n5 : Int) < 0) = false := by simp; omega
      have he : ((n5 : Int) + f == f + (n5 : Int)) = true := by simp; omega
      go_wp2_with fail
      refine (sameInts_any A5 A n5 n5 c5 c xs xs _ r5.rd rd5).mono ?_
      rintro e w6 ⟨rfl, q, rfl⟩
      rw [sameB_refl]
      go_wp2_with fail
      go_ret
      exact ⟨rfl, below_drewN_ b05 q⟩
end Go.Proofs.Ytjhnpnmpnmmpbaa

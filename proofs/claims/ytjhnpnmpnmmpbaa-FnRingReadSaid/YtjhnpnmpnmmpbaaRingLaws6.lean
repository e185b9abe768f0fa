/-
  The walk of the law FnRingRead.
-/
import Derived.Test.YtjhnpnmpnmmpbaaRingLaws5
namespace Go.Proofs.Ytjhnpnmpnmmpbaa
open Go.RowKit

/-- from the number behind the lost ones on the same is read, with nothing lost -/
theorem read_again {f m : Int} {xs : List Int} (h : readB f xs m = true) : 0 ≤ readZ f xs m ∧ readZ f xs m ≤ 20000 ∧ 0 ≤ m ∧ m ≤ 20000 ∧ readL f xs (m + readZ f xs m) = readL f xs m ∧ readZ f xs (m + readZ f xs m) = 0 ∧ (readL f xs m).length + readZ f xs m = f + xs.length - m := by
  obtain ⟨hv, h0, h1⟩ := readB_true.1 h
  obtain ⟨a, b, c, _⟩ := ringB_true.1 hv
  rcases Int.lt_or_le m f with hm | hm
  · obtain ⟨e1, e2⟩ := read_old h hm
    rw [e1, e2, show m + (f - m) = f by omega]
    have hf : readB f xs f = true := readB_true.2 ⟨hv, a, by omega⟩
    obtain ⟨g1, g2⟩ := read_new hf (by omega)
    rw [g1, g2]
    exact ⟨by omega, by omega, by omega, by omega, by simp, rfl, by omega⟩
  · obtain ⟨e1, e2⟩ := read_new h (by omega)
    rw [e2, show m + 0 = m by omega]
    refine ⟨by omega, by omega, by omega, by omega, rfl, e2, ?_⟩
    rw [e1, List.length_drop]
    omega

set_option maxHeartbeats 3200000 in
theorem walk_FnRingRead (a0 : Option Addr) (len0 cap0 : Nat) (z0 : List Int) (w : World) (w0 : IsRow .u8 w a0 len0 cap0 z0) :
    Calls Try.prog 10 #[.slice a0 len0 cap0] w fun e w' => e = .returned (.bool true) ∧ Below w.heap.size w w' := by
  by_cases hlen : 1048576 < len0
  · go_enter Try.func10, Try.ntmps10
    go_wp2
    go_ret
    exact ⟨rfl, Below.refl _ _⟩
  · go_enter Try.func10, Try.ntmps10
    go_wp2_with fail
    refine (DrawRingRead_any a0 len0 cap0 z0 _ w0).mono ?_
    rintro e w1 ⟨f, A, n, c, xs, m, rfl, v1, v2, hn7, hnc, hN, hm1, hm2, rd1, b1⟩
    have HL := Lib.hid rd1.len
    have HM := Lib.hid (And.intro hm1 hm2)
    have HNN := Lib.hid hN
    have b02 : Below w.heap.size w (w1.alloc (ringBox f A n c)) := b1.alloc b1.size _
    have hx2 := Bx.new w1 27 f A n c
    have rd2 := rd1.alloc (ringBox f A n c)
    have hc0 := hx2.c0
    have hc1 := hx2.c1
    clear b1 rd1 hN hm1 hm2
    go_wp2_with fail
    refine (implRingRead_any f A n c xs m _ rd2 hnc HNN.out HM.out.1 HM.out.2).mono ?_
    rintro e w3 ⟨A3, n3, c3, rfl, _, r3, b3⟩
    have hx3 := hx2.below b3
    have rd3 := rd2.below b3
    have b03 := below_step b02 b3
    clear hc0 hc1 hx2 rd2 b02 b3
    have hc0 := hx3.c0
    have hc1 := hx3.c1
    go_wp2_with fail
    refine (specRingRead_any f A n c xs m _ rd3 hnc).mono ?_
    rintro e w4 ⟨A4, n4, c4, rfl, _, r4, b4⟩
    have hx4 := hx3.below b4
    have rd4 := rd3.below b4
    have r34 := r3.rd.below b4
    have b04 := below_step b03 b4
    have hself : (readZ f xs m != readZ f xs m) = false := by simp
    clear hc0 hc1 hx3 rd3 b03 b4 r3
    go_wp2_with fail
    refine (sameInts_any A3 A4 n3 n4 c3 c4 _ _ _ r34 r4.rd).mono ?_
    rintro e w5 ⟨rfl, q5, rfl⟩
    rw [sameB_refl]
    have hx5 := hx4.drewN q5
    have rd5 := rd4.drewN q5
    have r35 := r34.drewN q5
    have b05 : Below w.heap.size w (w4.drewN q5) := below_drewN_ b04 q5
    generalize w4.drewN q5 = wa at *
    clear hx4 rd4 r34 b04 r4
    cases hr : readB f xs m
    · obtain ⟨p1, p2⟩ := read_no hr
      rw [p1] at r35
      have h30 : n3 = 0 := by have := r35.len; simpa using this.symm
      subst h30
      rw [p2] at hself ⊢
      clear p1 p2 hr
      go_wp2_with fail
      refine (alive_any _).mono ?_
      rintro e w6 ⟨rfl, b6⟩
      go_wp2_with fail
      go_ret
      exact ⟨rfl, below_step b05 b6⟩
    · obtain ⟨p1, p1', p2, p2', p3, p4, p5⟩ := read_again hr
      have hv := (readB_true.1 hr).1
      have HNX := Lib.hid (nextZ_yes hv)
      have HP := Lib.hid (And.intro p3 p4)
      rw [r35.len, HL.out] at p5
      clear p3 p4 hr hv
      generalize hzz : readZ f xs m = z at *
      have HZ := Lib.hid hzz
      clear hzz
      have hd : decide (z < 0) = false := by simp; omega
      have hc0 := hx5.c0
      have hc1 := hx5.c1
      go_wp2_with fail
      refine (implRingRead_any f A n c xs (m + z) _ rd5 hnc HNN.out (by omega) (by omega)).mono ?_
      rintro e w6 ⟨A6, n6, c6, rfl, _, r6, b6⟩
      rw [HP.out.1] at r6
      rw [HP.out.2]
      have hx6 := hx5.below b6
      have rd6 := rd5.below b6
      have r36 := r35.below b6
      have b06 := below_step b05 b6
      clear hc0 hc1
      have hc0 := hx6.c0
      have hc1 := hx6.c1
      have hl3 := r36.le
      go_wp2_with fail
      refine (implRingNext_any f A n c xs _ rd6).mono ?_
      rintro e w7 ⟨rfl, b7⟩
      rw [HNX.out, HL.out]
      have he : ((n3 : Int) + z == f + (n : Int) - m) = true := by simp; omega
      clear hc0 hc1
      go_wp2_with fail
      refine (sameInts_any A6 A3 n6 n3 c6 c3 _ _ _ (r6.rd.below b7) (r36.below b7)).mono ?_
      rintro e w8 ⟨rfl, q8, rfl⟩
      rw [sameB_refl]
      go_wp2_with fail
      go_ret
      exact ⟨rfl, below_drewN_ (below_step b06 b7) q8⟩
end Go.Proofs.Ytjhnpnmpnmmpbaa

/-
  The walk of the law FnBitsApart.
-/
import Derived.Test.YtkjjdpooahdicaaLawsCodes
namespace Go.Proofs.Ytkjjdpooahdicaa
open Go.RowKit CodesPlain

set_option maxHeartbeats 1600000 in
theorem walk_FnBitsApart (a0 : Option Addr) (len0 cap0 : Nat) (z0 : List Int) (w : World) (w0 : IsRow .u8 w a0 len0 cap0 z0) :
    Calls Try.prog 9 #[.slice a0 len0 cap0] w fun e w' => e = .returned (.bool true) ∧ Below w.heap.size w w' := by
  by_cases hlen : 1048576 < len0
  · go_enter Try.func9, Try.ntmps9
    go_wp2
    go_ret
    exact ⟨rfl, Below.refl _ _⟩
  · have hd9 : decide ((1048576 : Int) < (len0 : Int)) = false := by simp; omega
    go_enter Try.func9, Try.ntmps9
    go_wp2_with fail
    refine (DrawBitsApart_any a0 len0 cap0 z0 _ w0).mono ?_
    rintro e w1 ⟨x, y, rfl, hb1⟩
    have hcomm := bitsApart_comm x y
    have hsame : (bitsApart x y != bitsApart x y) = false := by simp
    by_cases hv : cvB x = true ∧ cvB y = true
    · have hx := cvB_true.1 hv.1
      have hy := cvB_true.1 hv.2
      obtain ⟨a, rfl⟩ := Int.eq_ofNat_of_zero_le hx.1
      obtain ⟨b, rfl⟩ := Int.eq_ofNat_of_zero_le hy.1
      have ha : a < 64 := by omega
      have hb : b < 64 := by omega
      obtain ⟨hc0, hc1⟩ := bitsApart_bd a b ha hb
      have hd19 : decide (bitsApart (a : Int) (b : Int) < 0) = false := by simp; omega
      have HZ := Lib.hid (bitsApart_zero a b ha hb)
      clear hv hx hy
      go_wp2_with fail
      refine (implBitsApart_any _ _ _).mono ?_
      rintro e w2 ⟨rfl, rfl⟩
      go_wp2_with fail
      refine (specBitsApart_any _ _ _).mono ?_
      rintro e w2 ⟨rfl, q, rfl⟩
      go_wp2_with fail
      refine (implBitsApart_any _ _ _).mono ?_
      rintro e w2 ⟨rfl, rfl⟩
      go_wp2_with fail
      clear hcomm
      go_loop [6] (fun i => ∃ k : Nat, k ≤ 64 ∧ i = .int .i64 k) (fun i => 64 - (intOf i).toNat)
      case atStart => exact ⟨0, by omega, rfl⟩
      case round =>
        obtain ⟨k, hk, rfl⟩ := hrel
        by_cases hlt : k < 64
        · have ht := bitsApart_tri a b k ha hb hlt
          obtain ⟨p0, p1⟩ := bitsApart_bd a k ha hlt
          obtain ⟨p2, p3⟩ := bitsApart_bd k b hlt hb
          go_wp2_with fail
          refine (implBitsApart_any _ _ _).mono ?_
          rintro e w2 ⟨rfl, rfl⟩
          go_wp2_with fail
          refine (implBitsApart_any _ _ _).mono ?_
          rintro e w2 ⟨rfl, rfl⟩
          go_wp2_with fail
          go_round
          case rel => exact ⟨k + 1, by omega, by go_num⟩
          case measure => simp [intOf]; omega
        · have hz : ((bitsApart (a : Int) (b : Int) == 0) == ((a : Int) == (b : Int))) = true := by rw [HZ.out]; simp
          go_wp2_with fail
          go_ret
          exact ⟨rfl, below_drewN_ hb1 q⟩
    · have hc := bitsApart_no x y hv
      go_wp2_with fail
      refine (implBitsApart_any _ _ _).mono ?_
      rintro e w2 ⟨rfl, rfl⟩
      go_wp2_with fail
      refine (specBitsApart_any _ _ _).mono ?_
      rintro e w2 ⟨rfl, q, rfl⟩
      go_wp2_with fail
      refine (implBitsApart_any _ _ _).mono ?_
      rintro e w2 ⟨rfl, rfl⟩
      go_wp2_with fail
      refine (alive_any _).mono ?_
      rintro e w2 ⟨rfl, hb2⟩
      go_wp2_with fail
      go_ret
      exact ⟨rfl, below_step (below_drewN_ hb1 q) hb2⟩
end Go.Proofs.Ytkjjdpooahdicaa

/-
  Contracts of BitsApart, of the program and of the reference.
-/
import Derived.Test.YtkjjdpooahdicaaCodes2
import Derived.Test.YtkjjdpooahdicaaCodesPlain2
namespace Go.Proofs.Ytkjjdpooahdicaa
open Go.RowKit CodesPlain

theorem bitsApart_nat (a b : Nat) (ha : a < 64) (hb : b < 64) : bitsApart (a : Int) (b : Int) = (popN (a ^^^ b) : Int) := by
  unfold bitsApart; rw [if_pos ⟨cvB_true.2 (by omega), cvB_true.2 (by omega)⟩]; rfl
theorem bitsApart_no (a b : Int) (h : ¬ (cvB a = true ∧ cvB b = true)) : bitsApart a b = -1 := by unfold bitsApart; rw [if_neg h]

theorem ones64 (x : Nat) (h : x < 64) (w : World) : Calls Try.prog 38 #[.int .u64 x] w fun e w' => e = .returned (.int .i64 (popN x)) ∧ w = w' := by
  go_enter Try.func38, Try.ntmps38
  go_wp2
  go_ret
  refine ⟨ret_int ?_, rfl⟩
  clear w
  revert x
  decide +kernel
theorem ones (x : Nat) (h : x < 64) (w : World) : Calls Try.prog 32 #[.int .u64 x] w fun e w' => e = .returned (.int .i64 (popN x)) ∧ w = w' := by
  go_enter Try.func32, Try.ntmps32
  go_wp2_with (go_at_call 38; refine (ones64 _ h _).mono ?_; rintro e w' ⟨rfl, rfl⟩)
  go_ret
  exact ⟨rfl, rfl⟩

theorem implBitsApart_any (a b : Int) (w : World) : Calls Try.prog 16 #[.int .i64 a, .int .i64 b] w fun e w' => e = .returned (.int .i64 (bitsApart a b)) ∧ w = w' := by
  by_cases h : 0 ≤ a ∧ a < 64
  · have hv : cvB a = true := cvB_true.2 h
    by_cases h' : 0 ≤ b ∧ b < 64
    · have hv' : cvB b = true := cvB_true.2 h'
      obtain ⟨m, rfl⟩ := Int.eq_ofNat_of_zero_le h.1
      obtain ⟨k, rfl⟩ := Int.eq_ofNat_of_zero_le h'.1
      have hx := xor_lt63 m k (by omega) (by omega)
      have hl := xor_lt m k (by omega) (by omega)
      have HF := Lib.hid (bitsApart_nat m k (by omega) (by omega))
      have hu : IntKind.u64.wrap ((m ^^^ k : Nat) : Int) = ((m ^^^ k : Nat) : Int) := IntWalk.u64_in _ ⟨by omega, by omega⟩
      go_enter Try.func16, Try.ntmps16
      go_wp2_with (first
        | (go_at_call 31; refine (codeValid_any _ _).mono ?_; rintro e w' ⟨rfl, rfl⟩)
        | (go_at_call 32; refine (ones _ hl _).mono ?_; rintro e w' ⟨rfl, rfl⟩))
      go_ret
      exact ⟨ret_int HF.out.symm, rfl⟩
    · have hv' : cvB b = false := cvB_no h'
      go_enter Try.func16, Try.ntmps16
      go_wp2_with (go_at_call 31; refine (codeValid_any _ _).mono ?_; rintro e w' ⟨rfl, rfl⟩)
      go_ret
      exact ⟨ret_int (bitsApart_no a b (by rw [hv']; simp)).symm, rfl⟩
  · have hv : cvB a = false := cvB_no h
    go_enter Try.func16, Try.ntmps16
    go_wp2_with (go_at_call 31; refine (codeValid_any _ _).mono ?_; rintro e w' ⟨rfl, rfl⟩)
    go_ret
    exact ⟨ret_int (bitsApart_no a b (by rw [hv]; simp)).symm, rfl⟩

set_option maxHeartbeats 400000 in
theorem specBitsApart_any (a b : Int) (w : World) : Calls Try.prog 15 #[.int .i64 a, .int .i64 b] w fun e w' => e = .returned (.int .i64 (bitsApart a b)) ∧ ∃ q, w' = w.drewN q := by
  by_cases h : 0 ≤ a ∧ a < 64
  · have hv : inB a 0 63 = true := inB_yes (by omega)
    by_cases h' : 0 ≤ b ∧ b < 64
    · have hv' : inB b 0 63 = true := inB_yes (by omega)
      obtain ⟨m, rfl⟩ := Int.eq_ofNat_of_zero_le h.1
      obtain ⟨k, rfl⟩ := Int.eq_ofNat_of_zero_le h'.1
      have hm : m < 64 := by omega
      have hk6 : k < 64 := by omega
      have HF := Lib.hid (bitsApart_nat m k (by omega) (by omega))
      go_enter Try.func15, Try.ntmps15
      go_wp2_with (go_at_call 30; refine (l1In_any _ _ _ _).mono ?_; rintro e w' ⟨rfl, rfl⟩)
      go_loopw [5, 6] (fun n i wr => ∃ j acc q : Nat, j ≤ 6 ∧ acc ≤ 6 ∧ i = .int .i64 j ∧ n = .int .i64 acc ∧ wr = w.drewN q ∧ Hid (acc = popTo (m ^^^ k) j)) (fun _ i _ => 6 - (intOf i).toNat)
      case atStart => exact ⟨0, 0, 0, by omega, by omega, rfl, rfl, rfl, rfl⟩
      case round =>
        obtain ⟨j, acc, q, hj, hacc, rfl, rfl, rfl, H⟩ := hrel
        by_cases hlt : j < 6
        · have hd := bit_differ m k j hm hk6 hlt
          unfold bitZ at hd
          have hj1 := popTo_le (m ^^^ k) j
          rw [← H.out] at hj1
          by_cases hbit : (m ^^^ k) / 2 ^ j % 2 = 1
          · have hd' : ((((m : Int) / 2 ^ j).tmod 2) != (((k : Int) / 2 ^ j).tmod 2)) = true := by rw [hd]; simp [hbit]
            have HB := Lib.hid hbit
            clear hd hbit
            go_wp2
            go_quiet (fail)
            go_wp2
            go_roundw
            case rel => exact ⟨j + 1, acc + 1, _, by omega, by omega, by go_num, by go_num, rfl, by show _ = _; rw [popTo, HB.out, H.out]⟩
            case measure => simp [intOf]; omega
          · have hd' : ((((m : Int) / 2 ^ j).tmod 2) != (((k : Int) / 2 ^ j).tmod 2)) = false := by rw [hd]; simp; omega
            have HB : Hid ((m ^^^ k) / 2 ^ j % 2 = 0) := by show _ = _; omega
            clear hd hbit
            go_wp2
            go_quiet (fail)
            go_wp2
            go_roundw
            case rel => exact ⟨j + 1, acc, _, by omega, by omega, by go_num, rfl, rfl, by show _ = _; rw [popTo, HB.out, H.out]; rfl⟩
            case measure => simp [intOf]; omega
        · obtain rfl : j = 6 := by omega
          go_wp2
          go_ret
          exact ⟨ret_int (by rw [HF.out, H.out, popTo_six _ (xor_lt m k hm hk6)]), q, rfl⟩
    · have hv' : inB b 0 63 = false := inB_no (by omega)
      go_enter Try.func15, Try.ntmps15
      go_wp2_with (go_at_call 30; refine (l1In_any _ _ _ _).mono ?_; rintro e w' ⟨rfl, rfl⟩)
      go_ret
      exact ⟨ret_int (bitsApart_no a b (by rw [cvB_no h']; simp)).symm, 0, rfl⟩
  · have hv : inB a 0 63 = false := inB_no (by omega)
    go_enter Try.func15, Try.ntmps15
    go_wp2_with (go_at_call 30; refine (l1In_any _ _ _ _).mono ?_; rintro e w' ⟨rfl, rfl⟩)
    go_ret
    exact ⟨ret_int (bitsApart_no a b (by rw [cvB_no h]; simp)).symm, 0, rfl⟩

theorem walk_FnExactBitsApart (a0 a1 : Int) (w : World) (_w0 : (Lit.int .i64 a0).wf = true) (_w1 : (Lit.int .i64 a1).wf = true) :
    Calls Try.prog 5 #[.int .i64 a0, .int .i64 a1] w fun e w' => e = .returned (.bool true) ∧ Below w.heap.size w w' := by
  have hb : (bitsApart a0 a1 != bitsApart a0 a1) = false := by simp
  go_enter Try.func5, Try.ntmps5
  go_wp2_with (first
    | (go_at_call 15; refine (specBitsApart_any _ _ _).mono ?_; rintro e w' ⟨rfl, q, rfl⟩)
    | (go_at_call 16; refine (implBitsApart_any _ _ _).mono ?_; rintro e w' ⟨rfl, rfl⟩))
  go_ret
  exact ⟨rfl, below_drewN_ (Below.refl _ _) _⟩
end Go.Proofs.Ytkjjdpooahdicaa

/-
  Contracts of the functions on position codes, of the program and of the reference: what each returns, in the words of CodesPlain.
-/
import Derived.Test.YtkjjdpooahdicaaCodesPlain
import Derived.Test.YtkjjdpooahdicaaIn
import Derived.Laws.BitsAllLaws
import Derived.Laws.BitsLemmas
namespace Go.Proofs.Ytkjjdpooahdicaa
open Go.RowKit CodesPlain

theorem ofInt_i64 (a : Nat) (ha : a < 9223372036854775808) : (BitVec.ofInt 64 (a : Int)).toNat = a := by
  rw [BitVec.ofInt_natCast, BitVec.toNat_ofNat]; exact Nat.mod_eq_of_lt (by omega)
theorem i64_xor_nat (a b : Nat) (ha : a < 9223372036854775808) (hb : b < 9223372036854775808) : bits .xor .i64 (a : Int) (b : Int) = ((a ^^^ b : Nat) : Int) := by
  have hx : a ^^^ b < 2 ^ 63 := Nat.xor_lt_two_pow (by omega) (by omega)
  show IntKind.i64.wrap ((BitVec.ofInt 64 (a : Int) ^^^ BitVec.ofInt 64 (b : Int)).toNat : Int) = _
  rw [BitVec.toNat_xor, ofInt_i64 a ha, ofInt_i64 b hb, IntKind.wrap_i64]
  omega

theorem cvB_true {n : Int} : cvB n = true ↔ 0 ≤ n ∧ n < 64 := by unfold cvB; simp
theorem cvB_no {n : Int} (h : ¬ (0 ≤ n ∧ n < 64)) : cvB n = false := by
  cases hb : cvB n
  · rfl
  · exact absurd (cvB_true.1 hb) h
theorem cvB_in (n : Int) : inB n 0 63 = cvB n := by
  rw [Bool.eq_iff_iff, inB_true, cvB_true]; omega

theorem codeValid_any (n : Int) (w : World) : Calls Try.prog 31 #[.int .i64 n] w fun e w' => e = .returned (.bool (cvB n)) ∧ w = w' := by
  by_cases h1 : 0 ≤ n
  · by_cases h2 : n < 64
    · go_enter Try.func31, Try.ntmps31
      go_wp2
      go_ret
      exact ⟨ret_bool (cvB_true.2 ⟨h1, h2⟩).symm, rfl⟩
    · go_enter Try.func31, Try.ntmps31
      go_wp2
      go_ret
      exact ⟨ret_bool (cvB_no (by omega)).symm, rfl⟩
  · have hd : decide (0 ≤ n) = false := by simp; omega
    go_enter Try.func31, Try.ntmps31
    go_wp2
    go_ret
    exact ⟨ret_bool (cvB_no (by omega)).symm, rfl⟩

theorem codeOf_nat (n : Nat) (h : n < 64) : codeOf (n : Int) = ((n ^^^ (n / 2) : Nat) : Int) := by
  unfold codeOf; rw [if_pos (cvB_true.2 (by omega))]; rfl
theorem codeOf_no (n : Int) (h : cvB n = false) : codeOf n = -1 := by unfold codeOf; rw [h]; rfl

theorem implCodeOf_any (n : Int) (w : World) : Calls Try.prog 12 #[.int .i64 n] w fun e w' => e = .returned (.int .i64 (codeOf n)) ∧ w = w' := by
  by_cases h : 0 ≤ n ∧ n < 64
  · obtain ⟨h0, h1⟩ := h
    obtain ⟨m, rfl⟩ := Int.eq_ofNat_of_zero_le h0
    have hv : cvB (m : Int) = true := cvB_true.2 ⟨h0, h1⟩
    go_enter Try.func12, Try.ntmps12
    go_wp2_with (go_at_call 31; refine (codeValid_any _ _).mono ?_; rintro e w' ⟨rfl, rfl⟩)
    go_ret
    refine ⟨ret_int ?_, rfl⟩
    rw [codeOf_nat m (by omega)]
    exact i64_xor_nat m (m / 2) (by omega) (by omega)
  · have hv : cvB n = false := cvB_no h
    go_enter Try.func12, Try.ntmps12
    go_wp2_with (go_at_call 31; refine (codeValid_any _ _).mono ?_; rintro e w' ⟨rfl, rfl⟩)
    go_ret
    exact ⟨ret_int (codeOf_no n hv).symm, rfl⟩

theorem specCodeOf_any (n : Int) (w : World) : Calls Try.prog 11 #[.int .i64 n] w fun e w' => e = .returned (.int .i64 (codeOf n)) ∧ w = w' := by
  by_cases h : 0 ≤ n ∧ n < 64
  · obtain ⟨h0, h1⟩ := h
    obtain ⟨m, rfl⟩ := Int.eq_ofNat_of_zero_le h0
    have hv : inB (m : Int) 0 63 = true := inB_yes (by omega)
    go_enter Try.func11, Try.ntmps11
    go_wp2_with (go_at_call 30; refine (l1In_any _ _ _ _).mono ?_; rintro e w' ⟨rfl, rfl⟩)
    go_ret
    refine ⟨ret_int ?_, rfl⟩
    rw [codeOf_nat m (by omega)]
    exact i64_xor_nat m (m / 2) (by omega) (by omega)
  · have hv : inB n 0 63 = false := inB_no (by omega)
    go_enter Try.func11, Try.ntmps11
    go_wp2_with (go_at_call 30; refine (l1In_any _ _ _ _).mono ?_; rintro e w' ⟨rfl, rfl⟩)
    go_ret
    exact ⟨ret_int (codeOf_no n (cvB_no h)).symm, rfl⟩
end Go.Proofs.Ytkjjdpooahdicaa

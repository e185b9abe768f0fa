/-
  Contracts of CodeRead and BitsApart, of the program and of the reference.
-/
import Derived.Test.YtkjjdpooahdicaaCodes
namespace Go.Proofs.Ytkjjdpooahdicaa
open Go.RowKit CodesPlain

theorem codeRead_nat (n : Nat) (h : n < 64) : codeRead (n : Int) = ((readN n : Nat) : Int) := by
  unfold codeRead; rw [if_pos (cvB_true.2 (by omega))]; rfl
theorem codeRead_no (n : Int) (h : cvB n = false) : codeRead n = -1 := by unfold codeRead; rw [h]; rfl

theorem xor_lt63 (a b : Nat) (ha : a < 64) (hb : b < 64) : bits .xor .i64 (a : Int) (b : Int) = ((a ^^^ b : Nat) : Int) := i64_xor_nat a b (by omega) (by omega)

set_option maxHeartbeats 400000 in
theorem implCodeRead_any (n : Int) (w : World) : Calls Try.prog 14 #[.int .i64 n] w fun e w' => e = .returned (.int .i64 (codeRead n)) ∧ w = w' := by
  by_cases h : 0 ≤ n ∧ n < 64
  · obtain ⟨h0, h1⟩ := h
    obtain ⟨m, rfl⟩ := Int.eq_ofNat_of_zero_le h0
    have hv : cvB (m : Int) = true := cvB_true.2 ⟨h0, h1⟩
    go_enter Try.func14, Try.ntmps14
    go_wp2_with (go_at_call 31; refine (codeValid_any _ _).mono ?_; rintro e w' ⟨rfl, rfl⟩)
    go_loop [0, 3] (fun c a => ∃ cur acc : Nat, cur < 64 ∧ acc < 64 ∧ c = .int .i64 cur ∧ a = .int .i64 acc ∧ Hid (acc ^^^ readN cur = readN m)) (fun c _ => (intOf c).toNat)
    case atStart => exact ⟨m, 0, by omega, by omega, rfl, rfl, by show _ = _; simp⟩
    case round =>
      obtain ⟨cur, acc, hc, ha, rfl, rfl, H⟩ := hrel
      by_cases hlt : 0 < cur
      · have hx := xor_lt63 acc cur ha hc
        have hl := xor_lt acc cur ha hc
        have HH : Hid ((acc ^^^ cur) ^^^ readN (cur / 2) = readN m) := by
          show _ = _
          rw [← H.out, read_step cur hc, Nat.xor_assoc]
        go_wp2
        go_round
        case rel => exact ⟨cur / 2, acc ^^^ cur, by omega, hl, by go_num, by go_num, HH⟩
        case measure => simp [intOf]; omega
      · obtain rfl : cur = 0 := by omega
        have HH : Hid (acc = readN m) := by
          have := H.out
          have h0 : readN 0 = 0 := by decide
          rw [h0, Nat.xor_zero] at this
          exact this
        go_wp2
        go_ret
        exact ⟨ret_int (by rw [codeRead_nat m (by omega), HH.out]), rfl⟩
  · have hv : cvB n = false := cvB_no h
    go_enter Try.func14, Try.ntmps14
    go_wp2_with (go_at_call 31; refine (codeValid_any _ _).mono ?_; rintro e w' ⟨rfl, rfl⟩)
    go_ret
    exact ⟨ret_int (codeRead_no n hv).symm, rfl⟩

theorem codeOf_eq (k : Nat) (hk : k < 64) (c : Int) : codeOf (k : Int) = c → codeRead c = k := by
  intro h
  rw [codeOf_nat k hk] at h
  subst h
  have hl : codeN k < 64 := code_lt k hk
  show codeRead ((codeN k : Nat) : Int) = _
  rw [codeRead_nat _ hl, read_code k hk]
theorem codeOf_none (c : Int) (h : ∀ k : Nat, k < 64 → codeOf (k : Int) ≠ c) : codeRead c = -1 := by
  by_cases hc : 0 ≤ c ∧ c < 64
  · obtain ⟨h0, h1⟩ := hc
    obtain ⟨m, rfl⟩ := Int.eq_ofNat_of_zero_le h0
    have hm : m < 64 := by omega
    have := h (readN m) (read_lt m hm)
    rw [codeOf_nat _ (read_lt m hm)] at this
    have e : codeN (readN m) = m := code_read m hm
    unfold codeN at e
    exact absurd (by rw [e]) this
  · exact codeRead_no c (cvB_no hc)

set_option maxHeartbeats 400000 in
theorem specCodeRead_any (n : Int) (w : World) : Calls Try.prog 13 #[.int .i64 n] w fun e w' => e = .returned (.int .i64 (codeRead n)) ∧ w = w' := by
  go_enter Try.func13, Try.ntmps13
  go_wp2
  go_loop [3] (fun i => ∃ k : Nat, k ≤ 64 ∧ i = .int .i64 k ∧ Hid (∀ j : Nat, j < k → codeOf (j : Int) ≠ n)) (fun i => 64 - (intOf i).toNat)
  case atStart => exact ⟨0, by omega, rfl, fun j hj => absurd hj (by omega)⟩
  case round =>
    obtain ⟨k, hk, rfl, H⟩ := hrel
    by_cases hlt : k < 64
    · by_cases hx : codeOf (k : Int) = n
      · have hb : (codeOf (k : Int) == n) = true := by simp [hx]
        have HX := Lib.hid hx
        clear hx
        go_wp2_with (go_at_call 11; refine (specCodeOf_any _ _).mono ?_; rintro e w' ⟨rfl, rfl⟩)
        go_ret
        exact ⟨ret_int (codeOf_eq k hlt n HX.out).symm, rfl⟩
      · have hb : (codeOf (k : Int) == n) = false := by simp [hx]
        have HX := Lib.hid hx
        clear hx
        go_wp2_with (go_at_call 11; refine (specCodeOf_any _ _).mono ?_; rintro e w' ⟨rfl, rfl⟩)
        go_round
        case rel => exact ⟨k + 1, by omega, by go_num, fun j hj => by
          rcases Nat.lt_or_ge j k with h1 | h1
          · exact H.out j h1
          · obtain rfl : j = k := by omega
            exact HX.out⟩
        case measure => simp [intOf]; omega
    · go_wp2
      go_ret
      exact ⟨ret_int (codeOf_none n (fun j hj => H.out j (by omega))).symm, rfl⟩

theorem walk_FnExactCodeRead (a0 : Int) (w : World) (_w0 : (Lit.int .i64 a0).wf = true) :
    Calls Try.prog 4 #[.int .i64 a0] w fun e w' => e = .returned (.bool true) ∧ Below w.heap.size w w' := by
  have hb : (codeRead a0 != codeRead a0) = false := by simp
  go_enter Try.func4, Try.ntmps4
  go_wp2_with (first
    | (go_at_call 13; refine (specCodeRead_any _ _).mono ?_; rintro e w' ⟨rfl, rfl⟩)
    | (go_at_call 14; refine (implCodeRead_any _ _).mono ?_; rintro e w' ⟨rfl, rfl⟩))
  go_ret
  exact ⟨rfl, Below.refl _ _⟩
end Go.Proofs.Ytkjjdpooahdicaa

/-
  The walks of the laws FnCodeOf, FnCodeRead, FnBitsApart.
-/
import Derived.Test.YtkjjdpooahdicaaDrawCodes
import Derived.Test.YtkjjdpooahdicaaAlive
import Derived.Test.YtkjjdpooahdicaaCodes3
namespace Go.Proofs.Ytkjjdpooahdicaa
open Go.RowKit CodesPlain

theorem codeOf_bd (m : Nat) (h : m < 64) : 0 ≤ codeOf (m : Int) ∧ codeOf (m : Int) < 64 := by
  rw [codeOf_nat m h]
  have := code_lt m h
  unfold codeN at this
  omega
theorem codeOf_same (k m : Nat) (hk : k < 64) (hm : m < 64) : (codeOf (k : Int) == codeOf (m : Int)) = ((k : Int) == (m : Int)) := by
  rw [Bool.eq_iff_iff]
  simp only [beq_iff_eq]
  constructor
  · intro h
    rw [codeOf_nat k hk, codeOf_nat m hm] at h
    have := code_inj k m hk hm (by unfold codeN; omega)
    omega
  · intro h; rw [h]
theorem codeOf_next (m : Nat) (hm : m < 64) : bitsApart (codeOf (m : Int)) (codeOf (((m : Int) + 1) % 64)) = 1 := by
  have e : ((m : Int) + 1) % 64 = (((m + 1) % 64 : Nat) : Int) := by omega
  have h2 : (m + 1) % 64 < 64 := Nat.mod_lt _ (by omega)
  rw [e, codeOf_nat m hm, codeOf_nat _ h2]
  have h3 : codeN m < 64 := code_lt m hm
  have h4 : codeN ((m + 1) % 64) < 64 := code_lt _ h2
  have := bitsApart_nat (codeN m) (codeN ((m + 1) % 64)) h3 h4
  unfold codeN at this
  rw [this]
  have := code_next m hm
  unfold codeN at this
  omega

set_option maxHeartbeats 800000 in
theorem walk_FnCodeOf (a0 : Option Addr) (len0 cap0 : Nat) (z0 : List Int) (w : World) (w0 : IsRow .u8 w a0 len0 cap0 z0) :
    Calls Try.prog 7 #[.slice a0 len0 cap0] w fun e w' => e = .returned (.bool true) ∧ Below w.heap.size w w' := by
  by_cases hlen : 1048576 < len0
  · go_enter Try.func7, Try.ntmps7
    go_wp2
    go_ret
    exact ⟨rfl, Below.refl _ _⟩
  · have hd9 : decide ((1048576 : Int) < (len0 : Int)) = false := by simp; omega
    go_enter Try.func7, Try.ntmps7
    go_wp2_with fail
    refine (DrawCodeOf_any a0 len0 cap0 z0 _ w0).mono ?_
    rintro e w1 ⟨x, rfl, hx0, hx1, hb1⟩
    by_cases hv : 0 ≤ x ∧ x < 64
    · obtain ⟨m, rfl⟩ := Int.eq_ofNat_of_zero_le hv.1
      have hm : m < 64 := by omega
      obtain ⟨hc0, hc1⟩ := codeOf_bd m hm
      have hsame : (codeOf (m : Int) != codeOf (m : Int)) = false := by simp
      have hd19 : decide (codeOf (m : Int) < 0) = false := by simp; omega
      have HN := Lib.hid (codeOf_next m hm)
      clear hv
      go_wp2_with fail
      refine (implCodeOf_any _ _).mono ?_
      rintro e w2 ⟨rfl, rfl⟩
      go_wp2_with fail
      refine (specCodeOf_any _ _).mono ?_
      rintro e w2 ⟨rfl, rfl⟩
      go_wp2_with fail
      go_loop [6] (fun i => ∃ k : Nat, k ≤ 64 ∧ i = .int .i64 k) (fun i => 64 - (intOf i).toNat)
      case atStart => exact ⟨0, by omega, rfl⟩
      case round =>
        obtain ⟨k, hk, rfl⟩ := hrel
        by_cases hlt : k < 64
        · have hs := codeOf_same k m hlt hm
          have hs2 : ((codeOf (k : Int) == codeOf (m : Int)) == ((k : Int) == (m : Int))) = true := by rw [hs]; simp
          clear hs
          go_wp2_with fail
          refine (implCodeOf_any _ _).mono ?_
          rintro e w2 ⟨rfl, rfl⟩
          go_wp2_with fail
          go_round
          case rel => exact ⟨k + 1, by omega, by go_num⟩
          case measure => simp [intOf]; omega
        · have hn2 : (bitsApart (codeOf (m : Int)) (codeOf (((m : Int) + 1) % 64)) == 1) = true := by rw [HN.out]; rfl
          go_wp2_with fail
          refine (implCodeOf_any _ _).mono ?_
          rintro e w2 ⟨rfl, rfl⟩
          go_wp2_with fail
          refine (implBitsApart_any _ _ _).mono ?_
          rintro e w2 ⟨rfl, rfl⟩
          go_wp2_with fail
          go_ret
          exact ⟨rfl, hb1⟩
    · have hc := codeOf_no x (cvB_no hv)
      go_wp2_with fail
      refine (implCodeOf_any _ _).mono ?_
      rintro e w2 ⟨rfl, rfl⟩
      go_wp2_with fail
      refine (specCodeOf_any _ _).mono ?_
      rintro e w2 ⟨rfl, rfl⟩
      go_wp2_with fail
      refine (alive_any _).mono ?_
      rintro e w2 ⟨rfl, hb2⟩
      go_wp2_with fail
      go_ret
      exact ⟨rfl, below_step hb1 hb2⟩

theorem codeRead_bd (m : Nat) (h : m < 64) : 0 ≤ codeRead (m : Int) ∧ codeRead (m : Int) < 64 ∧ codeOf (codeRead (m : Int)) = m := by
  rw [codeRead_nat m h]
  have := read_lt m h
  refine ⟨by omega, by omega, ?_⟩
  rw [codeOf_nat _ this]
  have := code_read m h
  unfold codeN at this
  omega

set_option maxHeartbeats 800000 in
theorem walk_FnCodeRead (a0 : Option Addr) (len0 cap0 : Nat) (z0 : List Int) (w : World) (w0 : IsRow .u8 w a0 len0 cap0 z0) :
    Calls Try.prog 8 #[.slice a0 len0 cap0] w fun e w' => e = .returned (.bool true) ∧ Below w.heap.size w w' := by
  by_cases hlen : 1048576 < len0
  · go_enter Try.func8, Try.ntmps8
    go_wp2
    go_ret
    exact ⟨rfl, Below.refl _ _⟩
  · go_enter Try.func8, Try.ntmps8
    go_wp2_with fail
    refine (DrawCodeRead_any a0 len0 cap0 z0 _ w0).mono ?_
    rintro e w1 ⟨x, rfl, hx0, hx1, hb1⟩
    by_cases hv : 0 ≤ x ∧ x < 64
    · obtain ⟨m, rfl⟩ := Int.eq_ofNat_of_zero_le hv.1
      have hm : m < 64 := by omega
      obtain ⟨hc0, hc1, hc2⟩ := codeRead_bd m hm
      have hsame : (codeRead (m : Int) != codeRead (m : Int)) = false := by simp
      have hn2 : (codeOf (codeRead (m : Int)) == (m : Int)) = true := by rw [hc2]; simp
      clear hv hc2
      go_wp2_with fail
      refine (implCodeRead_any _ _).mono ?_
      rintro e w2 ⟨rfl, rfl⟩
      go_wp2_with fail
      refine (specCodeRead_any _ _).mono ?_
      rintro e w2 ⟨rfl, rfl⟩
      go_wp2_with fail
      refine (implCodeOf_any _ _).mono ?_
      rintro e w2 ⟨rfl, rfl⟩
      go_wp2_with fail
      go_ret
      exact ⟨rfl, hb1⟩
    · have hc := codeRead_no x (cvB_no hv)
      by_cases hneg : x < 0
      · go_wp2_with fail
        refine (implCodeRead_any _ _).mono ?_
        rintro e w2 ⟨rfl, rfl⟩
        go_wp2_with fail
        refine (specCodeRead_any _ _).mono ?_
        rintro e w2 ⟨rfl, rfl⟩
        go_wp2_with fail
        refine (alive_any _).mono ?_
        rintro e w2 ⟨rfl, hb2⟩
        go_wp2_with fail
        go_ret
        exact ⟨rfl, below_step hb1 hb2⟩
      · have hd : decide (x < 0) = false := by simp; omega
        have hge : 64 ≤ x := by omega
        go_wp2_with fail
        refine (implCodeRead_any _ _).mono ?_
        rintro e w2 ⟨rfl, rfl⟩
        go_wp2_with fail
        refine (specCodeRead_any _ _).mono ?_
        rintro e w2 ⟨rfl, rfl⟩
        go_wp2_with fail
        refine (alive_any _).mono ?_
        rintro e w2 ⟨rfl, hb2⟩
        go_wp2_with fail
        go_ret
        exact ⟨rfl, below_step hb1 hb2⟩

theorem bitsApart_comm (a b : Int) : bitsApart b a = bitsApart a b := by
  unfold bitsApart
  by_cases h : cvB a = true ∧ cvB b = true
  · rw [if_pos h, if_pos ⟨h.2, h.1⟩, Nat.xor_comm]
  · rw [if_neg h, if_neg (fun h' => h ⟨h'.2, h'.1⟩)]
theorem bitsApart_tri (a b c : Nat) (ha : a < 64) (hb : b < 64) (hc : c < 64) : bitsApart (a : Int) (b : Int) ≤ bitsApart (a : Int) (c : Int) + bitsApart (c : Int) (b : Int) := by
  rw [bitsApart_nat a b ha hb, bitsApart_nat a c ha hc, bitsApart_nat c b hc hb]
  have h := pop_xor (a ^^^ c) (c ^^^ b) (xor_lt a c ha hc) (xor_lt c b hc hb)
  have e : a ^^^ c ^^^ (c ^^^ b) = a ^^^ b := by rw [Nat.xor_assoc, ← Nat.xor_assoc c c b, Nat.xor_self, Nat.zero_xor]
  rw [e] at h
  omega
theorem bitsApart_bd (a b : Nat) (ha : a < 64) (hb : b < 64) : 0 ≤ bitsApart (a : Int) (b : Int) ∧ bitsApart (a : Int) (b : Int) ≤ 6 := by
  rw [bitsApart_nat a b ha hb]
  have := pop_le (a ^^^ b)
  omega
theorem bitsApart_zero (a b : Nat) (ha : a < 64) (hb : b < 64) : (bitsApart (a : Int) (b : Int) == 0) = ((a : Int) == (b : Int)) := by
  rw [bitsApart_nat a b ha hb, Bool.eq_iff_iff]
  simp only [beq_iff_eq]
  have h := pop_zero (a ^^^ b) (xor_lt a b ha hb)
  rw [Bool.eq_iff_iff] at h
  simp only [beq_iff_eq] at h
  constructor
  · intro h0
    have := h.1 (by omega)
    have h1 : (a ^^^ b) ^^^ b = a := by rw [Nat.xor_assoc, Nat.xor_self, Nat.xor_zero]
    rw [this, Nat.zero_xor] at h1
    omega
  · intro h0
    have e : a = b := by omega
    have := h.2 (by rw [e]; exact Nat.xor_self b)
    omega
end Go.Proofs.Ytkjjdpooahdicaa

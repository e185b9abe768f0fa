/-
  Texts as lists of numbers; BitsValid of the program and of the reference; the walk of the law FnExactBitsValid.
-/
import Derived.Test.YtebbodjecaiooaaBase
namespace Go.Proofs.Ytebbodjecaiooaa
open Go.RowKit

/-- the bytes of a text, as numbers -/
def bl (s : ByteArray) : List Int := s.data.toList.map fun c => (c.toNat : Int)
theorem bl_len (s : ByteArray) : (bl s).length = s.size := by unfold bl; simp
theorem bl_get (s : ByteArray) : ∀ (n : Nat) (h : n < s.size), ((s[n]'h).toNat : Int) = nth (bl s) n := fun n h => by
  rw [nth_get _ _ (by rw [bl_len]; exact h)]
  unfold bl
  simp
  rfl
theorem bl_bd (s : ByteArray) (k : Nat) : 0 ≤ nth (bl s) k ∧ nth (bl s) k ≤ 255 := by
  by_cases h : k < s.size
  · rw [← bl_get s k h]
    have := (s[k]).toNat_lt
    omega
  · unfold nth
    rw [List.getD, List.getElem?_eq_none (by rw [bl_len]; omega)]
    simp

/-- at most 40 bytes, each a 0 or a 1 -/
def bitB (x : Int) : Bool := x == 48 || x == 49
def bitsB (l : List Int) : Bool := decide (l.length ≤ 40) && l.all bitB
theorem all_yes {l : List Int} (h : ∀ j, j < l.length → bitB (nth l j) = true) : l.all bitB = true := List.all_eq_true.2 fun x hx => by
  obtain ⟨j, hj, e⟩ := mem_nth hx
  rw [← e]; exact h j hj
theorem all_no {l : List Int} (j : Nat) (hj : j < l.length) (h : bitB (nth l j) = false) : l.all bitB = false := by
  cases hb : l.all bitB
  · rfl
  · have := List.all_eq_true.1 hb _ (nth_mem l j hj)
    rw [h] at this; cases this
theorem bitsB_true {l : List Int} : bitsB l = true ↔ l.length ≤ 40 ∧ l.all bitB = true := by unfold bitsB; simp
theorem bitsB_long {l : List Int} (h : ¬ l.length ≤ 40) : bitsB l = false := by unfold bitsB; simp [h]
theorem bitsB_bad {l : List Int} (h : l.all bitB = false) : bitsB l = false := by unfold bitsB; rw [h]; simp

set_option maxHeartbeats 400000 in
theorem implBitsValid_any (s : ByteArray) (w : World) (hs : s.size ≤ 4194304) :
    Calls Try.prog 12 #[.string s] w fun e w' => e = .returned (.bool (bitsB (bl s))) ∧ w = w' := by
  have HL := Lib.hid (bl_len s)
  have hg := bl_get s
  by_cases h40 : 40 < s.size
  · have HF := Lib.hid (bitsB_long (l := bl s) (by rw [HL.out]; omega))
    go_enter Try.func12, Try.ntmps12
    go_wp2
    go_ret
    exact ⟨ret_bool HF.out.symm, rfl⟩
  have d40 : decide ((40 : Int) < (s.size : Int)) = false := by simp; omega
  go_enter Try.func12, Try.ntmps12
  go_wp2
  go_loop [3] (fun i => ∃ k : Nat, k ≤ s.size ∧ i = .int .i64 k ∧ Hid (∀ j, j < k → bitB (nth (bl s) j) = true)) (fun i => s.size - (intOf i).toNat)
  case atStart => exact ⟨0, Nat.zero_le _, rfl, fun j hj => absurd hj (by omega)⟩
  case round =>
    obtain ⟨k, hk, rfl, H⟩ := hrel
    by_cases hlt : k < s.size
    · cases e0 : (nth (bl s) k == 48)
      · have n0 : (nth (bl s) k != 48) = true := by simpa using e0
        cases e1 : (nth (bl s) k == 49)
        · have n1 : (nth (bl s) k != 49) = true := by simpa using e1
          have HF := Lib.hid (bitsB_bad (all_no (l := bl s) k (by rw [HL.out]; exact hlt) (by unfold bitB; rw [e0, e1]; rfl)))
          clear e0 e1
          go_wp2
          go_ret
          exact ⟨ret_bool HF.out.symm, rfl⟩
        · have n1 : (nth (bl s) k != 49) = false := by simpa using e1
          have HX : Hid (bitB (nth (bl s) k) = true) := by show _ = _; unfold bitB; rw [e1]; simp
          clear e0 e1
          go_wp2
          go_round
          case rel => exact ⟨k + 1, by omega, by go_num, fun j hj => by
            rcases Nat.lt_or_ge j k with h1 | h1
            · exact H.out j h1
            · obtain rfl : j = k := by omega
              exact HX.out⟩
          case measure => simp [intOf]; omega
      · have n0 : (nth (bl s) k != 48) = false := by simpa using e0
        have HX : Hid (bitB (nth (bl s) k) = true) := by show _ = _; unfold bitB; rw [e0]; rfl
        clear e0
        go_wp2
        go_round
        case rel => exact ⟨k + 1, by omega, by go_num, fun j hj => by
          rcases Nat.lt_or_ge j k with h1 | h1
          · exact H.out j h1
          · obtain rfl : j = k := by omega
            exact HX.out⟩
        case measure => simp [intOf]; omega
    · have HF := Lib.hid (bitsB_true.2 ⟨by rw [HL.out]; omega, all_yes (l := bl s) (fun j hj => H.out j (by rw [HL.out] at hj; omega))⟩)
      go_wp2
      go_ret
      exact ⟨ret_bool HF.out.symm, rfl⟩

set_option maxHeartbeats 400000 in
theorem specBitsValid_any (s : ByteArray) (w : World) (hs : s.size ≤ 4194304) :
    Calls Try.prog 11 #[.string s] w fun e w' => e = .returned (.bool (bitsB (bl s))) ∧ w = w' := by
  have HL := Lib.hid (bl_len s)
  have hg := bl_get s
  go_enter Try.func11, Try.ntmps11
  go_wp2
  go_loop [3] (fun i => ∃ k : Nat, k ≤ s.size ∧ i = .int .i64 k ∧ Hid (∀ j, j < k → bitB (nth (bl s) j) = true)) (fun i => s.size - (intOf i).toNat)
  case atStart => exact ⟨0, Nat.zero_le _, rfl, fun j hj => absurd hj (by omega)⟩
  case round =>
    obtain ⟨k, hk, rfl, H⟩ := hrel
    by_cases hlt : k < s.size
    · cases e0 : (nth (bl s) k == 48)
      · have n0 : (nth (bl s) k != 48) = true := by simpa using e0
        cases e1 : (nth (bl s) k == 49)
        · have n1 : (nth (bl s) k != 49) = true := by simpa using e1
          have HF := Lib.hid (bitsB_bad (all_no (l := bl s) k (by rw [HL.out]; exact hlt) (by unfold bitB; rw [e0, e1]; rfl)))
          clear e0 e1
          go_wp2
          go_ret
          exact ⟨ret_bool HF.out.symm, rfl⟩
        · have n1 : (nth (bl s) k != 49) = false := by simpa using e1
          have HX : Hid (bitB (nth (bl s) k) = true) := by show _ = _; unfold bitB; rw [e1]; simp
          clear e0 e1
          go_wp2
          go_round
          case rel => exact ⟨k + 1, by omega, by go_num, fun j hj => by
            rcases Nat.lt_or_ge j k with h1 | h1
            · exact H.out j h1
            · obtain rfl : j = k := by omega
              exact HX.out⟩
          case measure => simp [intOf]; omega
      · have n0 : (nth (bl s) k != 48) = false := by simpa using e0
        have HX : Hid (bitB (nth (bl s) k) = true) := by show _ = _; unfold bitB; rw [e0]; rfl
        clear e0
        go_wp2
        go_round
        case rel => exact ⟨k + 1, by omega, by go_num, fun j hj => by
          rcases Nat.lt_or_ge j k with h1 | h1
          · exact H.out j h1
          · obtain rfl : j = k := by omega
            exact HX.out⟩
        case measure => simp [intOf]; omega
    · have HA := Lib.hid (all_yes (l := bl s) (fun j hj => H.out j (by rw [HL.out] at hj; omega)))
      by_cases h40 : (s.size : Int) ≤ 40
      · have HF := Lib.hid (bitsB_true.2 ⟨by rw [HL.out]; omega, HA.out⟩)
        go_wp2
        go_ret
        exact ⟨ret_bool HF.out.symm, rfl⟩
      · have HF := Lib.hid (bitsB_long (l := bl s) (by rw [HL.out]; omega))
        have d40 : decide ((s.size : Int) ≤ 40) = false := by simp; omega
        go_wp2
        go_ret
        exact ⟨ret_bool HF.out.symm, rfl⟩

theorem walk_FnExactBitsValid (s : ByteArray) (w : World) (_w0 : s.size ≤ maxLen) :
    Calls Try.prog 3 #[.string s] w fun e w' => e = .returned (.bool true) ∧ Below w.heap.size w w' := by
  by_cases hlen : 1048576 < s.size
  · go_enter Try.func3, Try.ntmps3
    go_wp2
    go_ret
    exact ⟨rfl, Below.refl _ _⟩
  · have hb : (bitsB (bl s) == bitsB (bl s)) = true := by simp
    go_enter Try.func3, Try.ntmps3
    go_wp2_with fail
    refine (specBitsValid_any s _ (by omega)).mono ?_
    rintro e w1 ⟨rfl, rfl⟩
    go_wp2_with fail
    refine (implBitsValid_any s _ (by omega)).mono ?_
    rintro e w1 ⟨rfl, rfl⟩
    go_wp2_with fail
    go_ret
    exact ⟨rfl, Below.refl _ _⟩
end Go.Proofs.Ytebbodjecaiooaa

/-
  Contracts of the helpers that look for a number in a list of ints: hasInt, l1Has, slices.Contains. Each says what the call returns; nothing is written.
-/
import Derived.Test.YtjfninibloakgaaBase
namespace Go.Proofs.Ytjfninibloakgaa
open Go.RowKit

/-- a list has a number -/
def hasB (xs : List Int) (x : Int) : Bool := xs.contains x
theorem hasB_true {xs : List Int} {x : Int} : hasB xs x = true ↔ x ∈ xs := by unfold hasB; simp
theorem hasB_at (xs : List Int) (k : Nat) (h : k < xs.length) (x : Int) (e : nth xs k = x) : hasB xs x = true := hasB_true.2 (e ▸ nth_mem xs k h)
theorem hasB_no (xs : List Int) (x : Int) (h : ∀ j, j < xs.length → nth xs j ≠ x) : hasB xs x = false := by
  cases hb : hasB xs x
  · rfl
  · obtain ⟨j, hj, e⟩ := mem_nth (hasB_true.1 hb)
    exact absurd e (h j hj)

set_option maxHeartbeats 400000 in
theorem hasInt_any (A : Option Addr) (n c : Nat) (xs : List Int) (x : Int) (w : World) (h : Rd w A n xs) :
    Calls Try.prog 26 #[.slice A n c, .int .i64 x] w fun e w' => e = .returned (.bool (hasB xs x)) ∧ w = w' := by
  have hn := h.le
  go_enter Try.func26, Try.ntmps26
  go_wp2
  go_loop [5] (fun i => ∃ k : Nat, k ≤ n ∧ i = .int .i64 k ∧ Hid (∀ j, j < k → nth xs j ≠ x)) (fun i => n - (intOf i).toNat)
  case atStart => exact ⟨0, Nat.zero_le _, rfl, fun j hj => absurd hj (by omega)⟩
  case round =>
    obtain ⟨k, hk, rfl, H⟩ := hrel
    by_cases hlt : k < n
    · obtain ⟨g, off, rfl, _, hcell⟩ := h.at_ hlt
      by_cases hx : nth xs k = x
      · have hb : (nth xs k == x) = true := by simp [hx]
        have HX := Lib.hid hx
        clear hx
        go_wp2
        go_ret
        exact ⟨ret_bool (hasB_at xs k (by rw [h.len]; exact hlt) x HX.out).symm, rfl⟩
      · have hb : (nth xs k == x) = false := by simp [hx]
        have HX := Lib.hid hx
        clear hx
        go_wp2
        go_round
        case rel => exact ⟨k + 1, by omega, by go_num, fun j hj => by
          rcases Nat.lt_or_ge j k with h1 | h1
          · exact H.out j h1
          · obtain rfl : j = k := by omega
            exact HX.out⟩
        case measure => simp [intOf]; omega
    · go_wp2
      go_ret
      exact ⟨ret_bool (hasB_no xs x (fun j hj => H.out j (by rw [h.len] at hj; omega))).symm, rfl⟩
set_option maxHeartbeats 400000 in
theorem l1Has_any (A : Option Addr) (n c : Nat) (xs : List Int) (x : Int) (w : World) (h : Rd w A n xs) :
    Calls Try.prog 32 #[.slice A n c, .int .i64 x] w fun e w' => e = .returned (.bool (hasB xs x)) ∧ w = w' := by
  have hn := h.le
  go_enter Try.func32, Try.ntmps32
  go_wp2
  go_loop [5] (fun i => ∃ k : Nat, k ≤ n ∧ i = .int .i64 k ∧ Hid (∀ j, j < k → nth xs j ≠ x)) (fun i => n - (intOf i).toNat)
  case atStart => exact ⟨0, Nat.zero_le _, rfl, fun j hj => absurd hj (by omega)⟩
  case round =>
    obtain ⟨k, hk, rfl, H⟩ := hrel
    by_cases hlt : k < n
    · obtain ⟨g, off, rfl, _, hcell⟩ := h.at_ hlt
      by_cases hx : nth xs k = x
      · have hb : (nth xs k == x) = true := by simp [hx]
        have HX := Lib.hid hx
        clear hx
        go_wp2
        go_ret
        exact ⟨ret_bool (hasB_at xs k (by rw [h.len]; exact hlt) x HX.out).symm, rfl⟩
      · have hb : (nth xs k == x) = false := by simp [hx]
        have HX := Lib.hid hx
        clear hx
        go_wp2
        go_round
        case rel => exact ⟨k + 1, by omega, by go_num, fun j hj => by
          rcases Nat.lt_or_ge j k with h1 | h1
          · exact H.out j h1
          · obtain rfl : j = k := by omega
            exact HX.out⟩
        case measure => simp [intOf]; omega
    · go_wp2
      go_ret
      exact ⟨ret_bool (hasB_no xs x (fun j hj => H.out j (by rw [h.len] at hj; omega))).symm, rfl⟩
set_option maxHeartbeats 400000 in
theorem index_any (A : Option Addr) (n c : Nat) (xs : List Int) (x : Int) (w : World) (h : Rd w A n xs) :
    Calls Try.prog 41 #[.slice A n c, .int .i64 x] w fun e w' => ∃ r : Int, e = .returned (.int .i64 r) ∧ decide (0 ≤ r) = hasB xs x ∧ w = w' := by
  have hn := h.le
  go_enter Try.func41, Try.ntmps41
  go_wp2
  go_loop [8] (fun i => ∃ k : Nat, k ≤ n ∧ i = .int .i64 k ∧ Hid (∀ j, j < k → nth xs j ≠ x)) (fun i => n - (intOf i).toNat)
  case atStart => exact ⟨0, Nat.zero_le _, rfl, fun j hj => absurd hj (by omega)⟩
  case round =>
    obtain ⟨k, hk, rfl, H⟩ := hrel
    by_cases hlt : k < n
    · obtain ⟨g, off, rfl, _, hcell⟩ := h.at_ hlt
      by_cases hx : nth xs k = x
      · have hb : (x == nth xs k) = true := by simp [hx]
        have HX := Lib.hid hx
        clear hx
        go_wp2
        go_ret
        exact ⟨k, rfl, by rw [hasB_at xs k (by rw [h.len]; exact hlt) x HX.out]; simp, rfl⟩
      · have hb : (x == nth xs k) = false := by simp; exact fun e => hx e.symm
        have HX := Lib.hid hx
        clear hx
        go_wp2
        go_round
        case rel => exact ⟨k + 1, by omega, by go_num, fun j hj => by
          rcases Nat.lt_or_ge j k with h1 | h1
          · exact H.out j h1
          · obtain rfl : j = k := by omega
            exact HX.out⟩
        case measure => simp [intOf]; omega
    · go_wp2
      go_ret
      exact ⟨-1, rfl, by rw [hasB_no xs x (fun j hj => H.out j (by rw [h.len] at hj; omega))]; rfl, rfl⟩
theorem contains_any (A : Option Addr) (n c : Nat) (xs : List Int) (x : Int) (w : World) (h : Rd w A n xs) :
    Calls Try.prog 34 #[.slice A n c, .int .i64 x] w fun e w' => e = .returned (.bool (hasB xs x)) ∧ w = w' := by
  go_enter Try.func34, Try.ntmps34
  go_wp2_with fail
  refine (index_any A n c xs x _ h).mono ?_
  rintro e w' ⟨r, rfl, hr, rfl⟩
  go_wp2_with fail
  go_ret
  exact ⟨ret_bool (by first | exact hr | rfl), rfl⟩
end Go.Proofs.Ytjfninibloakgaa

/-
  The program's helper allWithin: whether all numbers of a list are in 0..bound-1.
-/
import Derived.Test.YtjfninibloakgaaBase
namespace Go.Proofs.Ytjfninibloakgaa
open Go.RowKit

def withinB (xs : List Int) (b : Int) : Bool := xs.all fun x => decide (0 ≤ x) && decide (x < b)
theorem withinB_true {xs : List Int} {b : Int} : withinB xs b = true ↔ ∀ x ∈ xs, 0 ≤ x ∧ x < b := by unfold withinB; simp
theorem withinB_nth {xs : List Int} {b : Int} (h : withinB xs b = true) (j : Nat) (hj : j < xs.length) : 0 ≤ nth xs j ∧ nth xs j < b := withinB_true.1 h _ (nth_mem xs j hj)
theorem withinB_yes {xs : List Int} {b : Int} (h : ∀ j, j < xs.length → 0 ≤ nth xs j ∧ nth xs j < b) : withinB xs b = true := withinB_true.2 fun x hx => by
  obtain ⟨j, hj, e⟩ := mem_nth hx
  rw [← e]; exact h j hj
theorem withinB_no {xs : List Int} {b : Int} (j : Nat) (hj : j < xs.length) (h : ¬ (0 ≤ nth xs j ∧ nth xs j < b)) : withinB xs b = false := by
  cases hb : withinB xs b
  · rfl
  · exact absurd (withinB_nth hb j hj) h

set_option maxHeartbeats 400000 in
theorem allWithin_any (A : Option Addr) (n c : Nat) (xs : List Int) (b : Int) (w : World) (h : Rd w A n xs) :
    Calls Try.prog 33 #[.slice A n c, .int .i64 b] w fun e w' => e = .returned (.bool (withinB xs b)) ∧ w = w' := by
  have hn := h.le
  go_enter Try.func33, Try.ntmps33
  go_wp2
  go_loop [9] (fun i => ∃ k : Nat, k ≤ n ∧ i = .int .i64 k ∧ Hid (∀ j, j < k → 0 ≤ nth xs j ∧ nth xs j < b)) (fun i => n - (intOf i).toNat)
  case atStart => exact ⟨0, Nat.zero_le _, rfl, fun j hj => absurd hj (by omega)⟩
  case round =>
    obtain ⟨k, hk, rfl, H⟩ := hrel
    by_cases hlt : k < n
    · obtain ⟨g, off, rfl, _, hcell⟩ := h.at_ hlt
      by_cases hx : nth xs k < 0
      · have HX := Lib.hid (withinB_no (b := b) k (by rw [h.len]; exact hlt) (by omega))
        go_wp2
        go_ret
        exact ⟨ret_bool HX.out.symm, rfl⟩
      · have hd : decide (nth xs k < 0) = false := by simp; omega
        by_cases hx' : b ≤ nth xs k
        · have HX := Lib.hid (withinB_no (b := b) k (by rw [h.len]; exact hlt) (by omega))
          go_wp2
          go_ret
          exact ⟨ret_bool HX.out.symm, rfl⟩
        · have hd' : decide (b ≤ nth xs k) = false := by simp; omega
          go_wp2
          go_round
          case rel => exact ⟨k + 1, by omega, by go_num, fun j hj => by
            rcases Nat.lt_or_ge j k with h1 | h1
            · exact H.out j h1
            · obtain rfl : j = k := by omega
              omega⟩
          case measure => simp [intOf]; omega
    · go_wp2
      go_ret
      exact ⟨ret_bool (withinB_yes (fun j hj => H.out j (by rw [h.len] at hj; omega))).symm, rfl⟩
end Go.Proofs.Ytjfninibloakgaa

/-
  The laws' helper ascend: whether numbers ascend. Stated for numbers that do.
-/
import Derived.Test.YtjfninibloakgaaBase
namespace Go.Proofs.Ytjfninibloakgaa
open Go.RowKit

/-- each number is less than the next one -/
def Asc (xs : List Int) : Prop := ∀ j, j + 1 < xs.length → nth xs j < nth xs (j + 1)

theorem asc_of_pairwise {xs : List Int} (h : xs.Pairwise (· < ·)) : Asc xs := by
  intro j hj
  rw [nth_get xs j (by omega), nth_get xs (j + 1) hj]
  exact List.pairwise_iff_getElem.1 h j (j + 1) (by omega) hj (by omega)

set_option maxHeartbeats 400000 in
theorem ascend_any (A : Option Addr) (n c : Nat) (xs : List Int) (w : World) (h : Rd w A n xs) (ha : Asc xs) :
    Calls Try.prog 30 #[.slice A n c] w fun e w' => e = .returned (.bool true) ∧ ∃ q, w' = w.drewN q := by
  have hn := h.le
  have HA := Lib.hid ha
  clear ha
  go_enter Try.func30, Try.ntmps30
  go_wp2
  go_loopw [3] (fun i wr => ∃ k q : Nat, 1 ≤ k ∧ (k ≤ n ∨ k = 1) ∧ i = .int .i64 k ∧ wr = w.drewN q) (fun i _ => n + 1 - (intOf i).toNat)
  case atStart => exact ⟨1, 0, by omega, by omega, rfl, rfl⟩
  case round =>
    obtain ⟨k, q, hk1, hk, rfl, rfl⟩ := hrel
    by_cases hlt : k < n
    · obtain ⟨j, rfl⟩ : ∃ j, k = j + 1 := ⟨k - 1, by omega⟩
      have hl := HA.out j (by rw [h.len]; exact hlt)
      obtain ⟨g, off, rfl, hg, hc⟩ := h.2.2 (by omega)
      have hc0 := hc j (by omega)
      have hc1 := hc (j + 1) hlt
      clear hc hk
      generalize nth xs j = x at *
      generalize nth xs (j + 1) = y at *
      have hd : decide (y ≤ x) = false := by simp; omega
      have e1 : ((j + 1 : Nat) : Int) = (j : Int) + 1 := by omega
      have e2 : IntKind.i64.wrap ((j : Int) + 1 - 1) = (j : Int) := by rw [IntWalk.i64_in _ (by omega)]; omega
      rw [e1]
      have i1 : (0 : Int) ≤ (j : Int) := by omega
      have i2 : (j : Int) < (n : Int) := by omega
      have i3 : (0 : Int) ≤ (j : Int) + 1 := by omega
      have i4 : (j : Int) + 1 < (n : Int) := by omega
      have i5 : ((j : Int) + 1).toNat = j + 1 := by omega
      clear e1
      go_wp2
      go_quiet (fail)
      clear e2 i5
      go_wp2
      go_roundw
      case rel => exact ⟨j + 1 + 1, _, by omega, by omega, by go_num, rfl⟩
      case measure => simp [intOf]; omega
    · go_wp2
      go_ret
      exact ⟨rfl, q, rfl⟩
end Go.Proofs.Ytjfninibloakgaa

/-
  The laws' helper alive: it returns true; it makes memory of its own and writes nothing else.
-/
import Derived.Test.YtjfninibloakgaaBase
namespace Go.Proofs.Ytjfninibloakgaa
open Go.RowKit

set_option maxHeartbeats 800000 in
theorem fv_three (B : Nat) (w : World) (h0 : w.cell? ⟨B, 0, none⟩ = some (.int .i64 0)) (h1 : w.cell? ⟨B, 1, none⟩ = some (.int .i64 4)) (h2 : w.cell? ⟨B, 2, none⟩ = some (.int .i64 9)) :
    Calls Try.prog 43 #[.slice (some ⟨B, 0, none⟩) 3 3] w fun e w' => e = .returned (.bool true) ∧ ∃ q, w' = w.drewN q := by
  go_enter Try.func43, Try.ntmps43
  go_wp2
  go_loopw [3] (fun i wr => ∃ k q : Nat, 1 ≤ k ∧ k ≤ 3 ∧ i = .int .i64 k ∧ wr = w.drewN q) (fun i _ => 3 - (intOf i).toNat)
  case atStart => exact ⟨1, 0, by omega, by omega, rfl, rfl⟩
  case round =>
    obtain ⟨k, q, hk, hk3, rfl, rfl⟩ := hrel
    by_cases e1 : k = 1
    · subst e1
      go_wp2
      go_quiet (fail)
      go_wp2
      go_roundw
      case rel => exact ⟨2, _, by omega, by omega, rfl, rfl⟩
      case measure => simp [intOf]
    · by_cases e2 : k = 2
      · subst e2
        go_wp2
        go_quiet (fail)
        go_wp2
        go_roundw
        case rel => exact ⟨3, _, by omega, by omega, rfl, rfl⟩
        case measure => simp [intOf]
      · obtain rfl : k = 3 := by omega
        clear e1 e2
        go_wp2
        go_ret
        exact ⟨rfl, q, rfl⟩

theorem fv_nil (w : World) : Calls Try.prog 43 #[.slice none 0 0] w fun e w' => e = .returned (.bool false) ∧ w = w' := by
  go_enter Try.func43, Try.ntmps43
  go_wp2
  go_ret
  exact ⟨rfl, rfl⟩

theorem fa_nil (w : World) : Calls Try.prog 39 #[.slice none 0 0, .int .i64 0] w fun e w' => e = .returned (.int .i64 (-1)) ∧ w = w' := by
  go_enter Try.func39, Try.ntmps39
  go_wp2_with (go_at_call 43; refine (fv_nil _).mono ?_; rintro e w' ⟨rfl, rfl⟩)
  go_ret
  exact ⟨rfl, rfl⟩

set_option maxHeartbeats 800000 in
theorem fa_three (B : Nat) (w : World) (h0 : w.cell? ⟨B, 0, none⟩ = some (.int .i64 0)) (h1 : w.cell? ⟨B, 1, none⟩ = some (.int .i64 4)) (h2 : w.cell? ⟨B, 2, none⟩ = some (.int .i64 9)) :
    Calls Try.prog 39 #[.slice (some ⟨B, 0, none⟩) 3 3, .int .i64 4] w fun e w' => e = .returned (.int .i64 1) ∧ ∃ q, w' = w.drewN q := by
  go_enter Try.func39, Try.ntmps39
  go_wp2_with (go_at_call 43; refine (fv_three B _ h0 h1 h2).mono ?_; rintro e w' ⟨rfl, q, rfl⟩)
  refine wp_loop_rounds 2 ?_
  rw [rounds_succ]
  go_wp2
  rw [rounds_succ]
  go_wp2
  go_ret
  exact ⟨rfl, q, rfl⟩

theorem alive_any (w : World) : Calls Try.prog 24 #[] w fun e w' => e = .returned (.bool true) ∧ Below w.heap.size w w' := by
  go_enter Try.func24, Try.ntmps24
  go_wp2_with fail
  refine (fa_three w.heap.size _ (by simp) (by simp) (by simp)).mono ?_
  rintro e w' ⟨rfl, q, rfl⟩
  go_wp2_with fail
  refine (fa_nil _).mono ?_
  rintro e w' ⟨rfl, rfl⟩
  go_wp2
  go_ret
  exact ⟨rfl, below_drewN_ ((Below.refl _ _).alloc (Nat.le_refl _) _) q⟩
end Go.Proofs.Ytjfninibloakgaa

/-
  The walk of the law FnRightHolds.
-/
import Derived.Test.YtkelamkbkkcpjaaLawsRight
namespace Go.Proofs.Ytkelamkbkkcpjaa
open Go.RowKit

theorem holdsB_same (a h : Int) (hi : inB h 0 23 = true) : holdsB a a h = true := by
  rw [holdsB_ge hi (by omega)]
  by_cases h1 : a ≤ h <;> simp [h1]; omega
theorem holdsB_other (a b h : Int) (hi : inB h 0 23 = true) (hab : ¬ a = b) : (holdsB a b h == holdsB b a h) = false := by
  rcases Int.lt_or_gt_of_ne hab with hlt | hlt
  · rw [holdsB_lt hi hlt, holdsB_ge hi (by omega)]
    by_cases h1 : a ≤ h <;> by_cases h2 : h < b <;> by_cases h3 : b ≤ h <;> by_cases h4 : h < a <;> simp [h1, h2, h3, h4] <;> omega
  · rw [holdsB_ge hi (by omega), holdsB_lt hi hlt]
    by_cases h1 : a ≤ h <;> by_cases h2 : h < b <;> by_cases h3 : b ≤ h <;> by_cases h4 : h < a <;> simp [h1, h2, h3, h4] <;> omega

set_option maxHeartbeats 1600000 in
theorem walk_FnRightHolds (a0 : Option Addr) (len0 cap0 : Nat) (z0 : List Int) (w : World) (w0 : IsRow .u8 w a0 len0 cap0 z0) :
    Calls Try.prog 8 #[.slice a0 len0 cap0] w fun e w' => e = .returned (.bool true) ∧ Below w.heap.size w w' := by
  by_cases hlen : 1048576 < len0
  · go_enter Try.func8, Try.ntmps8
    go_wp2
    go_ret
    exact ⟨rfl, Below.refl _ _⟩
  · go_enter Try.func8, Try.ntmps8
    go_wp2_with fail
    refine (DrawRightHolds_any a0 len0 cap0 z0 _ w0).mono ?_
    rintro e w1 ⟨f, a, b, h, rfl, hh0, hh1, hb1⟩
    have b1 : Below w.heap.size w (w1.alloc (.cells #[.int .i64 f, .int .i64 a, .int .i64 b] 25)) := hb1.alloc hb1.size _
    have hs : (holdsB a b h == holdsB a b h) = true := by simp
    go_wp2_with fail
    refine (implRightHolds_any f a b h _).mono ?_
    rintro e w2 ⟨rfl, b2⟩
    have hc0 : w2.cell? ⟨w1.heap.size, 0, none⟩ = some (.int .i64 f) := by rw [b2.cell (p := ⟨w1.heap.size, 0, none⟩) (by simp)]; simp
    have hc1 : w2.cell? ⟨w1.heap.size, 1, none⟩ = some (.int .i64 a) := by rw [b2.cell (p := ⟨w1.heap.size, 1, none⟩) (by simp)]; simp
    have hc2 : w2.cell? ⟨w1.heap.size, 2, none⟩ = some (.int .i64 b) := by rw [b2.cell (p := ⟨w1.heap.size, 2, none⟩) (by simp)]; simp
    go_wp2_with fail
    refine (specRightHolds_any f a b h _).mono ?_
    rintro e w3 ⟨rfl, b3⟩
    have b23 := below_step b2 b3
    have b13 := below_step b1 b23
    have hd0 : w3.cell? ⟨w1.heap.size, 0, none⟩ = some (.int .i64 f) := by rw [b23.cell (p := ⟨w1.heap.size, 0, none⟩) (by simp)]; simp
    have hd1 : w3.cell? ⟨w1.heap.size, 1, none⟩ = some (.int .i64 a) := by rw [b23.cell (p := ⟨w1.heap.size, 1, none⟩) (by simp)]; simp
    have hd2 : w3.cell? ⟨w1.heap.size, 2, none⟩ = some (.int .i64 b) := by rw [b23.cell (p := ⟨w1.heap.size, 2, none⟩) (by simp)]; simp
    cases hi : inB h 0 23
    · have hf := holdsB_out (a := a) (b := b) hi
      have hn := inB_false.1 hi
      by_cases hneg : h < 0
      · go_wp2_with fail
        refine (alive_any _).mono ?_
        rintro e w4 ⟨rfl, b4⟩
        go_wp2_with fail
        go_ret
        exact ⟨rfl, below_step b13 b4⟩
      · have hge : 23 < h := by omega
        have hdn : decide (h < 0) = false := by simp; omega
        go_wp2_with fail
        refine (alive_any _).mono ?_
        rintro e w4 ⟨rfl, b4⟩
        go_wp2_with fail
        go_ret
        exact ⟨rfl, below_step b13 b4⟩
    · have hy := inB_true.1 hi
      obtain ⟨hy0, hy1⟩ := hy
      have hdn : decide (h < 0) = false := by simp; omega
      have hdm : decide (23 < h) = false := by simp; omega
      go_wp2_with fail
      refine (implRightHolds_any f b a h _).mono ?_
      rintro e w4 ⟨rfl, b4⟩
      have b24 := below_step b23 b4
      have he1 : w4.cell? ⟨w1.heap.size, 1, none⟩ = some (.int .i64 a) := by rw [b24.cell (p := ⟨w1.heap.size, 1, none⟩) (by simp)]; simp
      have he2 : w4.cell? ⟨w1.heap.size, 2, none⟩ = some (.int .i64 b) := by rw [b24.cell (p := ⟨w1.heap.size, 2, none⟩) (by simp)]; simp
      have b14 := below_step b13 b4
      by_cases hab : a = b
      · subst hab
        have e1 := holdsB_same a h hi
        go_wp2_with fail
        go_ret
        exact ⟨rfl, b14⟩
      · have n1 : (a == b) = false := by simp [hab]
        have n2 : (a != b) = true := by simp [hab]
        have e1 := holdsB_other a b h hi hab
        clear hab hs
        go_wp2_with fail
        go_ret
        exact ⟨rfl, b14⟩
end Go.Proofs.Ytkelamkbkkcpjaa

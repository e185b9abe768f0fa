/-
  RightHolds of the program and of the reference, hourValid, toRight; the walk of the law FnExactRightHolds.
-/
import Derived.Test.YtkelamkbkkcpjaaIn
namespace Go.Proofs.Ytkelamkbkkcpjaa
open Go.RowKit

/-- a right from hour a on, before hour b, holds in hour h -/
def holdsB (a b h : Int) : Bool := inB h 0 23 && (if a < b then decide (a ≤ h) && decide (h < b) else decide (a ≤ h) || decide (h < b))
theorem holdsB_out {a b h : Int} (hi : inB h 0 23 = false) : holdsB a b h = false := by unfold holdsB; rw [hi]; rfl
theorem holdsB_lt {a b h : Int} (hi : inB h 0 23 = true) (hab : a < b) : holdsB a b h = (decide (a ≤ h) && decide (h < b)) := by unfold holdsB; rw [hi, if_pos hab]; rfl
theorem holdsB_ge {a b h : Int} (hi : inB h 0 23 = true) (hab : ¬ a < b) : holdsB a b h = (decide (a ≤ h) || decide (h < b)) := by unfold holdsB; rw [hi, if_neg hab]; rfl

theorem hourValid_any (h : Int) (w : World) : Calls Try.prog 42 #[.int .i64 h] w fun e w' => e = .returned (.bool (inB h 0 23)) ∧ w = w' := by
  by_cases h1 : 0 ≤ h
  · by_cases h2 : h < 24
    · go_enter Try.func42, Try.ntmps42
      go_wp2
      go_ret
      exact ⟨ret_bool (inB_yes (by omega)).symm, rfl⟩
    · go_enter Try.func42, Try.ntmps42
      go_wp2
      go_ret
      exact ⟨ret_bool (inB_no (by omega)).symm, rfl⟩
  · have hd : decide (0 ≤ h) = false := by simp; omega
    go_enter Try.func42, Try.ntmps42
    go_wp2
    go_ret
    exact ⟨ret_bool (inB_no (by omega)).symm, rfl⟩

theorem impl_hour (h : Int) (w : World) : Calls Try.prog 42 #[.int .i64 h] w fun e w' => e = .returned (.bool (inB h 0 23)) ∧ w = w' := hourValid_any h w
theorem spec_hour (h : Int) (w : World) : Calls Try.prog 41 #[.int .i64 h, .int .i64 0, .int .i64 23] w fun e w' => e = .returned (.bool (inB h 0 23)) ∧ w = w' := l1In_any h 0 23 w

set_option maxHeartbeats 400000 in
theorem implRightHolds_any (f a b h : Int) (w : World) :
    Calls Try.prog 15 #[.agg #[.int .i64 f, .int .i64 a, .int .i64 b], .int .i64 h] w fun e w' => e = .returned (.bool (holdsB a b h)) ∧ Below w.heap.size w w' := by
  have hbel : Below w.heap.size w (w.alloc (.cells #[.int .i64 f, .int .i64 a, .int .i64 b] 25)) := (Below.refl _ _).alloc (Nat.le_refl _) _
  cases hi : inB h 0 23
  · have HF := Lib.hid (holdsB_out (a := a) (b := b) hi)
    go_enter Try.func15, Try.ntmps15
    go_wp2_with fail
    refine (impl_hour h _).mono ?_
    rintro e w' ⟨rfl, rfl⟩
    go_wp2_with fail
    go_ret
    exact ⟨ret_bool HF.out.symm, hbel⟩
  · by_cases hab : a < b
    · have HF := Lib.hid (holdsB_lt hi hab)
      by_cases h1 : a ≤ h
      · have hd : decide (a ≤ h) = true := by simp [h1]
        go_enter Try.func15, Try.ntmps15
        go_wp2_with fail
        refine (impl_hour h _).mono ?_
        rintro e w' ⟨rfl, rfl⟩
        go_wp2_with fail
        go_ret
        exact ⟨ret_bool (by rw [HF.out, hd]; simp), hbel⟩
      · have hd : decide (a ≤ h) = false := by simp; omega
        go_enter Try.func15, Try.ntmps15
        go_wp2_with fail
        refine (impl_hour h _).mono ?_
        rintro e w' ⟨rfl, rfl⟩
        go_wp2_with fail
        go_ret
        exact ⟨ret_bool (by rw [HF.out, hd]; rfl), hbel⟩
    · have HF := Lib.hid (holdsB_ge hi hab)
      have hnab : decide (a < b) = false := by simp; omega
      by_cases h1 : a ≤ h
      · have hd : decide (a ≤ h) = true := by simp [h1]
        go_enter Try.func15, Try.ntmps15
        go_wp2_with fail
        refine (impl_hour h _).mono ?_
        rintro e w' ⟨rfl, rfl⟩
        go_wp2_with fail
        go_ret
        exact ⟨ret_bool (by rw [HF.out, hd]; rfl), hbel⟩
      · have hd : decide (a ≤ h) = false := by simp; omega
        go_enter Try.func15, Try.ntmps15
        go_wp2_with fail
        refine (impl_hour h _).mono ?_
        rintro e w' ⟨rfl, rfl⟩
        go_wp2_with fail
        go_ret
        exact ⟨ret_bool (by rw [HF.out, hd]; simp), hbel⟩
set_option maxHeartbeats 400000 in
theorem specRightHolds_any (f a b h : Int) (w : World) :
    Calls Try.prog 13 #[.agg #[.int .i64 f, .int .i64 a, .int .i64 b], .int .i64 h] w fun e w' => e = .returned (.bool (holdsB a b h)) ∧ Below w.heap.size w w' := by
  have hbel : Below w.heap.size w (w.alloc (.cells #[.int .i64 f, .int .i64 a, .int .i64 b] 25)) := (Below.refl _ _).alloc (Nat.le_refl _) _
  cases hi : inB h 0 23
  · have HF := Lib.hid (holdsB_out (a := a) (b := b) hi)
    go_enter Try.func13, Try.ntmps13
    go_wp2_with fail
    refine (spec_hour h _).mono ?_
    rintro e w' ⟨rfl, rfl⟩
    go_wp2_with fail
    go_ret
    exact ⟨ret_bool HF.out.symm, hbel⟩
  · by_cases hab : a < b
    · have HF := Lib.hid (holdsB_lt hi hab)
      by_cases h1 : a ≤ h
      · have hd : decide (a ≤ h) = true := by simp [h1]
        go_enter Try.func13, Try.ntmps13
        go_wp2_with fail
        refine (spec_hour h _).mono ?_
        rintro e w' ⟨rfl, rfl⟩
        go_wp2_with fail
        go_ret
        exact ⟨ret_bool (by rw [HF.out, hd]; simp), hbel⟩
      · have hd : decide (a ≤ h) = false := by simp; omega
        go_enter Try.func13, Try.ntmps13
        go_wp2_with fail
        refine (spec_hour h _).mono ?_
        rintro e w' ⟨rfl, rfl⟩
        go_wp2_with fail
        go_ret
        exact ⟨ret_bool (by rw [HF.out, hd]; rfl), hbel⟩
    · have HF := Lib.hid (holdsB_ge hi hab)
      have hnab : decide (a < b) = false := by simp; omega
      by_cases h1 : a ≤ h
      · have hd : decide (a ≤ h) = true := by simp [h1]
        go_enter Try.func13, Try.ntmps13
        go_wp2_with fail
        refine (spec_hour h _).mono ?_
        rintro e w' ⟨rfl, rfl⟩
        go_wp2_with fail
        go_ret
        exact ⟨ret_bool (by rw [HF.out, hd]; rfl), hbel⟩
      · have hd : decide (a ≤ h) = false := by simp; omega
        go_enter Try.func13, Try.ntmps13
        go_wp2_with fail
        refine (spec_hour h _).mono ?_
        rintro e w' ⟨rfl, rfl⟩
        go_wp2_with fail
        go_ret
        exact ⟨ret_bool (by rw [HF.out, hd]; simp), hbel⟩

theorem toRight_any (f a b : Int) (w : World) :
    Calls Try.prog 14 #[.agg #[.int .i64 f, .int .i64 a, .int .i64 b]] w fun e w' => e = .returned (.agg #[.int .i64 f, .int .i64 a, .int .i64 b]) ∧ Below w.heap.size w w' := by
  go_enter Try.func14, Try.ntmps14
  go_wp2
  refine bodyPost_ret (v := .agg #[.int .i64 f, .int .i64 a, .int .i64 b]) (by simp [results, Try.results14, go_sem]) rfl ⟨rfl, ?_⟩
  exact (((Below.refl _ _).alloc (Nat.le_refl _) _).alloc (by simp) _).alloc (by simp; omega) _

set_option maxHeartbeats 400000 in
theorem walk_FnExactRightHolds (f a b h : Int) (w : World) (_w1 : (Lit.int .i64 h).wf = true) :
    Calls Try.prog 3 #[.agg #[.int .i64 f, .int .i64 a, .int .i64 b], .int .i64 h] w fun e w' => e = .returned (.bool true) ∧ Below w.heap.size w w' := by
  have hs : (holdsB a b h == holdsB a b h) = true := by simp
  have b0 : Below w.heap.size w (w.alloc (.cells #[.int .i64 f, .int .i64 a, .int .i64 b] 23)) := (Below.refl _ _).alloc (Nat.le_refl _) _
  go_enter Try.func3, Try.ntmps3
  go_wp2_with fail
  refine (toRight_any f a b _).mono ?_
  rintro e w1 ⟨rfl, b1⟩
  go_wp2_with fail
  refine (specRightHolds_any f a b h _).mono ?_
  rintro e w2 ⟨rfl, b2⟩
  have b12 := below_step b1 b2
  have hc0 : w2.cell? ⟨w.heap.size, 0, none⟩ = some (.int .i64 f) := by rw [b12.cell (p := ⟨w.heap.size, 0, none⟩) (by simp)]; simp
  have hc1 : w2.cell? ⟨w.heap.size, 1, none⟩ = some (.int .i64 a) := by rw [b12.cell (p := ⟨w.heap.size, 1, none⟩) (by simp)]; simp
  have hc2 : w2.cell? ⟨w.heap.size, 2, none⟩ = some (.int .i64 b) := by rw [b12.cell (p := ⟨w.heap.size, 2, none⟩) (by simp)]; simp
  go_wp2_with fail
  refine (toRight_any f a b _).mono ?_
  rintro e w3 ⟨rfl, b3⟩
  go_wp2_with fail
  refine (implRightHolds_any f a b h _).mono ?_
  rintro e w4 ⟨rfl, b4⟩
  go_wp2_with fail
  go_ret
  exact ⟨rfl, below_step (below_step (below_step b0 b12) b3) b4⟩
end Go.Proofs.Ytkelamkbkkcpjaa

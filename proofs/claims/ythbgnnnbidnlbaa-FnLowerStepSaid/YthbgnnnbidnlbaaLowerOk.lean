/-
  LowerOk of the program and of the reference; the walk of the law FnExactLowerOk.
-/
import Derived.Test.YthbgnnnbidnlbaaTo
import Derived.Test.YthbgnnnbidnlbaaSame
import Derived.Test.YthbgnnnbidnlbaaWithin
import Derived.Test.YthbgnnnbidnlbaaIn
namespace Go.Proofs.Ythbgnnnbidnlbaa
open Go.RowKit

/-- there are 1..4 cars, each at a floor in 0..7, and a supply in 1..4 -/
def lowerB (xs : List Int) (s : Int) : Bool := (decide (1 ≤ xs.length) && decide (xs.length ≤ 4)) && (decide (1 ≤ s) && decide (s ≤ 4)) && withinB xs 8
theorem lowerB_true {xs : List Int} {s : Int} : lowerB xs s = true ↔ (1 ≤ xs.length ∧ xs.length ≤ 4) ∧ (1 ≤ s ∧ s ≤ 4) ∧ withinB xs 8 = true := by unfold lowerB; simp [and_assoc]
theorem lowerB_no {xs : List Int} {s : Int} (h : ¬ ((1 ≤ xs.length ∧ xs.length ≤ 4) ∧ (1 ≤ s ∧ s ≤ 4))) : lowerB xs s = false := by
  cases hb : lowerB xs s
  · rfl
  · exact absurd ⟨(lowerB_true.1 hb).1, (lowerB_true.1 hb).2.1⟩ h
theorem lowerB_in {xs : List Int} {s : Int} (h1 : 1 ≤ xs.length) (h2 : xs.length ≤ 4) (h3 : 1 ≤ s) (h4 : s ≤ 4) : lowerB xs s = withinB xs 8 := by unfold lowerB; simp [h1, h2, h3, h4]

set_option maxHeartbeats 400000 in
theorem implLowerOk_any (A : Option Addr) (n c : Nat) (xs : List Int) (s : Int) (w : World) (h : Rd w A n xs) :
    Calls Try.prog 13 #[.slice A n c, .int .i64 s] w fun e w' => e = .returned (.bool (lowerB xs s)) ∧ w = w' := by
  have hn := h.le
  have HL := Lib.hid h.len
  by_cases h1 : n < 1
  · have HF := Lib.hid (lowerB_no (xs := xs) (s := s) (by rw [HL.out]; omega))
    go_enter Try.func13, Try.ntmps13
    go_wp2_with fail
    go_ret
    exact ⟨ret_bool HF.out.symm, rfl⟩
  by_cases h2 : 4 < n
  · have HF := Lib.hid (lowerB_no (xs := xs) (s := s) (by rw [HL.out]; omega))
    have d1 : decide ((n : Int) < 1) = false := by simp; omega
    go_enter Try.func13, Try.ntmps13
    go_wp2_with fail
    go_ret
    exact ⟨ret_bool HF.out.symm, rfl⟩
  have d1 : decide ((n : Int) < 1) = false := by simp; omega
  have d2 : decide ((4 : Int) < (n : Int)) = false := by simp; omega
  by_cases h3 : s < 1
  · have HF := Lib.hid (lowerB_no (xs := xs) (s := s) (by omega))
    go_enter Try.func13, Try.ntmps13
    go_wp2_with fail
    go_ret
    exact ⟨ret_bool HF.out.symm, rfl⟩
  have d3 : decide (s < 1) = false := by simp; omega
  by_cases h4 : 4 < s
  · have HF := Lib.hid (lowerB_no (xs := xs) (s := s) (by omega))
    go_enter Try.func13, Try.ntmps13
    go_wp2_with fail
    go_ret
    exact ⟨ret_bool HF.out.symm, rfl⟩
  have d4 : decide (4 < s) = false := by simp; omega
  have HF := Lib.hid (lowerB_in (xs := xs) (s := s) (by rw [HL.out]; omega) (by rw [HL.out]; omega) (by omega) (by omega))
  go_enter Try.func13, Try.ntmps13
  go_wp2_with fail
  refine (allWithin_any A n c xs _ _ h).mono ?_
  rintro e w' ⟨rfl, rfl⟩
  go_wp2_with fail
  go_ret
  exact ⟨ret_bool HF.out.symm, rfl⟩

theorem lowerB_bad {xs : List Int} {s : Int} (h : withinB xs 8 = false) : lowerB xs s = false := by unfold lowerB; rw [h]; simp

set_option maxHeartbeats 400000 in
theorem specLowerOk_any (A : Option Addr) (n c : Nat) (xs : List Int) (s : Int) (w : World) (h : Rd w A n xs) :
    Calls Try.prog 11 #[.slice A n c, .int .i64 s] w fun e w' => e = .returned (.bool (lowerB xs s)) ∧ w = w' := by
  have hn := h.le
  have HL := Lib.hid h.len
  go_enter Try.func11, Try.ntmps11
  go_wp2
  go_loop [5] (fun i => ∃ k : Nat, k ≤ n ∧ i = .int .i64 k ∧ Hid (∀ j, j < k → 0 ≤ nth xs j ∧ nth xs j < 8)) (fun i => n - (intOf i).toNat)
  case atStart => exact ⟨0, Nat.zero_le _, rfl, fun j hj => absurd hj (by omega)⟩
  case round =>
    obtain ⟨k, hk, rfl, H⟩ := hrel
    by_cases hlt : k < n
    · obtain ⟨g, off, rfl, _, hcell⟩ := h.at_ hlt
      by_cases hx : 0 ≤ nth xs k ∧ nth xs k ≤ 7
      · have hi := inB_yes hx
        have HX := Lib.hid hx
        clear hx
        go_wp2_with fail
        refine (l1In_any _ _ _ _).mono ?_
        rintro e w' ⟨rfl, rfl⟩
        go_wp2_with fail
        go_round
        case rel => exact ⟨k + 1, by omega, by go_num, fun j hj => by
          rcases Nat.lt_or_ge j k with h1 | h1
          · exact H.out j h1
          · obtain rfl : j = k := by omega
            have := HX.out
            omega⟩
        case measure => simp [intOf]; omega
      · have hi := inB_no hx
        have HF := Lib.hid (lowerB_bad (s := s) (withinB_no (xs := xs) (b := 8) k (by rw [HL.out]; exact hlt) (by omega)))
        clear hx
        go_wp2_with fail
        refine (l1In_any _ _ _ _).mono ?_
        rintro e w' ⟨rfl, rfl⟩
        go_wp2_with fail
        go_ret
        exact ⟨ret_bool HF.out.symm, rfl⟩
    · have HW := Lib.hid (withinB_yes (xs := xs) (b := 8) (fun j hj => H.out j (by rw [HL.out] at hj; omega)))
      by_cases h1 : (1 : Int) ≤ (n : Int) ∧ (n : Int) ≤ 4
      · have i1 := inB_yes h1
        by_cases h2 : 1 ≤ s ∧ s ≤ 4
        · have i2 := inB_yes h2
          have HF := Lib.hid (lowerB_true.2 ⟨⟨by rw [HL.out]; omega, by rw [HL.out]; omega⟩, h2, HW.out⟩)
          clear h1 h2
          go_wp2_with fail
          refine (l1In_any _ _ _ _).mono ?_
          rintro e w' ⟨rfl, rfl⟩
          go_wp2_with fail
          refine (l1In_any _ _ _ _).mono ?_
          rintro e w' ⟨rfl, rfl⟩
          go_wp2_with fail
          go_ret
          exact ⟨ret_bool HF.out.symm, rfl⟩
        · have i2 := inB_no h2
          have HF := Lib.hid (lowerB_no (xs := xs) (s := s) (by omega))
          clear h1 h2
          go_wp2_with fail
          refine (l1In_any _ _ _ _).mono ?_
          rintro e w' ⟨rfl, rfl⟩
          go_wp2_with fail
          refine (l1In_any _ _ _ _).mono ?_
          rintro e w' ⟨rfl, rfl⟩
          go_wp2_with fail
          go_ret
          exact ⟨ret_bool HF.out.symm, rfl⟩
      · have i1 := inB_no h1
        have HF := Lib.hid (lowerB_no (xs := xs) (s := s) (by rw [HL.out]; omega))
        clear h1
        go_wp2_with fail
        refine (l1In_any _ _ _ _).mono ?_
        rintro e w' ⟨rfl, rfl⟩
        go_wp2_with fail
        go_ret
        exact ⟨ret_bool HF.out.symm, rfl⟩

set_option maxHeartbeats 400000 in
theorem walk_FnExactLowerOk (a0 : Option Addr) (len0 cap0 : Nat) (z0 : List Int) (a1 : Int) (w : World) (w0 : IsRow .i64 w a0 len0 cap0 z0) (_w1 : (Lit.int .i64 a1).wf = true) :
    Calls Try.prog 3 #[.slice a0 len0 cap0, .int .i64 a1] w fun e w' => e = .returned (.bool true) ∧ Below w.heap.size w w' := by
  by_cases hlen : 1048576 < len0
  · go_enter Try.func3, Try.ntmps3
    go_wp2
    go_ret
    exact ⟨rfl, Below.refl _ _⟩
  · have hr := w0.rd (by omega)
    generalize z0.take len0 = xs at hr
    have hs := sameB_refl xs
    have hb : (lowerB xs a1 == lowerB xs a1) = true := by simp
    go_enter Try.func3, Try.ntmps3
    go_wp2_with fail
    refine (toIntS_any a0 len0 cap0 xs _ hr).mono ?_
    rintro e w1 ⟨rfl, r1, b1⟩
    go_wp2_with fail
    refine (specLowerOk_any _ _ _ xs _ _ r1.rd).mono ?_
    rintro e w2 ⟨rfl, rfl⟩
    go_wp2_with fail
    refine (toIntS_any a0 len0 cap0 xs _ (hr.below b1)).mono ?_
    rintro e w2 ⟨rfl, r2, b2⟩
    go_wp2_with fail
    refine (implLowerOk_any _ _ _ xs _ _ r2.rd).mono ?_
    rintro e w3 ⟨rfl, rfl⟩
    go_wp2_with fail
    refine (toIntS_any a0 len0 cap0 xs _ ((hr.below b1).below b2)).mono ?_
    rintro e w3 ⟨rfl, r3, b3⟩
    go_wp2_with fail
    refine (eqIntS_any _ _ _ _ _ _ xs xs _ (r2.rd.below b3) r3.rd).mono ?_
    rintro e w4 ⟨rfl, q, rfl⟩
    go_wp2_with fail
    go_ret
    exact ⟨rfl, below_drewN_ (below_step (below_step b1 b2) b3) q⟩
end Go.Proofs.Ythbgnnnbidnlbaa

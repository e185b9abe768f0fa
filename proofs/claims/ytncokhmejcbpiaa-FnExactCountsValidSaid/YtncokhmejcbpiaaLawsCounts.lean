/-
  CountsValid of the program and of the reference; the walk of the law FnExactCountsValid.
-/
import Derived.Test.YtncokhmejcbpiaaTo
import Derived.Test.YtncokhmejcbpiaaSame
import Derived.Test.YtncokhmejcbpiaaWithin
import Derived.Test.YtncokhmejcbpiaaIn
namespace Go.Proofs.Ytncokhmejcbpiaa
open Go.RowKit

/-- there are 16 numbers, each in 0..999 -/
def countsB (xs : List Int) : Bool := xs.length == 16 && withinB xs 1000

theorem implCountsValid_any (A : Option Addr) (n c : Nat) (xs : List Int) (w : World) (h : Rd w A n xs) :
    Calls Try.prog 6 #[.slice A n c] w fun e w' => e = .returned (.bool (countsB xs)) ∧ w = w' := by
  have hn := h.le
  have HL := Lib.hid h.len
  by_cases h0 : n = 16
  · have hb : ((n : Int) == 16) = true := by simp; omega
    have HF : Hid (countsB xs = withinB xs 1000) := by show _ = _; unfold countsB; rw [HL.out]; simp [h0]
    clear h0
    go_enter Try.func6, Try.ntmps6
    go_wp2_with fail
    refine (allWithin_any A n c xs _ _ h).mono ?_
    rintro e w' ⟨rfl, rfl⟩
    go_wp2_with fail
    go_ret
    exact ⟨ret_bool HF.out.symm, rfl⟩
  · have hb : ((n : Int) == 16) = false := by simp; omega
    have HF : Hid (countsB xs = false) := by show _ = _; unfold countsB; rw [HL.out]; simp [h0]
    clear h0
    go_enter Try.func6, Try.ntmps6
    go_wp2_with fail
    go_ret
    exact ⟨ret_bool HF.out.symm, rfl⟩

set_option maxHeartbeats 400000 in
theorem specCountsValid_any (A : Option Addr) (n c : Nat) (xs : List Int) (w : World) (h : Rd w A n xs) :
    Calls Try.prog 4 #[.slice A n c] w fun e w' => e = .returned (.bool (countsB xs)) ∧ w = w' := by
  have hn := h.le
  have HL := Lib.hid h.len
  go_enter Try.func4, Try.ntmps4
  go_wp2
  go_loop [3] (fun i => ∃ k : Nat, k ≤ n ∧ i = .int .i64 k ∧ Hid (∀ j, j < k → 0 ≤ nth xs j ∧ nth xs j < 1000)) (fun i => n - (intOf i).toNat)
  case atStart => exact ⟨0, Nat.zero_le _, rfl, fun j hj => absurd hj (by omega)⟩
  case round =>
    obtain ⟨k, hk, rfl, H⟩ := hrel
    by_cases hlt : k < n
    · obtain ⟨g, off, rfl, _, hcell⟩ := h.at_ hlt
      by_cases hx : 0 ≤ nth xs k ∧ nth xs k ≤ 999
      · have hi := inB_yes hx
        have HX := Lib.hid hx
        clear hx
        go_wp2_with fail
        refine (l1In_any _ _ _ _).mono ?_
        rintro e w' ⟨rfl, rfl⟩
        go_wp2_with fail
        go_round
        case rel => exact ⟨k + 1, by omega, by go_num, fun j hj => by
          rcases Nat.lt_or_ge j k with h1 | h1
          · exact H.out j h1
          · obtain rfl : j = k := by omega
            have := HX.out
            omega⟩
        case measure => simp [intOf]; omega
      · have hi := inB_no hx
        have HF : Hid (countsB xs = false) := by
          show _ = _
          unfold countsB
          rw [withinB_no (b := 1000) k (by rw [HL.out]; exact hlt) (by omega)]; simp
        clear hx
        go_wp2_with fail
        refine (l1In_any _ _ _ _).mono ?_
        rintro e w' ⟨rfl, rfl⟩
        go_wp2_with fail
        go_ret
        exact ⟨ret_bool HF.out.symm, rfl⟩
    · have HF : Hid (countsB xs = ((n : Int) == 16)) := by
        show _ = _
        unfold countsB
        rw [withinB_yes (b := 1000) (fun j hj => H.out j (by rw [HL.out] at hj; omega)), HL.out, Bool.and_true, Bool.eq_iff_iff]
        simp only [beq_iff_eq]
        omega
      go_wp2_with fail
      go_ret
      exact ⟨ret_bool HF.out.symm, rfl⟩

set_option maxHeartbeats 400000 in
theorem walk_FnExactCountsValid (a0 : Option Addr) (len0 cap0 : Nat) (z0 : List Int) (w : World) (w0 : IsRow .i64 w a0 len0 cap0 z0) :
    Calls Try.prog 3 #[.slice a0 len0 cap0] w fun e w' => e = .returned (.bool true) ∧ Below w.heap.size w w' := by
  by_cases hlen : 1048576 < len0
  · go_enter Try.func3, Try.ntmps3
    go_wp2
    go_ret
    exact ⟨rfl, Below.refl _ _⟩
  · have hr := w0.rd (by omega)
    generalize z0.take len0 = xs at hr
    have hs := sameB_refl xs
    have hb : (countsB xs == countsB xs) = true := by simp
    go_enter Try.func3, Try.ntmps3
    go_wp2_with fail
    refine (toIntS_any a0 len0 cap0 xs _ hr).mono ?_
    rintro e w1 ⟨rfl, r1, b1⟩
    go_wp2_with fail
    refine (specCountsValid_any _ _ _ xs _ r1.rd).mono ?_
    rintro e w2 ⟨rfl, rfl⟩
    go_wp2_with fail
    refine (toIntS_any a0 len0 cap0 xs _ (hr.below b1)).mono ?_
    rintro e w2 ⟨rfl, r2, b2⟩
    go_wp2_with fail
    refine (implCountsValid_any _ _ _ xs _ r2.rd).mono ?_
    rintro e w3 ⟨rfl, rfl⟩
    go_wp2_with fail
    refine (toIntS_any a0 len0 cap0 xs _ ((hr.below b1).below b2)).mono ?_
    rintro e w3 ⟨rfl, r3, b3⟩
    go_wp2_with fail
    refine (eqIntS_any _ _ _ _ _ _ xs xs _ (r2.rd.below b3) r3.rd).mono ?_
    rintro e w4 ⟨rfl, q, rfl⟩
    go_wp2_with fail
    go_ret
    exact ⟨rfl, below_drewN_ (below_step (below_step b1 b2) b3) q⟩
end Go.Proofs.Ytncokhmejcbpiaa

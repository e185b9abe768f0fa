/-
  Contracts of CodeBetween, of the program and of the reference; the walk of the law FnExactCodeBetween.
-/
import Derived.Test.YtkjjdpooahdicaaCodes3
import Derived.Test.YtkjjdpooahdicaaAppend
namespace Go.Proofs.Ytkjjdpooahdicaa
open Go.RowKit CodesPlain

theorem between_no (a b : Int) (h : ¬ (cvB a = true ∧ cvB b = true)) : between a b = [] := by unfold between; rw [if_neg h]

/-- the mask of the bits that are the same -/
theorem and_mask (u x : Nat) (hu : u < 64) (hx : x < 64) : (bits .and .i64 (u : Int) (bits .xor .i64 (-1) (x : Int)) == 0) = (u &&& (63 - x) == 0) := by
  have := lt64two (fun u x => (bits .and .i64 (u : Int) (bits .xor .i64 (-1) (x : Int)) == 0) == (u &&& (63 - x) == 0)) (by decide +kernel) u x hu hx
  simpa using this
theorem codeOf_codeN (j : Nat) (h : j < 64) : codeOf (j : Int) = ((codeN j : Nat) : Int) := codeOf_nat j h
theorem retRow_nil (w : World) (a b : Int) (h : ¬ (cvB a = true ∧ cvB b = true)) : RetRow w (between a b) (.returned (.slice none 0 0)) w := by
  rw [between_no a b h]
  exact ⟨none, 0, 0, rfl, Nat.le_refl _, Row.nil_, Below.refl _ _⟩

set_option maxHeartbeats 800000 in
theorem implCodeBetween_any (a b : Int) (w : World) : Calls Try.prog 18 #[.int .i64 a, .int .i64 b] w (RetRow w (between a b)) := by
  by_cases h : 0 ≤ a ∧ a < 64
  · have hv : cvB a = true := cvB_true.2 h
    by_cases h' : 0 ≤ b ∧ b < 64
    · have hv' : cvB b = true := cvB_true.2 h'
      obtain ⟨m, rfl⟩ := Int.eq_ofNat_of_zero_le h.1
      obtain ⟨k, rfl⟩ := Int.eq_ofNat_of_zero_le h'.1
      have hm : m < 64 := by omega
      have hk : k < 64 := by omega
      have hx := xor_lt63 m k (by omega) (by omega)
      have hl := xor_lt m k (by omega) (by omega)
      go_enter Try.func18, Try.ntmps18
      go_wp2_with (go_at_call 31; refine (codeValid_any _ _).mono ?_; rintro e w' ⟨rfl, rfl⟩)
      go_loopw [6, 20] (fun v i wr => ∃ (j n c : Nat) (A : Option Addr), j ≤ 64 ∧ i = .int .i64 j ∧ v = .slice A n c ∧ n ≤ 64 ∧ Own wr w.heap.size A n c (btwTo m k j) ∧ Below w.heap.size w wr) (fun _ i _ => 64 - (intOf i).toNat)
      case atStart => exact ⟨0, 0, 0, none, by omega, rfl, rfl, by omega, Own.nil_ _ _, Below.refl _ _⟩
      case round =>
        obtain ⟨j, n, c, A, hj, rfl, rfl, hn, hown, hb⟩ := hrel
        by_cases hlt : j < 64
        · have hcj := codeOf_codeN j hlt
          have hcl := code_lt j hlt
          have hx2 := xor_lt63 (codeN j) m hcl hm
          have ha := and_mask (codeN j ^^^ m) (m ^^^ k) (xor_lt _ _ hcl hm) hl
          have hnl := btwTo_len m k j
          rw [hown.len] at hnl
          cases hc : ((codeN j ^^^ m) &&& (63 - (m ^^^ k)) == 0)
          · rw [hc] at ha
            have HE := Lib.hid (btwTo_no m k j hc)
            clear hc
            go_wp2_with (go_at_call 12; refine (implCodeOf_any _ _).mono ?_; rintro e w' ⟨rfl, rfl⟩)
            go_roundw
            case rel => exact ⟨j + 1, n, c, A, by omega, by go_num, rfl, by omega, by rw [HE.out]; exact hown, hb⟩
            case measure => simp [intOf]; omega
          · rw [hc] at ha
            have HE := Lib.hid (btwTo_yes m k j hc)
            clear hc
            have hbs := hb.size
            go_wp2_with (first
              | (go_at_call 12; refine (implCodeOf_any _ _).mono ?_; rintro e w' ⟨rfl, rfl⟩)
              | (at_builtin; refine wpList_append_int _ rfl (.tmp 30) (.tmp 32) rfl w.heap.size A n c (btwTo m k j) rfl (hown.alloc _) wr.heap.size (j : Int) rfl (by simp) (by omega) (by simp; omega) ?_; intro g cap w1 hown1 hgrow1 hbel1 hlt1))
            have hb1 : Below w.heap.size w w1 := (hb.alloc hbs _).trans (hbel1 _ (Nat.le_refl _))
            rw [← HE.out] at hown1
            clear hgrow1 hbel1
            go_wp2
            go_roundw
            case rel => exact ⟨j + 1, n + 1, cap, _, by omega, by go_num, rfl, by omega, hown1, hb1⟩
            case measure => simp [intOf]; omega
        · obtain rfl : j = 64 := by omega
          go_wp2
          go_ret
          exact ⟨A, n, c, rfl, hown.2, by rw [← btwTo_all m k hm hk]; exact hown.row (by omega), hb⟩
    · have hv' : cvB b = false := cvB_no h'
      go_enter Try.func18, Try.ntmps18
      go_wp2_with (go_at_call 31; refine (codeValid_any _ _).mono ?_; rintro e w' ⟨rfl, rfl⟩)
      go_ret
      exact retRow_nil w a b (by rw [hv']; simp)
  · have hv : cvB a = false := cvB_no h
    go_enter Try.func18, Try.ntmps18
    go_wp2_with (go_at_call 31; refine (codeValid_any _ _).mono ?_; rintro e w' ⟨rfl, rfl⟩)
    go_ret
    exact retRow_nil w a b (by rw [hv]; simp)
end Go.Proofs.Ytkjjdpooahdicaa

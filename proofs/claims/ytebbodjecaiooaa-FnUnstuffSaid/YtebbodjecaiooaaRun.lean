/-
  LongestRun of the program and of the reference, l23Run; the walk of the law FnExactLongestRun.
-/
import Derived.Test.YtebbodjecaiooaaBits
import Derived.Test.YtebbodjecaiooaaRunPlain
import Derived.WalkLawsBesides
namespace Go.Proofs.Ytebbodjecaiooaa
open Go.RowKit Runs

theorem take_two (l : List Int) (k : Nat) (hk : k + 1 < l.length) : l.take (k + 2) = l.take k ++ [nth l k] ++ [nth l (k + 1)] := by
  rw [take_succ_nth l (k + 1) hk, take_succ_nth l k (by omega)]
theorem endRun_take (l : List Int) (k : Nat) (hk : k + 1 < l.length) : endRun (l.take (k + 2)) = if nth l (k + 1) = nth l k then endRun (l.take (k + 1)) + 1 else 1 := by
  rw [take_two l k hk, endRun_snoc, take_succ_nth l k (by omega)]
theorem endRun_take_eq (l : List Int) (k : Nat) (hk : k + 1 < l.length) (h : nth l (k + 1) = nth l k) : endRun (l.take (k + 2)) = endRun (l.take (k + 1)) + 1 := by rw [endRun_take l k hk, if_pos h]
theorem endRun_take_ne (l : List Int) (k : Nat) (hk : k + 1 < l.length) (h : ¬ nth l (k + 1) = nth l k) : endRun (l.take (k + 2)) = 1 := by rw [endRun_take l k hk, if_neg h]
theorem endRun_take_one (l : List Int) (h : 0 < l.length) : endRun (l.take 1) = 1 := by
  have := take_succ_nth l 0 h
  rw [this]; rfl

set_option maxHeartbeats 800000 in
theorem implLongestRun_any (s : ByteArray) (w : World) (hs : s.size ≤ 4194304) :
    Calls Try.prog 14 #[.string s] w fun e w' => e = .returned (.int .i64 (longest (bl s))) ∧ ∃ q, w' = w.drewN q := by
  have HL := Lib.hid (bl_len s)
  have hg := bl_get s
  go_enter Try.func14, Try.ntmps14
  go_wp2
  go_loopw [3, 4, 5] (fun m r i wr => ∃ k a b q : Nat, k ≤ s.size ∧ a ≤ k ∧ b ≤ k ∧ i = .int .i64 k ∧ m = .int .i64 a ∧ r = .int .i64 b ∧ wr = w.drewN q ∧ Hid (a = longTo (bl s) k ∧ b = endRun ((bl s).take k))) (fun _ _ i _ => s.size - (intOf i).toNat)
  case atStart => exact ⟨0, 0, 0, 0, Nat.zero_le _, Nat.le_refl _, Nat.le_refl _, rfl, rfl, rfl, rfl, ⟨rfl, by simp [endRun, headRun]⟩⟩
  case round =>
    obtain ⟨k, a, b, q, hk, ha, hb, rfl, rfl, rfl, rfl, H⟩ := hrel
    by_cases hlt : k < s.size
    · by_cases hk0 : k = 0
      · subst hk0
        have HN : Hid (max a (b + 1) = longTo (bl s) 1 ∧ b + 1 = endRun ((bl s).take 1)) := by
          have h1 := endRun_take_one (bl s) (by rw [HL.out]; exact hlt)
          obtain ⟨h2, h3⟩ := H.out
          refine ⟨?_, ?_⟩
          · rw [longTo, ← h2, h1]; omega
          · rw [h1]; omega
        go_wp2
        go_quiet (fail)
        go_wp2
        go_roundw
        case rel => exact ⟨1, b + 1, b + 1, _, by omega, by omega, by omega, rfl, by go_num, by go_num, rfl, by
          have := HN.out
          rw [show max a (b + 1) = b + 1 by omega] at this
          exact this⟩
        case measure => simp [intOf]; omega
      · obtain ⟨j, rfl⟩ : ∃ j, k = j + 1 := ⟨k - 1, by omega⟩
        clear hk0
        have hjl : j + 1 < (bl s).length := by rw [HL.out]; exact hlt
        have e1 : ((j + 1 : Nat) : Int) = (j : Int) + 1 := by omega
        rw [e1]
        have e2 : IntKind.i64.wrap ((j : Int) + 1 - 1) = (j : Int) := by rw [IntWalk.i64_in _ (by omega)]; omega
        have i1 : (0 : Int) ≤ (j : Int) := by omega
        have i2 : (j : Int) < (s.size : Int) := by omega
        have i3 : (0 : Int) ≤ (j : Int) + 1 := by omega
        have i4 : (j : Int) + 1 < (s.size : Int) := by omega
        have i5 : ((j : Int) + 1).toNat = j + 1 := by omega
        have i6 : j < s.size := by omega
        clear e1
        by_cases hx : nth (bl s) (j + 1) = nth (bl s) j
        · have hb' : (nth (bl s) (j + 1) != nth (bl s) j) = false := by simp [hx]
          have HN : Hid (max a (b + 1) = longTo (bl s) (j + 1 + 1) ∧ b + 1 = endRun ((bl s).take (j + 1 + 1))) := by
            have h1 := endRun_take_eq (bl s) j hjl hx
            obtain ⟨h2, h3⟩ := H.out
            exact ⟨by rw [longTo, ← h2, h1, ← h3], by rw [h1, ← h3]⟩
          clear hx hjl
          by_cases hm : (a : Int) < (b : Int) + 1
          · go_wp2
            go_quiet (fail)
            clear e2 i5
            go_wp2
            go_roundw
            case rel => exact ⟨j + 1 + 1, b + 1, b + 1, _, by omega, by omega, by omega, by go_num, by go_num, by go_num, rfl, by
              have := HN.out
              rw [show max a (b + 1) = b + 1 by omega] at this
              exact this⟩
            case measure => simp [intOf]; omega
          · go_wp2
            go_quiet (fail)
            clear e2 i5
            go_wp2
            go_roundw
            case rel => exact ⟨j + 1 + 1, a, b + 1, _, by omega, by omega, by omega, by go_num, by go_num, by go_num, rfl, by
              have := HN.out
              rw [show max a (b + 1) = a by omega] at this
              exact this⟩
            case measure => simp [intOf]; omega
        · have hb' : (nth (bl s) (j + 1) != nth (bl s) j) = true := by simp [hx]
          have HN : Hid (max a 1 = longTo (bl s) (j + 1 + 1) ∧ 1 = endRun ((bl s).take (j + 1 + 1))) := by
            have h1 := endRun_take_ne (bl s) j hjl hx
            obtain ⟨h2, h3⟩ := H.out
            exact ⟨by rw [longTo, ← h2, h1], by rw [h1]⟩
          clear hx hjl
          by_cases hm : (a : Int) < 1
          · go_wp2
            go_quiet (fail)
            clear e2 i5
            go_wp2
            go_roundw
            case rel => exact ⟨j + 1 + 1, 1, 1, _, by omega, by omega, by omega, by go_num, by go_num, by go_num, rfl, by
              have := HN.out
              rw [show max a 1 = 1 by omega] at this
              exact this⟩
            case measure => simp [intOf]; omega
          · go_wp2
            go_quiet (fail)
            clear e2 i5
            go_wp2
            go_roundw
            case rel => exact ⟨j + 1 + 1, a, 1, _, by omega, by omega, by omega, by go_num, by go_num, by go_num, rfl, by
              have := HN.out
              rw [show max a 1 = a by omega] at this
              exact this⟩
            case measure => simp [intOf]; omega
    · obtain rfl : k = s.size := by omega
      go_wp2
      go_ret
      exact ⟨ret_int (by rw [H.out.1, longest, HL.out]), q, rfl⟩
end Go.Proofs.Ytebbodjecaiooaa

/-
  Stuff of the reference; the walk of the law FnExactStuff.
-/
import Derived.Test.YtebbodjecaiooaaStuff
import Derived.Test.YtebbodjecaiooaaRun2
namespace Go.Proofs.Ytebbodjecaiooaa
open Go.RowKit Runs

/-- the text of the other bit -/
theorem l23Other_any (c : Int) (w : World) : Calls Try.prog 25 #[.int .u8 c] w fun e w' => ∃ o : ByteArray, e = .returned (.string o) ∧ bl o = [otherZ c] ∧ o.size = 1 ∧ w = w' := by
  by_cases h : c = 48
  · subst h
    go_enter Try.func25, Try.ntmps25
    go_wp2
    go_ret
    exact ⟨_, rfl, rfl, rfl, rfl⟩
  · have hb : (c == 48) = false := by simp [h]
    have HE : Hid (otherZ c = 48) := by show _ = _; unfold otherZ; rw [if_neg h]
    clear h
    go_enter Try.func25, Try.ntmps25
    go_wp2
    go_ret
    exact ⟨_, rfl, by rw [HE.out]; rfl, rfl, rfl⟩

set_option maxHeartbeats 1600000 in
theorem specStuff_in (s : ByteArray) (w : World) (hv : bitsB (bl s) = true) :
    Calls Try.prog 15 #[.string s] w (Stuffed (bl s) w) := by
  have HL := Lib.hid (bl_len s)
  have h40 : s.size ≤ 40 := by rw [← HL.out]; exact (bitsB_true.1 hv).1
  have HZ := Lib.hid (stuffZ_yes hv)
  have hg := bl_get s
  go_enter Try.func15, Try.ntmps15
  go_wp2_with fail
  go_loopw [3, 4] (fun v i wr => ∃ (k q : Nat) (o : ByteArray), k ≤ s.size ∧ i = .int .i64 k ∧ v = .string o ∧ o.size ≤ 2 * k ∧ wr = w.drewN q ∧ Hid (bl o = stuffL ((bl s).take k))) (fun _ i _ => s.size - (intOf i).toNat)
  case atStart => exact ⟨0, 0, ⟨#[]⟩, Nat.zero_le _, rfl, rfl, by decide, rfl, rfl⟩
  case round =>
    obtain ⟨k, q, o, hk, rfl, rfl, ho, rfl, H⟩ := hrel
    by_cases hlt : k < s.size
    · have hkl : k < (bl s).length := by rw [HL.out]; exact hlt
      have HS := Lib.hid (stuff_take_succ (bl s) k hkl)
      have HLEN2 : Hid ((stuffL ((bl s).take (k + 1))).length ≤ 2 * (k + 1)) := by
        have := (stuff_share ((bl s).take (k + 1))).2.2
        rw [List.length_take, HL.out] at this
        show _ ≤ _; omega
      have HP := Lib.hid (bl_piece s k hlt)
      have HA : Hid (bl (o ++ s.extract k (k + 1)) = stuffL ((bl s).take k) ++ [nth (bl s) k]) := by show _ = _; rw [bl_append, H.out, HP.out]
      have hsz : (o ++ s.extract k (k + 1)).size ≤ 100 := by rw [← bl_len, HA.out]; simp; have := bl_len o; rw [H.out] at this; omega
      have hdt : decide ((k : Int) < (s.size : Int)) = true := by simp; omega
      clear hkl
      by_cases h4 : endRun (stuffL ((bl s).take k) ++ [nth (bl s) k]) = 4
      · have HN : Hid (stuffL ((bl s).take (k + 1)) = stuffL ((bl s).take k) ++ [nth (bl s) k] ++ [otherZ (nth (bl s) k)]) := by show _ = _; rw [HS.out, step_yes h4]
        have hyes : ((endRun (stuffL ((bl s).take k) ++ [nth (bl s) k]) : Int) == 4) = true := by simp; omega
        clear h4
        go_wp2_with fail
        refine (specBitsValid_any s _ (by omega)).mono ?_
        rintro e w' ⟨rfl, rfl⟩
        go_wp2_with fail
        refine (l23Run_any _ _ (by omega)).mono ?_
        rintro e w1 ⟨rfl, q1, rfl⟩
        rw [HA.out]
        go_wp2_with fail
        refine (l23Other_any _ _).mono ?_
        rintro e w1 ⟨t, rfl, ht, ht1, rfl⟩
        have HF : Hid (bl (o ++ s.extract k (k + 1) ++ t) = stuffL ((bl s).take (k + 1))) := by show _ = _; rw [bl_append, HA.out, ht, HN.out]
        have hsz2 : (o ++ s.extract k (k + 1) ++ t).size ≤ 2 * (k + 1) := by rw [← bl_len, HF.out]; exact HLEN2.out
        have ht2 : t.size ≤ 1 := by omega
        clear ht ht1
        go_wp2_with fail
        go_roundw
        case rel => exact ⟨k + 1, _, _, by omega, by go_num, rfl, hsz2, rfl, HF⟩
        case measure => simp [intOf]; omega
      · have HN : Hid (stuffL ((bl s).take (k + 1)) = stuffL ((bl s).take k) ++ [nth (bl s) k]) := by show _ = _; rw [HS.out, step_no h4]
        have hne : ((endRun (stuffL ((bl s).take k) ++ [nth (bl s) k]) : Int) == 4) = false := by simp; omega
        have HF : Hid (bl (o ++ s.extract k (k + 1)) = stuffL ((bl s).take (k + 1))) := by show _ = _; rw [HA.out, HN.out]
        have hsz2 : (o ++ s.extract k (k + 1)).size ≤ 2 * (k + 1) := by rw [← bl_len, HF.out]; exact HLEN2.out
        clear h4
        go_wp2_with fail
        refine (specBitsValid_any s _ (by omega)).mono ?_
        rintro e w' ⟨rfl, rfl⟩
        go_wp2_with fail
        refine (l23Run_any _ _ (by omega)).mono ?_
        rintro e w1 ⟨rfl, q1, rfl⟩
        rw [HA.out]
        go_wp2_with fail
        go_roundw
        case rel => exact ⟨k + 1, _, _, by omega, by go_num, rfl, hsz2, rfl, HF⟩
        case measure => simp [intOf]; omega
    · obtain rfl : k = s.size := by omega
      have hdf : decide ((s.size : Int) < (s.size : Int)) = false := by simp
      have HE : Hid (bl o = stuffZ (bl s)) := by show _ = _; rw [H.out, HZ.out, List.take_of_length_le (by rw [HL.out]; omega)]
      go_wp2_with fail
      go_ret
      exact ⟨o, rfl, HE.out, below_drewN_ (Below.refl _ _) q⟩

theorem specStuff_any (s : ByteArray) (w : World) (hs : s.size ≤ 4194304) : Calls Try.prog 15 #[.string s] w (Stuffed (bl s) w) := by
  cases hv : bitsB (bl s)
  · have HZ := Lib.hid (stuffZ_no hv)
    by_cases h0 : 0 < s.size
    · have hdt : decide ((0 : Int) < (s.size : Int)) = true := by simp; omega
      go_enter Try.func15, Try.ntmps15
      go_wp2
      refine wp_loop_rounds 1 ?_
      rw [rounds_succ]
      go_wp2_with fail
      refine (specBitsValid_any s _ hs).mono ?_
      rintro e w' ⟨rfl, rfl⟩
      go_wp2_with fail
      go_ret
      exact ⟨_, rfl, by rw [HZ.out]; rfl, Below.refl _ _⟩
    · have hz : s.size = 0 := by omega
      have hl := bl_len s
      rw [hz] at hl
      rw [List.eq_nil_of_length_eq_zero hl] at hv
      cases hv
  · exact specStuff_in s w hv

theorem walk_FnExactStuff (s : ByteArray) (w : World) (_w0 : s.size ≤ maxLen) :
    Calls Try.prog 5 #[.string s] w fun e w' => e = .returned (.bool true) ∧ Below w.heap.size w w' := by
  by_cases hlen : 1048576 < s.size
  · go_enter Try.func5, Try.ntmps5
    go_wp2
    go_ret
    exact ⟨rfl, Below.refl _ _⟩
  · go_enter Try.func5, Try.ntmps5
    go_wp2_with fail
    refine (specStuff_any s _ (by omega)).mono ?_
    rintro e w1 ⟨o1, rfl, h1, b1⟩
    go_wp2_with fail
    refine (implStuff_any s _ (by omega)).mono ?_
    rintro e w2 ⟨o2, rfl, h2, b2⟩
    obtain rfl : o2 = o1 := bl_inj (h2.trans h1.symm)
    clear h1 h2
    go_wp2
    go_ret
    exact ⟨rfl, below_step b1 b2⟩
end Go.Proofs.Ytebbodjecaiooaa

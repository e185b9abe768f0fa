/-
  Unstuff of the reference; the walk of the law FnExactUnstuff.
-/
import Derived.Test.YtebbodjecaiooaaUnstuff
namespace Go.Proofs.Ytebbodjecaiooaa
open Go.RowKit Runs

set_option maxHeartbeats 3200000 in
theorem specUnstuff_any (s : ByteArray) (w : World) (hs : s.size ≤ 2097152) : Calls Try.prog 17 #[.string s] w (Unst (bl s) w) := by
  have HL := Lib.hid (bl_len s)
  have hg := bl_get s
  go_enter Try.func17, Try.ntmps17
  go_wp2_with fail
  go_loopw [4, 5, 6] (fun v r i wr => ∃ (k x q : Nat) (o : ByteArray), k ≤ s.size ∧ i = .int .i64 k ∧ r = .int .i64 (x : Int) ∧ v = .string o ∧ o.size ≤ k ∧ x ≤ k ∧ wr = w.drewN q ∧ Hid (x = endRun ((bl s).take k)) ∧ Hid (bl o = msg ((bl s).take k))) (fun _ _ i _ => s.size - (intOf i).toNat)
  case atStart => exact ⟨0, 0, 0, ⟨#[]⟩, Nat.zero_le _, rfl, rfl, rfl, by decide, by omega, rfl, rfl, rfl⟩
  case round =>
    obtain ⟨k, x, q, o, hk, rfl, rfl, rfl, hok, hxk, rfl, HX, HO⟩ := hrel
    by_cases hlt : k < s.size
    · have hkl : k < (bl s).length := by rw [HL.out]; exact hlt
      have HY := Lib.hid (fun h => msg_take_yes hkl h)
      have HN := Lib.hid (fun h => msg_take_no hkl h)
      have HP := Lib.hid (bl_piece s k hlt)
      have i1 : (0 : Int) ≤ (k : Int) := by omega
      have i2 : (k : Int) < (s.size : Int) := by omega
      rcases Nat.eq_zero_or_pos k with hk0 | hk0
      · subst hk0
        have hx0 : x = 0 := by omega
        have h4 : ((x : Int) == 4) = false := by simp; omega
        have HR : Hid (1 = endRun ((bl s).take 1)) := by show _ = _; rw [endRun_take_one (bl s) hkl]
        have HM : Hid (bl (o ++ s.extract 0 1) = msg ((bl s).take 1)) := by
          show _ = _
          have h1 := HN.out (by rw [← HX.out]; omega)
          have h2 := HP.out
          rw [bl_append, HO.out, h1, h2]
        have hsz : (o ++ s.extract 0 1).size ≤ 1 := by rw [← bl_len, HM.out]; have := msg_len ((bl s).take 1); simp at this; omega
        clear hx0 hkl HY HN HP
        go_wp2_with fail
        go_quiet (fail)
        go_wp2_with fail
        go_roundw
        case rel => exact ⟨1, 1, _, _, by omega, rfl, rfl, rfl, hsz, by omega, rfl, HR, HM⟩
        case measure => simp [intOf]; omega
      · obtain ⟨j, rfl⟩ : ∃ j, k = j + 1 := ⟨k - 1, by omega⟩
        have e1 : ((j + 1 : Nat) : Int) = (j : Int) + 1 := by omega
        rw [e1] at i1 i2
        rw [e1]
        have e2 : IntKind.i64.wrap ((j : Int) + 1 - 1) = (j : Int) := by rw [IntWalk.i64_in _ (by omega)]; omega
        have i3 : (0 : Int) ≤ (j : Int) := by omega
        have i4 : (j : Int) < (s.size : Int) := by omega
        have i5 : ((j : Int) + 1).toNat = j + 1 := by omega
        have i6 : j < s.size := by omega
        have i7 : decide ((0 : Int) < (j : Int) + 1) = true := decide_eq_true (by omega)
        have HRS := Lib.hid (fun h => endRun_take_eq (bl s) j hkl h)
        have HRD := Lib.hid (fun h => endRun_take_ne (bl s) j hkl h)
        clear e1 hkl hk0
        by_cases hx4 : x = 4
        · have h4 : ((x : Int) == 4) = true := by simp; omega
          have HM : Hid (bl o = msg ((bl s).take (j + 1 + 1))) := by
            show _ = _
            rw [HY.out (by rw [← HX.out]; exact hx4), HO.out]
          by_cases hc : nth (bl s) (j + 1) = nth (bl s) j
          · have hne : (nth (bl s) (j + 1) == nth (bl s) j) = true := by simp [hc]
            have HU : Hid (unst (bl s) = none) := unst_long ((bl s).take (j + 1 + 1)) ((bl s).drop (j + 1 + 1)) (List.take_append_drop _ _).symm (by rw [HRS.out hc, ← HX.out]; omega)
            clear hc hx4
            go_wp2_with fail
            go_quiet (fail)
            clear e2 i5
            go_wp2_with fail
            go_ret2
            exact ⟨_, by rw [HU.out]; rfl, by rw [HU.out]; rfl, by decide, below_drewN_ (below_drewN_ (Below.refl _ _) _) _⟩
          · have hne : (nth (bl s) (j + 1) == nth (bl s) j) = false := by simp [hc]
            have HR : Hid (1 = endRun ((bl s).take (j + 1 + 1))) := by show _ = _; rw [HRD.out hc]
            clear hc hx4
            go_wp2_with fail
            go_quiet (fail)
            clear e2 i5
            go_wp2_with fail
            go_roundw
            case rel => exact ⟨j + 1 + 1, 1, _, o, by omega, by go_num, rfl, rfl, by omega, by omega, rfl, HR, HM⟩
            case measure => simp [intOf]; omega
        · have h4 : ((x : Int) == 4) = false := by simp; omega
          have HM : Hid (bl (o ++ s.extract (j + 1) (j + 1 + 1)) = msg ((bl s).take (j + 1 + 1))) := by
            show _ = _
            rw [bl_append, HO.out, HP.out, HN.out (by rw [← HX.out]; exact hx4)]
          have hsz : (o ++ s.extract (j + 1) (j + 1 + 1)).size ≤ j + 1 + 1 := by rw [← bl_len, HM.out]; have := msg_len ((bl s).take (j + 1 + 1)); simp at this; omega
          clear hx4 HY HN HP
          by_cases hc : nth (bl s) (j + 1) = nth (bl s) j
          · have hne : (nth (bl s) (j + 1) == nth (bl s) j) = true := by simp [hc]
            have HR : Hid (x + 1 = endRun ((bl s).take (j + 1 + 1))) := by show _ = _; rw [HRS.out hc, HX.out]
            clear hc
            go_wp2_with fail
            go_quiet (fail)
            clear e2 i5
            go_wp2_with fail
            go_roundw
            case rel => exact ⟨j + 1 + 1, x + 1, _, _, by omega, by go_num, by go_num, rfl, hsz, by omega, rfl, HR, HM⟩
            case measure => simp [intOf]; omega
          · have hne : (nth (bl s) (j + 1) == nth (bl s) j) = false := by simp [hc]
            have HR : Hid (1 = endRun ((bl s).take (j + 1 + 1))) := by show _ = _; rw [HRD.out hc]
            clear hc
            go_wp2_with fail
            go_quiet (fail)
            clear e2 i5
            go_wp2_with fail
            go_roundw
            case rel => exact ⟨j + 1 + 1, 1, _, _, by omega, by go_num, rfl, rfl, hsz, by omega, rfl, HR, HM⟩
            case measure => simp [intOf]; omega
    · obtain rfl : k = s.size := by omega
      have HM : Hid (bl o = msg (bl s)) := by show _ = _; rw [HO.out, List.take_of_length_le (by rw [HL.out]; omega)]
      have b0 : Below w.heap.size w (w.drewN q) := below_drewN_ (Below.refl _ _) q
      cases hv : bitsB (msg (bl s))
      · have HU := Lib.hid (unst_no (t := bl s) (by rw [hv]; simp))
        have hv' : bitsB (bl o) = false := by rw [HM.out]; exact hv
        clear hv
        go_wp2_with fail
        refine (specBitsValid_any _ _ (by omega)).mono ?_
        rintro e w' ⟨rfl, rfl⟩
        go_wp2_with fail
        go_ret2
        exact ⟨_, by rw [HU.out]; rfl, by rw [HU.out]; rfl, by decide, b0⟩
      · have hv' : bitsB (bl o) = true := by rw [HM.out]; exact hv
        have HV := Lib.hid hv
        have HZ : Hid (stuffZ (bl o) = stuffL (msg (bl s))) := by show _ = _; rw [stuffZ_yes hv', HM.out]
        clear hv
        go_wp2_with fail
        refine (specBitsValid_any _ _ (by omega)).mono ?_
        rintro e w' ⟨rfl, rfl⟩
        go_wp2_with fail
        refine (specStuff_any _ _ (by omega)).mono ?_
        rintro e w1 ⟨o1, rfl, ho1, b1⟩
        rw [HZ.out] at ho1
        have hb1 := below_step b0 b1
        by_cases hst : stuffL (msg (bl s)) = bl s
        · have HU := Lib.hid (unst_yes (t := bl s) HV.out hst)
          have hsm := str_same (ho1.trans hst)
          clear hst ho1
          go_wp2_with fail
          go_ret2
          exact ⟨_, by rw [HU.out]; rfl, by rw [HU.out, HM.out]; rfl, by omega, hb1⟩
        · have HU := Lib.hid (unst_no (t := bl s) (fun h => hst h.2))
          have hsm := str_other (fun h => hst (ho1.symm.trans h))
          clear hst ho1
          go_wp2_with fail
          go_ret2
          exact ⟨_, by rw [HU.out]; rfl, by rw [HU.out]; rfl, by decide, hb1⟩

theorem walk_FnExactUnstuff (s : ByteArray) (w : World) (_w0 : s.size ≤ maxLen) :
    Calls Try.prog 6 #[.string s] w fun e w' => e = .returned (.bool true) ∧ Below w.heap.size w w' := by
  by_cases hlen : 1048576 < s.size
  · go_enter Try.func6, Try.ntmps6
    go_wp2
    go_ret
    exact ⟨rfl, Below.refl _ _⟩
  · have hb : ((unst (bl s)).isSome == (unst (bl s)).isSome) = true := by simp
    go_enter Try.func6, Try.ntmps6
    go_wp2_with fail
    refine (specUnstuff_any s _ (by omega)).mono ?_
    rintro e w1 ⟨o1, rfl, h1, _, b1⟩
    go_wp2_with fail
    refine (implUnstuff_any s _ (by omega)).mono ?_
    rintro e w2 ⟨o2, rfl, h2, _, b2⟩
    obtain rfl : o2 = o1 := bl_inj (h2.trans h1.symm)
    clear h1 h2
    generalize (unst (bl s)).isSome = bb at *
    go_wp2_with fail
    go_ret
    exact ⟨rfl, below_step b1 b2⟩
end Go.Proofs.Ytebbodjecaiooaa

/-
  Unstuff of the program.
-/
import Derived.Test.YtebbodjecaiooaaStuffS
namespace Go.Proofs.Ytebbodjecaiooaa
open Go.RowKit Runs

theorem str_same {a b : ByteArray} (h : bl a = bl b) : (a.toList == b.toList) = true := by rw [bl_inj h]; simp
theorem str_other {a b : ByteArray} (h : bl a ≠ bl b) : (a.toList == b.toList) = false := by
  cases hb : (a.toList == b.toList)
  · rfl
  · exfalso
    apply h
    have h1 : a.toList = b.toList := by simpa using hb
    rw [ByteArray.toList_eq, ByteArray.toList_eq] at h1
    unfold bl
    rw [h1]
theorem msg_mem {t : List Int} {x : Int} (h : x ∈ msg t) : x ∈ t := by
  induction t using snoc_ind with
  | h0 => cases h
  | hs l c ih =>
    rw [msg_snoc] at h
    split at h
    · exact List.mem_append.2 (.inl (ih h))
    · rcases List.mem_append.1 h with h | h
      · exact List.mem_append.2 (.inl (ih h))
      · exact List.mem_append.2 (.inr h)
theorem msg_bytes (s : ByteArray) : ∀ x ∈ msg (bl s), 0 ≤ x ∧ x ≤ 255 := fun x hx => by
  obtain ⟨j, hj, e⟩ := mem_nth (msg_mem hx)
  rw [← e]; exact bl_bd s j
theorem msg_take_yes {l : List Int} {k : Nat} (hk : k < l.length) (h : endRun (l.take k) = 4) : msg (l.take (k + 1)) = msg (l.take k) := by rw [take_succ_nth l k hk, msg_yes h]
theorem msg_take_no {l : List Int} {k : Nat} (hk : k < l.length) (h : endRun (l.take k) ≠ 4) : msg (l.take (k + 1)) = msg (l.take k) ++ [nth l k] := by rw [take_succ_nth l k hk, msg_no h]

/-- what Unstuff leaves: the message and true, or nothing and false -/
def Unst (l : List Int) (w : World) (e : Ending) (w' : World) : Prop :=
  ∃ o : ByteArray, e = .returned (.tuple #[.string o, .bool (unst l).isSome]) ∧ bl o = (unst l).getD [] ∧ o.size ≤ 4194304 ∧ Below w.heap.size w w'

set_option maxHeartbeats 3200000 in
theorem implUnstuff_any (s : ByteArray) (w : World) (hs : s.size ≤ 2097152) : Calls Try.prog 18 #[.string s] w (Unst (bl s) w) := by
  have HL := Lib.hid (bl_len s)
  have hg := bl_get s
  go_enter Try.func18, Try.ntmps18
  go_wp2_with fail
  go_loopw [4, 5, 6] (fun v r i wr => ∃ (k n c x : Nat) (A : Option Addr), k ≤ s.size ∧ i = .int .i64 k ∧ r = .int .i64 (x : Int) ∧ v = .slice A n c ∧ n ≤ k ∧ x ≤ k ∧ OwnB wr w.heap.size A n c (msg ((bl s).take k)) ∧ Below w.heap.size w wr ∧ Hid (x = endRun ((bl s).take k))) (fun _ _ i _ => s.size - (intOf i).toNat)
  case atStart => exact ⟨0, 0, 0, 0, none, Nat.zero_le _, rfl, rfl, rfl, by omega, by omega, OwnB.nil_ _ _, Below.refl _ _, rfl⟩
  case round =>
    obtain ⟨k, n, c, x, A, hk, rfl, rfl, rfl, hn, hxk, hown, hb, HX⟩ := hrel
    have hbs := hb.size
    by_cases hlt : k < s.size
    · have hkl : k < (bl s).length := by rw [HL.out]; exact hlt
      have HY := Lib.hid (fun h => msg_take_yes hkl h)
      have HN := Lib.hid (fun h => msg_take_no hkl h)
      have i1 : (0 : Int) ≤ (k : Int) := by omega
      have i2 : (k : Int) < (s.size : Int) := by omega
      rcases Nat.eq_zero_or_pos k with hk0 | hk0
      · subst hk0
        have hx0 : x = 0 := by omega
        have dx : decide ((0 : Int) < (x : Int)) = false := by simp; omega
        have dx' : decide (0 < x) = false := by simp; omega
        have h4 : ((x : Int) == 4) = false := by simp; omega
        have HR : Hid (x + 1 = endRun ((bl s).take 1)) := by show _ = _; rw [endRun_take_one (bl s) hkl]; omega
        have HM : Hid (msg ((bl s).take 1) = msg ((bl s).take 0) ++ [nth (bl s) 0]) := HN.out (by rw [← HX.out]; omega)
        have hx1 : x + 1 ≤ 1 := by omega
        clear hx0 hkl
        generalize msg ((bl s).take 0) = xs at hown HM
        go_wp2_with fail
        go_quiet (fail)
        go_wp2_with (at_builtin; refine wpList_append_byte _ rfl (.tmp 32) (.tmp 36) rfl w.heap.size A n c xs rfl ((hown.drewN nq).alloc _) wr.heap.size _ rfl (cell_oneB _ _ rfl _ _) (by omega) (size_oneB _ _ hbs _) ?_; intro g1 cap w1 ho1 hgrow1 hbel1 hlt1)
        have hb1 : Below w.heap.size w w1 := ((below_drewN_ hb nq).alloc hbs _).trans (hbel1 _ (Nat.le_refl _))
        have ho1' : OwnB w1 w.heap.size (some ⟨g1, 0, none⟩) (n + 1) cap (msg ((bl s).take 1)) := by rw [HM.out]; exact ho1
        clear hgrow1 hbel1 ho1
        go_wp2
        go_roundw
        case rel => exact ⟨1, n + 1, cap, x + 1, _, by omega, rfl, by go_num, rfl, by omega, hx1, ho1', hb1, HR⟩
        case measure => simp [intOf]; omega
      · obtain ⟨j, rfl⟩ : ∃ j, k = j + 1 := ⟨k - 1, by omega⟩
        have hx1 : 0 < x := by
          have := take_succ_nth (bl s) j (by omega)
          rw [HX.out, this]
          exact endRun_pos _ _
        have dx : decide ((0 : Int) < (x : Int)) = true := by simp; omega
        have e1 : ((j + 1 : Nat) : Int) = (j : Int) + 1 := by omega
        rw [e1] at i1 i2
        rw [e1]
        have e2 : IntKind.i64.wrap ((j : Int) + 1 - 1) = (j : Int) := by rw [IntWalk.i64_in _ (by omega)]; omega
        have i3 : (0 : Int) ≤ (j : Int) := by omega
        have i4 : (j : Int) < (s.size : Int) := by omega
        have i5 : ((j : Int) + 1).toNat = j + 1 := by omega
        have i6 : j < s.size := by omega
        have HRS := Lib.hid (fun h => endRun_take_eq (bl s) j hkl h)
        have HRD := Lib.hid (fun h => endRun_take_ne (bl s) j hkl h)
        clear e1 hkl hk0
        generalize hxs : msg ((bl s).take (j + 1)) = xs at hown HY HN
        clear hxs
        by_cases hx4 : x = 4
        · have h4 : ((x : Int) == 4) = true := by simp; omega
          have HM : Hid (msg ((bl s).take (j + 1 + 1)) = xs) := HY.out (by rw [← HX.out]; exact hx4)
          have hx5 : x ≤ 4 ∧ 4 ≤ x := by omega
          clear hx4
          by_cases hc : nth (bl s) (j + 1) = nth (bl s) j
          · have hne : (nth (bl s) (j + 1) != nth (bl s) j) = false := by simp [hc]
            have HR : Hid (x + 1 = endRun ((bl s).take (j + 1 + 1))) := by show _ = _; rw [HRS.out hc, HX.out]
            clear hc
            go_wp2_with fail
            go_quiet (fail)
            clear e2 i5
            go_wp2_with fail
            go_roundw
            case rel => exact ⟨j + 1 + 1, n, c, x + 1, A, by omega, by go_num, by go_num, rfl, by omega, by omega, by rw [HM.out]; exact hown.drewN nq, below_drewN_ hb nq, HR⟩
            case measure => simp [intOf]; omega
          · have hne : (nth (bl s) (j + 1) != nth (bl s) j) = true := by simp [hc]
            have HR : Hid (1 = endRun ((bl s).take (j + 1 + 1))) := by show _ = _; rw [HRD.out hc]
            clear hc
            go_wp2_with fail
            go_quiet (fail)
            clear e2 i5
            go_wp2_with fail
            go_roundw
            case rel => exact ⟨j + 1 + 1, n, c, 1, A, by omega, by go_num, rfl, rfl, by omega, by omega, by rw [HM.out]; exact hown.drewN nq, below_drewN_ hb nq, HR⟩
            case measure => simp [intOf]; omega
        · have h4 : ((x : Int) == 4) = false := by simp; omega
          have HM : Hid (msg ((bl s).take (j + 1 + 1)) = xs ++ [nth (bl s) (j + 1)]) := HN.out (by rw [← HX.out]; exact hx4)
          clear hx4
          by_cases hc : nth (bl s) (j + 1) = nth (bl s) j
          · have hne : (nth (bl s) (j + 1) != nth (bl s) j) = false := by simp [hc]
            have HR : Hid (x + 1 = endRun ((bl s).take (j + 1 + 1))) := by show _ = _; rw [HRS.out hc, HX.out]
            clear hc
            go_wp2_with fail
            go_quiet (fail)
            clear e2 i5
            go_wp2_with (at_builtin; refine wpList_append_byte _ rfl (.tmp 32) (.tmp 36) rfl w.heap.size A n c xs rfl ((hown.drewN nq).alloc _) wr.heap.size _ rfl (cell_oneB _ _ rfl _ _) (by omega) (size_oneB _ _ hbs _) ?_; intro g1 cap w1 ho1 hgrow1 hbel1 hlt1)
            have hb1 : Below w.heap.size w w1 := ((below_drewN_ hb nq).alloc hbs _).trans (hbel1 _ (Nat.le_refl _))
            have ho1' : OwnB w1 w.heap.size (some ⟨g1, 0, none⟩) (n + 1) cap (msg ((bl s).take (j + 1 + 1))) := by rw [HM.out]; exact ho1
            clear hgrow1 hbel1 ho1
            go_wp2
            go_roundw
            case rel => exact ⟨j + 1 + 1, n + 1, cap, x + 1, _, by omega, by go_num, by go_num, rfl, by omega, by omega, ho1', hb1, HR⟩
            case measure => simp [intOf]; omega
          · have hne : (nth (bl s) (j + 1) != nth (bl s) j) = true := by simp [hc]
            have HR : Hid (1 = endRun ((bl s).take (j + 1 + 1))) := by show _ = _; rw [HRD.out hc]
            clear hc
            go_wp2_with fail
            go_quiet (fail)
            clear e2 i5
            go_wp2_with (at_builtin; refine wpList_append_byte _ rfl (.tmp 32) (.tmp 36) rfl w.heap.size A n c xs rfl ((hown.drewN nq).alloc _) wr.heap.size _ rfl (cell_oneB _ _ rfl _ _) (by omega) (size_oneB _ _ hbs _) ?_; intro g1 cap w1 ho1 hgrow1 hbel1 hlt1)
            have hb1 : Below w.heap.size w w1 := ((below_drewN_ hb nq).alloc hbs _).trans (hbel1 _ (Nat.le_refl _))
            have ho1' : OwnB w1 w.heap.size (some ⟨g1, 0, none⟩) (n + 1) cap (msg ((bl s).take (j + 1 + 1))) := by rw [HM.out]; exact ho1
            clear hgrow1 hbel1 ho1
            go_wp2
            go_roundw
            case rel => exact ⟨j + 1 + 1, n + 1, cap, 1, _, by omega, by go_num, rfl, rfl, by omega, by omega, ho1', hb1, HR⟩
            case measure => simp [intOf]; omega
    · obtain rfl : k = s.size := by omega
      have hfull : (bl s).take s.size = bl s := List.take_of_length_le (by rw [HL.out]; omega)
      rw [hfull] at hown
      have hby := msg_bytes s
      have hcv := conv_own hown hby
      have HBM := Lib.hid (bl_mk _ hby)
      have hml : (mk (msg (bl s))).size ≤ 2097152 := by rw [← bl_len, HBM.out]; have := msg_len (bl s); rw [HL.out] at this; omega
      clear hby hfull
      cases hv : bitsB (msg (bl s))
      · have HU := Lib.hid (unst_no (t := bl s) (by rw [hv]; simp))
        have hv' : bitsB (bl (mk (msg (bl s)))) = false := by rw [HBM.out]; exact hv
        clear hv
        go_wp2_with fail
        refine (implBitsValid_any _ _ (by omega)).mono ?_
        rintro e w' ⟨rfl, rfl⟩
        go_wp2_with fail
        go_ret2
        exact ⟨_, by rw [HU.out]; rfl, by rw [HU.out]; rfl, by decide, hb⟩
      · have hv' : bitsB (bl (mk (msg (bl s)))) = true := by rw [HBM.out]; exact hv
        have HV := Lib.hid hv
        have HZ : Hid (stuffZ (bl (mk (msg (bl s)))) = stuffL (msg (bl s))) := by show _ = _; rw [stuffZ_yes hv', HBM.out]
        clear hv
        go_wp2_with fail
        refine (implBitsValid_any _ _ (by omega)).mono ?_
        rintro e w' ⟨rfl, rfl⟩
        go_wp2_with fail
        refine (implStuff_any _ _ (by omega)).mono ?_
        rintro e w1 ⟨o1, rfl, ho1, b1⟩
        rw [HZ.out] at ho1
        have hcv2 := conv_own (hown.below b1) (msg_bytes s)
        have hb1 := below_step hb b1
        by_cases hst : stuffL (msg (bl s)) = bl s
        · have HU := Lib.hid (unst_yes (t := bl s) HV.out hst)
          have hsm := str_same (ho1.trans hst)
          clear hst ho1 hcv
          go_wp2_with fail
          go_ret2
          exact ⟨_, by rw [HU.out]; rfl, by rw [HU.out, HBM.out]; rfl, by omega, hb1⟩
        · have HU := Lib.hid (unst_no (t := bl s) (fun h => hst h.2))
          have hsm := str_other (fun h => hst (ho1.symm.trans h))
          clear hst ho1 hcv
          go_wp2_with fail
          go_ret2
          exact ⟨_, by rw [HU.out]; rfl, by rw [HU.out]; rfl, by decide, hb1⟩
end Go.Proofs.Ytebbodjecaiooaa

/-
  LowerWait of the program and of the reference; the walk of the law FnExactLowerWait.
-/
import Derived.Test.YthbgnnnbidnlbaaTicks
namespace Go.Proofs.Ythbgnnnbidnlbaa
open Go.RowKit

theorem posN_pos (l : List Nat) (h : 0 < sumN l) : 0 < posN l := by
  induction l with
  | nil => simp [sumN] at h
  | cons a t ih =>
    simp only [posN]
    by_cases ha : a = 0
    · subst ha
      simp only [sumN, Nat.zero_add] at h
      simpa using ih h
    · have : Nat.beq a 0 = false := by
        cases hb : Nat.beq a 0
        · rfl
        · exact absurd (Nat.eq_of_beq_eq_true hb) ha
      rw [this]; simp
theorem posN_le (l : List Nat) : posN l ≤ l.length := by
  induction l with
  | nil => simp [posN]
  | cons a t ih => simp only [posN, List.length_cons]; cases Nat.beq a 0 <;> simp <;> omega

set_option maxHeartbeats 800000 in
theorem implLowerWait_in (A : Option Addr) (n c : Nat) (l : List Nat) (s : Nat) (w : World) (h : Rd w A n (toZ l)) (hv : lowerB (toZ l) (s : Int) = true) :
    Calls Try.prog 22 #[.slice A n c, .int .i64 (s : Int)] w (Counted (phi s l) w) := by
  have HO := Lib.hid (lowOk_iff.1 hv)
  have HB := Lib.hid HO.out.parts.2.2.2.2.2.2.2.2.2.2.2.1
  go_enter Try.func22, Try.ntmps22
  go_wp2_with fail
  refine (implLowerOk_any A n c (toZ l) s _ h).mono ?_
  rintro e w' ⟨rfl, rfl⟩
  go_wp2_with fail
  have HV := Lib.hid hv
  clear hv
  go_loopw [0, 5] (fun v t wr => ∃ (l' : List Nat) (A' : Option Addr) (n' c' x : Nat), v = .slice A' n' c' ∧ t = .int .i64 (x : Int) ∧ x ≤ 200 ∧ Rd wr A' n' (toZ l') ∧ Below w.heap.size w wr ∧ Hid (LowOk l' s ∧ x + phi s l' = phi s l)) (fun _ t _ => 200 - (intOf t).toNat)
  case atStart => exact ⟨l, A, n, c, 0, rfl, rfl, by omega, h, Below.refl _ _, ⟨HO.out, by omega⟩⟩
  case round =>
    obtain ⟨l', A', n', c', x, rfl, rfl, hx, hrd, hb, HH⟩ := hrel
    by_cases h0 : 0 < sumN l'
    · obtain ⟨p1, p2⟩ := HH.out
      obtain ⟨_, _, _, _, _, p6, _⟩ := p1.parts
      obtain ⟨_, _, q3⟩ := p6 h0
      have hpos := posN_pos l' h0
      have hxb : x + posN l' ≤ 200 := by have := HB.out; omega
      have HN : Hid (LowOk (lowStep l' s) s ∧ (x + posN l') + phi s (lowStep l' s) = phi s l) := ⟨p1.next, by omega⟩
      have HP := Lib.hid p1
      have HL := Lib.hid (rd_toZ_len hrd)
      have hn4 : n' ≤ 4 := by rw [← HL.out]; exact p1.2.1
      have hd0 : decide (0 < sumN l') = true := decide_eq_true h0
      clear p1 p2 p6 q3 h0 HH
      go_wp2_with fail
      refine (impl_up A' n' c' l' s _ hrd HP.out).mono ?_
      rintro e w' ⟨y, rfl, hy, rfl⟩
      rw [hd0] at hy
      obtain ⟨wa, rfl⟩ : ∃ wa : World, wa = wr := ⟨_, rfl⟩
      go_wp2_with fail
      clear hd0 hy
      go_loop [5, 17] (fun t i => ∃ k y : Nat, k ≤ n' ∧ i = .int .i64 k ∧ t = .int .i64 ((x + y : Nat) : Int) ∧ y ≤ k ∧ Hid (y = posN (l'.take k))) (fun _ i => n' - (intOf i).toNat)
      case atStart => exact ⟨0, 0, by omega, rfl, rfl, by omega, rfl⟩
      case round =>
        obtain ⟨k, y, hk, rfl, rfl, hyk, HY⟩ := hrel
        by_cases hlt : k < n'
        · obtain ⟨g, off, rfl, hg, hcell⟩ := hrd.at_ hlt
          rw [toZ_nth] at hcell
          have hkl : k < l'.length := by rw [HL.out]; exact hlt
          have HS := Lib.hid (take_succ_nn l' k hkl)
          have e2 : ((x + y : Nat) : Int) = (x : Int) + (y : Int) := by omega
          rw [e2]
          clear e2
          rcases Nat.eq_zero_or_pos (nn l' k) with hz | hz
          · have HN2 : Hid (y = posN (l'.take (k + 1))) := by show _ = _; rw [HS.out, posN_snoc, if_pos hz, HY.out]; rfl
            rw [hz] at hcell
            have hcell0 : wa.cell? ⟨g, off + k, none⟩ = some (.int .i64 0) := hcell
            clear hcell hz hkl
            go_wp2
            go_round
            case rel => exact ⟨k + 1, y, by omega, by go_num, by go_num, by omega, HN2.out⟩
            case measure => simp [intOf]; omega
          · have HN2 : Hid (y + 1 = posN (l'.take (k + 1))) := by show _ = _; rw [HS.out, posN_snoc, if_neg (by omega), HY.out]
            have hzz : (0 : Int) < ((nn l' k : Nat) : Int) := by omega
            generalize ((nn l' k : Nat) : Int) = z at hcell hzz
            clear hz hkl
            go_wp2
            go_round
            case rel => exact ⟨k + 1, y + 1, by omega, by go_num, by go_num, by omega, HN2.out⟩
            case measure => simp [intOf]; omega
        · obtain rfl : k = n' := by omega
          have HYE : Hid (y = posN l') := by have := HY.out; rw [List.take_of_length_le (by rw [HL.out]; omega)] at this; exact this
          go_wp2_with fail
          refine (implLowerStep_any A' k c' (toZ l') s _ hrd).mono ?_
          rintro e w2 ⟨A2, n2, c2, rfl, _, r2, b2⟩
          rw [lowS_yes HP.out] at r2
          have hb2 := below_step hb b2
          have hy1 : 0 < y := by rw [HYE.out]; exact hpos
          have hy2 : x + y ≤ 200 := by rw [HYE.out]; exact hxb
          go_wp2_with fail
          go_roundw
          case rel => exact ⟨_, A2, n2, c2, x + y, rfl, rfl, hy2, r2.rd, hb2, by rw [HYE.out]; exact HN⟩
          case measure => simp [intOf]; omega
    · obtain ⟨p1, p2⟩ := HH.out
      obtain ⟨_, _, _, _, _, _, p7, _⟩ := p1.parts
      have HE : Hid ((x : Int) = (phi s l : Int)) := by have := (p7 (by omega)).2; show _ = _; omega
      have HP := Lib.hid p1
      have hd0 : decide (0 < sumN l') = false := by simp; omega
      clear p1 p2 p7 h0 HH
      go_wp2_with fail
      refine (impl_up A' n' c' l' s _ hrd HP.out).mono ?_
      rintro e w' ⟨y, rfl, hy, rfl⟩
      rw [hd0] at hy
      clear hd0
      go_wp2_with fail
      go_ret
      exact ⟨ret_int HE.out, hb⟩
theorem implLowerWait_any (A : Option Addr) (n c : Nat) (xs : List Int) (s : Int) (w : World) (h : Rd w A n xs) :
    Calls Try.prog 22 #[.slice A n c, .int .i64 s] w (Counted (waitZ xs s) w) := by
  cases hv : lowerB xs s
  · have HF := Lib.hid (waitZ_no hv)
    go_enter Try.func22, Try.ntmps22
    go_wp2_with fail
    refine (implLowerOk_any A n c xs s _ h).mono ?_
    rintro e w' ⟨rfl, rfl⟩
    go_wp2_with fail
    go_ret
    exact ⟨ret_int HF.out.symm, Below.refl _ _⟩
  · obtain ⟨l, s', rfl, rfl⟩ := lower_nat hv
    rw [waitZ_yes (lowOk_iff.1 hv)]
    exact implLowerWait_in A n c l s' w h hv

set_option maxHeartbeats 800000 in
theorem specLowerWait_in (A : Option Addr) (n c : Nat) (l : List Nat) (s : Nat) (w : World) (h : Rd w A n (toZ l)) (hv : lowerB (toZ l) (s : Int) = true) :
    Calls Try.prog 21 #[.slice A n c, .int .i64 (s : Int)] w (Counted (phi s l) w) := by
  have HO := Lib.hid (lowOk_iff.1 hv)
  have HB := Lib.hid HO.out.parts.2.2.2.2.2.2.2.2.2.2.2.1
  go_enter Try.func21, Try.ntmps21
  go_wp2_with fail
  refine (specLowerOk_any A n c (toZ l) s _ h).mono ?_
  rintro e w' ⟨rfl, rfl⟩
  go_wp2_with fail
  have HV := Lib.hid hv
  clear hv
  go_loopw [0, 5] (fun v t wr => ∃ (l' : List Nat) (A' : Option Addr) (n' c' x : Nat), v = .slice A' n' c' ∧ t = .int .i64 (x : Int) ∧ x ≤ 200 ∧ Rd wr A' n' (toZ l') ∧ Below w.heap.size w wr ∧ Hid (LowOk l' s ∧ x + phi s l' = phi s l)) (fun _ t _ => 200 - (intOf t).toNat)
  case atStart => exact ⟨l, A, n, c, 0, rfl, rfl, by omega, h, Below.refl _ _, ⟨HO.out, by omega⟩⟩
  case round =>
    obtain ⟨l', A', n', c', x, rfl, rfl, hx, hrd, hb, HH⟩ := hrel
    by_cases h0 : 0 < sumN l'
    · obtain ⟨p1, p2⟩ := HH.out
      obtain ⟨_, _, _, _, _, p6, _⟩ := p1.parts
      obtain ⟨_, _, q3⟩ := p6 h0
      have hpos := posN_pos l' h0
      have hxb : x + posN l' ≤ 200 := by have := HB.out; omega
      have HN : Hid (LowOk (lowStep l' s) s ∧ (x + posN l') + phi s (lowStep l' s) = phi s l) := ⟨p1.next, by omega⟩
      have HP := Lib.hid p1
      have HL := Lib.hid (rd_toZ_len hrd)
      have hn4 : n' ≤ 4 := by rw [← HL.out]; exact p1.2.1
      have hd0 : decide (0 < sumN l') = true := decide_eq_true h0
      clear p1 p2 p6 q3 h0 HH
      go_wp2_with fail
      refine (spec_up A' n' c' l' s _ hrd HP.out).mono ?_
      rintro e w' ⟨y, rfl, hy, rfl⟩
      rw [hd0] at hy
      obtain ⟨wa, rfl⟩ : ∃ wa : World, wa = wr := ⟨_, rfl⟩
      go_wp2_with fail
      clear hd0 hy
      go_loop [5, 6] (fun t i => ∃ k y : Nat, k ≤ n' ∧ i = .int .i64 k ∧ t = .int .i64 ((x + y : Nat) : Int) ∧ y ≤ k ∧ Hid (y = posN (l'.take k))) (fun _ i => n' - (intOf i).toNat)
      case atStart => exact ⟨0, 0, by omega, rfl, rfl, by omega, rfl⟩
      case round =>
        obtain ⟨k, y, hk, rfl, rfl, hyk, HY⟩ := hrel
        by_cases hlt : k < n'
        · obtain ⟨g, off, rfl, hg, hcell⟩ := hrd.at_ hlt
          rw [toZ_nth] at hcell
          have hkl : k < l'.length := by rw [HL.out]; exact hlt
          have HS := Lib.hid (take_succ_nn l' k hkl)
          have e2 : ((x + y : Nat) : Int) = (x : Int) + (y : Int) := by omega
          rw [e2]
          clear e2
          rcases Nat.eq_zero_or_pos (nn l' k) with hz | hz
          · have HN2 : Hid (y = posN (l'.take (k + 1))) := by show _ = _; rw [HS.out, posN_snoc, if_pos hz, HY.out]; rfl
            rw [hz] at hcell
            have hcell0 : wa.cell? ⟨g, off + k, none⟩ = some (.int .i64 0) := hcell
            clear hcell hz hkl
            go_wp2
            go_round
            case rel => exact ⟨k + 1, y, by omega, by go_num, by go_num, by omega, HN2.out⟩
            case measure => simp [intOf]; omega
          · have HN2 : Hid (y + 1 = posN (l'.take (k + 1))) := by show _ = _; rw [HS.out, posN_snoc, if_neg (by omega), HY.out]
            have hzz : (0 : Int) < ((nn l' k : Nat) : Int) := by omega
            generalize ((nn l' k : Nat) : Int) = z at hcell hzz
            clear hz hkl
            go_wp2
            go_round
            case rel => exact ⟨k + 1, y + 1, by omega, by go_num, by go_num, by omega, HN2.out⟩
            case measure => simp [intOf]; omega
        · obtain rfl : k = n' := by omega
          have HYE : Hid (y = posN l') := by have := HY.out; rw [List.take_of_length_le (by rw [HL.out]; omega)] at this; exact this
          go_wp2_with fail
          refine (specLowerStep_any A' k c' (toZ l') s _ hrd).mono ?_
          rintro e w2 ⟨A2, n2, c2, rfl, _, r2, b2⟩
          rw [lowS_yes HP.out] at r2
          have hb2 := below_step hb b2
          have hy1 : 0 < y := by rw [HYE.out]; exact hpos
          have hy2 : x + y ≤ 200 := by rw [HYE.out]; exact hxb
          go_wp2_with fail
          go_roundw
          case rel => exact ⟨_, A2, n2, c2, x + y, rfl, rfl, hy2, r2.rd, hb2, by rw [HYE.out]; exact HN⟩
          case measure => simp [intOf]; omega
    · obtain ⟨p1, p2⟩ := HH.out
      obtain ⟨_, _, _, _, _, _, p7, _⟩ := p1.parts
      have HE : Hid ((x : Int) = (phi s l : Int)) := by have := (p7 (by omega)).2; show _ = _; omega
      have HP := Lib.hid p1
      have hd0 : decide (0 < sumN l') = false := by simp; omega
      clear p1 p2 p7 h0 HH
      go_wp2_with fail
      refine (spec_up A' n' c' l' s _ hrd HP.out).mono ?_
      rintro e w' ⟨y, rfl, hy, rfl⟩
      rw [hd0] at hy
      clear hd0
      go_wp2_with fail
      go_ret
      exact ⟨ret_int HE.out, hb⟩
theorem specLowerWait_any (A : Option Addr) (n c : Nat) (xs : List Int) (s : Int) (w : World) (h : Rd w A n xs) :
    Calls Try.prog 21 #[.slice A n c, .int .i64 s] w (Counted (waitZ xs s) w) := by
  cases hv : lowerB xs s
  · have HF := Lib.hid (waitZ_no hv)
    go_enter Try.func21, Try.ntmps21
    go_wp2_with fail
    refine (specLowerOk_any A n c xs s _ h).mono ?_
    rintro e w' ⟨rfl, rfl⟩
    go_wp2_with fail
    go_ret
    exact ⟨ret_int HF.out.symm, Below.refl _ _⟩
  · obtain ⟨l, s', rfl, rfl⟩ := lower_nat hv
    rw [waitZ_yes (lowOk_iff.1 hv)]
    exact specLowerWait_in A n c l s' w h hv

set_option maxHeartbeats 400000 in
theorem walk_FnExactLowerWait (a0 : Option Addr) (len0 cap0 : Nat) (z0 : List Int) (s : Int) (w : World) (w0 : IsRow .i64 w a0 len0 cap0 z0) (_w1 : (Lit.int .i64 s).wf = true) :
    Calls Try.prog 6 #[.slice a0 len0 cap0, .int .i64 s] w fun e w' => e = .returned (.bool true) ∧ Below w.heap.size w w' := by
  by_cases hlen : 1048576 < len0
  · go_enter Try.func6, Try.ntmps6
    go_wp2
    go_ret
    exact ⟨rfl, Below.refl _ _⟩
  · have hr := w0.rd (by omega)
    generalize z0.take len0 = xs at hr
    have hs := sameB_refl xs
    have hb : (waitZ xs s != waitZ xs s) = false := by simp
    go_enter Try.func6, Try.ntmps6
    go_wp2_with fail
    refine (toIntS_any a0 len0 cap0 xs _ hr).mono ?_
    rintro e w1 ⟨rfl, r1, b1⟩
    go_wp2_with fail
    refine (specLowerWait_any _ _ _ xs s _ r1.rd).mono ?_
    rintro e w2 ⟨rfl, b2⟩
    have b1' := below_step b1 b2
    go_wp2_with fail
    refine (toIntS_any a0 len0 cap0 xs _ (hr.below b1')).mono ?_
    rintro e w3 ⟨rfl, r3, b3⟩
    go_wp2_with fail
    refine (implLowerWait_any _ _ _ xs s _ r3.rd).mono ?_
    rintro e w4 ⟨rfl, b4⟩
    have b14 := below_step (below_step b1' b3) b4
    go_wp2_with fail
    refine (toIntS_any a0 len0 cap0 xs _ (hr.below b14)).mono ?_
    rintro e w5 ⟨rfl, r5, b5⟩
    go_wp2_with fail
    refine (eqIntS_any _ _ _ _ _ _ xs xs _ ((r3.rd.below b4).below b5) r5.rd).mono ?_
    rintro e w6 ⟨rfl, q, rfl⟩
    go_wp2_with fail
    go_ret
    exact ⟨rfl, below_drewN_ (below_step b14 b5) q⟩
end Go.Proofs.Ythbgnnnbidnlbaa

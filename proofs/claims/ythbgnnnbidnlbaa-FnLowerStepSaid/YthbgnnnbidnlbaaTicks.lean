/-
  LowerTicks and LowerWait of the program and of the reference; sums and the greatest number of a list; the walks of the laws FnExactLowerTicks and FnExactLowerWait.
-/
import Derived.Test.YthbgnnnbidnlbaaLowerAll
namespace Go.Proofs.Ythbgnnnbidnlbaa
open Go.RowKit

/-- sums, the greatest, how many are above 0, over the first k -/
theorem sumN_snoc (l : List Nat) (x : Nat) : sumN (l ++ [x]) = sumN l + x := by
  induction l with
  | nil => simp [sumN]
  | cons a t ih => simp only [List.cons_append, sumN, ih]; omega
theorem maxN_snoc (l : List Nat) (x : Nat) : maxN (l ++ [x]) = max (maxN l) x := by
  induction l with
  | nil => simp only [List.nil_append, maxN]; cases h : Nat.ble x 0 <;> simp [Nat.ble_eq] at h ⊢ <;> omega
  | cons a t ih =>
    simp only [List.cons_append, maxN, ih]
    have e1 : ∀ a b : Nat, (bif Nat.ble a b then b else a) = max a b := by
      intro a b
      cases h : Nat.ble a b
      · have : ¬ a ≤ b := by
          intro hh
          rw [← Nat.ble_eq, h] at hh
          cases hh
        simp; omega
      · have := Nat.le_of_ble_eq_true h
        simp; omega
    rw [e1, e1]; omega
theorem posN_snoc (l : List Nat) (x : Nat) : posN (l ++ [x]) = posN l + (if x = 0 then 0 else 1) := by
  induction l with
  | nil =>
    simp only [List.nil_append, posN]
    by_cases h : x = 0
    · subst h; rfl
    · have : Nat.beq x 0 = false := by
        cases hb : Nat.beq x 0
        · rfl
        · exact absurd (Nat.eq_of_beq_eq_true hb) h
      rw [this, if_neg h]; rfl
  | cons a t ih =>
    simp only [List.cons_append, posN, ih]
    cases Nat.beq a 0 <;> simp <;> omega
theorem nn_get (l : List Nat) (k : Nat) (h : k < l.length) : nn l k = l[k] := by unfold nn; simp [List.getD, h]
theorem take_succ_nn (l : List Nat) (k : Nat) (h : k < l.length) : l.take (k + 1) = l.take k ++ [nn l k] := by
  rw [List.take_succ_eq_append_getElem h, nn_get l k h]

set_option maxHeartbeats 400000 in
theorem sum_any_34 (A : Option Addr) (n c : Nat) (l : List Nat) (w : World) (h : Rd w A n (toZ l)) (h8 : ∀ x ∈ l, x < 8) (hn4 : n ≤ 4) :
    Calls Try.prog 34 #[.slice A n c] w fun e w' => e = .returned (.int .i64 (sumN l : Int)) ∧ w = w' := by
  have HL := Lib.hid (rd_toZ_len h)
  have H8 := Lib.hid h8
  clear h8
  go_enter Try.func34, Try.ntmps34
  go_wp2
  go_loop [3, 4] (fun s i => ∃ k x : Nat, k ≤ n ∧ i = .int .i64 k ∧ s = .int .i64 (x : Int) ∧ x ≤ 8 * k ∧ Hid (x = sumN (l.take k))) (fun _ i => n - (intOf i).toNat)
  case atStart => exact ⟨0, 0, Nat.zero_le _, rfl, rfl, by omega, rfl⟩
  case round =>
    obtain ⟨k, x, hk, rfl, rfl, hx, H⟩ := hrel
    by_cases hlt : k < n
    · obtain ⟨g, off, rfl, hg, hcell⟩ := h.at_ hlt
      rw [toZ_nth] at hcell
      have hkl : k < l.length := by rw [HL.out]; exact hlt
      have hy := H8.out (nn l k) (by rw [nn_get l k hkl]; exact List.getElem_mem hkl)
      have HN : Hid (x + nn l k = sumN (l.take (k + 1))) := by show _ = _; rw [take_succ_nn l k hkl, sumN_snoc, H.out]
      generalize nn l k = y at hcell hy HN
      clear hkl
      go_wp2
      go_round
      case rel => exact ⟨k + 1, x + y, by omega, by go_num, by go_num, by omega, HN.out⟩
      case measure => simp [intOf]; omega
    · obtain rfl : k = n := by omega
      go_wp2
      go_ret
      exact ⟨ret_int (by rw [H.out, List.take_of_length_le (by rw [HL.out]; omega)]), rfl⟩
set_option maxHeartbeats 400000 in
theorem sum_any_28 (A : Option Addr) (n c : Nat) (l : List Nat) (w : World) (h : Rd w A n (toZ l)) (h8 : ∀ x ∈ l, x < 8) (hn4 : n ≤ 4) :
    Calls Try.prog 28 #[.slice A n c] w fun e w' => e = .returned (.int .i64 (sumN l : Int)) ∧ w = w' := by
  have HL := Lib.hid (rd_toZ_len h)
  have H8 := Lib.hid h8
  clear h8
  go_enter Try.func28, Try.ntmps28
  go_wp2
  go_loop [3, 4] (fun s i => ∃ k x : Nat, k ≤ n ∧ i = .int .i64 k ∧ s = .int .i64 (x : Int) ∧ x ≤ 8 * k ∧ Hid (x = sumN (l.take k))) (fun _ i => n - (intOf i).toNat)
  case atStart => exact ⟨0, 0, Nat.zero_le _, rfl, rfl, by omega, rfl⟩
  case round =>
    obtain ⟨k, x, hk, rfl, rfl, hx, H⟩ := hrel
    by_cases hlt : k < n
    · obtain ⟨g, off, rfl, hg, hcell⟩ := h.at_ hlt
      rw [toZ_nth] at hcell
      have hkl : k < l.length := by rw [HL.out]; exact hlt
      have hy := H8.out (nn l k) (by rw [nn_get l k hkl]; exact List.getElem_mem hkl)
      have HN : Hid (x + nn l k = sumN (l.take (k + 1))) := by show _ = _; rw [take_succ_nn l k hkl, sumN_snoc, H.out]
      generalize nn l k = y at hcell hy HN
      clear hkl
      go_wp2
      go_round
      case rel => exact ⟨k + 1, x + y, by omega, by go_num, by go_num, by omega, HN.out⟩
      case measure => simp [intOf]; omega
    · obtain rfl : k = n := by omega
      go_wp2
      go_ret
      exact ⟨ret_int (by rw [H.out, List.take_of_length_le (by rw [HL.out]; omega)]), rfl⟩

set_option maxHeartbeats 400000 in
theorem max_any (A : Option Addr) (n c : Nat) (l : List Nat) (w : World) (h : Rd w A n (toZ l)) (hn1 : 1 ≤ n) :
    Calls Try.prog 35 #[.slice A n c] w fun e w' => e = .returned (.int .i64 (maxN l : Int)) ∧ w = w' := by
  have HL := Lib.hid (rd_toZ_len h)
  have hn := h.le
  obtain ⟨g, off, rfl, hg, hc⟩ := h.2.2 (show 0 < n by omega)
  have hc0 : w.cell? ⟨g, off, none⟩ = some (.int .i64 ((nn l 0 : Nat) : Int)) := by have := hc 0 (by omega); rwa [toZ_nth] at this
  have HC : Hid (∀ j, j < n → w.cell? ⟨g, off + j, none⟩ = some (.int .i64 ((nn l j : Nat) : Int))) := fun j hj => by have := hc j hj; rwa [toZ_nth] at this
  have H1 : Hid (nn l 0 = maxN (l.take 1)) := by
    show _ = _
    rw [take_succ_nn l 0 (by rw [HL.out]; omega), maxN_snoc]; simp [maxN]
  clear hc
  have hpos : 0 < n := by omega
  generalize nn l 0 = x0 at hc0 H1
  go_enter Try.func35, Try.ntmps35
  go_wp2
  go_loop [3, 4] (fun s i => ∃ k x : Nat, 1 ≤ k ∧ k ≤ n ∧ i = .int .i64 k ∧ s = .int .i64 (x : Int) ∧ Hid (x = maxN (l.take k))) (fun _ i => n - (intOf i).toNat)
  case atStart => exact ⟨1, x0, by omega, by omega, rfl, rfl, H1⟩
  case round =>
    obtain ⟨k, x, hk1, hk, rfl, rfl, H⟩ := hrel
    by_cases hlt : k < n
    · have hcell := HC.out k hlt
      have hkl : k < l.length := by rw [HL.out]; exact hlt
      have HN : Hid (max x (nn l k) = maxN (l.take (k + 1))) := by show _ = _; rw [take_succ_nn l k hkl, maxN_snoc, H.out]
      clear hc0
      generalize nn l k = y at hcell HN
      clear hkl
      by_cases hm : (x : Int) < (y : Int)
      · go_wp2
        go_round
        case rel => exact ⟨k + 1, y, by omega, by omega, by go_num, by go_num, by have := HN.out; rw [show max x y = y by omega] at this; exact this⟩
        case measure => simp [intOf]; omega
      · go_wp2
        go_round
        case rel => exact ⟨k + 1, x, by omega, by omega, by go_num, by go_num, by have := HN.out; rw [show max x y = x by omega] at this; exact this⟩
        case measure => simp [intOf]; omega
    · obtain rfl : k = n := by omega
      go_wp2
      go_ret
      exact ⟨ret_int (by rw [H.out, List.take_of_length_le (by rw [HL.out]; omega)]), rfl⟩

/-- after how many ticks all are down; -1 for what is not taken -/
def ticksZ (xs : List Int) (s : Int) : Int := if lowerB xs s = true then (tau s.toNat (xs.map Int.toNat) : Int) else -1
def waitZ (xs : List Int) (s : Int) : Int := if lowerB xs s = true then (phi s.toNat (xs.map Int.toNat) : Int) else -1
theorem ticksZ_no {xs : List Int} {s : Int} (h : lowerB xs s = false) : ticksZ xs s = -1 := by unfold ticksZ; rw [h]; rfl
theorem waitZ_no {xs : List Int} {s : Int} (h : lowerB xs s = false) : waitZ xs s = -1 := by unfold waitZ; rw [h]; rfl
theorem ticksZ_yes {l : List Nat} {s : Nat} (h : LowOk l s) : ticksZ (toZ l) (s : Int) = (tau s l : Int) := by unfold ticksZ; rw [if_pos (lowOk_iff.2 h), toNat_toZ, Int.toNat_natCast]
theorem waitZ_yes {l : List Nat} {s : Nat} (h : LowOk l s) : waitZ (toZ l) (s : Int) = (phi s l : Int) := by unfold waitZ; rw [if_pos (lowOk_iff.2 h), toNat_toZ, Int.toNat_natCast]

/-- what LowerTicks and LowerWait leave -/
def Counted (x : Int) (w : World) (e : Ending) (w' : World) : Prop := e = .returned (.int .i64 x) ∧ Below w.heap.size w w'

theorem impl_up (A : Option Addr) (n c : Nat) (l : List Nat) (s : Nat) (w : World) (h : Rd w A n (toZ l)) (ho : LowOk l s) :
    Calls Try.prog 35 #[.slice A n c] w fun e w' => ∃ x : Int, e = .returned (.int .i64 x) ∧ decide (0 < x) = decide (0 < sumN l) ∧ w = w' := by
  refine (max_any A n c l w h (by rw [← rd_toZ_len h]; exact ho.1)).mono ?_
  rintro e w' ⟨rfl, rfl⟩
  refine ⟨_, rfl, ?_, rfl⟩
  obtain ⟨_, _, _, _, _, _, _, _, _, _, _, _, p13, p14, _⟩ := ho.parts
  by_cases hm : maxN l = 0
  · rw [hm, (p13 hm).2]; rfl
  · have := (p14 hm).2
    rw [decide_eq_true this, decide_eq_true (by omega)]
theorem spec_up (A : Option Addr) (n c : Nat) (l : List Nat) (s : Nat) (w : World) (h : Rd w A n (toZ l)) (ho : LowOk l s) :
    Calls Try.prog 34 #[.slice A n c] w fun e w' => ∃ x : Int, e = .returned (.int .i64 x) ∧ decide (0 < x) = decide (0 < sumN l) ∧ w = w' := by
  refine (sum_any_34 A n c l w h ho.2.2.1 (by rw [← rd_toZ_len h]; exact ho.2.1)).mono ?_
  rintro e w' ⟨rfl, rfl⟩
  refine ⟨_, rfl, ?_, rfl⟩
  rw [Bool.eq_iff_iff]; simp

set_option maxHeartbeats 800000 in
theorem implLowerTicks_in (A : Option Addr) (n c : Nat) (l : List Nat) (s : Nat) (w : World) (h : Rd w A n (toZ l)) (hv : lowerB (toZ l) (s : Int) = true) :
    Calls Try.prog 20 #[.slice A n c, .int .i64 (s : Int)] w (Counted (tau s l) w) := by
  have HO := Lib.hid (lowOk_iff.1 hv)
  have HB := Lib.hid HO.out.parts.2.2.2.2.2.2.2.2.2.1
  go_enter Try.func20, Try.ntmps20
  go_wp2_with fail
  refine (implLowerOk_any A n c (toZ l) s _ h).mono ?_
  rintro e w' ⟨rfl, rfl⟩
  go_wp2_with fail
  have HV := Lib.hid hv
  clear hv
  go_loopw [0, 5] (fun v t wr => ∃ (l' : List Nat) (A' : Option Addr) (n' c' x : Nat), v = .slice A' n' c' ∧ t = .int .i64 (x : Int) ∧ x ≤ 28 ∧ Rd wr A' n' (toZ l') ∧ Below w.heap.size w wr ∧ Hid (LowOk l' s ∧ x + tau s l' = tau s l)) (fun _ t _ => 28 - (intOf t).toNat)
  case atStart => exact ⟨l, A, n, c, 0, rfl, rfl, by omega, h, Below.refl _ _, ⟨HO.out, by omega⟩⟩
  case round =>
    obtain ⟨l', A', n', c', x, rfl, rfl, hx, hrd, hb, HH⟩ := hrel
    by_cases h0 : 0 < sumN l'
    · obtain ⟨p1, p2⟩ := HH.out
      obtain ⟨_, _, _, _, _, p6, _⟩ := p1.parts
      obtain ⟨_, q2, _⟩ := p6 h0
      have hxb : x + 1 ≤ 28 := by have := HB.out; omega
      have HN : Hid (LowOk (lowStep l' s) s ∧ (x + 1) + tau s (lowStep l' s) = tau s l) := ⟨p1.next, by omega⟩
      have HP := Lib.hid p1
      have hd0 : decide (0 < sumN l') = true := decide_eq_true h0
      clear p1 p2 p6 q2 h0 HH
      go_wp2_with fail
      refine (impl_up A' n' c' l' s _ hrd HP.out).mono ?_
      rintro e w' ⟨y, rfl, hy, rfl⟩
      rw [hd0] at hy
      go_wp2_with fail
      refine (implLowerStep_any A' n' c' (toZ l') s _ hrd).mono ?_
      rintro e w2 ⟨A2, n2, c2, rfl, _, r2, b2⟩
      rw [lowS_yes HP.out] at r2
      have hb2 := below_step hb b2
      clear hd0
      go_wp2_with fail
      go_roundw
      case rel => exact ⟨_, A2, n2, c2, x + 1, rfl, by go_num, by omega, r2.rd, hb2, HN⟩
      case measure => simp [intOf]; omega
    · obtain ⟨p1, p2⟩ := HH.out
      obtain ⟨_, _, _, _, _, _, p7, _⟩ := p1.parts
      have HE : Hid ((x : Int) = (tau s l : Int)) := by have := (p7 (by omega)).1; show _ = _; omega
      have HP := Lib.hid p1
      have hd0 : decide (0 < sumN l') = false := by simp; omega
      clear p1 p2 p7 h0 HH
      go_wp2_with fail
      refine (impl_up A' n' c' l' s _ hrd HP.out).mono ?_
      rintro e w' ⟨y, rfl, hy, rfl⟩
      rw [hd0] at hy
      clear hd0
      go_wp2_with fail
      go_ret
      exact ⟨ret_int HE.out, hb⟩
theorem implLowerTicks_any (A : Option Addr) (n c : Nat) (xs : List Int) (s : Int) (w : World) (h : Rd w A n xs) :
    Calls Try.prog 20 #[.slice A n c, .int .i64 s] w (Counted (ticksZ xs s) w) := by
  cases hv : lowerB xs s
  · have HF := Lib.hid (ticksZ_no hv)
    go_enter Try.func20, Try.ntmps20
    go_wp2_with fail
    refine (implLowerOk_any A n c xs s _ h).mono ?_
    rintro e w' ⟨rfl, rfl⟩
    go_wp2_with fail
    go_ret
    exact ⟨ret_int HF.out.symm, Below.refl _ _⟩
  · obtain ⟨l, s', rfl, rfl⟩ := lower_nat hv
    rw [ticksZ_yes (lowOk_iff.1 hv)]
    exact implLowerTicks_in A n c l s' w h hv
set_option maxHeartbeats 800000 in
theorem specLowerTicks_in (A : Option Addr) (n c : Nat) (l : List Nat) (s : Nat) (w : World) (h : Rd w A n (toZ l)) (hv : lowerB (toZ l) (s : Int) = true) :
    Calls Try.prog 19 #[.slice A n c, .int .i64 (s : Int)] w (Counted (tau s l) w) := by
  have HO := Lib.hid (lowOk_iff.1 hv)
  have HB := Lib.hid HO.out.parts.2.2.2.2.2.2.2.2.2.1
  go_enter Try.func19, Try.ntmps19
  go_wp2_with fail
  refine (specLowerOk_any A n c (toZ l) s _ h).mono ?_
  rintro e w' ⟨rfl, rfl⟩
  go_wp2_with fail
  have HV := Lib.hid hv
  clear hv
  go_loopw [0, 5] (fun v t wr => ∃ (l' : List Nat) (A' : Option Addr) (n' c' x : Nat), v = .slice A' n' c' ∧ t = .int .i64 (x : Int) ∧ x ≤ 28 ∧ Rd wr A' n' (toZ l') ∧ Below w.heap.size w wr ∧ Hid (LowOk l' s ∧ x + tau s l' = tau s l)) (fun _ t _ => 28 - (intOf t).toNat)
  case atStart => exact ⟨l, A, n, c, 0, rfl, rfl, by omega, h, Below.refl _ _, ⟨HO.out, by omega⟩⟩
  case round =>
    obtain ⟨l', A', n', c', x, rfl, rfl, hx, hrd, hb, HH⟩ := hrel
    by_cases h0 : 0 < sumN l'
    · obtain ⟨p1, p2⟩ := HH.out
      obtain ⟨_, _, _, _, _, p6, _⟩ := p1.parts
      obtain ⟨_, q2, _⟩ := p6 h0
      have hxb : x + 1 ≤ 28 := by have := HB.out; omega
      have HN : Hid (LowOk (lowStep l' s) s ∧ (x + 1) + tau s (lowStep l' s) = tau s l) := ⟨p1.next, by omega⟩
      have HP := Lib.hid p1
      have hd0 : decide (0 < sumN l') = true := decide_eq_true h0
      clear p1 p2 p6 q2 h0 HH
      go_wp2_with fail
      refine (spec_up A' n' c' l' s _ hrd HP.out).mono ?_
      rintro e w' ⟨y, rfl, hy, rfl⟩
      rw [hd0] at hy
      go_wp2_with fail
      refine (specLowerStep_any A' n' c' (toZ l') s _ hrd).mono ?_
      rintro e w2 ⟨A2, n2, c2, rfl, _, r2, b2⟩
      rw [lowS_yes HP.out] at r2
      have hb2 := below_step hb b2
      clear hd0
      go_wp2_with fail
      go_roundw
      case rel => exact ⟨_, A2, n2, c2, x + 1, rfl, by go_num, by omega, r2.rd, hb2, HN⟩
      case measure => simp [intOf]; omega
    · obtain ⟨p1, p2⟩ := HH.out
      obtain ⟨_, _, _, _, _, _, p7, _⟩ := p1.parts
      have HE : Hid ((x : Int) = (tau s l : Int)) := by have := (p7 (by omega)).1; show _ = _; omega
      have HP := Lib.hid p1
      have hd0 : decide (0 < sumN l') = false := by simp; omega
      clear p1 p2 p7 h0 HH
      go_wp2_with fail
      refine (spec_up A' n' c' l' s _ hrd HP.out).mono ?_
      rintro e w' ⟨y, rfl, hy, rfl⟩
      rw [hd0] at hy
      clear hd0
      go_wp2_with fail
      go_ret
      exact ⟨ret_int HE.out, hb⟩
theorem specLowerTicks_any (A : Option Addr) (n c : Nat) (xs : List Int) (s : Int) (w : World) (h : Rd w A n xs) :
    Calls Try.prog 19 #[.slice A n c, .int .i64 s] w (Counted (ticksZ xs s) w) := by
  cases hv : lowerB xs s
  · have HF := Lib.hid (ticksZ_no hv)
    go_enter Try.func19, Try.ntmps19
    go_wp2_with fail
    refine (specLowerOk_any A n c xs s _ h).mono ?_
    rintro e w' ⟨rfl, rfl⟩
    go_wp2_with fail
    go_ret
    exact ⟨ret_int HF.out.symm, Below.refl _ _⟩
  · obtain ⟨l, s', rfl, rfl⟩ := lower_nat hv
    rw [ticksZ_yes (lowOk_iff.1 hv)]
    exact specLowerTicks_in A n c l s' w h hv

set_option maxHeartbeats 400000 in
theorem walk_FnExactLowerTicks (a0 : Option Addr) (len0 cap0 : Nat) (z0 : List Int) (s : Int) (w : World) (w0 : IsRow .i64 w a0 len0 cap0 z0) (_w1 : (Lit.int .i64 s).wf = true) :
    Calls Try.prog 5 #[.slice a0 len0 cap0, .int .i64 s] w fun e w' => e = .returned (.bool true) ∧ Below w.heap.size w w' := by
  by_cases hlen : 1048576 < len0
  · go_enter Try.func5, Try.ntmps5
    go_wp2
    go_ret
    exact ⟨rfl, Below.refl _ _⟩
  · have hr := w0.rd (by omega)
    generalize z0.take len0 = xs at hr
    have hs := sameB_refl xs
    have hb : (ticksZ xs s != ticksZ xs s) = false := by simp
    go_enter Try.func5, Try.ntmps5
    go_wp2_with fail
    refine (toIntS_any a0 len0 cap0 xs _ hr).mono ?_
    rintro e w1 ⟨rfl, r1, b1⟩
    go_wp2_with fail
    refine (specLowerTicks_any _ _ _ xs s _ r1.rd).mono ?_
    rintro e w2 ⟨rfl, b2⟩
    have b1' := below_step b1 b2
    go_wp2_with fail
    refine (toIntS_any a0 len0 cap0 xs _ (hr.below b1')).mono ?_
    rintro e w3 ⟨rfl, r3, b3⟩
    go_wp2_with fail
    refine (implLowerTicks_any _ _ _ xs s _ r3.rd).mono ?_
    rintro e w4 ⟨rfl, b4⟩
    have b14 := below_step (below_step b1' b3) b4
    go_wp2_with fail
    refine (toIntS_any a0 len0 cap0 xs _ (hr.below b14)).mono ?_
    rintro e w5 ⟨rfl, r5, b5⟩
    go_wp2_with fail
    refine (eqIntS_any _ _ _ _ _ _ xs xs _ ((r3.rd.below b4).below b5) r5.rd).mono ?_
    rintro e w6 ⟨rfl, q, rfl⟩
    go_wp2_with fail
    go_ret
    exact ⟨rfl, below_drewN_ (below_step b14 b5) q⟩
end Go.Proofs.Ythbgnnnbidnlbaa

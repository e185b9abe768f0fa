/-
  IdsValid of the program and of the reference; the walk of the law FnExactIdsValid.
-/
import Derived.Test.YtjfninibloakgaaTo
import Derived.Test.YtjfninibloakgaaSame
import Derived.Test.YtjfninibloakgaaHas
import Derived.Test.YtjfninibloakgaaWithin
import Derived.Test.YtjfninibloakgaaIn
namespace Go.Proofs.Ytjfninibloakgaa
open Go.RowKit

theorem quiet_add_left {P : Program} {f : FuncId} {args : Array Value} {w : World} {a n : Nat} {v : Value}
    (h : Calls P f args (w.drewN (a + n)) fun e w' => e = .returned v ∧ w.drewN (a + n) = w') :
    Calls P f args (w.drewN (a + n)) fun e w'' => e = .returned v ∧ ∃ m, w'' = w.drewN (a + m) :=
  h.mono fun _ _ ⟨he, hm⟩ => ⟨he, n, hm.symm⟩
theorem quiet_left {P : Program} {f : FuncId} {args : Array Value} {w : World} {n : Nat} {v : Value}
    (h : Calls P f args (w.drewN n) fun e w' => e = .returned v ∧ w.drewN n = w') : Calls P f args (w.drewN n) fun e w'' => e = .returned v ∧ ∃ m, w'' = w.drewN m :=
  h.mono fun _ _ ⟨he, hm⟩ => ⟨he, n, hm.symm⟩

/-- a beginning of a list -/
theorem Rd.take {w : World} {A : Option Addr} {n : Nat} {xs : List Int} (h : Rd w A n xs) (k : Nat) (hk : k ≤ n) : Rd w A k (xs.take k) := by
  refine ⟨by rw [List.length_take, h.len]; omega, by have := h.2.1; omega, fun h0 => ?_⟩
  obtain ⟨g, off, e, hg, hc⟩ := h.2.2 (by omega)
  refine ⟨g, off, e, hg, fun j hj => ?_⟩
  rw [hc j (by omega)]
  unfold nth
  simp [List.getD, hj]

/-- no number stands twice -/
def nodB (xs : List Int) : Bool := (List.range xs.length).all fun j => !hasB (xs.take j) (nth xs j)
theorem nodB_true {xs : List Int} : nodB xs = true ↔ ∀ j, j < xs.length → hasB (xs.take j) (nth xs j) = false := by
  unfold nodB; simp
theorem nodB_no {xs : List Int} (j : Nat) (hj : j < xs.length) (h : hasB (xs.take j) (nth xs j) = true) : nodB xs = false := by
  cases hb : nodB xs
  · rfl
  · have := nodB_true.1 hb j hj
    rw [h] at this; cases this
/-- at most 6 ids, each in 0..127, no two equal -/
def idsB (xs : List Int) : Bool := decide (xs.length ≤ 6) && (withinB xs 128 && nodB xs)
theorem idsB_true {xs : List Int} : idsB xs = true ↔ xs.length ≤ 6 ∧ withinB xs 128 = true ∧ nodB xs = true := by unfold idsB; simp
theorem idsB_len {xs : List Int} (h : ¬ xs.length ≤ 6) : idsB xs = false := by unfold idsB; simp [h]
theorem idsB_within {xs : List Int} (h : withinB xs 128 = false) : idsB xs = false := by unfold idsB; simp [h]
theorem idsB_nod {xs : List Int} (h : nodB xs = false) : idsB xs = false := by unfold idsB; simp [h]

set_option maxHeartbeats 800000 in
theorem implIdsValid_any (A : Option Addr) (n c : Nat) (xs : List Int) (w : World) (h : Rd w A n xs) (hnc : n ≤ c) :
    Calls Try.prog 13 #[.slice A n c] w fun e w' => e = .returned (.bool (idsB xs)) ∧ w = w' := by
  have hn := h.le
  have HL := Lib.hid h.len
  by_cases h6 : 6 < n
  · have HF := Lib.hid (idsB_len (xs := xs) (by rw [HL.out]; omega))
    go_enter Try.func13, Try.ntmps13
    go_wp2_with fail
    go_ret
    exact ⟨ret_bool HF.out.symm, rfl⟩
  have d6 : decide ((6 : Int) < (n : Int)) = false := by simp; omega
  cases hw : withinB xs 128
  · have HF := Lib.hid (idsB_within hw)
    go_enter Try.func13, Try.ntmps13
    go_wp2_with fail
    refine (allWithin_any A n c xs _ _ h).mono ?_
    rintro e w' ⟨rfl, rfl⟩
    go_wp2_with fail
    go_ret
    exact ⟨ret_bool HF.out.symm, rfl⟩
  · go_enter Try.func13, Try.ntmps13
    go_wp2_with fail
    refine (allWithin_any A n c xs _ _ h).mono ?_
    rintro e w' ⟨rfl, rfl⟩
    go_wp2_with fail
    have HW := Lib.hid hw
    clear hw
    go_loop [15] (fun i => ∃ k : Nat, k ≤ n ∧ i = .int .i64 k ∧ Hid (∀ j, j < k → hasB (xs.take j) (nth xs j) = false)) (fun i => n - (intOf i).toNat)
    case atStart => exact ⟨0, Nat.zero_le _, rfl, fun j hj => absurd hj (by omega)⟩
    case round =>
      obtain ⟨k, hk, rfl, H⟩ := hrel
      by_cases hlt : k < n
      · have ht := h.take k hk
        obtain ⟨g, off, rfl, _, hcell⟩ := h.at_ hlt
        cases hx : hasB (xs.take k) (nth xs k)
        · go_wp2_with fail
          refine (contains_any _ k _ (xs.take k) _ _ ht).mono ?_
          rintro e w' ⟨rfl, rfl⟩
          go_wp2_with fail
          have HX := Lib.hid hx
          clear hx
          go_round
          case rel => exact ⟨k + 1, by omega, by go_num, fun j hj => by
            rcases Nat.lt_or_ge j k with h1 | h1
            · exact H.out j h1
            · obtain rfl : j = k := by omega
              exact HX.out⟩
          case measure => simp [intOf]; omega
        · have HF := Lib.hid (idsB_nod (nodB_no k (by rw [HL.out]; exact hlt) hx))
          go_wp2_with fail
          refine (contains_any _ k _ (xs.take k) _ _ ht).mono ?_
          rintro e w' ⟨rfl, rfl⟩
          go_wp2_with fail
          go_ret
          exact ⟨ret_bool HF.out.symm, rfl⟩
      · have HF := Lib.hid (idsB_true.2 ⟨by rw [HL.out]; omega, HW.out, nodB_true.2 (fun j hj => H.out j (by rw [HL.out] at hj; omega))⟩)
        go_wp2_with fail
        go_ret
        exact ⟨ret_bool HF.out.symm, rfl⟩

set_option maxHeartbeats 800000 in
theorem specIdsValid_any (A : Option Addr) (n c : Nat) (xs : List Int) (w : World) (h : Rd w A n xs) (hnc : n ≤ c) :
    Calls Try.prog 11 #[.slice A n c] w fun e w' => e = .returned (.bool (idsB xs)) ∧ ∃ q, w' = w.drewN q := by
  have hn := h.le
  have HL := Lib.hid h.len
  go_enter Try.func11, Try.ntmps11
  go_wp2_with fail
  go_loopw [3] (fun i wr => ∃ k q : Nat, k ≤ n ∧ i = .int .i64 k ∧ wr = w.drewN q ∧ Hid (∀ j, j < k → (0 ≤ nth xs j ∧ nth xs j < 128) ∧ hasB (xs.take j) (nth xs j) = false)) (fun i _ => n - (intOf i).toNat)
  case atStart => exact ⟨0, 0, Nat.zero_le _, rfl, rfl, fun j hj => absurd hj (by omega)⟩
  case round =>
    obtain ⟨k, q, hk, rfl, rfl, H⟩ := hrel
    by_cases hlt : k < n
    · have ht := h.take k hk
      obtain ⟨g, off, rfl, _, hcell⟩ := h.at_ hlt
      have i1 : (0 : Int) ≤ (k : Int) := by omega
      have i2 : (k : Int) < (n : Int) := by omega
      have i3 : (k : Int) ≤ (c : Int) := by omega
      by_cases hx : 0 ≤ nth xs k ∧ nth xs k ≤ 127
      · have hi := inB_yes hx
        have HX := Lib.hid hx
        clear hx
        cases hd : hasB (xs.take k) (nth xs k)
        · go_wp2_with fail
          go_quiet (first | (go_at_call 31; exact quiet_add_left (l1In_any _ _ _ _)) | (go_at_call 32; exact quiet_add_left (l1Has_any _ k _ (xs.take k) _ _ (ht.drewN _))))
          go_wp2_with fail
          have HD := Lib.hid hd
          clear hd
          go_roundw
          case rel => exact ⟨k + 1, _, by omega, by go_num, rfl, fun j hj => by
            rcases Nat.lt_or_ge j k with h1 | h1
            · exact H.out j h1
            · obtain rfl : j = k := by omega
              have := HX.out
              exact ⟨by omega, HD.out⟩⟩
          case measure => simp [intOf]; omega
        · have HF := Lib.hid (idsB_nod (nodB_no k (by rw [HL.out]; exact hlt) hd))
          go_wp2_with fail
          go_quiet (first | (go_at_call 31; exact quiet_add_left (l1In_any _ _ _ _)) | (go_at_call 32; exact quiet_add_left (l1Has_any _ k _ (xs.take k) _ _ (ht.drewN _))))
          go_wp2_with fail
          go_ret
          exact ⟨ret_bool HF.out.symm, _, World.drewN_drewN _ _ _⟩
      · have hi := inB_no hx
        have HF := Lib.hid (idsB_within (withinB_no (xs := xs) (b := 128) k (by rw [HL.out]; exact hlt) (by omega)))
        clear hx
        go_wp2_with fail
        go_quiet ((go_at_call 31; exact quiet_add_left (l1In_any _ _ _ _)))
        go_wp2_with fail
        go_ret
        exact ⟨ret_bool HF.out.symm, _, World.drewN_drewN _ _ _⟩
    · have HA := Lib.hid (⟨withinB_yes (fun j hj => (H.out j (by rw [HL.out] at hj; omega)).1), nodB_true.2 (fun j hj => (H.out j (by rw [HL.out] at hj; omega)).2)⟩ : withinB xs 128 = true ∧ nodB xs = true)
      by_cases h6 : (n : Int) ≤ 6
      · have HF := Lib.hid (idsB_true.2 ⟨by rw [HL.out]; omega, HA.out.1, HA.out.2⟩)
        go_wp2_with fail
        go_ret
        exact ⟨ret_bool HF.out.symm, q, rfl⟩
      · have HF := Lib.hid (idsB_len (xs := xs) (by rw [HL.out]; omega))
        have d6 : decide ((n : Int) ≤ 6) = false := by simp; omega
        go_wp2_with fail
        go_ret
        exact ⟨ret_bool HF.out.symm, q, rfl⟩

set_option maxHeartbeats 400000 in
theorem walk_FnExactIdsValid (a0 : Option Addr) (len0 cap0 : Nat) (z0 : List Int) (w : World) (w0 : IsRow .i64 w a0 len0 cap0 z0) :
    Calls Try.prog 3 #[.slice a0 len0 cap0] w fun e w' => e = .returned (.bool true) ∧ Below w.heap.size w w' := by
  by_cases hlen : 1048576 < len0
  · go_enter Try.func3, Try.ntmps3
    go_wp2
    go_ret
    exact ⟨rfl, Below.refl _ _⟩
  · have hr := w0.rd (by omega)
    generalize z0.take len0 = xs at hr
    have hs := sameB_refl xs
    have hb : (idsB xs == idsB xs) = true := by simp
    go_enter Try.func3, Try.ntmps3
    go_wp2_with fail
    refine (toIntS_any a0 len0 cap0 xs _ hr).mono ?_
    rintro e w1 ⟨rfl, r1, b1⟩
    go_wp2_with fail
    refine (specIdsValid_any _ _ _ xs _ r1.rd (Nat.le_refl _)).mono ?_
    rintro e w2 ⟨rfl, q1, rfl⟩
    have b1' := below_drewN_ b1 q1
    go_wp2_with fail
    refine (toIntS_any a0 len0 cap0 xs _ (hr.below b1')).mono ?_
    rintro e w2 ⟨rfl, r2, b2⟩
    go_wp2_with fail
    refine (implIdsValid_any _ _ _ xs _ r2.rd (Nat.le_refl _)).mono ?_
    rintro e w3 ⟨rfl, rfl⟩
    go_wp2_with fail
    refine (toIntS_any a0 len0 cap0 xs _ ((hr.below b1').below b2)).mono ?_
    rintro e w3 ⟨rfl, r3, b3⟩
    go_wp2_with fail
    refine (eqIntS_any _ _ _ _ _ _ xs xs _ (r2.rd.below b3) r3.rd).mono ?_
    rintro e w4 ⟨rfl, q, rfl⟩
    go_wp2_with fail
    go_ret
    exact ⟨rfl, below_drewN_ (below_step (below_step b1' b2) b3) q⟩
end Go.Proofs.Ytjfninibloakgaa

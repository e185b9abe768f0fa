/-
  WireBit of the program and of the reference; the walk of the law FnExactWireBit.
-/
import Derived.Test.YtjfninibloakgaaTo
import Derived.Test.YtjfninibloakgaaSame
import Derived.Test.YtjfninibloakgaaHas
namespace Go.Proofs.Ytjfninibloakgaa
open Go.RowKit

/-- what is on the wire: 0 if a 0 is sent, else 1 -/
def wireZ (xs : List Int) : Int := if hasB xs 0 = true then 0 else 1
theorem wireZ_yes {xs : List Int} (h : hasB xs 0 = true) : wireZ xs = 0 := by unfold wireZ; rw [if_pos h]
theorem wireZ_no {xs : List Int} (h : hasB xs 0 = false) : wireZ xs = 1 := by unfold wireZ; rw [if_neg (by rw [h]; simp)]
theorem hasB_snoc (xs : List Int) (k : Nat) (hk : k < xs.length) (x : Int) : hasB (xs.take (k + 1)) x = (hasB (xs.take k) x || (nth xs k == x)) := by
  rw [take_succ_nth xs k hk]
  unfold hasB
  rw [Bool.eq_iff_iff]
  simp
  constructor
  · rintro (h | h)
    · exact .inl h
    · exact .inr h.symm
  · rintro (h | h)
    · exact .inl h
    · exact .inr h.symm

theorem implWireBit_any (A : Option Addr) (n c : Nat) (xs : List Int) (w : World) (h : Rd w A n xs) :
    Calls Try.prog 16 #[.slice A n c] w fun e w' => e = .returned (.int .i64 (wireZ xs)) ∧ w = w' := by
  cases hb : hasB xs 0
  · have HW := Lib.hid (wireZ_no hb)
    go_enter Try.func16, Try.ntmps16
    go_wp2_with fail
    refine (contains_any A n c xs 0 _ h).mono ?_
    rintro e w' ⟨rfl, rfl⟩
    go_wp2_with fail
    go_ret
    exact ⟨ret_int HW.out.symm, rfl⟩
  · have HW := Lib.hid (wireZ_yes hb)
    go_enter Try.func16, Try.ntmps16
    go_wp2_with fail
    refine (contains_any A n c xs 0 _ h).mono ?_
    rintro e w' ⟨rfl, rfl⟩
    go_wp2_with fail
    go_ret
    exact ⟨ret_int HW.out.symm, rfl⟩

theorem wireZ_step0 (xs : List Int) (k : Nat) (hk : k < xs.length) (h : nth xs k = 0) : wireZ (xs.take (k + 1)) = 0 := wireZ_yes (by rw [hasB_snoc xs k hk, h]; simp)
theorem wireZ_step1 (xs : List Int) (k : Nat) (hk : k < xs.length) (h : ¬ nth xs k = 0) : wireZ (xs.take (k + 1)) = wireZ (xs.take k) := by
  have e : hasB (xs.take (k + 1)) 0 = hasB (xs.take k) 0 := by rw [hasB_snoc xs k hk]; simp [h]
  unfold wireZ; rw [e]

set_option maxHeartbeats 400000 in
theorem specWireBit_any (A : Option Addr) (n c : Nat) (xs : List Int) (w : World) (h : Rd w A n xs) :
    Calls Try.prog 15 #[.slice A n c] w fun e w' => e = .returned (.int .i64 (wireZ xs)) ∧ w = w' := by
  have hn := h.le
  have HL := Lib.hid h.len
  go_enter Try.func15, Try.ntmps15
  go_wp2
  go_loop [3, 4] (fun o i => ∃ (k : Nat) (x : Int), k ≤ n ∧ i = .int .i64 k ∧ o = .int .i64 x ∧ Hid (x = wireZ (xs.take k))) (fun _ i => n - (intOf i).toNat)
  case atStart => exact ⟨0, 1, Nat.zero_le _, rfl, rfl, by show _ = _; simp [wireZ, hasB]⟩
  case round =>
    obtain ⟨k, x, hk, rfl, rfl, H⟩ := hrel
    by_cases hlt : k < n
    · obtain ⟨g, off, rfl, _, hcell⟩ := h.at_ hlt
      by_cases hx : nth xs k = 0
      · have hb : (nth xs k == 0) = true := by simp [hx]
        have HX := Lib.hid (wireZ_step0 xs k (by rw [HL.out]; exact hlt) hx)
        clear hx
        go_wp2
        go_round
        case rel => exact ⟨k + 1, 0, by omega, by go_num, rfl, HX.out.symm⟩
        case measure => simp [intOf]; omega
      · have hb : (nth xs k == 0) = false := by simp [hx]
        have HX := Lib.hid (wireZ_step1 xs k (by rw [HL.out]; exact hlt) hx)
        clear hx
        go_wp2
        go_round
        case rel => exact ⟨k + 1, x, by omega, by go_num, rfl, by show _ = _; rw [HX.out]; exact H.out⟩
        case measure => simp [intOf]; omega
    · go_wp2
      go_ret
      exact ⟨ret_int (by rw [H.out, List.take_of_length_le (by rw [HL.out]; omega)]), rfl⟩

set_option maxHeartbeats 400000 in
theorem walk_FnExactWireBit (a0 : Option Addr) (len0 cap0 : Nat) (z0 : List Int) (w : World) (w0 : IsRow .i64 w a0 len0 cap0 z0) :
    Calls Try.prog 4 #[.slice a0 len0 cap0] w fun e w' => e = .returned (.bool true) ∧ Below w.heap.size w w' := by
  by_cases hlen : 1048576 < len0
  · go_enter Try.func4, Try.ntmps4
    go_wp2
    go_ret
    exact ⟨rfl, Below.refl _ _⟩
  · have hr := w0.rd (by omega)
    generalize z0.take len0 = xs at hr
    have hs := sameB_refl xs
    have hb : (wireZ xs != wireZ xs) = false := by simp
    go_enter Try.func4, Try.ntmps4
    go_wp2_with fail
    refine (toIntS_any a0 len0 cap0 xs _ hr).mono ?_
    rintro e w1 ⟨rfl, r1, b1⟩
    go_wp2_with fail
    refine (specWireBit_any _ _ _ xs _ r1.rd).mono ?_
    rintro e w2 ⟨rfl, rfl⟩
    go_wp2_with fail
    refine (toIntS_any a0 len0 cap0 xs _ (hr.below b1)).mono ?_
    rintro e w2 ⟨rfl, r2, b2⟩
    go_wp2_with fail
    refine (implWireBit_any _ _ _ xs _ r2.rd).mono ?_
    rintro e w3 ⟨rfl, rfl⟩
    go_wp2_with fail
    refine (toIntS_any a0 len0 cap0 xs _ ((hr.below b1).below b2)).mono ?_
    rintro e w3 ⟨rfl, r3, b3⟩
    go_wp2_with fail
    refine (eqIntS_any _ _ _ _ _ _ xs xs _ (r2.rd.below b3) r3.rd).mono ?_
    rintro e w4 ⟨rfl, q, rfl⟩
    go_wp2_with fail
    go_ret
    exact ⟨rfl, below_drewN_ (below_step (below_step b1 b2) b3) q⟩
end Go.Proofs.Ytjfninibloakgaa

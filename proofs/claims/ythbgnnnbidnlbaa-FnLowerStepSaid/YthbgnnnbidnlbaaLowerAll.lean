/-
  What was decided on lowering, as facts; LowerStep of the program and of the reference over ints.
-/
import Derived.Test.YthbgnnnbidnlbaaLowStepS
import Derived.Test.YthbgnnnbidnlbaaMark2
import Derived.Test.YthbgnnnbidnlbaaLowerA
import Derived.Test.YthbgnnnbidnlbaaLowerB0
import Derived.Test.YthbgnnnbidnlbaaLowerB1
import Derived.Test.YthbgnnnbidnlbaaLowerB2
import Derived.Test.YthbgnnnbidnlbaaLowerB3
namespace Go.Proofs.Ythbgnnnbidnlbaa
open Go.RowKit

theorem ask_4 (l : List Nat) (hl : l.length = 4) (h8 : ∀ x ∈ l, x < 8) : askB l = true := by
  match l, hl with
  | x :: t, hl =>
    have ht : t.length = 3 := by simpa using hl
    have h8' : ∀ y ∈ t, y < 8 := fun y hy => h8 y (by simp [hy])
    have hx := h8 x (by simp)
    have hx' : x = 0 ∨ x = 1 ∨ x = 2 ∨ x = 3 ∨ x = 4 ∨ x = 5 ∨ x = 6 ∨ x = 7 := by omega
    rcases hx' with rfl | rfl | rfl | rfl | rfl | rfl | rfl | rfl
    · exact allCars_of 3 _ ask_4_0 t ht h8'
    · exact allCars_of 3 _ ask_4_1 t ht h8'
    · exact allCars_of 3 _ ask_4_2 t ht h8'
    · exact allCars_of 3 _ ask_4_3 t ht h8'
    · exact allCars_of 3 _ ask_4_4 t ht h8'
    · exact allCars_of 3 _ ask_4_5 t ht h8'
    · exact allCars_of 3 _ ask_4_6 t ht h8'
    · exact allCars_of 3 _ ask_4_7 t ht h8'
theorem ask_all (l : List Nat) (h1 : 1 ≤ l.length) (h4 : l.length ≤ 4) (h8 : ∀ x ∈ l, x < 8) : askB l = true := by
  have : l.length = 1 ∨ l.length = 2 ∨ l.length = 3 ∨ l.length = 4 := by omega
  rcases this with h | h | h | h
  · exact allCars_of 1 _ ask_1 l h h8
  · exact allCars_of 2 _ ask_2 l h h8
  · exact allCars_of 3 _ ask_3 l h h8
  · exact ask_4 l h h8
theorem step_all (l : List Nat) (s : Nat) (h1 : 1 ≤ l.length) (h4 : l.length ≤ 4) (h8 : ∀ x ∈ l, x < 8) (hs1 : 1 ≤ s) (hs4 : s ≤ 4) : stepB l s (lowStep l s) = true := by
  have h := ask_all l h1 h4 h8
  have hm : s ∈ ([1, 2, 3, 4] : List Nat) := by
    have : s = 1 ∨ s = 2 ∨ s = 3 ∨ s = 4 := by omega
    rcases this with rfl | rfl | rfl | rfl <;> simp
  have := List.all_eq_true.1 h s hm
  rwa [forceL_eq] at this

theorem lt8_all : ∀ {l : List Nat}, lt8 l = true → ∀ x ∈ l, x < 8
  | [], _, x, hx => by cases hx
  | y :: t, h, x, hx => by
    simp only [lt8, Bool.and_eq_true, blt_iff] at h
    rcases List.mem_cons.1 hx with rfl | hx
    · exact h.1
    · exact lt8_all h.2 x hx

/-- cars and a supply that are taken -/
def LowOk (l : List Nat) (s : Nat) : Prop := 1 ≤ l.length ∧ l.length ≤ 4 ∧ (∀ x ∈ l, x < 8) ∧ 1 ≤ s ∧ s ≤ 4
theorem lowOk_iff {l : List Nat} {s : Nat} : lowerB (toZ l) (s : Int) = true ↔ LowOk l s := by
  rw [lowerB_true, toZ_len, withinB_true]
  unfold LowOk
  constructor
  · rintro ⟨⟨h1, h2⟩, ⟨h3, h4⟩, h5⟩
    refine ⟨h1, h2, fun x hx => ?_, by omega, by omega⟩
    have := h5 (x : Int) (List.mem_map.2 ⟨x, hx, rfl⟩)
    omega
  · rintro ⟨h1, h2, h3, h4, h5⟩
    refine ⟨⟨h1, h2⟩, ⟨by omega, by omega⟩, fun x hx => ?_⟩
    obtain ⟨y, hy, rfl⟩ := List.mem_map.1 hx
    have := h3 y hy
    omega
theorem lower_nat {xs : List Int} {s : Int} (h : lowerB xs s = true) : ∃ (l : List Nat) (s' : Nat), xs = toZ l ∧ s = (s' : Int) := by
  obtain ⟨_, h2, h3⟩ := lowerB_true.1 h
  refine ⟨xs.map Int.toNat, s.toNat, ?_, by omega⟩
  unfold toZ
  rw [List.map_map]
  symm
  conv => rhs; rw [← List.map_id xs]
  apply List.map_congr_left
  intro x hx
  have := withinB_true.1 h3 x hx
  show ((x.toNat : Nat) : Int) = x
  omega

section
variable {l : List Nat} {s : Nat}
theorem LowOk.step (h : LowOk l s) : stepB l s (lowStep l s) = true := step_all l s h.1 h.2.1 h.2.2.1 h.2.2.2.1 h.2.2.2.2
/-- the parts of what was decided -/
theorem LowOk.parts (h : LowOk l s) :
    lowStep l s = (specTo l s).1 ∧ (∀ x ∈ lowStep l s, x < 8) ∧ eachB l (lowStep l s) l (lowStep l s) = true ∧ movN l (lowStep l s) ≤ s ∧ (lowStep l s).length = l.length ∧
    (0 < sumN l → sumN (lowStep l s) < sumN l ∧ tau s l = 1 + tau s (lowStep l s) ∧ phi s l = posN l + phi s (lowStep l s)) ∧ (sumN l = 0 → tau s l = 0 ∧ phi s l = 0) ∧
    maxN l ≤ tau s l ∧ sumN l ≤ tau s l * s ∧ tau s l ≤ 28 ∧ sumN l ≤ phi s l ∧ phi s l ≤ 200 ∧
    (maxN l = 0 → tau s l = 0 ∧ sumN l = 0) ∧ (maxN l ≠ 0 → 0 < tau s l ∧ 0 < sumN l) ∧ (s = 4 → phi s l = sumN l) ∧ (s ≠ 4 → phi (s + 1) l ≤ phi s l) := by
  have hb := h.step
  unfold stepB at hb
  rw [forceL_eq, forceL_eq] at hb
  simp only [Bool.and_eq_true] at hb
  obtain ⟨⟨a1, a2, a3, a4, a5⟩, a6, a7, a8, a9, a10, ⟨a11, a12⟩, a13⟩ := hb
  refine ⟨eqN_true a1, lt8_all a2, a3, Nat.le_of_ble_eq_true a4, Nat.eq_of_beq_eq_true a5, ?_, ?_, Nat.le_of_ble_eq_true a7, Nat.le_of_ble_eq_true a8, Nat.le_of_ble_eq_true a9, Nat.le_of_ble_eq_true a10, Nat.le_of_ble_eq_true a11, ?_, ?_, ?_, ?_⟩
  · intro h0
    rw [blt_iff.2 h0] at a6
    simp only [cond_true, Bool.and_eq_true] at a6
    exact ⟨blt_iff.1 a6.1, Nat.eq_of_beq_eq_true a6.2.1, Nat.eq_of_beq_eq_true a6.2.2⟩
  · intro h0
    have : Nat.blt 0 (sumN l) = false := by rw [h0]; rfl
    rw [this] at a6
    simp only [cond_false, Bool.and_eq_true] at a6
    exact ⟨Nat.eq_of_beq_eq_true a6.1, Nat.eq_of_beq_eq_true a6.2⟩
  · intro h0
    rw [h0] at a12
    simp only [Nat.beq_refl, cond_true, Bool.and_eq_true] at a12
    exact ⟨Nat.eq_of_beq_eq_true a12.1, Nat.eq_of_beq_eq_true a12.2⟩
  · intro h0
    have : Nat.beq (maxN l) 0 = false := by
      cases hb : Nat.beq (maxN l) 0
      · rfl
      · exact absurd (Nat.eq_of_beq_eq_true hb) h0
    rw [this] at a12
    simp only [cond_false, Bool.and_eq_true] at a12
    exact ⟨blt_iff.1 a12.1, blt_iff.1 a12.2⟩
  · intro h0
    subst h0
    exact Nat.eq_of_beq_eq_true a13
  · intro h0
    have : Nat.beq s 4 = false := by
      cases hb : Nat.beq s 4
      · rfl
      · exact absurd (Nat.eq_of_beq_eq_true hb) h0
    rw [this] at a13
    exact Nat.le_of_ble_eq_true a13
theorem LowOk.next (h : LowOk l s) : LowOk (lowStep l s) s := by
  obtain ⟨_, p2, _, _, p5, _⟩ := h.parts
  exact ⟨by rw [p5]; exact h.1, by rw [p5]; exact h.2.1, p2, h.2.2.2⟩
end

/-- where cars are after a tick, over ints; nothing for what is not taken -/
def lowS (xs : List Int) (s : Int) : List Int := if lowerB xs s = true then toZ (lowStep (xs.map Int.toNat) s.toNat) else []
theorem toNat_toZ (l : List Nat) : (toZ l).map Int.toNat = l := by
  unfold toZ; rw [List.map_map]; exact List.map_id'' (fun x => by simp) l
theorem lowS_yes {l : List Nat} {s : Nat} (h : LowOk l s) : lowS (toZ l) (s : Int) = toZ (lowStep l s) := by
  unfold lowS; rw [if_pos (lowOk_iff.2 h), toNat_toZ, Int.toNat_natCast]
theorem lowS_no {xs : List Int} {s : Int} (h : lowerB xs s = false) : lowS xs s = [] := by unfold lowS; rw [h]; rfl

theorem implLowerStep_any (A : Option Addr) (n c : Nat) (xs : List Int) (s : Int) (w : World) (h : Rd w A n xs) :
    Calls Try.prog 16 #[.slice A n c, .int .i64 s] w (RetRow w (lowS xs s)) := by
  cases hv : lowerB xs s
  · have HF := Lib.hid (lowS_no hv)
    go_enter Try.func16, Try.ntmps16
    go_wp2_with fail
    refine (implLowerOk_any A n c xs s _ h).mono ?_
    rintro e w' ⟨rfl, rfl⟩
    go_wp2_with fail
    go_ret
    exact ⟨none, 0, 0, rfl, Nat.le_refl _, by rw [HF.out]; exact Row.nil_, Below.refl _ _⟩
  · obtain ⟨l, s', rfl, rfl⟩ := lower_nat hv
    rw [lowS_yes (lowOk_iff.1 hv)]
    exact implLowerStep_in A n c l s' w h hv
theorem specLowerStep_any (A : Option Addr) (n c : Nat) (xs : List Int) (s : Int) (w : World) (h : Rd w A n xs) :
    Calls Try.prog 15 #[.slice A n c, .int .i64 s] w (RetRow w (lowS xs s)) := by
  cases hv : lowerB xs s
  · have HF := Lib.hid (lowS_no hv)
    have hb := below_new w (.cells #[] 3)
    go_enter Try.func15, Try.ntmps15
    go_wp2_with fail
    refine (specLowerOk_any A n c xs s _ h).mono ?_
    rintro e w' ⟨rfl, rfl⟩
    go_wp2_with fail
    go_ret
    exact ⟨_, 0, 0, rfl, Nat.le_refl _, by rw [HF.out]; exact Row.nil_, hb⟩
  · obtain ⟨l, s', rfl, rfl⟩ := lower_nat hv
    rw [lowS_yes (lowOk_iff.1 hv), (lowOk_iff.1 hv).parts.1]
    exact specLowerStep_in A n c l s' w h hv

set_option maxHeartbeats 800000 in
theorem walk_FnExactLowerStep (a0 : Option Addr) (len0 cap0 : Nat) (z0 : List Int) (s : Int) (w : World) (w0 : IsRow .i64 w a0 len0 cap0 z0) (_w1 : (Lit.int .i64 s).wf = true) :
    Calls Try.prog 4 #[.slice a0 len0 cap0, .int .i64 s] w fun e w' => e = .returned (.bool true) ∧ Below w.heap.size w w' := by
  by_cases hlen : 1048576 < len0
  · go_enter Try.func4, Try.ntmps4
    go_wp2
    go_ret
    exact ⟨rfl, Below.refl _ _⟩
  · have hr := w0.rd (by omega)
    generalize z0.take len0 = xs at hr
    have hs := sameB_refl xs
    have hs' := sameB_refl (lowS xs s)
    go_enter Try.func4, Try.ntmps4
    go_wp2_with fail
    refine (toIntS_any a0 len0 cap0 xs _ hr).mono ?_
    rintro e w1 ⟨rfl, r1, b1⟩
    go_wp2_with fail
    refine (specLowerStep_any _ _ _ xs s _ r1.rd).mono ?_
    rintro e w2 ⟨A2, n2, c2, rfl, _, r2, b2⟩
    have b12 := below_step b1 b2
    go_wp2_with fail
    refine (toIntS_new a0 len0 cap0 xs _ (hr.below b12)).mono ?_
    rintro e w3 ⟨rfl, r3, b3, hz3⟩
    have b13 := below_step b12 b3
    go_wp2_with fail
    refine (implLowerStep_any _ _ _ xs s _ r3.rd).mono ?_
    rintro e w4 ⟨A4, n4, c4, rfl, _, r4, b4⟩
    have hl4 := r4.le
    have hs2 := b12.size
    have hs3 := b3.size
    have hs4 := b4.size
    have b24 : Below w2.heap.size w2 w4 := below_step b3 b4
    go_wp2_with fail
    refine (eqIntS_any A4 A2 n4 n2 c4 c2 _ _ _ r4.rd (r2.rd.below b24)).mono ?_
    rintro e w5 ⟨rfl, q5, rfl⟩
    have b25 : Below w2.heap.size w2 (w4.drewN q5) := below_drewN_ b24 q5
    go_wp2_with fail
    refine (toIntS_any a0 len0 cap0 xs _ (hr.below (below_step b12 b25))).mono ?_
    rintro e w6 ⟨rfl, r6, b6⟩
    have b6' : Below w4.heap.size w4 w6 := below_step (below_drewN_ (Below.refl w4.heap.size w4) q5) b6
    have b26 := below_step b24 b6'
    go_wp2_with fail
    refine (eqIntS_any _ _ _ _ _ _ xs xs _ ((r3.rd.below b4).below b6') r6.rd).mono ?_
    rintro e w7 ⟨rfl, q7, rfl⟩
    have r3' := ((r3.below b4).below b6').drewN q7
    have r4' := (r4.below b6').drewN q7
    have hs6 := b6'.size
    go_wp2_with fail
    refine (markIntS_at _ 0 _ _ _ xs 1 _ r3' (by omega) (by omega)).mono ?_
    rintro e w8 ⟨rfl, g8⟩
    have r48 := r4'.grown_ge (by omega) g8
    have b28 : Below w2.heap.size w2 w8 := (below_drewN_ b26 q7).trans (below_grown g8 (Nat.le_refl _) (by show w2.heap.size ≤ w6.heap.size; omega))
    have hs8 : w6.heap.size ≤ w8.heap.size := g8.size
    clear r3' r4' g8 r6 b6 b6' r4 r3
    go_wp2_with fail
    refine (eqIntS_any A4 A2 n4 n2 c4 c2 _ _ _ r48.rd (r2.rd.below b28)).mono ?_
    rintro e w9 ⟨rfl, q9, rfl⟩
    go_wp2_with fail
    refine (markIntS_any A4 n4 c4 w3.heap.size _ 1 _ (r48.drewN q9) (by omega) (by omega)).mono ?_
    rintro e w10 ⟨rfl, r10, b10, hs10⟩
    have HS10 := Lib.hid hs10
    have b210 : Below w2.heap.size w2 w10 := (below_drewN_ b28 q9).trans (b10.mono (by omega))
    clear hs10 r48
    go_wp2_with fail
    refine (heldIntS_any A4 n4 c4 _ 1 _ r10.rd (by omega) (by omega)).mono ?_
    rintro e w11 ⟨rfl, rfl⟩
    go_wp2_with fail
    refine (toIntS_any a0 len0 cap0 xs _ (hr.below (below_step b12 b210))).mono ?_
    rintro e w11 ⟨rfl, r11, b11⟩
    go_wp2_with fail
    refine (implLowerStep_any _ _ _ xs s _ r11.rd).mono ?_
    rintro e w12 ⟨A12, n12, c12, rfl, _, r12, b12'⟩
    have b212 := below_step (below_step b210 b11) b12'
    go_wp2_with fail
    refine (eqIntS_any A12 A2 n12 n2 c12 c2 _ _ _ r12.rd (r2.rd.below b212)).mono ?_
    rintro e w13 ⟨rfl, q13, rfl⟩
    go_wp2_with fail
    refine (heldIntS_any A4 n4 c4 _ 1 _ (((r10.rd.below b11).below b12').drewN q13) (by omega) (by omega)).mono ?_
    rintro e w14 ⟨rfl, rfl⟩
    go_wp2
    go_ret
    exact ⟨rfl, below_drewN_ (below_step b12 b212) q13⟩
end Go.Proofs.Ythbgnnnbidnlbaa

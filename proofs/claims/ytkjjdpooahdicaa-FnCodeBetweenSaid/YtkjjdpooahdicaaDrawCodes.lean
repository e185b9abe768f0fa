/-
  The drawings for codes: what they return lies in known bounds; they make memory of their own and write nothing else.
-/
import Derived.Test.YtkjjdpooahdicaaReader
import Derived.Deep.RegionWith
namespace Go.Proofs.Ytkjjdpooahdicaa
open Go.RowKit

theorem below_of_grown {B : Nat} {w w' : World} {R : Nat} (h : w.grownBy w' (some R)) (hB : B ≤ R) (hs : B ≤ w.heap.size) : Below B w w' :=
  (Below.refl _ _).grown h hs (fun k hk => by cases hk; exact hB)

/-- a drawn code -/
def CodeDrawn (w : World) (R P : Nat) (e : Ending) (w' : World) : Prop :=
  ∃ x : Int, e = .returned (.int .i64 x) ∧ -1 ≤ x ∧ x ≤ 64 ∧ Rdr w' R (P + 2) ∧ Below R w w' ∧ w.heap.size ≤ w'.heap.size

set_option maxHeartbeats 400000 in
theorem l20Code_any (R P : Nat) (m : Int) (w : World) (h : Rdr w R P) (hP : P ≤ 90000) (hm : 0 ≤ m) (hm' : m ≤ 100000) :
    Calls Try.prog 33 #[.pointer (some ⟨R, 0, none⟩), .int .i64 m] w (CodeDrawn w R P) := by
  have hR := h.lt
  go_enter Try.func33, Try.ntmps33
  go_wp2_with fail
  refine (odd_any R P m _ h (by omega) hm hm').mono ?_
  rintro e w1 ⟨b, rfl, hr1, hg1⟩
  have hs1 := hg1.size
  have hb1 : Below R w w1 := below_of_grown hg1 (Nat.le_refl _) (by omega)
  clear hg1
  cases b
  · go_wp2_with fail
    refine (pick_any R (P + 1) 64 _ hr1 (by omega) (by omega) (by omega)).mono ?_
    rintro e w2 ⟨x, rfl, hx0, hx1, hr2, hg2⟩
    go_wp2
    go_ret
    exact ⟨x, rfl, by omega, by omega, hr2, hb1.trans (below_of_grown hg2 (Nat.le_refl _) (by omega)), Nat.le_trans hs1 hg2.size⟩
  · go_wp2_with fail
    refine (pick_any R (P + 1) 2 _ (hr1.alloc _) (by omega) (by omega) (by omega)).mono ?_
    rintro e w2 ⟨x, rfl, hx0, hx1, hr2, hg2⟩
    have hc : ∀ i : Nat, (w1.alloc (.cells #[.int .i64 (-1), .int .i64 64] 3)).cell? ⟨w1.heap.size, i, none⟩ = w2.cell? ⟨w1.heap.size, i, none⟩ := fun i =>
      (hg2.cell_far ⟨w1.heap.size, i, none⟩ (by simp) (by simp; omega)).symm
    have hc0 : w2.cell? ⟨w1.heap.size, 0, none⟩ = some (.int .i64 (-1)) := by rw [← hc 0]; simp
    have hc1 : w2.cell? ⟨w1.heap.size, 1, none⟩ = some (.int .i64 64) := by rw [← hc 1]; simp
    have hb2 : Below R w w2 := (hb1.alloc (by omega) _).trans (below_of_grown hg2 (Nat.le_refl _) (by simp; omega))
    have hs2 : w1.heap.size + 1 ≤ w2.heap.size := by have := hg2.size; simpa using this
    clear hc hg2
    by_cases hx : x = 0
    · subst hx
      go_wp2
      go_ret
      exact ⟨-1, rfl, by omega, by omega, hr2, hb2, by omega⟩
    · obtain rfl : x = 1 := by omega
      go_wp2
      go_ret
      exact ⟨64, rfl, by omega, by omega, hr2, hb2, by omega⟩

/-- a code drawn out of bytes -/
def OneCode (w : World) (e : Ending) (w' : World) : Prop := ∃ x : Int, e = .returned (.int .i64 x) ∧ -1 ≤ x ∧ x ≤ 64 ∧ Below w.heap.size w w'
/-- two numbers drawn out of bytes -/
def TwoCodes (w : World) (e : Ending) (w' : World) : Prop := ∃ x y : Int, e = .returned (.tuple #[.int .i64 x, .int .i64 y]) ∧ Below w.heap.size w w'

theorem DrawCodeOf_any (A : Option Addr) (n c : Nat) (zs : List Int) (w : World) (h : IsRow .u8 w A n c zs) :
    Calls Try.prog 22 #[.slice A n c] w (OneCode w) := by
  go_enter Try.func22, Try.ntmps22
  go_wp2_with fail
  refine (open_any A n c zs _ h).mono ?_
  rintro e w1 ⟨rfl, hr1, hb1⟩
  go_wp2_with fail
  refine (l20Code_any _ 0 9 _ hr1 (by omega) (by omega) (by omega)).mono ?_
  rintro e w2 ⟨x, rfl, hx0, hx1, hr2, hb2, _⟩
  go_wp2
  go_ret
  exact ⟨x, rfl, hx0, hx1, hb1.trans hb2⟩
theorem DrawCodeRead_any (A : Option Addr) (n c : Nat) (zs : List Int) (w : World) (h : IsRow .u8 w A n c zs) :
    Calls Try.prog 24 #[.slice A n c] w (OneCode w) := by
  go_enter Try.func24, Try.ntmps24
  go_wp2_with fail
  refine (open_any A n c zs _ h).mono ?_
  rintro e w1 ⟨rfl, hr1, hb1⟩
  go_wp2_with fail
  refine (l20Code_any _ 0 9 _ hr1 (by omega) (by omega) (by omega)).mono ?_
  rintro e w2 ⟨x, rfl, hx0, hx1, hr2, hb2, _⟩
  go_wp2
  go_ret
  exact ⟨x, rfl, hx0, hx1, hb1.trans hb2⟩

theorem DrawBitsApart_any (A : Option Addr) (n c : Nat) (zs : List Int) (w : World) (h : IsRow .u8 w A n c zs) :
    Calls Try.prog 25 #[.slice A n c] w (TwoCodes w) := by
  go_enter Try.func25, Try.ntmps25
  go_wp2_with fail
  refine (open_any A n c zs _ h).mono ?_
  rintro e w1 ⟨rfl, hr1, hb1⟩
  go_wp2_with fail
  refine (l20Code_any _ 0 12 _ hr1 (by omega) (by omega) (by omega)).mono ?_
  rintro e w2 ⟨x, rfl, hx0, hx1, hr2, hb2, _⟩
  go_wp2_with fail
  refine (l20Code_any _ 2 12 _ hr2 (by omega) (by omega) (by omega)).mono ?_
  rintro e w3 ⟨y, rfl, hy0, hy1, hr3, hb3, _⟩
  go_wp2
  go_ret2
  exact ⟨x, y, rfl, (hb1.trans hb2).trans hb3⟩

set_option maxHeartbeats 400000 in
theorem DrawCodeBetween_any (A : Option Addr) (n c : Nat) (zs : List Int) (w : World) (h : IsRow .u8 w A n c zs) :
    Calls Try.prog 26 #[.slice A n c] w (TwoCodes w) := by
  go_enter Try.func26, Try.ntmps26
  go_wp2_with fail
  refine (open_any A n c zs _ h).mono ?_
  rintro e w1 ⟨rfl, hr1, hb1⟩
  go_wp2_with fail
  refine (l20Code_any _ 0 12 _ hr1 (by omega) (by omega) (by omega)).mono ?_
  rintro e w2 ⟨x, rfl, hx0, hx1, hr2, hb2, hs2⟩
  go_wp2_with fail
  refine (pick_any _ 2 2 _ hr2 (by omega) (by omega) (by omega)).mono ?_
  rintro e w3 ⟨y, rfl, hy0, hy1, hr3, hg3⟩
  have hb3 : Below w.heap.size w w3 := (hb1.trans hb2).trans (below_of_grown hg3 (Nat.le_refl _) (by have := hb1.size; omega))
  have hs3 := hg3.size
  have hs1 := hb1.size
  clear hg3 hb1 hb2
  by_cases hy : y = 0
  · subst hy
    by_cases hx : 0 ≤ x
    · go_wp2_with fail
      go_region_with (go_at_call 36; refine (pick_any _ 3 6 _ hr3.drew (by omega) (by omega) (by omega)).mono ?_; rintro e w4 ⟨z, rfl, hz0, hz1, hr4, hg4⟩)
      all_goals go_wp2
      all_goals go_ret2
      all_goals exact ⟨x, _, rfl, hb3.drew.trans (below_of_grown hg4 (Nat.le_refl _) (by simp; omega))⟩
    · have hd : decide (0 ≤ x) = false := by simp; omega
      go_wp2_with fail
      refine (l20Code_any _ 3 12 _ hr3 (by omega) (by omega) (by omega)).mono ?_
      rintro e w4 ⟨z, rfl, hz0, hz1, hr4, hb4, _⟩
      go_wp2
      go_ret2
      exact ⟨x, z, rfl, hb3.trans hb4⟩
  · obtain rfl : y = 1 := by omega
    go_wp2_with fail
    refine (l20Code_any _ 3 12 _ hr3 (by omega) (by omega) (by omega)).mono ?_
    rintro e w4 ⟨z, rfl, hz0, hz1, hr4, hb4, _⟩
    go_wp2
    go_ret2
    exact ⟨x, z, rfl, hb3.trans hb4⟩
end Go.Proofs.Ytkjjdpooahdicaa

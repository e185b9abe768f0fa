/-
  The drawing of cars and a supply.
-/
import Derived.Test.YthbgnnnbidnlbaaDraw
import Derived.Test.YthbgnnnbidnlbaaMark2
import Derived.Deep.RegionWith
namespace Go.Proofs.Ythbgnnnbidnlbaa
open Go.RowKit

/-- cars and a supply are drawn -/
def LowerDrawn (w : World) (R P : Nat) (e : Ending) (w' : World) : Prop :=
  ∃ (A : Option Addr) (n c : Nat) (xs : List Int) (s : Int), e = .returned (.tuple #[.slice A n c, .int .i64 s]) ∧ n ≤ c ∧ n ≤ 4 ∧ 0 ≤ s ∧ s ≤ 5 ∧ Rd w' A n xs ∧ Below R w w' ∧ P = P
def LowerGot (w : World) (e : Ending) (w' : World) : Prop :=
  ∃ (A : Option Addr) (n c : Nat) (xs : List Int) (s : Int), e = .returned (.tuple #[.slice A n c, .int .i64 s]) ∧ n ≤ c ∧ n ≤ 4 ∧ 0 ≤ s ∧ s ≤ 5 ∧ Rd w' A n xs ∧ Below w.heap.size w w'

/-- the one of two numbers that is picked -/
def pk (a b : Int) (z : Nat) : Int := if z = 0 then a else b
theorem pk_bd (a b : Int) (z : Nat) : pk a b z = a ∨ pk a b z = b := by unfold pk; split <;> simp
theorem two_cells (a b : Int) (z : Nat) (hz : z < 2) (W : World) : (W.alloc (.cells #[.int .i64 a, .int .i64 b] 3)).cell? ⟨W.heap.size, z, none⟩ = some (.int .i64 (pk a b z)) := by
  have : z = 0 ∨ z = 1 := by omega
  rcases this with rfl | rfl
  · rw [cell_of_row _ W.heap.size 0 _ _ _ (heap_alloc_new W _)]; rfl
  · rw [cell_of_row _ W.heap.size 1 _ _ _ (heap_alloc_new W _)]; rfl

set_option maxHeartbeats 1600000 in
theorem l20Lower_any (R P : Nat) (m : Int) (w : World) (h : Rdr w R P) (hP : P ≤ 90000) (hm : 0 ≤ m) (hm' : m ≤ 100000) :
    Calls Try.prog 36 #[.pointer (some ⟨R, 0, none⟩), .int .i64 m] w (LowerDrawn w R P) := by
  have hR := h.lt
  have hom := Own.made w w.heap.size (Nat.le_refl _)
  have hbm : Below R w (w.alloc (.cells #[] 3)) := (Below.refl _ _).alloc (by omega) _
  go_enter Try.func36, Try.ntmps36
  go_wp2_with fail
  refine (pick_any R P 4 _ (h.alloc _) (by omega) (by omega) (by omega)).mono ?_
  rintro e w1 ⟨x, rfl, hx0, hx1, hr1, hg1⟩
  have hs1 : w.heap.size ≤ w1.heap.size := by have := hg1.size; simp at this; omega
  have hb1 : Below R w w1 := hbm.trans (below_of_grown hg1 (Nat.le_refl _) (by simp; omega))
  have ho1 := hom.picked hR hg1
  clear hg1 hom hbm
  obtain ⟨k, rfl⟩ := Int.eq_ofNat_of_zero_le hx0
  go_wp2_with fail
  go_loopw [6, 7] (fun v i wr => ∃ (j p n c : Nat) (A : Option Addr) (xs : List Int), i = .int .i64 j ∧ v = .slice A n c ∧ j ≤ 4 ∧ n + j ≤ 4 ∧ 1 ≤ n + j ∧ p + j ≤ P + 10 ∧ Own wr w.heap.size A n c xs ∧ Rdr wr R p ∧ Below R w wr ∧ w.heap.size ≤ wr.heap.size) (fun _ i _ => (intOf i).toNat)
  case atStart => exact ⟨k + 1, P + 1, 0, 0, _, [], by go_num, rfl, by omega, by omega, by omega, by omega, ho1, hr1, hb1, hs1⟩
  case round =>
    obtain ⟨j, p, n, c, A, xs, rfl, rfl, hj, hnj, hnj1, hpj, ho, hr, hb, hs⟩ := hrel
    clear ho1 hr1 hb1 hs1
    rcases Nat.eq_zero_or_pos j with h0 | h0
    · subst h0
      obtain ⟨wa, rfl⟩ : ∃ wa : World, wa = wr := ⟨_, rfl⟩
      go_wp2_with fail
      refine (odd_any R p m _ hr (by omega) hm hm').mono ?_
      rintro e w2 ⟨b, rfl, hr2, hg2⟩
      have hs2 := hg2.size
      have hb2 : Below R w w2 := hb.trans (below_of_grown hg2 (Nat.le_refl _) (by omega))
      have ho2 := ho.picked hR hg2
      cases b
      · go_wp2_with fail
        refine (pick_any R (p + 1) 4 _ hr2 (by omega) (by omega) (by omega)).mono ?_
        rintro e w3 ⟨y, rfl, hy0, hy1, hr3, hg3⟩
        have hb3 : Below R w w3 := hb2.trans (below_of_grown hg3 (Nat.le_refl _) (by omega))
        have ho3 := ho2.picked hR hg3
        go_wp2
        go_ret2
        exact ⟨A, n, c, xs, 1 + y, rfl, ho3.2, by omega, by omega, by omega, ho3.rd (by omega), hb3, rfl⟩
      · go_wp2_with fail
        refine (pick_any R (p + 1) 3 _ hr2 (by omega) (by omega) (by omega)).mono ?_
        rintro e w3 ⟨y, rfl, hy0, hy1, hr3, hg3⟩
        have hs3 := hg3.size
        have hb3 : Below R w w3 := hb2.trans (below_of_grown hg3 (Nat.le_refl _) (by omega))
        have ho3 := ho2.picked hR hg3
        clear hg2 hg3 ho ho2
        by_cases hy : y = 0
        · subst hy
          go_wp2
          go_ret2
          exact ⟨_, 0, 0, [], 1, rfl, Nat.le_refl _, by omega, by omega, by omega, Rd.nil_, hb3.alloc (by omega) _, rfl⟩
        · have hyn : (y == 0) = false := by simp [hy]
          by_cases hy' : y = 1
          · subst hy'
            clear hy
            go_wp2_with fail
            refine (pick_any R (p + 2) 2 _ (hr3.alloc _) (by omega) (by omega) (by omega)).mono ?_
            rintro e w4 ⟨z, rfl, hz0, hz1, hr4, hg4⟩
            have hc : ∀ i : Nat, w4.cell? ⟨w3.heap.size, i, none⟩ = (w3.alloc (.cells #[.int .i64 (-1), .int .i64 8] 3)).cell? ⟨w3.heap.size, i, none⟩ := fun i =>
              hg4.cell_far ⟨w3.heap.size, i, none⟩ (by simp) (by simp; omega)
            have hc0 : w4.cell? ⟨w3.heap.size, 0, none⟩ = some (.int .i64 (-1)) := by rw [hc 0]; simp
            have hc1 : w4.cell? ⟨w3.heap.size, 1, none⟩ = some (.int .i64 8) := by rw [hc 1]; simp
            have hs4 : w3.heap.size + 1 ≤ w4.heap.size := by have := hg4.size; simpa using this
            have hb4 : Below R w w4 := (hb3.alloc (by omega) _).trans (below_of_grown hg4 (Nat.le_refl _) (by simp; omega))
            have ho4 := (ho3.alloc (.cells #[.int .i64 (-1), .int .i64 8] 3)).picked hR hg4
            have hnc4 := ho4.2
            have hrow4 := ho4.row (by omega)
            obtain ⟨g, off, rfl, hlo, hg, hcell, hfr⟩ := hrow4.at_ (show 0 < n by omega)
            have hcell0 : w4.cell? ⟨g, off, none⟩ = some (.int .i64 (nth xs 0)) := hcell
            have hfr0 : w4.frozen? ⟨g, off, none⟩ = false := hfr
            have hset := fun v => hrow4.set_ 0 (by omega) v
            have HSET := Lib.hid hset
            have hbel := fun v => hb4.setCell (p := ⟨g, off, none⟩) (show R ≤ g by omega) v
            have HBEL := Lib.hid hbel
            have hn0 : 0 < n := by omega
            clear hc hg4 ho3 ho4 hcell hfr hset hbel hrow4
            by_cases hz : z = 0
            · subst hz
              go_wp2_with fail
              refine (pick_any R (p + 3) 4 _ ?hrr (by omega) (by omega) (by omega)).mono ?_
              case hrr => exact hr4.below ((Below.refl _ _).setCell (show R + 1 ≤ g by omega) _)
              rintro e w5 ⟨y, rfl, hy0, hy1, hr5, hg5⟩
              have hb5 := (HBEL.out (.int .i64 (-1))).trans (below_of_grown hg5 (Nat.le_refl _) (by simp [World.setCell]; omega))
              have hr5' := (HSET.out (-1)).rd.picked (show g ≠ R by omega) hg5
              go_wp2
              go_ret2
              exact ⟨_, n, c, _, 1 + y, rfl, hnc4, by omega, by omega, by omega, hr5', hb5, rfl⟩
            · obtain rfl : z = 1 := by omega
              go_wp2_with fail
              refine (pick_any R (p + 3) 4 _ ?hrr2 (by omega) (by omega) (by omega)).mono ?_
              case hrr2 => exact hr4.below ((Below.refl _ _).setCell (show R + 1 ≤ g by omega) _)
              rintro e w5 ⟨y, rfl, hy0, hy1, hr5, hg5⟩
              have hb5 := (HBEL.out (.int .i64 8)).trans (below_of_grown hg5 (Nat.le_refl _) (by simp [World.setCell]; omega))
              have hr5' := (HSET.out 8).rd.picked (show g ≠ R by omega) hg5
              go_wp2
              go_ret2
              exact ⟨_, n, c, _, 1 + y, rfl, hnc4, by omega, by omega, by omega, hr5', hb5, rfl⟩
          · have hyn' : (y == 1) = false := by simp [hy']
            clear hy hy'
            go_wp2_with fail
            go_region_with (go_at_call 39; (refine (pick_any _ (p + 2) 2 _ (by first | exact (hr3.drew).alloc _ | exact (hr3.alloc _).drew | exact hr3.drew | exact hr3.alloc _) (by omega) (by omega) (by omega)).mono ?_; rintro e w4 ⟨z, rfl, hz0, hz1, hr4, hg4⟩; obtain ⟨zn, rfl⟩ := Int.eq_ofNat_of_zero_le hz0; have hzn : zn < 2 := (by omega); have hnew := two_cells 0 5 zn hzn; (try (have hold : w4.cell? ⟨w3.heap.size, zn, none⟩ = some (.int .i64 (pk 0 5 zn)) := (hg4.cell_far ⟨w3.heap.size, zn, none⟩ (by simp) (by first | (simp; omega) | (intro e; injection e with e; omega))).trans (by first | exact hnew w3 | exact hnew w3.drew)))))
            all_goals (have hpk := pk_bd 0 5 zn; have hz0' : 0 ≤ pk 0 5 zn ∧ pk 0 5 zn ≤ 5 := by omega)
            all_goals go_wp2
            all_goals go_ret2
            all_goals (refine ⟨A, n, c, xs, pk 0 5 zn, rfl, ho3.2, by omega, hz0'.1, hz0'.2, ?_, ?_, rfl⟩)
            all_goals (first
              | exact (((ho3.alloc _).drew).picked hR hg4).rd (by omega)
              | exact ((ho3.drew.picked hR hg4).rd (by omega)).alloc _
              | exact ((hb3.alloc (by omega) _).drew).trans (below_of_grown hg4 (Nat.le_refl _) (by simp; omega))
              | exact (hb3.drew.trans (below_of_grown hg4 (Nat.le_refl _) (by simp; omega))).alloc (by have := hg4.size; simp at this; omega) _)
    · have hd : decide ((0 : Int) < (j : Int)) = true := by simp; omega
      go_wp2_with fail
      refine (pick_any R p 8 _ hr (by omega) (by omega) (by omega)).mono ?_
      rintro e w2 ⟨y, rfl, hy0, hy1, hr2, hg2⟩
      have hs2 := hg2.size
      have hb2 : Below R w w2 := hb.trans (below_of_grown hg2 (Nat.le_refl _) (by omega))
      have ho2 := ho.picked hR hg2
      clear hg2 ho hr hb
      go_wp2_with (at_builtin; refine wpList_append_int _ rfl (.tmp 16) (.tmp 19) rfl w.heap.size A n c xs rfl (ho2.alloc _) w2.heap.size _ rfl (cell_one _ _ rfl _ _) (by omega) (size_one _ _ (by omega) _) ?_; intro g cap w3 ho3 hgrow3 hbel3 hlt3)
      have hb3 : Below R w w3 := (hb2.alloc (by omega) _).trans (hbel3 _ (by omega))
      have hr3 : Rdr w3 R (p + 1) := (hr2.alloc _).below (hbel3 _ (by omega))
      have hs3 := hgrow3.size
      simp at hs3
      clear hgrow3 hbel3 ho2 hr2 hb2
      go_wp2
      go_roundw
      case rel => exact ⟨j - 1, p + 1, n + 1, cap, _, _, by rw [show ((j - 1 : Nat) : Int) = (j : Int) - 1 by omega], rfl, by omega, by omega, by omega, by omega, ho3, hr3, hb3, by omega⟩
      case measure => simp [intOf]; omega

theorem DrawLowerOk_any (A : Option Addr) (n c : Nat) (zs : List Int) (w : World) (h : IsRow .u8 w A n c zs) :
    Calls Try.prog 23 #[.slice A n c] w (LowerGot w) := by
  go_enter Try.func23, Try.ntmps23
  go_wp2_with fail
  refine (open_any A n c zs _ h).mono ?_
  rintro e w1 ⟨rfl, hr1, hb1⟩
  go_wp2_with fail
  refine (l20Lower_any _ 0 _ _ hr1 (by omega) (by omega) (by omega)).mono ?_
  rintro e w2 ⟨A2, n2, c2, xs, s, rfl, hnc, hmx, hs0, hs5, hrd, hb2, _⟩
  go_wp2
  go_ret2
  exact ⟨A2, n2, c2, xs, s, rfl, hnc, hmx, hs0, hs5, hrd, hb1.trans hb2⟩
theorem DrawLowerStep_any (A : Option Addr) (n c : Nat) (zs : List Int) (w : World) (h : IsRow .u8 w A n c zs) :
    Calls Try.prog 25 #[.slice A n c] w (LowerGot w) := by
  go_enter Try.func25, Try.ntmps25
  go_wp2_with fail
  refine (open_any A n c zs _ h).mono ?_
  rintro e w1 ⟨rfl, hr1, hb1⟩
  go_wp2_with fail
  refine (l20Lower_any _ 0 _ _ hr1 (by omega) (by omega) (by omega)).mono ?_
  rintro e w2 ⟨A2, n2, c2, xs, s, rfl, hnc, hmx, hs0, hs5, hrd, hb2, _⟩
  go_wp2
  go_ret2
  exact ⟨A2, n2, c2, xs, s, rfl, hnc, hmx, hs0, hs5, hrd, hb1.trans hb2⟩
theorem DrawLowerTicks_any (A : Option Addr) (n c : Nat) (zs : List Int) (w : World) (h : IsRow .u8 w A n c zs) :
    Calls Try.prog 27 #[.slice A n c] w (LowerGot w) := by
  go_enter Try.func27, Try.ntmps27
  go_wp2_with fail
  refine (open_any A n c zs _ h).mono ?_
  rintro e w1 ⟨rfl, hr1, hb1⟩
  go_wp2_with fail
  refine (l20Lower_any _ 0 _ _ hr1 (by omega) (by omega) (by omega)).mono ?_
  rintro e w2 ⟨A2, n2, c2, xs, s, rfl, hnc, hmx, hs0, hs5, hrd, hb2, _⟩
  go_wp2
  go_ret2
  exact ⟨A2, n2, c2, xs, s, rfl, hnc, hmx, hs0, hs5, hrd, hb1.trans hb2⟩
theorem DrawLowerWait_any (A : Option Addr) (n c : Nat) (zs : List Int) (w : World) (h : IsRow .u8 w A n c zs) :
    Calls Try.prog 29 #[.slice A n c] w (LowerGot w) := by
  go_enter Try.func29, Try.ntmps29
  go_wp2_with fail
  refine (open_any A n c zs _ h).mono ?_
  rintro e w1 ⟨rfl, hr1, hb1⟩
  go_wp2_with fail
  refine (l20Lower_any _ 0 _ _ hr1 (by omega) (by omega) (by omega)).mono ?_
  rintro e w2 ⟨A2, n2, c2, xs, s, rfl, hnc, hmx, hs0, hs5, hrd, hb2, _⟩
  go_wp2
  go_ret2
  exact ⟨A2, n2, c2, xs, s, rfl, hnc, hmx, hs0, hs5, hrd, hb1.trans hb2⟩
end Go.Proofs.Ythbgnnnbidnlbaa

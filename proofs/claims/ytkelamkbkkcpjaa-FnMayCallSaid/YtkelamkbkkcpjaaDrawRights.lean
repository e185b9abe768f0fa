/-
  The drawings of rights and of open floors.
-/
import Derived.Test.YtkelamkbkkcpjaaOwnR
namespace Go.Proofs.Ytkelamkbkkcpjaa
open Go.RowKit

theorem rnth_rep (n j : Nat) (h : j < n) : rnth (List.replicate n (⟨0, 0, 0⟩ : Rt)) j = ⟨0, 0, 0⟩ := by
  unfold rnth; rw [List.getD_eq_getElem?_getD, List.getElem?_replicate, if_pos h]; rfl
/-- at most seven rights are drawn, behind the reader -/
def RightsDrawn (w : World) (R P : Nat) (e : Ending) (w' : World) : Prop :=
  ∃ (A : Option Addr) (n c : Nat) (rs : List Rt), e = .returned (.slice A n c) ∧ n ≤ c ∧ n ≤ 7 ∧ RowR w' w.heap.size A n rs ∧ Rdr w' R (P + 60) ∧ Below R w w' ∧ w.heap.size ≤ w'.heap.size
theorem grown_alloc (w : World) (o : Obj) : w.grownBy (w.alloc o) none :=
  ⟨rfl, rfl, rfl, by simp, fun k hk _ => ((Below.refl w.heap.size w).alloc (Nat.le_refl _) o).block k hk⟩
theorem grown_more {w w1 w2 : World} {R : Nat} {row : Option Nat} (h : w.grownBy w1 (some R)) (k : w1.grownBy w2 row) (hk : ∀ k, row = some k → w.heap.size ≤ k) : w.grownBy w2 (some R) :=
  ⟨k.os.trans h.os, k.tape.trans h.tape, k.output.trans h.output, Nat.le_trans h.size k.size, fun i hi hne => (k.block i (Nat.lt_of_lt_of_le hi h.size) (by intro e; have := hk i e.symm; omega)).trans (h.block i hi hne)⟩
/-- ints are drawn, behind the reader -/
def HoursDrawn (w : World) (R P : Nat) (e : Ending) (w' : World) : Prop :=
  ∃ (A : Option Addr) (n c : Nat) (xs : List Int), e = .returned (.slice A n c) ∧ n ≤ 7 ∧ Own w' w.heap.size A n c xs ∧ Rdr w' R (P + 30) ∧ w.grownBy w' (some R)

set_option maxHeartbeats 1600000 in
theorem l20Hours_any (R P : Nat) (w : World) (h : Rdr w R P) (hP : P ≤ 90000) :
    Calls Try.prog 51 #[.pointer (some ⟨R, 0, none⟩)] w (HoursDrawn w R P) := by
  have hR := h.lt
  have hom := Own.made w w.heap.size (Nat.le_refl _)
  have hbm : w.grownBy (w.alloc (.cells #[] 3)) (some R) := grown_more (World.grownBy.refl w (some R)) (grown_alloc _ _) (by simp)
  go_enter Try.func51, Try.ntmps51
  go_wp2_with fail
  refine (pick_any R P 3 _ (h.alloc _) (by omega) (by omega) (by omega)).mono ?_
  rintro e w1 ⟨x, rfl, hx0, hx1, hr1, hg1⟩
  have hs1 : w.heap.size ≤ w1.heap.size := by have := hg1.size; simp at this; omega
  have hb1 : w.grownBy w1 (some R) := grown_trans1 hbm hg1
  have ho1 := hom.picked hR hg1
  clear hg1 hom hbm
  obtain ⟨k, rfl⟩ := Int.eq_ofNat_of_zero_le hx0
  go_wp2_with fail
  go_loopw [3, 4] (fun v i wr => ∃ (j p n c : Nat) (A : Option Addr) (xs : List Int), i = .int .i64 j ∧ v = .slice A n c ∧ j ≤ 3 ∧ n + j ≤ 3 ∧ p + j ≤ P + 10 ∧ Own wr w.heap.size A n c xs ∧ Rdr wr R p ∧ w.grownBy wr (some R) ∧ w.heap.size ≤ wr.heap.size) (fun _ i _ => (intOf i).toNat)
  case atStart => exact ⟨k, P + 1, 0, 0, _, [], rfl, rfl, by omega, by omega, by omega, ho1, hr1, hb1, hs1⟩
  case round =>
    obtain ⟨j, p, n, c, A, xs, rfl, rfl, hj, hnj, hpj, ho, hr, hb, hs⟩ := hrel
    clear ho1 hr1 hb1 hs1
    rcases Nat.eq_zero_or_pos j with h0 | h0
    · subst h0
      go_wp2_with fail
      go_ret
      exact ⟨A, n, c, xs, rfl, by omega, ho, hr.more (by omega), hb⟩
    · have hd : decide ((0 : Int) < (j : Int)) = true := by simp; omega
      go_wp2_with fail
      refine (pick_any R p 5 _ hr (by omega) (by omega) (by omega)).mono ?_
      rintro e w2 ⟨y, rfl, hy0, hy1, hr2, hg2⟩
      have hs2 := hg2.size
      have hb2 : w.grownBy w2 (some R) := grown_trans1 hb hg2
      have ho2 := ho.picked hR hg2
      clear hg2 ho hr hb
      go_wp2_with (at_builtin; refine wpList_append_int _ rfl (.tmp 12) (.tmp 15) rfl w.heap.size A n c xs rfl (ho2.alloc _) w2.heap.size _ rfl (cell_one _ _ rfl _ _) (by omega) (size_one _ _ (by omega) _) ?_; intro g cap w3 ho3 hgrow3 hbel3 hlt3)
      have hb3 : w.grownBy w3 (some R) := grown_more (grown_more hb2 (grown_alloc _ _) (by simp)) hgrow3 (fun k hk => (ho2.block k hk).1)
      have hr3 : Rdr w3 R (p + 1) := (hr2.alloc _).below (hbel3 _ (by omega))
      have hs3 := hgrow3.size
      simp at hs3
      clear hgrow3 hbel3 ho2 hr2 hb2
      go_wp2
      go_roundw
      case rel => exact ⟨j - 1, p + 1, n + 1, cap, _, _, by go_num, rfl, by omega, by omega, by omega, ho3, hr3, hb3, by omega⟩
      case measure => simp [intOf]; omega

set_option maxHeartbeats 1600000 in
theorem l20Rights_any (R P : Nat) (m : Int) (w : World) (h : Rdr w R P) (hP : P ≤ 90000) (hm : 0 ≤ m) (hm' : m ≤ 100000) :
    Calls Try.prog 50 #[.pointer (some ⟨R, 0, none⟩), .int .i64 m] w (RightsDrawn w R P) := by
  have hR := h.lt
  have hom := OwnR.made w w.heap.size (Nat.le_refl _)
  have hbm : Below R w (w.alloc (.cells #[] 25)) := (Below.refl _ _).alloc (by omega) _
  go_enter Try.func50, Try.ntmps50
  go_wp2_with fail
  refine (pick_any R P 7 _ (h.alloc _) (by omega) (by omega) (by omega)).mono ?_
  rintro e w1 ⟨x, rfl, hx0, hx1, hr1, hg1⟩
  have hs1 : w.heap.size ≤ w1.heap.size := by have := hg1.size; simp at this; omega
  have hb1 : Below R w w1 := hbm.trans (below_of_grown hg1 (Nat.le_refl _) (by simp; omega))
  have ho1 := hom.picked hR hg1
  clear hg1 hom hbm
  obtain ⟨k, rfl⟩ := Int.eq_ofNat_of_zero_le hx0
  go_wp2_with fail
  go_loopw [5, 6] (fun v i wr => ∃ (j p n c : Nat) (A : Option Addr) (rs : List Rt), i = .int .i64 j ∧ v = .slice A n c ∧ j ≤ 6 ∧ n + j ≤ 6 ∧ p + 3 * j ≤ P + 30 ∧ OwnR wr w.heap.size A n c rs ∧ Rdr wr R p ∧ Below R w wr ∧ w.heap.size ≤ wr.heap.size) (fun _ i _ => (intOf i).toNat)
  case atStart => exact ⟨k, P + 1, 0, 0, _, [], rfl, rfl, by omega, by omega, by omega, ho1, hr1, hb1, hs1⟩
  case round =>
    obtain ⟨j, p, n, c, A, rs, rfl, rfl, hj, hnj, hpj, ho, hr, hb, hs⟩ := hrel
    clear ho1 hr1 hb1 hs1
    rcases Nat.eq_zero_or_pos j with h0 | h0
    · subst h0
      go_wp2_with fail
      refine (odd_any R p m _ hr (by omega) hm hm').mono ?_
      rintro e w2 ⟨b, rfl, hr2, hg2⟩
      have hs2 := hg2.size
      have hb2 : Below R w w2 := hb.trans (below_of_grown hg2 (Nat.le_refl _) (by omega))
      have ho2 := ho.picked hR hg2
      clear hg2 ho hr hb
      cases b
      · go_wp2
        go_ret
        exact ⟨A, n, c, rs, rfl, ho2.2, by omega, ho2.row (by omega), hr2.more (by omega), hb2, by omega⟩
      · go_wp2_with fail
        refine (pick_any R (p + 1) 3 _ hr2 (by omega) (by omega) (by omega)).mono ?_
        rintro e w3 ⟨y, rfl, hy0, hy1, hr3, hg3⟩
        have hs3 := hg3.size
        have hb3 : Below R w w3 := hb2.trans (below_of_grown hg3 (Nat.le_refl _) (by omega))
        have ho3 := ho2.picked hR hg3
        clear hg3 ho2 hr2 hb2
        by_cases hy : y = 0
        · subst hy
          have hmk : (Instr.makeSlice 31 (.int .i64 7) (.int .i64 7)).run Try.prog w3 = .ok (.slice (some ⟨w3.heap.size, 0, none⟩) 7 7) (w3.alloc (.cells (zeros3 7) 25)) := run_make_rights 7 (by omega) w3
          have hrow : RowR (w3.alloc (.cells (zeros3 7) 25)) w.heap.size (some ⟨w3.heap.size, 0, none⟩) 7 (List.replicate 7 ⟨0, 0, 0⟩) := by
            refine ⟨rfl, by simp [lenMax], fun _ => ⟨w3.heap.size, 0, rfl, by omega, by simp, fun j hj => ?_⟩⟩
            rw [rnth_rep 7 j hj]
            refine ⟨⟨?_, ?_, ?_⟩, fun i hi => World.frozen?_alloc_at _ _ _ _ rfl⟩ <;>
              rw [cell_of_row _ w3.heap.size _ _ _ _ (heap_alloc_new w3 _), zeros3_get 7 _ (by omega)]
          go_wp2
          go_ret
          exact ⟨_, 7, 7, _, rfl, Nat.le_refl _, Nat.le_refl _, hrow, (hr3.alloc _).more (by omega), hb3.alloc (by omega) _, by simp; omega⟩
        · have hyn : (y == 0) = false := by simp [hy]
          by_cases hy' : y = 1
          · subst hy'
            have hob := OwnR.built w3 w.heap.size (by omega) ⟨8, 0, 0⟩
            go_wp2_with (at_builtin; refine wpList_append_rdR _ rfl (.tmp 44) (.tmp 45) rfl w.heap.size _ 1 1 [⟨8, 0, 0⟩] rfl hob A n c rs rfl ((ho3.rd (by omega)).alloc _) (by omega) (size_one _ _ (by omega) _) ?_; intro A5 c5 w5 ho5 hgrow5 hbel5)
            have hb5 : Below R w w5 := (hb3.alloc (by omega) _).trans (hbel5 _ (by omega))
            have hr5 : Rdr w5 R (p + 2) := (hr3.alloc _).below (hbel5 _ (by omega))
            have hs5 := hgrow5.size
            simp at hs5
            go_wp2
            go_ret
            exact ⟨_, _, c5, _, rfl, ho5.2, by omega, ho5.row (by omega), hr5.more (by omega), hb5, by omega⟩
          · have hyn' : (y == 1) = false := by simp [hy']
            clear hy hy'
            go_wp2_with fail
            refine (pick_any R (p + 2) 2 _ (hr3.alloc _) (by omega) (by omega) (by omega)).mono ?_
            rintro e w4 ⟨z, rfl, hz0, hz1, hr4, hg4⟩
            have hc : ∀ i : Nat, w4.cell? ⟨w3.heap.size, i, none⟩ = (w3.alloc (.cells #[.int .i64 (-1), .int .i64 24] 3)).cell? ⟨w3.heap.size, i, none⟩ := fun i =>
              hg4.cell_far ⟨w3.heap.size, i, none⟩ (by simp) (by simp; omega)
            have hc0 : w4.cell? ⟨w3.heap.size, 0, none⟩ = some (.int .i64 (-1)) := by rw [hc 0]; simp
            have hc1 : w4.cell? ⟨w3.heap.size, 1, none⟩ = some (.int .i64 24) := by rw [hc 1]; simp
            have hs4 : w3.heap.size + 1 ≤ w4.heap.size := by have := hg4.size; simpa using this
            have hb4 : Below R w w4 := (hb3.alloc (by omega) _).trans (below_of_grown hg4 (Nat.le_refl _) (by simp; omega))
            have ho4 := (ho3.alloc (.cells #[.int .i64 (-1), .int .i64 24] 3)).picked hR hg4
            clear hc hg4 ho3
            by_cases hz : z = 0
            · subst hz
              have hob := OwnR.built w4 w.heap.size (by omega) ⟨0, -1, 0⟩
              go_wp2_with (at_builtin; refine wpList_append_rdR _ rfl (.tmp 35) (.tmp 36) rfl w.heap.size _ 1 1 [⟨0, -1, 0⟩] rfl hob A n c rs rfl ((ho4.rd (by omega)).alloc _) (by omega) (size_one _ _ (by omega) _) ?_; intro A5 c5 w5 ho5 hgrow5 hbel5)
              have hb5 : Below R w w5 := (hb4.alloc (by omega) _).trans (hbel5 _ (by omega))
              have hr5 : Rdr w5 R (p + 3) := (hr4.alloc _).below (hbel5 _ (by omega))
              have hs5 := hgrow5.size
              simp at hs5
              go_wp2
              go_ret
              exact ⟨_, _, c5, _, rfl, ho5.2, by omega, ho5.row (by omega), hr5.more (by omega), hb5, by omega⟩
            · obtain rfl : z = 1 := by omega
              have hob := OwnR.built w4 w.heap.size (by omega) ⟨0, 24, 0⟩
              go_wp2_with (at_builtin; refine wpList_append_rdR _ rfl (.tmp 35) (.tmp 36) rfl w.heap.size _ 1 1 [⟨0, 24, 0⟩] rfl hob A n c rs rfl ((ho4.rd (by omega)).alloc _) (by omega) (size_one _ _ (by omega) _) ?_; intro A5 c5 w5 ho5 hgrow5 hbel5)
              have hb5 : Below R w w5 := (hb4.alloc (by omega) _).trans (hbel5 _ (by omega))
              have hr5 : Rdr w5 R (p + 3) := (hr4.alloc _).below (hbel5 _ (by omega))
              have hs5 := hgrow5.size
              simp at hs5
              go_wp2
              go_ret
              exact ⟨_, _, c5, _, rfl, ho5.2, by omega, ho5.row (by omega), hr5.more (by omega), hb5, by omega⟩
    · have hd : decide ((0 : Int) < (j : Int)) = true := by simp; omega
      go_wp2_with fail
      refine (pick_any R p 5 _ hr (by omega) (by omega) (by omega)).mono ?_
      rintro e w2 ⟨y, rfl, hy0, hy1, hr2, hg2⟩
      have hs2 := hg2.size
      have hb2 : Below R w w2 := hb.trans (below_of_grown hg2 (Nat.le_refl _) (by omega))
      have ho2 := ho.picked hR hg2
      clear hg2 ho hr hb
      go_wp2_with fail
      refine (pick_any R (p + 1) 24 _ hr2 (by omega) (by omega) (by omega)).mono ?_
      rintro e w3 ⟨y3, rfl, hy03, hy13, hr3, hg3⟩
      have hs3 := hg3.size
      have hb3 : Below R w w3 := hb2.trans (below_of_grown hg3 (Nat.le_refl _) (by omega))
      have ho3 := ho2.picked hR hg3
      clear hg3 ho2 hr2 hb2
      go_wp2_with fail
      refine (pick_any R (p + 2) 24 _ hr3 (by omega) (by omega) (by omega)).mono ?_
      rintro e w4 ⟨y4, rfl, hy04, hy14, hr4, hg4⟩
      have hs4 := hg4.size
      have hb4 : Below R w w4 := hb3.trans (below_of_grown hg4 (Nat.le_refl _) (by omega))
      have ho4 := ho3.picked hR hg4
      clear hg4 ho3 hr3 hb3
      have hrb := rdR_built w4 ⟨y, y3, y4⟩
      go_wp2_with (at_builtin; refine wpList_append_rdR _ rfl (.tmp 14) (.tmp 22) rfl w.heap.size A n c rs rfl (ho4.alloc _) _ 1 1 [⟨y, y3, y4⟩] rfl hrb (by omega) (size_one _ _ (by omega) _) ?_; intro A5 c5 w5 ho5 hgrow5 hbel5)
      have hb5 : Below R w w5 := (hb4.alloc (by omega) _).trans (hbel5 _ (by omega))
      have hr5 : Rdr w5 R (p + 3) := (hr4.alloc _).below (hbel5 _ (by omega))
      have hs5 := hgrow5.size
      simp at hs5
      clear hgrow5 hbel5 ho4 hr4 hb4 hrb
      go_wp2
      go_roundw
      case rel => exact ⟨j - 1, p + 3, n + 1, c5, A5, _, by go_num, rfl, by omega, by omega, by omega, ho5, hr5, hb5, by omega⟩
      case measure => simp [intOf]; omega
end Go.Proofs.Ytkelamkbkkcpjaa

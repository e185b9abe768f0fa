/-
  The drawings of ids and of bits on the wire.
-/
import Derived.Test.YtjfninibloakgaaDraw
import Derived.Test.YtjfninibloakgaaHas
namespace Go.Proofs.Ytjfninibloakgaa
open Go.RowKit

set_option maxHeartbeats 1600000 in
theorem l20Ids_any (R P : Nat) (m : Int) (w : World) (h : Rdr w R P) (hP : P ≤ 90000) (hm : 0 ≤ m) (hm' : m ≤ 100000) :
    Calls Try.prog 37 #[.pointer (some ⟨R, 0, none⟩), .int .i64 m] w (IntsDrawn w R P 8) := by
  have hR := h.lt
  have hom := Own.made w w.heap.size (Nat.le_refl _)
  have hbm : Below R w (w.alloc (.cells #[] 3)) := (Below.refl _ _).alloc (by omega) _
  go_enter Try.func37, Try.ntmps37
  go_wp2_with fail
  refine (pick_any R P 7 _ (h.alloc _) (by omega) (by omega) (by omega)).mono ?_
  rintro e w1 ⟨x, rfl, hx0, hx1, hr1, hg1⟩
  have hs1 : w.heap.size ≤ w1.heap.size := by have := hg1.size; simp at this; omega
  have hb1 : Below R w w1 := hbm.trans (below_of_grown hg1 (Nat.le_refl _) (by simp; omega))
  have ho1 := hom.picked hR hg1
  clear hg1 hom hbm
  obtain ⟨k, rfl⟩ := Int.eq_ofNat_of_zero_le hx0
  go_wp2_with fail
  go_loopw [5, 6] (fun v i wr => ∃ (j p n c : Nat) (A : Option Addr) (xs : List Int), i = .int .i64 j ∧ v = .slice A n c ∧ j ≤ 6 ∧ n + j ≤ 6 ∧ p + j ≤ P + 10 ∧ Own wr w.heap.size A n c xs ∧ Rdr wr R p ∧ Below R w wr ∧ w.heap.size ≤ wr.heap.size) (fun _ i _ => (intOf i).toNat)
  case atStart => exact ⟨k, P + 1, 0, 0, _, [], rfl, rfl, by omega, by omega, by omega, ho1, hr1, hb1, hs1⟩
  case round =>
    obtain ⟨j, p, n, c, A, xs, rfl, rfl, hj, hnj, hpj, ho, hr, hb, hs⟩ := hrel
    clear ho1 hr1 hb1 hs1
    rcases Nat.eq_zero_or_pos j with h0 | h0
    · subst h0
      have hrd := ho.rd (by omega)
      obtain ⟨wa, rfl⟩ : ∃ wa : World, wa = wr := ⟨_, rfl⟩
      go_wp2_with fail
      refine (odd_any R p m _ hr (by omega) hm hm').mono ?_
      rintro e w2 ⟨b, rfl, hr2, hg2⟩
      have hs2 := hg2.size
      have hb2 : Below R w w2 := hb.trans (below_of_grown hg2 (Nat.le_refl _) (by omega))
      have ho2 := ho.picked hR hg2
      cases b
      · go_wp2
        go_ret
        exact ⟨A, n, c, xs, rfl, ho2.2, by omega, ho2.rd (by omega), hr2.more (by omega), hb2, by omega⟩
      · go_wp2_with fail
        refine (pick_any R (p + 1) 3 _ hr2 (by omega) (by omega) (by omega)).mono ?_
        rintro e w3 ⟨y, rfl, hy0, hy1, hr3, hg3⟩
        have hs3 := hg3.size
        have hb3 : Below R w w3 := hb2.trans (below_of_grown hg3 (Nat.le_refl _) (by omega))
        have ho3 := ho2.picked hR hg3
        clear hg2 hg3 ho ho2 hrd
        by_cases hy : y = 0
        · subst hy
          go_wp2_with fail
          refine (pick_any R (p + 2) 2 _ (hr3.alloc _) (by omega) (by omega) (by omega)).mono ?_
          rintro e w4 ⟨z, rfl, hz0, hz1, hr4, hg4⟩
          have hc : ∀ i : Nat, w4.cell? ⟨w3.heap.size, i, none⟩ = (w3.alloc (.cells #[.int .i64 (-1), .int .i64 128] 3)).cell? ⟨w3.heap.size, i, none⟩ := fun i =>
            hg4.cell_far ⟨w3.heap.size, i, none⟩ (by simp) (by simp; omega)
          have hc0 : w4.cell? ⟨w3.heap.size, 0, none⟩ = some (.int .i64 (-1)) := by rw [hc 0]; simp
          have hc1 : w4.cell? ⟨w3.heap.size, 1, none⟩ = some (.int .i64 128) := by rw [hc 1]; simp
          have hs4 : w3.heap.size + 1 ≤ w4.heap.size := by have := hg4.size; simpa using this
          have hb4 : Below R w w4 := (hb3.alloc (by omega) _).trans (below_of_grown hg4 (Nat.le_refl _) (by simp; omega))
          have ho4 := (ho3.alloc (.cells #[.int .i64 (-1), .int .i64 128] 3)).picked hR hg4
          clear hc hg4 ho3
          by_cases hz : z = 0
          · subst hz
            go_wp2_with (at_builtin; refine wpList_append_int _ rfl (.tmp 33) (.tmp 39) rfl w.heap.size A n c xs rfl (ho4.alloc _) w4.heap.size _ rfl (cell_one _ _ rfl _ _) (by omega) (size_one _ _ (by omega) _) ?_; intro g cap w5 ho5 hgrow5 hbel5 hlt5)
            have hb5 : Below R w w5 := (hb4.alloc (by omega) _).trans (hbel5 _ (by omega))
            have hr5 : Rdr w5 R (p + 3) := (hr4.alloc _).below (hbel5 _ (by omega))
            have hs5 := hgrow5.size
            simp at hs5
            go_wp2
            go_ret
            exact ⟨_, n + 1, cap, _, rfl, ho5.2, by omega, ho5.rd (by omega), hr5.more (by omega), hb5, by omega⟩
          · obtain rfl : z = 1 := by omega
            go_wp2_with (at_builtin; refine wpList_append_int _ rfl (.tmp 33) (.tmp 39) rfl w.heap.size A n c xs rfl (ho4.alloc _) w4.heap.size _ rfl (cell_one _ _ rfl _ _) (by omega) (size_one _ _ (by omega) _) ?_; intro g cap w5 ho5 hgrow5 hbel5 hlt5)
            have hb5 : Below R w w5 := (hb4.alloc (by omega) _).trans (hbel5 _ (by omega))
            have hr5 : Rdr w5 R (p + 3) := (hr4.alloc _).below (hbel5 _ (by omega))
            have hs5 := hgrow5.size
            simp at hs5
            go_wp2
            go_ret
            exact ⟨_, n + 1, cap, _, rfl, ho5.2, by omega, ho5.rd (by omega), hr5.more (by omega), hb5, by omega⟩
        · have hyn : (y == 0) = false := by simp [hy]
          by_cases hy' : y = 1
          · subst hy'
            have hrb := rd_built w3 [5, 5] (by simp)
            go_wp2_with (at_builtin; refine wpList_append_rd _ rfl (.tmp 43) (.tmp 44) rfl w.heap.size A n c xs rfl (ho3.alloc _) _ 2 2 [5, 5] rfl hrb (by omega) (size_one _ _ (by omega) _) ?_; intro A5 c5 w5 ho5 hgrow5 hbel5)
            have hb5 : Below R w w5 := (hb3.alloc (by omega) _).trans (hbel5 _ (by omega))
            have hr5 : Rdr w5 R (p + 2) := (hr3.alloc _).below (hbel5 _ (by omega))
            have hs5 := hgrow5.size
            simp at hs5
            go_wp2
            go_ret
            exact ⟨_, n + 2, c5, _, rfl, ho5.2, by omega, ho5.rd (by omega), hr5.more (by omega), hb5, by omega⟩
          · have hyn' : (y == 1) = false := by simp [hy']
            have hrb := rd_built w3 [0, 1, 2, 3, 4, 5, 6] (by simp)
            clear hy hy'
            go_wp2
            go_ret
            exact ⟨_, 7, 7, _, rfl, Nat.le_refl _, by omega, hrb, (hr3.alloc _).more (by omega), hb3.alloc (by omega) _, by simp; omega⟩
    · have hd : decide ((0 : Int) < (j : Int)) = true := by simp; omega
      go_wp2_with fail
      refine (pick_any R p 128 _ hr (by omega) (by omega) (by omega)).mono ?_
      rintro e w2 ⟨y, rfl, hy0, hy1, hr2, hg2⟩
      have hs2 := hg2.size
      have hb2 : Below R w w2 := hb.trans (below_of_grown hg2 (Nat.le_refl _) (by omega))
      have ho2 := ho.picked hR hg2
      clear hg2 ho hr hb
      cases hh : hasB xs y
      · go_wp2_with fail
        refine (l1Has_any A n c xs y _ (ho2.rd (by omega))).mono ?_
        rintro e w' ⟨rfl, rfl⟩
        go_wp2_with (at_builtin; refine wpList_append_int _ rfl (.tmp 21) (.tmp 23) rfl w.heap.size A n c xs rfl (ho2.alloc _) w2.heap.size _ rfl (cell_one _ _ rfl _ _) (by omega) (size_one _ _ (by omega) _) ?_; intro g cap w3 ho3 hgrow3 hbel3 hlt3)
        have hb3 : Below R w w3 := (hb2.alloc (by omega) _).trans (hbel3 _ (by omega))
        have hr3 : Rdr w3 R (p + 1) := (hr2.alloc _).below (hbel3 _ (by omega))
        have hs3 := hgrow3.size
        simp at hs3
        clear hgrow3 hbel3 ho2 hr2 hb2
        go_wp2
        go_roundw
        case rel => exact ⟨j - 1, p + 1, n + 1, cap, _, _, by rw [show ((j - 1 : Nat) : Int) = (j : Int) - 1 by omega], rfl, by omega, by omega, by omega, ho3, hr3, hb3, by omega⟩
        case measure => simp [intOf]; omega
      · go_wp2_with fail
        refine (l1Has_any A n c xs y _ (ho2.rd (by omega))).mono ?_
        rintro e w' ⟨rfl, rfl⟩
        go_wp2
        go_roundw
        case rel => exact ⟨j - 1, p + 1, n, c, A, xs, by rw [show ((j - 1 : Nat) : Int) = (j : Int) - 1 by omega], rfl, by omega, by omega, by omega, ho2, hr2, hb2, by omega⟩
        case measure => simp [intOf]; omega

theorem DrawIdsValid_any (A : Option Addr) (n c : Nat) (zs : List Int) (w : World) (h : IsRow .u8 w A n c zs) :
    Calls Try.prog 23 #[.slice A n c] w (IntsGot w 8) := by
  go_enter Try.func23, Try.ntmps23
  go_wp2_with fail
  refine (open_any A n c zs _ h).mono ?_
  rintro e w1 ⟨rfl, hr1, hb1⟩
  go_wp2_with fail
  refine (l20Ids_any _ 0 _ _ hr1 (by omega) (by omega) (by omega)).mono ?_
  rintro e w2 ⟨A2, n2, c2, xs, rfl, hnc, hmx, hrd, hr2, hb2, _⟩
  go_wp2
  go_ret
  exact ⟨A2, n2, c2, xs, rfl, hnc, hmx, hrd, hb1.trans hb2⟩
theorem DrawArbitrate_any (A : Option Addr) (n c : Nat) (zs : List Int) (w : World) (h : IsRow .u8 w A n c zs) :
    Calls Try.prog 27 #[.slice A n c] w (IntsGot w 8) := by
  go_enter Try.func27, Try.ntmps27
  go_wp2_with fail
  refine (open_any A n c zs _ h).mono ?_
  rintro e w1 ⟨rfl, hr1, hb1⟩
  go_wp2_with fail
  refine (l20Ids_any _ 0 _ _ hr1 (by omega) (by omega) (by omega)).mono ?_
  rintro e w2 ⟨A2, n2, c2, xs, rfl, hnc, hmx, hrd, hr2, hb2, _⟩
  go_wp2
  go_ret
  exact ⟨A2, n2, c2, xs, rfl, hnc, hmx, hrd, hb1.trans hb2⟩
theorem DrawSendOrder_any (A : Option Addr) (n c : Nat) (zs : List Int) (w : World) (h : IsRow .u8 w A n c zs) :
    Calls Try.prog 28 #[.slice A n c] w (IntsGot w 8) := by
  go_enter Try.func28, Try.ntmps28
  go_wp2_with fail
  refine (open_any A n c zs _ h).mono ?_
  rintro e w1 ⟨rfl, hr1, hb1⟩
  go_wp2_with fail
  refine (l20Ids_any _ 0 _ _ hr1 (by omega) (by omega) (by omega)).mono ?_
  rintro e w2 ⟨A2, n2, c2, xs, rfl, hnc, hmx, hrd, hr2, hb2, _⟩
  go_wp2
  go_ret
  exact ⟨A2, n2, c2, xs, rfl, hnc, hmx, hrd, hb1.trans hb2⟩

set_option maxHeartbeats 800000 in
theorem DrawWireBit_any (A : Option Addr) (n c : Nat) (zs : List Int) (w : World) (h : IsRow .u8 w A n c zs) :
    Calls Try.prog 25 #[.slice A n c] w (IntsGot w 8) := by
  go_enter Try.func25, Try.ntmps25
  go_wp2_with fail
  refine (open_any A n c zs _ h).mono ?_
  rintro e w1 ⟨rfl, hr1, hb1⟩
  have hR := hr1.lt
  have hom := Own.made w1 w1.heap.size (Nat.le_refl _)
  have hbm : Below w.heap.size w (w1.alloc (.cells #[] 3)) := hb1.alloc (by omega) _
  generalize hRe : w.heap.size = R at hr1 hbm hR hb1 ⊢
  have HRe := Lib.hid hRe
  clear hRe
  go_wp2_with fail
  refine (pick_any R 0 6 _ (hr1.alloc _) (by omega) (by omega) (by omega)).mono ?_
  rintro e w2 ⟨x, rfl, hx0, hx1, hr2, hg2⟩
  have hs2 : w1.heap.size ≤ w2.heap.size := by have := hg2.size; simp at this; omega
  have hb2 : Below R w w2 := hbm.trans (below_of_grown hg2 (Nat.le_refl _) (by simp; omega))
  have ho2 := hom.picked hR hg2
  clear hg2 hom hbm
  obtain ⟨k, rfl⟩ := Int.eq_ofNat_of_zero_le hx0
  go_wp2_with fail
  go_loopw [4, 5] (fun v i wr => ∃ (j p n c : Nat) (A : Option Addr) (xs : List Int), i = .int .i64 j ∧ v = .slice A n c ∧ j ≤ 6 ∧ n + j ≤ 6 ∧ p + 2 * j ≤ 20 ∧ Own wr w1.heap.size A n c xs ∧ Rdr wr R p ∧ Below R w wr ∧ w1.heap.size ≤ wr.heap.size) (fun _ i _ => (intOf i).toNat)
  case atStart => exact ⟨k, 1, 0, 0, _, [], rfl, rfl, by omega, by omega, by omega, ho2, hr2, hb2, hs2⟩
  case round =>
    obtain ⟨j, p, n, c, A, xs, rfl, rfl, hj, hnj, hpj, ho, hr, hb, hs⟩ := hrel
    clear ho2 hr2 hb2 hs2
    rcases Nat.eq_zero_or_pos j with h0 | h0
    · subst h0
      go_wp2
      go_ret
      exact ⟨A, n, c, xs, rfl, ho.2, by omega, ho.rd (by omega), by rw [HRe.out]; exact hb⟩
    · have hd : decide ((0 : Int) < (j : Int)) = true := by simp; omega
      go_wp2_with fail
      refine (pick_any R p 8 _ hr (by omega) (by omega) (by omega)).mono ?_
      rintro e w3 ⟨y, rfl, hy0, hy1, hr3, hg3⟩
      have hs3 := hg3.size
      have hb3 : Below R w w3 := hb.trans (below_of_grown hg3 (Nat.le_refl _) (by omega))
      have ho3 := ho.picked hR hg3
      clear hg3 ho hr hb
      go_wp2_with fail
      refine (pick_any R (p + 1) 3 _ hr3 (by omega) (by omega) (by omega)).mono ?_
      rintro e w4 ⟨z, rfl, hz0, hz1, hr4, hg4⟩
      have hs4 := hg4.size
      have hb4 : Below R w w4 := hb3.trans (below_of_grown hg4 (Nat.le_refl _) (by omega))
      have ho4 := ho3.picked hR hg4
      clear hg4 ho3 hr3 hb3
      go_wp2_with (at_builtin; refine wpList_append_int _ rfl (.tmp 15) (.tmp 25) rfl w1.heap.size A n c xs rfl (ho4.alloc _) w4.heap.size _ rfl (cell_one _ _ rfl _ _) (by omega) (size_one _ _ (by omega) _) ?_; intro g cap w5 ho5 hgrow5 hbel5 hlt5)
      have hb5 : Below R w w5 := (hb4.alloc (by omega) _).trans (hbel5 _ (by omega))
      have hr5 : Rdr w5 R (p + 2) := (hr4.alloc _).below (hbel5 _ (by omega))
      have hs5 := hgrow5.size
      simp at hs5
      clear hgrow5 hbel5
      go_wp2
      go_roundw
      case rel => exact ⟨j - 1, p + 2, n + 1, cap, _, _, by rw [show ((j - 1 : Nat) : Int) = (j : Int) - 1 by omega], rfl, by omega, by omega, by omega, ho5, hr5, hb5, by omega⟩
      case measure => simp [intOf]; omega
end Go.Proofs.Ytjfninibloakgaa

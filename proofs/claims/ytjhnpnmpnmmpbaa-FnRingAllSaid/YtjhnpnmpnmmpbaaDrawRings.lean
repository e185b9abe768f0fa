/-
  The drawings of the laws of rings.
-/
import Derived.Test.YtjhnpnmpnmmpbaaDrawRing
namespace Go.Proofs.Ytjhnpnmpnmmpbaa
open Go.RowKit
attribute [local go_sem ↓] Go.wp_at_zero Go.wp_at_succ

/-- a ring is drawn out of bytes -/
def RingGot (w : World) (e : Ending) (w' : World) : Prop :=
  ∃ (f : Int) (A : Option Addr) (n c : Nat) (xs : List Int), e = .returned (.agg #[.int .i64 f, .slice A n c]) ∧ -1 ≤ f ∧ f ≤ 10000 ∧ n ≤ 7 ∧ n ≤ c ∧ (A = none → c = 0) ∧ Rd w' A n xs ∧ Below w.heap.size w w'
/-- a ring and a number -/
def RingGot2 (w : World) (lo hi : Int) (e : Ending) (w' : World) : Prop :=
  ∃ (f : Int) (A : Option Addr) (n c : Nat) (xs : List Int) (m : Int), e = .returned (.tuple #[.agg #[.int .i64 f, .slice A n c], .int .i64 m]) ∧ -1 ≤ f ∧ f ≤ 10000 ∧ n ≤ 7 ∧ n ≤ c ∧ (A = none → c = 0) ∧ lo ≤ m ∧ m ≤ hi ∧ Rd w' A n xs ∧ Below w.heap.size w w'

set_option maxHeartbeats 800000 in
theorem DrawRingValid_any (A : Option Addr) (n c : Nat) (zs : List Int) (w : World) (h : IsRow .u8 w A n c zs) :
    Calls Try.prog 32 #[.slice A n c] w (RingGot w) := by
  have hb0 := below_box w (ringBox 0 none 0 0)
  have hy0 := Bx.new w 27 0 none 0 0
  have h1 := h.below hb0
  go_enter Try.func32, Try.ntmps32
  go_wp2_with fail
  refine (open_any A n c zs _ h1).mono ?_
  rintro e w1 ⟨rfl, hr1, hb1⟩
  have hy1 := hy0.below hb1
  have hz1 := hy1.lt
  have hzR : w.heap.size < (w.alloc (ringBox 0 none 0 0)).heap.size := by simp
  have hb01 := below_step hb0 hb1
  generalize hRe : (w.alloc (ringBox 0 none 0 0)).heap.size = R at hr1 hzR
  go_wp2_with fail
  refine (l20Ring_any R 0 _ _ hr1 (by omega) (by omega) (by omega)).mono ?_
  rintro e w2 ⟨f, A2, n2, c2, xs, rfl, v1, v2, hn, hc, hN, hrow, hrd, hb2⟩
  have hlt := hr1.lt
  have hy2 : Bx w2 w.heap.size 27 0 none 0 0 := (hb2.block _ hzR).trans hy1
  have q0 := hy2.c0
  have q1 := hy2.c1
  have f0 := hy2.f0
  have f1 := hy2.f1
  have hv := (hy2.set0 f).set1 A2 n2 c2
  have k0 := hv.c0
  have k1 := hv.c1
  have HO : Hid (Rd ((w2.setCell ⟨w.heap.size, 0, none⟩ (.int .i64 f)).setCell ⟨w.heap.size, 1, none⟩ (.slice A2 n2 c2)) A2 n2 xs ∧ Below w.heap.size w ((w2.setCell ⟨w.heap.size, 0, none⟩ (.int .i64 f)).setCell ⟨w.heap.size, 1, none⟩ (.slice A2 n2 c2))) :=
    ⟨((hrow.grown_ge (by omega) (grown_set1 _ _ _ _)).grown_ge (by omega) (grown_set1 _ _ _ _)).rd, ((hb01.trans (hb2.mono (by omega))).setCell (Nat.le_refl _) _).setCell (Nat.le_refl _) _⟩
  clear hRe hy0 hy1 hy2 hv
  go_wp2_with fail
  exact bodyPost_ret (v := .agg #[.int .i64 f, .slice A2 n2 c2]) (by simp [results, Try.results32, go_sem, k0, k1]) rfl ⟨f, A2, n2, c2, xs, rfl, v1, v2, hn, hc, hN, HO.out.1, HO.out.2⟩
set_option maxHeartbeats 800000 in
theorem DrawRingNext_any (A : Option Addr) (n c : Nat) (zs : List Int) (w : World) (h : IsRow .u8 w A n c zs) :
    Calls Try.prog 34 #[.slice A n c] w (RingGot w) := by
  have hb0 := below_box w (ringBox 0 none 0 0)
  have hy0 := Bx.new w 27 0 none 0 0
  have h1 := h.below hb0
  go_enter Try.func34, Try.ntmps34
  go_wp2_with fail
  refine (open_any A n c zs _ h1).mono ?_
  rintro e w1 ⟨rfl, hr1, hb1⟩
  have hy1 := hy0.below hb1
  have hz1 := hy1.lt
  have hzR : w.heap.size < (w.alloc (ringBox 0 none 0 0)).heap.size := by simp
  have hb01 := below_step hb0 hb1
  generalize hRe : (w.alloc (ringBox 0 none 0 0)).heap.size = R at hr1 hzR
  go_wp2_with fail
  refine (l20Ring_any R 0 _ _ hr1 (by omega) (by omega) (by omega)).mono ?_
  rintro e w2 ⟨f, A2, n2, c2, xs, rfl, v1, v2, hn, hc, hN, hrow, hrd, hb2⟩
  have hlt := hr1.lt
  have hy2 : Bx w2 w.heap.size 27 0 none 0 0 := (hb2.block _ hzR).trans hy1
  have q0 := hy2.c0
  have q1 := hy2.c1
  have f0 := hy2.f0
  have f1 := hy2.f1
  have hv := (hy2.set0 f).set1 A2 n2 c2
  have k0 := hv.c0
  have k1 := hv.c1
  have HO : Hid (Rd ((w2.setCell ⟨w.heap.size, 0, none⟩ (.int .i64 f)).setCell ⟨w.heap.size, 1, none⟩ (.slice A2 n2 c2)) A2 n2 xs ∧ Below w.heap.size w ((w2.setCell ⟨w.heap.size, 0, none⟩ (.int .i64 f)).setCell ⟨w.heap.size, 1, none⟩ (.slice A2 n2 c2))) :=
    ⟨((hrow.grown_ge (by omega) (grown_set1 _ _ _ _)).grown_ge (by omega) (grown_set1 _ _ _ _)).rd, ((hb01.trans (hb2.mono (by omega))).setCell (Nat.le_refl _) _).setCell (Nat.le_refl _) _⟩
  clear hRe hy0 hy1 hy2 hv
  go_wp2_with fail
  exact bodyPost_ret (v := .agg #[.int .i64 f, .slice A2 n2 c2]) (by simp [results, Try.results34, go_sem, k0, k1]) rfl ⟨f, A2, n2, c2, xs, rfl, v1, v2, hn, hc, hN, HO.out.1, HO.out.2⟩

set_option maxHeartbeats 1600000 in
theorem DrawRingPut_any (A : Option Addr) (n c : Nat) (zs : List Int) (w : World) (h : IsRow .u8 w A n c zs) :
    Calls Try.prog 39 #[.slice A n c] w (RingGot2 w (-10) 1000) := by
  have hb0 := below_box w (ringBox 0 none 0 0)
  have hy0 := Bx.new w 27 0 none 0 0
  have h1 := h.below hb0
  go_enter Try.func39, Try.ntmps39
  go_wp2_with fail
  refine (open_any A n c zs _ h1).mono ?_
  rintro e w1 ⟨rfl, hr1, hb1⟩
  have hy1 := hy0.below hb1
  have hz1 := hy1.lt
  have hzR : w.heap.size < (w.alloc (ringBox 0 none 0 0)).heap.size := by simp
  have hb01 := below_step hb0 hb1
  generalize hRe : (w.alloc (ringBox 0 none 0 0)).heap.size = R at hr1 hzR
  go_wp2_with fail
  refine (l20Ring_any R 0 _ _ hr1 (by omega) (by omega) (by omega)).mono ?_
  rintro e w2 ⟨f, A2, n2, c2, xs, rfl, v1, v2, hn, hc, hN, hrow, hrd, hb2⟩
  have hlt := hr1.lt
  have hy2 : Bx w2 w.heap.size 27 0 none 0 0 := (hb2.block _ hzR).trans hy1
  have hb02 : Below w.heap.size w w2 := hb01.trans (hb2.mono (by omega))
  clear hRe hy0 hy1 hb0 h1 hb01 hb1
  go_wp2_with fail
  refine (pick_any R (0 + 40) 101 _ hrd (by omega) (by omega) (by omega)).mono ?_
  rintro e w3 ⟨x, rfl, hx0, hx1, hr3, hg3⟩
  have hy3 := hy2.grown hg3 (by omega)
  have hrow3 := hrow.grown_ge (by omega) hg3
  have hb03 : Below w.heap.size w w3 := hb02.trans (below_of_grown hg3 (by omega) (by have := hy2.lt; omega))
  clear hg3 hb02 hy2 hrow hrd
  go_wp2_with fail
  refine (pick_any R (0 + 40 + 1) 20 _ hr3 (by omega) (by omega) (by omega)).mono ?_
  rintro e w4 ⟨y, rfl, hy0', hy1', hr4, hg4⟩
  have hy4 := hy3.grown hg4 (by omega)
  have hrow4 := hrow3.grown_ge (by omega) hg4
  have hb04 : Below w.heap.size w w4 := hb03.trans (below_of_grown hg4 (by omega) (by have := hy3.lt; omega))
  clear hg4 hb03 hy3 hrow3 hr3
  have q0 := hy4.c0
  have q1 := hy4.c1
  have f0 := hy4.f0
  have f1 := hy4.f1
  have hv := (hy4.set0 f).set1 A2 n2 c2
  have k0 := hv.c0
  have k1 := hv.c1
  have HO : Hid (Rd ((w4.setCell ⟨w.heap.size, 0, none⟩ (.int .i64 f)).setCell ⟨w.heap.size, 1, none⟩ (.slice A2 n2 c2)) A2 n2 xs ∧ Below w.heap.size w ((w4.setCell ⟨w.heap.size, 0, none⟩ (.int .i64 f)).setCell ⟨w.heap.size, 1, none⟩ (.slice A2 n2 c2))) :=
    ⟨((hrow4.grown_ge (by omega) (grown_set1 _ _ _ _)).grown_ge (by omega) (grown_set1 _ _ _ _)).rd, (hb04.setCell (Nat.le_refl _) _).setCell (Nat.le_refl _) _⟩
  clear hy4 hv hrow4 hb04
  go_wp2_with fail
  exact bodyPost_ret (v := .tuple #[.agg #[.int .i64 f, .slice A2 n2 c2], .int .i64 (x - y / 19)]) (by simp [results, Try.results39, go_sem, k0, k1]) rfl ⟨f, A2, n2, c2, xs, _, rfl, v1, v2, hn, hc, hN, by omega, by omega, HO.out.1, HO.out.2⟩

set_option maxHeartbeats 800000 in
theorem DrawRingAll_any (A : Option Addr) (n c : Nat) (zs : List Int) (w : World) (h : IsRow .u8 w A n c zs) :
    Calls Try.prog 37 #[.slice A n c] w (IntsGot w 16) := by
  go_enter Try.func37, Try.ntmps37
  go_wp2_with fail
  refine (open_any A n c zs _ h).mono ?_
  rintro e w1 ⟨rfl, hr1, hb1⟩
  have hR := hr1.lt
  have hom := Own.made w1 w1.heap.size (Nat.le_refl _)
  have hbm : Below w.heap.size w (w1.alloc (.cells #[] 3)) := hb1.alloc (by omega) _
  generalize hRe : w.heap.size = R at hr1 hbm hR hb1 ⊢
  have HRe := Lib.hid hRe
  clear hRe
  go_wp2_with fail
  refine (pick_any R 0 16 _ (hr1.alloc _) (by omega) (by omega) (by omega)).mono ?_
  rintro e w2 ⟨x, rfl, hx0, hx1, hr2, hg2⟩
  have hs2 : w1.heap.size ≤ w2.heap.size := by have := hg2.size; simp at this; omega
  have hb2 : Below R w w2 := hbm.trans (below_of_grown hg2 (Nat.le_refl _) (by simp; omega))
  have ho2 := hom.picked hR hg2
  clear hg2 hom hbm
  obtain ⟨k, rfl⟩ := Int.eq_ofNat_of_zero_le hx0
  go_wp2_with fail
  go_loopw [4, 5] (fun v i wr => ∃ (j p n c : Nat) (A : Option Addr) (xs : List Int), i = .int .i64 j ∧ v = .slice A n c ∧ j ≤ 15 ∧ n + j ≤ 15 ∧ p + 2 * j ≤ 40 ∧ Own wr w1.heap.size A n c xs ∧ Rdr wr R p ∧ Below R w wr ∧ w1.heap.size ≤ wr.heap.size) (fun _ i _ => (intOf i).toNat)
  case atStart => exact ⟨k, 1, 0, 0, _, [], rfl, rfl, by omega, by omega, by omega, ho2, hr2, hb2, hs2⟩
  case round =>
    obtain ⟨j, p, n, c, A, xs, rfl, rfl, hj, hnj, hpj, ho, hr, hb, hs⟩ := hrel
    clear ho2 hr2 hb2 hs2
    rcases Nat.eq_zero_or_pos j with h0 | h0
    · subst h0
      go_wp2
      go_ret
      exact ⟨A, n, c, xs, rfl, ho.2, by omega, ho.rd (by omega), by rw [HRe.out]; exact hb⟩
    · have hd : decide ((0 : Int) < (j : Int)) = true := by simp; omega
      go_wp2_with fail
      refine (pick_any R p 100 _ hr (by omega) (by omega) (by omega)).mono ?_
      rintro e w3 ⟨y, rfl, hy0, hy1, hr3, hg3⟩
      have hs3 := hg3.size
      have hb3 : Below R w w3 := hb.trans (below_of_grown hg3 (Nat.le_refl _) (by omega))
      have ho3 := ho.picked hR hg3
      clear hg3 ho hr hb
      go_wp2_with fail
      refine (pick_any R (p + 1) 40 _ hr3 (by omega) (by omega) (by omega)).mono ?_
      rintro e w4 ⟨z, rfl, hz0, hz1, hr4, hg4⟩
      have hs4 := hg4.size
      have hb4 : Below R w w4 := hb3.trans (below_of_grown hg4 (Nat.le_refl _) (by omega))
      have ho4 := ho3.picked hR hg4
      clear hg4 ho3 hr3 hb3
      go_wp2_with (at_builtin; refine wpList_append_int _ rfl (.tmp 15) (.tmp 23) rfl w1.heap.size A n c xs rfl (ho4.alloc _) w4.heap.size _ rfl (cell_one _ _ rfl _ _) (by omega) (size_one _ _ (by omega) _) ?_; intro g cap w5 ho5 hgrow5 hbel5 hlt5)
      have hb5 : Below R w w5 := (hb4.alloc (by omega) _).trans (hbel5 _ (by omega))
      have hr5 : Rdr w5 R (p + 2) := (hr4.alloc _).below (hbel5 _ (by omega))
      have hs5 := hgrow5.size
      simp at hs5
      clear hgrow5 hbel5
      go_wp2
      go_roundw
      case rel => exact ⟨j - 1, p + 2, n + 1, cap, _, _, by rw [show ((j - 1 : Nat) : Int) = (j : Int) - 1 by omega], rfl, by omega, by omega, by omega, ho5, hr5, hb5, by omega⟩
      case measure => simp [intOf]; omega

/-- what stands in DrawRingRead's region -/
structure RdSt (w wr : World) (R p B : Nat) (f : Int) (A : Option Addr) (n c : Nat) (xs : List Int) : Prop where
  hx : Bx wr B 27 f A n c
  hy : Bx wr w.heap.size 27 0 none 0 0
  row : Row wr (R + 1) A n xs
  rdr : Rdr wr R p
  bel : Below w.heap.size w wr
  hR : w.heap.size < R
  hB : R < B
section
variable {w wr w2 : World} {R p p' B : Nat} {f : Int} {A : Option Addr} {n c : Nat} {xs : List Int}
theorem RdSt.picked (h : RdSt w wr R p B f A n c xs) (hr : Rdr w2 R p') (hg : wr.grownBy w2 (some R)) : RdSt w w2 R p' B f A n c xs :=
  ⟨h.hx.grown hg (by have := h.hB; omega), h.hy.grown hg (by have := h.hR; omega), h.row.grown_ge (by omega) hg, hr, h.bel.trans (below_of_grown hg (by have := h.hR; omega) (by have := h.hy.lt; omega)), h.hR, h.hB⟩
theorem RdSt.below (h : RdSt w wr R p B f A n c xs) (hb : Below wr.heap.size wr w2) : RdSt w w2 R p B f A n c xs :=
  ⟨h.hx.below hb, h.hy.below hb, h.row.below hb, h.rdr.below (hb.mono h.rdr.lt), below_step h.bel hb, h.hR, h.hB⟩
theorem RdSt.drew (h : RdSt w wr R p B f A n c xs) : RdSt w wr.drew R p B f A n c xs := ⟨h.hx.drew, h.hy.drew, h.row.drew, h.rdr.drew, below_drew_ h.bel, h.hR, h.hB⟩
end
theorem wrap_bd (z : Int) : -9223372036854775808 ≤ IntKind.i64.wrap z ∧ IntKind.i64.wrap z ≤ 9223372036854775807 := by rw [IntKind.wrap_i64]; omega

theorem nextZ_bd (f : Int) (xs : List Int) : -1 ≤ nextZ f xs ∧ nextZ f xs ≤ 10005 := by
  cases h : ringB f xs
  · rw [nextZ_no h]; omega
  · rw [nextZ_yes h]
    obtain ⟨a, b, c, _⟩ := ringB_true.1 h
    omega

set_option maxHeartbeats 3200000 in
set_option maxRecDepth 100000 in
theorem DrawRingRead_any (A : Option Addr) (n c : Nat) (zs : List Int) (w : World) (h : IsRow .u8 w A n c zs) :
    Calls Try.prog 36 #[.slice A n c] w (RingGot2 w (-9223372036854775808) 9223372036854775807) := by
  have hb0 := below_box w (ringBox 0 none 0 0)
  have hy0 := Bx.new w 27 0 none 0 0
  have h1 := h.below hb0
  go_enter Try.func36, Try.ntmps36
  go_wp2_with fail
  refine (open_any A n c zs _ h1).mono ?_
  rintro e w1 ⟨rfl, hr1, hb1⟩
  have hy1 := hy0.below hb1
  have hz1 := hy1.lt
  have hzR : w.heap.size < (w.alloc (ringBox 0 none 0 0)).heap.size := by simp
  have hb01 := below_step hb0 hb1
  generalize hRe : (w.alloc (ringBox 0 none 0 0)).heap.size = R at hr1 hzR
  go_wp2_with fail
  refine (l20Ring_any R 0 _ _ hr1 (by omega) (by omega) (by omega)).mono ?_
  rintro e w2 ⟨f, A2, n2, c2, xs, rfl, v1, v2, hn, hc, hN, hrow, hrd, hb2⟩
  have hlt := hr1.lt
  have hlt2 := hrd.lt
  have hy2 : Bx w2 w.heap.size 27 0 none 0 0 := (hb2.block _ hzR).trans hy1
  have hb02 : Below w.heap.size w w2 := hb01.trans (hb2.mono (by omega))
  have hy3 := hy2.alloc (ringBox f A2 n2 c2)
  have hx3 := Bx.new w2 27 f A2 n2 c2
  have hrow3 := hrow.alloc (ringBox f A2 n2 c2)
  have hrd3 := hrd.alloc (ringBox f A2 n2 c2)
  have hb03 : Below w.heap.size w (w2.alloc (ringBox f A2 n2 c2)) := hb02.alloc hb02.size _
  clear hRe hy0 hy1 hb0 h1 hb01 hb1 hy2 hb02 hrow hrd hb2 hr1
  generalize hBe : w2.heap.size = B at hx3 hlt2
  go_upto_region 3 with fail
  generalize w2.alloc (ringBox f A2 n2 c2) = wa at *
  have st0 : RdSt w wa R 40 B f A2 n2 c2 xs := ⟨hx3, hy3, hrow3, hrd3, hb03, hzR, hlt2⟩
  have hc0 := hx3.c0
  have hc1 := hx3.c1
  have hd0 := hy3.c0
  have hd1 := hy3.c1
  obtain ⟨hnz1, hnz2⟩ := nextZ_bd f xs
  clear hx3 hy3 hrow3 hrd3 hb03
  go_region_held3 (fun w' => w'.cell? ⟨B, 0, none⟩ = some (.int .i64 f) ∧ w'.cell? ⟨B, 1, none⟩ = some (.slice A2 n2 c2))
    ((refine Bx.cells (t := 27) ?_; (repeat (first | with_reducible exact st4.hx | with_reducible exact st3.hx | with_reducible exact st2.hx | with_reducible exact st1.hx | with_reducible exact st0.hx | with_reducible refine Bx.drew ?_ | with_reducible refine Bx.alloc ?_ _ | (with_reducible refine Bx.far ?_ ?_ _; (rotate_left; omega))))))
    ((first
      | (go_at_call 18
         refine (specRingNext_any f A2 n2 c2 xs _ (by (repeat (first | with_reducible exact st0.row.rd | with_reducible refine Rd.drew ?_)))).mono ?_
         rintro e w4 ⟨rfl, b4⟩
         have st1 : RdSt w w4 R 40 B f A2 n2 c2 xs := RdSt.below (p := 40) (by (repeat (first | with_reducible exact st0 | with_reducible refine RdSt.drew ?_))) b4)
      | (go_at_call 47
         have hq := st3.rdr
         with_reducible refine (pick_any R 42 20 _ (by (repeat (first | with_reducible exact hq | with_reducible refine Rdr.drew ?_))) (by omega) (by omega) (by omega)).mono ?_
         rintro e w7 ⟨x7, rfl, hx70, hx71, hr7, hg7⟩
         have st4 : RdSt w w7 R 43 B f A2 n2 c2 xs := RdSt.picked (p := 42) (by (repeat (first | with_reducible exact st3 | with_reducible refine RdSt.drew ?_))) hr7 hg7
         have hz0 := st4.hy.c0
         have hz1 := st4.hy.c1
         have hzf0 := st4.hy.f0
         have hzf1 := st4.hy.f1
         clear hr7 hg7 hq)
      | (go_at_call 47
         have hq := st2.rdr
         with_reducible refine (pick_any R 41 12 _ (by (repeat (first | with_reducible exact hq | with_reducible refine Rdr.drew ?_))) (by omega) (by omega) (by omega)).mono ?_
         rintro e w6 ⟨x6, rfl, hx60, hx61, hr6, hg6⟩
         have st3 : RdSt w w6 R 42 B f A2 n2 c2 xs := RdSt.picked (p := 41) (by (repeat (first | with_reducible exact st2 | with_reducible refine RdSt.drew ?_))) hr6 hg6
         clear hr6 hg6 hq)
      | (go_at_call 47
         have hq := st1.rdr
         with_reducible refine (pick_any R 40 12 _ (by (repeat (first | with_reducible exact hq | with_reducible refine Rdr.drew ?_))) (by omega) (by omega) (by omega)).mono ?_
         rintro e w5 ⟨x5, rfl, hx50, hx51, hr5, hg5⟩
         have st2 : RdSt w w5 R 41 B f A2 n2 c2 xs := RdSt.picked (p := 40) (by (repeat (first | with_reducible exact st1 | with_reducible refine RdSt.drew ?_))) hr5 hg5
         clear hr5 hg5 hq
         obtain ⟨v5, hv5⟩ : ∃ v5, IntKind.i64.wrap (nextZ f xs - x5) = v5 := ⟨_, rfl⟩
         obtain ⟨mx, hmx⟩ : ∃ mx, (if v5 < 0 then 0 else v5) = mx := ⟨_, rfl⟩)))
  all_goals
    have hv := (st4.hy.set0 f).set1 A2 n2 c2
    have k0 := hv.c0
    have k1 := hv.c1
    have hR := st4.hR
    have HO : Hid (Rd ((w7.setCell ⟨w.heap.size, 0, none⟩ (.int .i64 f)).setCell ⟨w.heap.size, 1, none⟩ (.slice A2 n2 c2)) A2 n2 xs ∧ Below w.heap.size w ((w7.setCell ⟨w.heap.size, 0, none⟩ (.int .i64 f)).setCell ⟨w.heap.size, 1, none⟩ (.slice A2 n2 c2))) :=
      ⟨((st4.row.grown_ge (by omega) (grown_set1 _ _ _ _)).grown_ge (by omega) (grown_set1 _ _ _ _)).rd, (st4.bel.setCell (Nat.le_refl _) _).setCell (Nat.le_refl _) _⟩
    have hm := wrap_bd (IntKind.i64.wrap (mx + IntKind.i64.wrap (IntKind.i64.wrap (x6.tdiv 11) * 9)) - IntKind.i64.wrap (IntKind.i64.wrap (x7.tdiv 19) * 99))
    generalize IntKind.i64.wrap (IntKind.i64.wrap (mx + IntKind.i64.wrap (IntKind.i64.wrap (x6.tdiv 11) * 9)) - IntKind.i64.wrap (IntKind.i64.wrap (x7.tdiv 19) * 99)) = z at *
    clear st0 st1 st2 st3 st4 hv hz0 hz1 hzf0 hzf1 hc0 hc1 hd0 hd1
    go_wp2_with fail
    exact bodyPost_ret (v := .tuple #[.agg #[.int .i64 f, .slice A2 n2 c2], .int .i64 z]) (by simp [results, Try.results36, go_sem, k0, k1]) rfl ⟨f, A2, n2, c2, xs, _, rfl, v1, v2, hn, hc, hN, hm.1, hm.2, HO.out.1, HO.out.2⟩
end Go.Proofs.Ytjhnpnmpnmmpbaa

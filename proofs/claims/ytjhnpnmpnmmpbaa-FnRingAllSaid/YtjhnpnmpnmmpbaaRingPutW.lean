/-
  RingPut of the reference once more, for the drawings: the cell behind the list, where there is room, may be written.
-/
import Derived.Test.YtjhnpnmpnmmpbaaRingPutA
namespace Go.Proofs.Ytjhnpnmpnmmpbaa
open Go.RowKit
attribute [local go_sem ↓] Go.wp_at_zero Go.wp_at_succ

/-- a fresh row; where there is room behind it, the next cell may be written -/
structure RowS (w : World) (lo : Nat) (A : Option Addr) (n c : Nat) (xs : List Int) : Prop where
  row : Row w lo A n xs
  cap : n ≤ c
  spare : n < c → ∃ g off, A = some ⟨g, off, none⟩ ∧ lo ≤ g ∧ g < w.heap.size ∧ (w.cell? ⟨g, off + n, none⟩).isSome = true ∧ w.frozen? ⟨g, off + n, none⟩ = false
section
variable {w w' : World} {lo lo' n c g : Nat} {A : Option Addr} {xs : List Int}
theorem RowS.rd (h : RowS w lo A n c xs) : Rd w A n xs := h.row.rd
theorem RowS.le (h : RowS w lo A n c xs) : n ≤ 4194304 := h.row.le
theorem RowS.nil_ : RowS w lo none 0 0 [] := ⟨Row.nil_, Nat.le_refl _, fun h => absurd h (by omega)⟩
theorem RowS.more (h : RowS w lo A n c xs) (hl : lo' ≤ lo) : RowS w lo' A n c xs :=
  ⟨h.row.more hl, h.cap, fun hn => by obtain ⟨g, off, e, hg, r⟩ := h.spare hn; exact ⟨g, off, e, by omega, r⟩⟩
theorem RowS.below (h : RowS w lo A n c xs) (hb : Below w.heap.size w w') : RowS w' lo A n c xs :=
  ⟨h.row.below hb, h.cap, fun hn => by
    obtain ⟨g, off, e, hl, hg, hc, hf⟩ := h.spare hn
    refine ⟨g, off, e, hl, Nat.lt_of_lt_of_le hg hb.size, ?_, ?_⟩
    · rw [hb.cell (p := ⟨g, off + n, none⟩) hg]; exact hc
    · rw [hb.frozen (p := ⟨g, off + n, none⟩) hg]; exact hf⟩
theorem RowS.alloc (h : RowS w lo A n c xs) (o : Obj) : RowS (w.alloc o) lo A n c xs := h.below (below_new w o)
theorem RowS.drew (h : RowS w lo A n c xs) : RowS w.drew lo A n c xs := ⟨h.row.drew, h.cap, h.spare⟩
theorem RowS.grown_ge (h : RowS w lo A n c xs) (hg : g < lo) (hw : w.grownBy w' (some g)) : RowS w' lo A n c xs :=
  ⟨h.row.grown_ge hg hw, h.cap, fun hn => by
    obtain ⟨b, off, e, hl, hb, hc, hf⟩ := h.spare hn
    have hbl : w'.heap[b]? = w.heap[b]? := hw.block b hb (by intro e; injection e with e; omega)
    refine ⟨b, off, e, hl, Nat.lt_of_lt_of_le hb hw.size, ?_, ?_⟩
    · rw [World.cell?_of_block hbl]; exact hc
    · rw [← hf]; simp [World.frozen?, hbl]⟩
theorem RowS.of_own (h : Own w lo A n c xs) (hn : n ≤ 4194304) : RowS w lo A n c xs :=
  ⟨h.row hn, h.2, fun hnc => by
    rcases h.1.2 with ⟨e, _⟩ | ⟨g, cap, cur, e, hb, hh, hle, hm, hs, _⟩
    · injection e with _ _ e3
      omega
    · injection e with e1 _ e3
      subst e1 e3
      refine ⟨g, 0, rfl, hb, (Array.getElem?_eq_some_iff.1 hh).1, ?_, by simp [World.frozen?, hh]⟩
      rw [cell_of_row w g (0 + n) _ _ _ hh]
      have : n < cur.size := by omega
      simp [this]⟩
theorem RowS.drop1 {off : Nat} (h : RowS w lo (some ⟨g, off, none⟩) (n + 1) c xs) : RowS w lo (some ⟨g, off + 1, none⟩) n (c - 1) (xs.drop 1) :=
  ⟨h.row.drop (k := 1) (by omega), by have := h.cap; omega, fun hnc => by
    obtain ⟨b, o, e, hl, hb, hc, hf⟩ := h.spare (by omega)
    injection e with e
    injection e with e1 e2
    subst e1 e2
    refine ⟨g, off + 1, rfl, hl, hb, ?_, ?_⟩
    · rw [show off + 1 + n = off + (n + 1) by omega]; exact hc
    · rw [show off + 1 + n = off + (n + 1) by omega]; exact hf⟩
end

/-- a ring and a bool; the ring's list may be appended to -/
def PutGotW (w : World) (f : Int) (ys : List Int) (b : Bool) (e : Ending) (w' : World) : Prop :=
  ∃ (A : Option Addr) (n c : Nat), e = .returned (.tuple #[.agg #[.int .i64 f, .slice A n c], .bool b]) ∧ RowS w' w.heap.size A n c ys ∧ Below w.heap.size w w'

/-- what stands ahead of the second RingValid -/
structure PutStW (w W : World) (B : Nat) (f : Int) (A : Option Addr) (n c : Nat) (f3 : Int) (A3 : Option Addr) (n3 c3 : Nat) (ys : List Int) : Prop where
  hb : Bx W B 27 f3 A3 n3 c3
  hx : Bx W w.heap.size 27 f A n c
  hy : Bx W (w.heap.size + 1) 27 0 none 0 0
  row : RowS W (w.heap.size + 2) A3 n3 c3 ys
  bel : Below w.heap.size w W

set_option maxHeartbeats 12800000 in
set_option maxRecDepth 100000 in
theorem specRingPutW_in (f : Int) (A : Option Addr) (n c : Nat) (xs : List Int) (ev : Int) (w : World) (h : Rd w A n xs) (hv : ringB f xs = true) :
    Calls Try.prog 30 #[.agg #[.int .i64 f, .slice A n c], .int .i64 ev] w (PutGotW w (putF f xs ev) (putL f xs ev) (putB f xs ev)) := by
  have hn := h.le
  have HL := Lib.hid h.len
  have hb0 : Below w.heap.size w ((w.alloc (ringBox f A n c)).alloc (ringBox 0 none 0 0)) := (below_box w _).alloc (by simp) _
  have hr := (h.alloc (ringBox f A n c)).alloc (ringBox 0 none 0 0)
  have hx0 := (Bx.new w 27 f A n c).alloc (ringBox 0 none 0 0)
  have hy0 : Bx ((w.alloc (ringBox f A n c)).alloc (ringBox 0 none 0 0)) (w.heap.size + 1) 27 0 none 0 0 := by
    have := Bx.new (w.alloc (ringBox f A n c)) 27 0 none 0 0
    simpa using this
  have hsz0 : w.heap.size + 2 = ((w.alloc (ringBox f A n c)).alloc (ringBox 0 none 0 0)).heap.size := by simp
  have HSZ0 := Lib.hid hsz0
  clear hsz0
  obtain ⟨v1, v2, v3, _, v5⟩ := ringB_true.1 hv
  rw [HL.out] at v3 v5
  have V5 := Lib.hid v5
  clear v5
  go_enter Try.func30, Try.ntmps30
  go_wp2_with fail
  refine (specRingValid_any f A n c xs _ hr).mono ?_
  rintro e w1 ⟨rfl, b1⟩
  have hx1 := hx0.below b1
  have hy1 := hy0.below b1
  have hs1 : w.heap.size + 2 ≤ w1.heap.size := by rw [HSZ0.out]; exact b1.size
  have b01 := below_step hb0 b1
  have hr1 := hr.below b1
  clear hx0 hy0 hr hb0 b1 HSZ0
  go_upto_region 3 with fail
  go_cut [6] (fun s6 wx => AfterApp w f A n c xs ev s6 wx)
  case first =>
    have hc0 := hx1.c0
    have hc1 := hx1.c1
    have hlt1 := hx1.lt
    have hnb : w.heap.size < w1.heap.size := by omega
    go_region_held3 (fun w' => w'.cell? ⟨w.heap.size, 0, none⟩ = some (.int .i64 f) ∧ w'.cell? ⟨w.heap.size, 1, none⟩ = some (.slice A n c))
      ((refine keep2 ?_ hnb hc0 hc1; (repeat (first | with_reducible exact hb4 | with_reducible exact hb3 | with_reducible exact Below.refl _ _ | with_reducible refine below_drew_ ?_ | (with_reducible refine Below.alloc ?_ ?_ _; (rotate_left; (first | omega | (simp <;> omega)))) | (with_reducible refine Below.setCell ?_ ?_ _; (rotate_left; ((try dsimp only); omega)))))))
      ((first
        | (refine step_append_rd _ (by rfl) (.tmp 13) (.tmp 15) (by rfl) w1.heap.size _ 0 0 [] (by rfl) (by (repeat (first | ((with_reducible refine Own.made_ ?_ ?_) <;> (first | with_reducible rfl | omega | (simp; done) | (simp; omega))) | with_reducible refine Own.drew ?_ | with_reducible refine Own.alloc ?_ _))) A n c xs (by rfl) (by (repeat (first | with_reducible exact hr1 | with_reducible refine Rd.drew ?_ | with_reducible refine Rd.alloc ?_ _))) (by omega) (by first | omega | (simp; done) | (simp; omega)) n (by omega) ?_
           intro A3 c3 w3 ho3 hgrow3 hbel3
           have hb3 : Below w1.heap.size w1 w3 := Below.trans (by (repeat (first | with_reducible exact Below.refl _ _ | with_reducible refine below_drew_ ?_ | (with_reducible refine Below.alloc ?_ ?_ _; (rotate_left; (first | omega | (simp <;> omega))))))) (hbel3 _ (Nat.le_refl _))
           have hs3 := hb3.size
           rw [own_block_some] at hgrow3
           rw [List.nil_append] at ho3
           (first
             | (refine have_of (p := One w3 w1.heap.size ev) ?_ ?_; (focus (refine One.grow ?_ hgrow3 (ne_some ?_); (rotate_left; omega); (repeat (first | (with_reducible refine One.new_ ev ?_; (first | with_reducible rfl | (simp; done))) | with_reducible refine One.drew ?_ | with_reducible refine One.alloc ?_ _)); done)); intro hV3)
             | (refine have_of (p := One w3 (w1.heap.size + 1) ev) ?_ ?_; (focus (refine One.grow ?_ hgrow3 (ne_some ?_); (rotate_left; omega); (repeat (first | (with_reducible refine One.new_ ev ?_; (first | with_reducible rfl | (simp; done))) | with_reducible refine One.drew ?_ | with_reducible refine One.alloc ?_ _)); done)); intro hV3)
             | (refine have_of (p := One w3 (w1.heap.size + 1 + 1) ev) ?_ ?_; (focus (refine One.grow ?_ hgrow3 (ne_some ?_); (rotate_left; omega); (repeat (first | (with_reducible refine One.new_ ev ?_; (first | with_reducible rfl | (simp; done))) | with_reducible refine One.drew ?_ | with_reducible refine One.alloc ?_ _)); done)); intro hV3)
             | skip)
           (first
             | (refine have_of (p := Bx w3 w1.heap.size 27 0 none 0 0) ?_ ?_; (focus (refine Bx.grow ?_ hgrow3 (ne_some ?_); (rotate_left; omega); (repeat (first | (with_reducible refine Bx.new_ _ _ _ _ _ ?_; (first | with_reducible rfl | (simp; done))) | with_reducible refine Bx.drew ?_ | with_reducible refine Bx.alloc ?_ _)); done)); intro hR3)
             | (refine have_of (p := Bx w3 (w1.heap.size + 1) 27 0 none 0 0) ?_ ?_; (focus (refine Bx.grow ?_ hgrow3 (ne_some ?_); (rotate_left; omega); (repeat (first | (with_reducible refine Bx.new_ _ _ _ _ _ ?_; (first | with_reducible rfl | (simp; done))) | with_reducible refine Bx.drew ?_ | with_reducible refine Bx.alloc ?_ _)); done)); intro hR3)
             | (refine have_of (p := Bx w3 (w1.heap.size + 1 + 1) 27 0 none 0 0) ?_ ?_; (focus (refine Bx.grow ?_ hgrow3 (ne_some ?_); (rotate_left; omega); (repeat (first | (with_reducible refine Bx.new_ _ _ _ _ _ ?_; (first | with_reducible rfl | (simp; done))) | with_reducible refine Bx.drew ?_ | with_reducible refine Bx.alloc ?_ _)); done)); intro hR3)
             | skip)
           clear hgrow3 hbel3)
        | (refine step_append_rd _ (by rfl) (.tmp 16) (.tmp 18) (by rfl) w1.heap.size A3 n c3 xs (by rfl) (by (repeat (first | with_reducible exact ho3 | with_reducible refine Own.drew ?_ | with_reducible refine Own.alloc ?_ _))) _ 1 1 [ev] (by rfl) (One.rd (by (repeat (first | with_reducible exact hV3 | (with_reducible refine One.new_ ev ?_; (first | with_reducible rfl | (simp; done))) | with_reducible refine One.drew ?_ | with_reducible refine One.alloc ?_ _)))) (by omega) (by first | omega | (simp; done) | (simp; omega)) (n + 1) rfl ?_
           intro A4 c4 w4 ho4 hgrow4 hbel4
           have hb4 : Below w1.heap.size w1 w4 := Below.trans (by (repeat (first | with_reducible exact hb3 | with_reducible refine below_drew_ ?_ | (with_reducible refine Below.alloc ?_ ?_ _; (rotate_left; (first | omega | (simp <;> omega))))))) (hbel4 _ (Nat.le_refl _))
           have hs4 := hb4.size
           (first
             | (refine have_of (p := Bx w4 w1.heap.size 27 0 none 0 0) ?_ ?_; (focus (refine have_of (p := Bx _ w1.heap.size 27 0 none 0 0) ?_ (fun hq => Bx.grow hq hgrow4 (Own.ne_box (base := w1.heap.size) (xs := xs) ?_ hq ty_ne)); (focus ((repeat (first | with_reducible exact hR3 | (with_reducible refine Bx.new_ _ _ _ _ _ ?_; (first | with_reducible rfl | (simp; done))) | with_reducible refine Bx.drew ?_ | with_reducible refine Bx.alloc ?_ _)); done)); (focus ((repeat (first | with_reducible exact ho3 | with_reducible refine Own.drew ?_ | with_reducible refine Own.alloc ?_ _)); done)))); intro hR4; have r40 := hR4.c0; have r41 := hR4.c1; have rf40 := hR4.f0; have rf41 := hR4.f1)
             | (refine have_of (p := Bx w4 (w1.heap.size + 1) 27 0 none 0 0) ?_ ?_; (focus (refine have_of (p := Bx _ (w1.heap.size + 1) 27 0 none 0 0) ?_ (fun hq => Bx.grow hq hgrow4 (Own.ne_box (base := w1.heap.size) (xs := xs) ?_ hq ty_ne)); (focus ((repeat (first | with_reducible exact hR3 | (with_reducible refine Bx.new_ _ _ _ _ _ ?_; (first | with_reducible rfl | (simp; done))) | with_reducible refine Bx.drew ?_ | with_reducible refine Bx.alloc ?_ _)); done)); (focus ((repeat (first | with_reducible exact ho3 | with_reducible refine Own.drew ?_ | with_reducible refine Own.alloc ?_ _)); done)))); intro hR4; have r40 := hR4.c0; have r41 := hR4.c1; have rf40 := hR4.f0; have rf41 := hR4.f1)
             | (refine have_of (p := Bx w4 (w1.heap.size + 1 + 1) 27 0 none 0 0) ?_ ?_; (focus (refine have_of (p := Bx _ (w1.heap.size + 1 + 1) 27 0 none 0 0) ?_ (fun hq => Bx.grow hq hgrow4 (Own.ne_box (base := w1.heap.size) (xs := xs) ?_ hq ty_ne)); (focus ((repeat (first | with_reducible exact hR3 | (with_reducible refine Bx.new_ _ _ _ _ _ ?_; (first | with_reducible rfl | (simp; done))) | with_reducible refine Bx.drew ?_ | with_reducible refine Bx.alloc ?_ _)); done)); (focus ((repeat (first | with_reducible exact ho3 | with_reducible refine Own.drew ?_ | with_reducible refine Own.alloc ?_ _)); done)))); intro hR4; have r40 := hR4.c0; have r41 := hR4.c1; have rf40 := hR4.f0; have rf41 := hR4.f1)
             | (refine have_of (p := Bx w4 w3.heap.size 27 0 none 0 0) ?_ ?_; (focus (refine have_of (p := Bx _ w3.heap.size 27 0 none 0 0) ?_ (fun hq => Bx.grow hq hgrow4 (Own.ne_box (base := w1.heap.size) (xs := xs) ?_ hq ty_ne)); (focus ((repeat (first | with_reducible exact hR3 | (with_reducible refine Bx.new_ _ _ _ _ _ ?_; (first | with_reducible rfl | (simp; done))) | with_reducible refine Bx.drew ?_ | with_reducible refine Bx.alloc ?_ _)); done)); (focus ((repeat (first | with_reducible exact ho3 | with_reducible refine Own.drew ?_ | with_reducible refine Own.alloc ?_ _)); done)))); intro hR4; have r40 := hR4.c0; have r41 := hR4.c1; have rf40 := hR4.f0; have rf41 := hR4.f1)
             | (refine have_of (p := Bx w4 (w3.heap.size + 1) 27 0 none 0 0) ?_ ?_; (focus (refine have_of (p := Bx _ (w3.heap.size + 1) 27 0 none 0 0) ?_ (fun hq => Bx.grow hq hgrow4 (Own.ne_box (base := w1.heap.size) (xs := xs) ?_ hq ty_ne)); (focus ((repeat (first | with_reducible exact hR3 | (with_reducible refine Bx.new_ _ _ _ _ _ ?_; (first | with_reducible rfl | (simp; done))) | with_reducible refine Bx.drew ?_ | with_reducible refine Bx.alloc ?_ _)); done)); (focus ((repeat (first | with_reducible exact ho3 | with_reducible refine Own.drew ?_ | with_reducible refine Own.alloc ?_ _)); done)))); intro hR4; have r40 := hR4.c0; have r41 := hR4.c1; have rf40 := hR4.f0; have rf41 := hR4.f1)
             | skip)
           clear hgrow4 hbel4)))
    all_goals (go_wp2_with fail; go_meet)
    all_goals (first
      | exact AfterApp.of_new b01 hs1 hx1 hy1 hb4 ho4
      | exact AfterApp.of_set b01 hs1 hx1 hy1 hR4 (by omega) hb4 ho4)
  case rest =>
    obtain ⟨B, A2, c2, rfl, hB, hbx, hown, hxx, hyy, hbel⟩ := hcut
    have hs := hbel.size
    have hlt := hbx.lt
    have HV := Lib.hid hv
    clear hx1 hy1 hr1 b01 hv
    obtain ⟨g, c2', hA2, _, hg⟩ := hown.1.form (by omega)
    obtain rfl : A2 = some ⟨g, 0, none⟩ := by injection hA2
    clear hA2
    have hc2 := hown.2
    by_cases h6 : n = 6
    · subst h6
      have hcne : ¬ c2 = 1 := by omega
      have hci : (1 : Int) ≤ (c2 : Int) := by omega
      have hwr : IntKind.i64.wrap (f + 1) = f + 1 := IntWalk.i64_in _ (by omega)
      have HRB := Lib.hid (put_ring_full (e := ev) HV.out HL.out)
      have HPT := Lib.hid (fun hp => put_full (e := ev) HV.out hp HL.out)
      have hb0 := hbx.c0
      have hb1 := hbx.c1
      have hbf0 := hbx.f0
      have hbf1 := hbx.f1
      have hc0 := hxx.c0
      have hc1 := hxx.c1
      go_upto_region 5 with fail
      go_still_tail 7, (by kernel_rfl)
      change wpList _ _ _ _ _ wc.drew
      clear hb0 hb1 hbf0 hbf1 hc0 hc1
      have hbx5 := hbx.drew
      have HBX5 := Lib.hid (hbx5.set0 (f + 1))
      have HST : Hid (PutStW w ((wc.drew.setCell ⟨B, 0, none⟩ (.int .i64 (f + 1))).setCell ⟨B, 1, none⟩ (.slice (some ⟨g, 1, none⟩) 6 (c2 - 1))) B f A 6 c (f + 1) (some ⟨g, 1, none⟩) 6 (c2 - 1) ((xs ++ [ev]).drop 1)) :=
        ⟨HBX5.out.set1 _ _ _, (hxx.drew.far (by omega) _).far (by omega) _, (hyy.drew.far (by omega) _).far (by omega) _,
          (RowS.of_own (((hown.drew).box_set hbx5 ty_ne 0 (.int .i64 (f + 1))).box_set HBX5.out ty_ne 1 (.slice (some ⟨g, 1, none⟩) 6 (c2 - 1))) (by omega)).drop1,
          ((below_drew_ hbel).setCell (by show w.heap.size ≤ B; omega) _).setCell (by show w.heap.size ≤ B; omega) _⟩
      have hb0 := hbx5.c0
      have hb1 := hbx5.c1
      have hbf0 := hbx5.f0
      have hbf1 := hbx5.f1
      clear hbx5 hbx hown hxx hyy hbel HBX5
      generalize wc.drew = wd at *

      clear hwr
      go_wp2_with fail
      have hst := HST.out
      clear hb0 hb1 hbf0 hbf1 HST
      generalize (wd.setCell ⟨B, 0, none⟩ (.int .i64 (f + 1))).setCell ⟨B, 1, none⟩ (.slice (some ⟨g, 1, none⟩) 6 (c2 - 1)) = W at *
      have hrow := hst.row
      refine (specRingValid_any (f + 1) (some ⟨g, 1, none⟩) 6 (c2 - 1) ((xs ++ [ev]).drop 1) _ hrow.rd).mono ?_
      rintro e W1 ⟨rfl, b1⟩
      rw [HRB.out]
      have hx1 := hst.hx.below b1
      have hy1 := hst.hy.below b1
      have hz1 := hst.hb.below b1
      have hrow1 := hrow.below b1
      have hbel1 := below_step hst.bel b1
      have hsz1 := hy1.lt
      have yf0 := hy1.f0
      have yf1 := hy1.f1
      clear hst b1 hrow HRB
      cases hp : putB f xs ev
      · have HP := Lib.hid (put_not HV.out hp)
        have HB := Lib.hid hp
        clear hp hz1 hrow1 HPT
        have hr1 := h.below hbel1
        have hc0 := hx1.c0
        have hc1 := hx1.c1
        have hnb : w.heap.size < W1.heap.size := by omega
        go_upto_region 7 with fail
        go_region_held3 (fun w' => w'.cell? ⟨w.heap.size, 0, none⟩ = some (.int .i64 f) ∧ w'.cell? ⟨w.heap.size, 1, none⟩ = some (.slice A 6 c))
          ((first
            | (refine keep2 ?_ hnb hc0 hc1; (repeat (first | with_reducible exact hb3 | with_reducible exact Below.refl _ _ | with_reducible refine below_drew_ ?_ | (with_reducible refine Below.alloc ?_ ?_ _; (rotate_left; (first | omega | (simp <;> omega)))))); done)
            | go_keep))
          ((refine step_append_rd _ (by rfl) (.tmp 37) (.tmp 39) (by rfl) W1.heap.size _ 0 0 [] (by rfl) (by (repeat (first | ((with_reducible refine Own.made_ ?_ ?_) <;> (first | with_reducible rfl | omega | (simp; done) | (simp; omega))) | with_reducible refine Own.drew ?_ | with_reducible refine Own.alloc ?_ _))) A 6 c xs (by rfl) (by (repeat (first | with_reducible exact hr1 | with_reducible refine Rd.drew ?_ | with_reducible refine Rd.alloc ?_ _))) (by omega) (by first | omega | (simp; done) | (simp; omega)) 6 (by omega) ?_
            intro A3 c3 w3 ho3 hgrow3 hbel3
            have hb3 : Below W1.heap.size W1 w3 := Below.trans (by (repeat (first | with_reducible exact Below.refl _ _ | with_reducible refine below_drew_ ?_ | (with_reducible refine Below.alloc ?_ ?_ _; (rotate_left; (first | omega | (simp <;> omega))))))) (hbel3 _ (Nat.le_refl _))
            rw [List.nil_append] at ho3
            have hy3 := hy1.below hb3
            have hx3 := hx1.below hb3
            have hd0 := hx3.c0
            have hd1 := hx3.c1
            have zc0 := hy3.c0
            have zc1 := hy3.c1
            have zf0 := hy3.f0
            have zf1 := hy3.f1
            clear hgrow3 hbel3))
        all_goals
          have hy4 := (hy3.set0 f).set1 A3 6 c3
          have k0 := hy4.c0
          have k1 := hy4.c1
          have HW4 : Hid (RowS ((w3.setCell ⟨w.heap.size + 1, 0, none⟩ (.int .i64 f)).setCell ⟨w.heap.size + 1, 1, none⟩ (.slice A3 6 c3)) w.heap.size A3 6 c3 xs ∧ Below w.heap.size w ((w3.setCell ⟨w.heap.size + 1, 0, none⟩ (.int .i64 f)).setCell ⟨w.heap.size + 1, 1, none⟩ (.slice A3 6 c3))) :=
            ⟨(((RowS.of_own ho3 (by omega)).grown_ge (by omega) (grown_set1 _ _ _ _)).grown_ge (by omega) (grown_set1 _ _ _ _)).more (by omega), ((below_step hbel1 hb3).setCell (by show w.heap.size ≤ w.heap.size + 1; omega) _).setCell (by show w.heap.size ≤ w.heap.size + 1; omega) _⟩
          clear hd0 hd1 zc0 zc1 zf0 zf1 yf0 yf1 hc0 hc1
          go_wp2_with fail
          exact bodyPost_ret (v := .tuple #[.agg #[.int .i64 f, .slice A3 6 c3], .bool false]) (by simp [results, Try.results30, go_sem, k0, k1]) rfl ⟨A3, 6, c3, ret_put HP.out.1 HB.out, by rw [HP.out.2]; exact HW4.out.1, HW4.out.2⟩
      · have HP := Lib.hid (HPT.out hp)
        have HB := Lib.hid hp
        have hz0 := hz1.c0
        have yc0 := hy1.c0
        have yc1 := hy1.c1
        have hz1' := hz1.c1
        have hy4 := (hy1.set0 (f + 1)).set1 (some ⟨g, 1, none⟩) 6 (c2 - 1)
        have k0 := hy4.c0
        have k1 := hy4.c1
        have HW4 : Hid (RowS ((W1.setCell ⟨w.heap.size + 1, 0, none⟩ (.int .i64 (f + 1))).setCell ⟨w.heap.size + 1, 1, none⟩ (.slice (some ⟨g, 1, none⟩) 6 (c2 - 1))) w.heap.size (some ⟨g, 1, none⟩) 6 (c2 - 1) ((xs ++ [ev]).drop 1) ∧ Below w.heap.size w ((W1.setCell ⟨w.heap.size + 1, 0, none⟩ (.int .i64 (f + 1))).setCell ⟨w.heap.size + 1, 1, none⟩ (.slice (some ⟨g, 1, none⟩) 6 (c2 - 1)))) :=
          ⟨((hrow1.grown_ge (by omega) (grown_set1 _ _ _ _)).grown_ge (by omega) (grown_set1 _ _ _ _)).more (by omega), (hbel1.setCell (by show w.heap.size ≤ w.heap.size + 1; omega) _).setCell (by show w.heap.size ≤ w.heap.size + 1; omega) _⟩
        clear hrow1 hbel1 HPT hp
        go_wp2_with fail
        exact bodyPost_ret (v := .tuple #[.agg #[.int .i64 (f + 1), .slice (some ⟨g, 1, none⟩) 6 (c2 - 1)], .bool true]) (by simp [results, Try.results30, go_sem, k0, k1]) rfl ⟨(some ⟨g, 1, none⟩), 6, (c2 - 1), ret_put HP.out.1 HB.out, by rw [HP.out.2]; exact HW4.out.1, HW4.out.2⟩
    · have h6' : n < 6 := by omega
      have HRB := Lib.hid (put_ring_more (e := ev) HV.out (by rw [HL.out]; exact h6'))
      have HPT := Lib.hid (fun hp => put_more (e := ev) HV.out hp (by rw [HL.out]; exact h6))
      have hst : PutStW w wc B f A n c f (some ⟨g, 0, none⟩) (n + 1) c2 (xs ++ [ev]) :=
        ⟨hbx, hxx, hyy, RowS.of_own hown (by omega), hbel⟩
      have hb0 := hbx.c0
      have hb1 := hbx.c1
      clear hbx hown hxx hyy hbel h6
      go_wp2_with fail
      clear hb0 hb1
      have hrow := hst.row
      refine (specRingValid_any f (some ⟨g, 0, none⟩) (n + 1) c2 (xs ++ [ev]) _ hrow.rd).mono ?_
      rintro e W1 ⟨rfl, b1⟩
      rw [HRB.out]
      have hx1 := hst.hx.below b1
      have hy1 := hst.hy.below b1
      have hz1 := hst.hb.below b1
      have hrow1 := hrow.below b1
      have hbel1 := below_step hst.bel b1
      have hsz1 := hy1.lt
      have yf0 := hy1.f0
      have yf1 := hy1.f1
      clear hst b1 hrow HRB
      cases hp : putB f xs ev
      · have HP := Lib.hid (put_not HV.out hp)
        have HB := Lib.hid hp
        clear hp hz1 hrow1 HPT
        have hr1 := h.below hbel1
        have hc0 := hx1.c0
        have hc1 := hx1.c1
        have hnb : w.heap.size < W1.heap.size := by omega
        go_upto_region 7 with fail
        go_region_held3 (fun w' => w'.cell? ⟨w.heap.size, 0, none⟩ = some (.int .i64 f) ∧ w'.cell? ⟨w.heap.size, 1, none⟩ = some (.slice A n c))
          ((first
            | (refine keep2 ?_ hnb hc0 hc1; (repeat (first | with_reducible exact hb3 | with_reducible exact Below.refl _ _ | with_reducible refine below_drew_ ?_ | (with_reducible refine Below.alloc ?_ ?_ _; (rotate_left; (first | omega | (simp <;> omega)))))); done)
            | go_keep))
          ((refine step_append_rd _ (by rfl) (.tmp 37) (.tmp 39) (by rfl) W1.heap.size _ 0 0 [] (by rfl) (by (repeat (first | ((with_reducible refine Own.made_ ?_ ?_) <;> (first | with_reducible rfl | omega | (simp; done) | (simp; omega))) | with_reducible refine Own.drew ?_ | with_reducible refine Own.alloc ?_ _))) A n c xs (by rfl) (by (repeat (first | with_reducible exact hr1 | with_reducible refine Rd.drew ?_ | with_reducible refine Rd.alloc ?_ _))) (by omega) (by first | omega | (simp; done) | (simp; omega)) n (by omega) ?_
            intro A3 c3 w3 ho3 hgrow3 hbel3
            have hb3 : Below W1.heap.size W1 w3 := Below.trans (by (repeat (first | with_reducible exact Below.refl _ _ | with_reducible refine below_drew_ ?_ | (with_reducible refine Below.alloc ?_ ?_ _; (rotate_left; (first | omega | (simp <;> omega))))))) (hbel3 _ (Nat.le_refl _))
            rw [List.nil_append] at ho3
            have hy3 := hy1.below hb3
            have hx3 := hx1.below hb3
            have hd0 := hx3.c0
            have hd1 := hx3.c1
            have zc0 := hy3.c0
            have zc1 := hy3.c1
            have zf0 := hy3.f0
            have zf1 := hy3.f1
            clear hgrow3 hbel3))
        all_goals
          have hy4 := (hy3.set0 f).set1 A3 n c3
          have k0 := hy4.c0
          have k1 := hy4.c1
          have HW4 : Hid (RowS ((w3.setCell ⟨w.heap.size + 1, 0, none⟩ (.int .i64 f)).setCell ⟨w.heap.size + 1, 1, none⟩ (.slice A3 n c3)) w.heap.size A3 n c3 xs ∧ Below w.heap.size w ((w3.setCell ⟨w.heap.size + 1, 0, none⟩ (.int .i64 f)).setCell ⟨w.heap.size + 1, 1, none⟩ (.slice A3 n c3))) :=
            ⟨(((RowS.of_own ho3 (by omega)).grown_ge (by omega) (grown_set1 _ _ _ _)).grown_ge (by omega) (grown_set1 _ _ _ _)).more (by omega), ((below_step hbel1 hb3).setCell (by show w.heap.size ≤ w.heap.size + 1; omega) _).setCell (by show w.heap.size ≤ w.heap.size + 1; omega) _⟩
          clear hd0 hd1 zc0 zc1 zf0 zf1 yf0 yf1 hc0 hc1
          go_wp2_with fail
          exact bodyPost_ret (v := .tuple #[.agg #[.int .i64 f, .slice A3 n c3], .bool false]) (by simp [results, Try.results30, go_sem, k0, k1]) rfl ⟨A3, n, c3, ret_put HP.out.1 HB.out, by rw [HP.out.2]; exact HW4.out.1, HW4.out.2⟩
      · have HP := Lib.hid (HPT.out hp)
        have HB := Lib.hid hp
        have hz0 := hz1.c0
        have yc0 := hy1.c0
        have yc1 := hy1.c1
        have hz1' := hz1.c1
        have hy4 := (hy1.set0 f).set1 (some ⟨g, 0, none⟩) (n + 1) c2
        have k0 := hy4.c0
        have k1 := hy4.c1
        have HW4 : Hid (RowS ((W1.setCell ⟨w.heap.size + 1, 0, none⟩ (.int .i64 f)).setCell ⟨w.heap.size + 1, 1, none⟩ (.slice (some ⟨g, 0, none⟩) (n + 1) c2)) w.heap.size (some ⟨g, 0, none⟩) (n + 1) c2 (xs ++ [ev]) ∧ Below w.heap.size w ((W1.setCell ⟨w.heap.size + 1, 0, none⟩ (.int .i64 f)).setCell ⟨w.heap.size + 1, 1, none⟩ (.slice (some ⟨g, 0, none⟩) (n + 1) c2))) :=
          ⟨((hrow1.grown_ge (by omega) (grown_set1 _ _ _ _)).grown_ge (by omega) (grown_set1 _ _ _ _)).more (by omega), (hbel1.setCell (by show w.heap.size ≤ w.heap.size + 1; omega) _).setCell (by show w.heap.size ≤ w.heap.size + 1; omega) _⟩
        clear hrow1 hbel1 HPT hp
        go_wp2_with fail
        exact bodyPost_ret (v := .tuple #[.agg #[.int .i64 f, .slice (some ⟨g, 0, none⟩) (n + 1) c2], .bool true]) (by simp [results, Try.results30, go_sem, k0, k1]) rfl ⟨(some ⟨g, 0, none⟩), (n + 1), c2, ret_put HP.out.1 HB.out, by rw [HP.out.2]; exact HW4.out.1, HW4.out.2⟩
end Go.Proofs.Ytjhnpnmpnmmpbaa

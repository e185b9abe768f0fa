/-
  The walk of the law FnRingPut.
-/
import Derived.Test.YtjhnpnmpnmmpbaaRingLaws5
namespace Go.Proofs.Ytjhnpnmpnmmpbaa
open Go.RowKit
attribute [local go_sem ↓] Go.wp_at_zero Go.wp_at_succ

theorem put_read {f e : Int} {xs : List Int} (hp : putB f xs e = true) : nextZ (putF f xs e) (putL f xs e) = nextZ f xs + 1 ∧ readL (putF f xs e) (putL f xs e) (nextZ f xs) = [e] ∧ readZ (putF f xs e) (putL f xs e) (nextZ f xs) = 0 ∧ ringB (putF f xs e) (putL f xs e) = true ∧ 0 < (putL f xs e).length := by
  have hv := (putB_true.1 hp).1
  have hv' := put_valid (e := e) hv
  obtain ⟨a, b, c, _⟩ := ringB_true.1 hv
  have hl := put_len hv hp
  have hla := put_last hv hp
  rw [nextZ_yes hv, nextZ_yes hv']
  have hff : putF f xs e ≤ f + xs.length := by
    by_cases h6 : xs.length = 6
    · rw [(put_full hv hp h6).1]; omega
    · rw [(put_more hv hp h6).1]; omega
  have hf0 := (ringB_true.1 hv').1
  have hr : readB (putF f xs e) (putL f xs e) (f + xs.length) = true := readB_true.2 ⟨hv', by omega, by omega⟩
  obtain ⟨g1, g2⟩ := read_new hr (by omega)
  rw [g1, g2, hla]
  refine ⟨by omega, rfl, rfl, hv', ?_⟩
  cases hn : putL f xs e with
  | nil => rw [hn] at hla; simp at hla
  | cons x t => simp

/-- what stands behind both RingPuts -/
structure PSt (w W : World) (B3 B5 : Nat) (f : Int) (A : Option Addr) (n c : Nat) (xs : List Int) (fy : Int) (A5 : Option Addr) (n5 c5 : Nat) (ys : List Int) : Prop where
  hx : Bx W B3 27 f A n c
  hy : Bx W B5 27 fy A5 n5 c5
  rx : Rd W A n xs
  ry : Rd W A5 n5 ys
  bel : Below w.heap.size w W
section
variable {w W W' : World} {B3 B5 : Nat} {f fy : Int} {A A5 : Option Addr} {n c n5 c5 : Nat} {xs ys : List Int}
theorem PSt.below (h : PSt w W B3 B5 f A n c xs fy A5 n5 c5 ys) (hb : Below W.heap.size W W') : PSt w W' B3 B5 f A n c xs fy A5 n5 c5 ys :=
  ⟨h.hx.below hb, h.hy.below hb, h.rx.below hb, h.ry.below hb, below_step h.bel hb⟩
theorem PSt.drew (h : PSt w W B3 B5 f A n c xs fy A5 n5 c5 ys) : PSt w W.drew B3 B5 f A n c xs fy A5 n5 c5 ys := ⟨h.hx.drew, h.hy.drew, h.rx.drew, h.ry.drew, below_drew_ h.bel⟩
theorem PSt.drewN (h : PSt w W B3 B5 f A n c xs fy A5 n5 c5 ys) (q : Nat) : PSt w (W.drewN q) B3 B5 f A n c xs fy A5 n5 c5 ys := ⟨h.hx.drewN q, h.hy.drewN q, h.rx.drewN q, h.ry.drewN q, below_drewN_ h.bel q⟩
theorem PSt.alloc (h : PSt w W B3 B5 f A n c xs fy A5 n5 c5 ys) (o : Obj) : PSt w (W.alloc o) B3 B5 f A n c xs fy A5 n5 c5 ys := h.below (below_new W o)
theorem PSt.cells (h : PSt w W B3 B5 f A n c xs fy A5 n5 c5 ys) : (W.cell? ⟨B3, 0, none⟩ = some (.int .i64 f) ∧ W.cell? ⟨B3, 1, none⟩ = some (.slice A n c)) ∧ W.cell? ⟨B5, 0, none⟩ = some (.int .i64 fy) ∧ W.cell? ⟨B5, 1, none⟩ = some (.slice A5 n5 c5) :=
  ⟨⟨h.hx.c0, h.hx.c1⟩, h.hy.c0, h.hy.c1⟩
end

set_option maxHeartbeats 6400000 in
set_option maxRecDepth 100000 in
theorem walk_FnRingPut (a0 : Option Addr) (len0 cap0 : Nat) (z0 : List Int) (w : World) (w0 : IsRow .u8 w a0 len0 cap0 z0) :
    Calls Try.prog 12 #[.slice a0 len0 cap0] w fun e w' => e = .returned (.bool true) ∧ Below w.heap.size w w' := by
  by_cases hlen : 1048576 < len0
  · go_enter Try.func12, Try.ntmps12
    go_wp2
    go_ret
    exact ⟨rfl, Below.refl _ _⟩
  · go_enter Try.func12, Try.ntmps12
    go_wp2_with fail
    refine (DrawRingPut_any a0 len0 cap0 z0 _ w0).mono ?_
    rintro e w1 ⟨f, A, n, c, xs, m, rfl, v1, v2, hn7, hnc, hN, hm1, hm2, rd1, b1⟩
    have b02 : Below w.heap.size w (w1.alloc (ringBox f A n c)) := b1.alloc b1.size _
    have hx2 := Bx.new w1 27 f A n c
    have rd2 := rd1.alloc (ringBox f A n c)
    have hc0 := hx2.c0
    have hc1 := hx2.c1
    clear b1 rd1 hN
    have HPR := Lib.hid (fun hp => put_read (f := f) (xs := xs) (e := m) hp)
    have HPN := Lib.hid (fun hv hp => put_not (f := f) (xs := xs) (e := m) hv hp)
    generalize hgf : putF f xs m = fy at *
    generalize hgl : putL f xs m = ys at *
    generalize hgb : putB f xs m = b at *
    have HG := Lib.hid (And.intro hgf (And.intro hgl hgb))
    clear hgf hgl hgb
    go_wp2_with fail
    refine (implRingPut_any f A n c xs m _ rd2).mono ?_
    rintro e w3 ⟨A5, n5, c5, rfl, hnc5, r3, b3⟩
    rw [HG.out.1, HG.out.2.2]
    rw [HG.out.2.1] at r3
    have hy4 := Bx.new w3 27 fy A5 n5 c5
    have hx4 := (hx2.below b3).alloc (ringBox fy A5 n5 c5)
    have rd4 := (rd2.below b3).alloc (ringBox fy A5 n5 c5)
    have r4 := r3.rd.alloc (ringBox fy A5 n5 c5)
    have b04 : Below w.heap.size w (w3.alloc (ringBox fy A5 n5 c5)) := (below_step b02 b3).alloc (below_step b02 b3).size _
    have hN5 : 0 < n5 → A5 = none → c5 = 0 := fun h0 e => by
      obtain ⟨_, _, e', _⟩ := r3.2.2 h0
      rw [e] at e'; cases e'
    have HN5 := Lib.hid hN5
    have st4 : PSt w _ w1.heap.size w3.heap.size f A n c xs fy A5 n5 c5 ys := ⟨hx4, hy4, rd4, r4, b04⟩
    clear hc0 hc1 hx2 rd2 b02 b3 r3 hN5
    have hc0 := hx4.c0
    have hc1 := hx4.c1
    go_wp2_with fail
    clear hc0 hc1 hx4 hy4 rd4 r4 b04
    refine (specRingPut_any f A n c xs m _ st4.rx).mono ?_
    rintro e w5 ⟨A7, n7, c7, rfl, _, r5, b5⟩
    rw [HG.out.1, HG.out.2.2]
    rw [HG.out.2.1] at r5
    have st6 := (st4.below b5).alloc (ringBox fy A7 n7 c7)
    have hz6 := Bx.new w5 27 fy A7 n7 c7
    have r6 := r5.rd.alloc (ringBox fy A7 n7 c7)
    clear st4 b5 r5
    have hc0 := st6.hy.c0
    have hc1 := st6.hy.c1
    have hd0 := hz6.c0
    have hd1 := hz6.c1
    go_wp2_with fail
    refine (sameRing_any fy fy A5 A7 n5 n7 c5 c7 ys ys _ st6.ry r6).mono ?_
    rintro e w7 ⟨rfl, b7⟩
    rw [sameR_true]
    have st7 := st6.below b7
    clear hc0 hc1 hd0 hd1 hz6 r6 st6 b7
    cases b
    · have hc0 := st7.hx.c0
      have hc1 := st7.hx.c1
      have hd0 := st7.hy.c0
      have hd1 := st7.hy.c1
      go_wp2_with fail
      refine (sameRing_any fy f A5 A n5 n c5 c ys xs _ st7.ry st7.rx).mono ?_
      rintro e w8 ⟨rfl, b8⟩
      have st8 := st7.below b8
      clear st7 hc0 hc1 hd0 hd1 b8
      cases hv : ringB f xs
      · have hc0 := st8.hx.c0
        have hc1 := st8.hx.c1
        generalize (decide (fy = f) && sameB ys xs) = b2
        cases b2
        · go_wp2_with fail
          refine (implRingValid_any f A n c xs _ st8.rx).mono ?_
          rintro e w9 ⟨rfl, b9⟩
          rw [hv]
          clear hc0 hc1
          go_wp2_with fail
          refine (alive_any _).mono ?_
          rintro e w10 ⟨rfl, b10⟩
          go_wp2_with fail
          go_ret
          exact ⟨rfl, below_step (below_step st8.bel b9) b10⟩
        · clear hc0 hc1
          go_wp2_with fail
          refine (alive_any _).mono ?_
          rintro e w10 ⟨rfl, b10⟩
          go_wp2_with fail
          go_ret
          exact ⟨rfl, below_step st8.bel b10⟩
      · obtain ⟨p1, p2⟩ := HPN.out hv (by trivial)
        have hsame : (decide (fy = f) && sameB ys xs) = true := by rw [p1, p2]; exact sameR_true f xs
        rw [hsame]
        clear p1 p2 hsame hv
        go_wp2_with fail
        refine (alive_any _).mono ?_
        rintro e w10 ⟨rfl, b10⟩
        go_wp2_with fail
        go_ret
        exact ⟨rfl, below_step st8.bel b10⟩
    · obtain ⟨q1, q2, q3, q4, q5⟩ := HPR.out (by trivial)
      obtain ⟨hnz1, hnz2⟩ := nextZ_bd f xs
      rw [st7.ry.len] at q5
      have HN5' := Lib.hid (HN5.out q5)
      generalize hnx : nextZ f xs = nx at *
      have HQ := Lib.hid (And.intro hnx (And.intro q1 (And.intro q2 (And.intro q3 q4))))
      clear hnx q1 q2 q3 q4
      have hw1 : IntKind.i64.wrap (nx + 1) = nx + 1 := IntWalk.i64_in _ (by omega)
      obtain ⟨⟨hc0, hc1⟩, hd0, hd1⟩ := st7.cells
      go_upto_region 10 with fail
      go_region_held3 (fun w' => (w'.cell? ⟨w1.heap.size, 0, none⟩ = some (.int .i64 f) ∧ w'.cell? ⟨w1.heap.size, 1, none⟩ = some (.slice A n c)) ∧ w'.cell? ⟨w3.heap.size, 0, none⟩ = some (.int .i64 fy) ∧ w'.cell? ⟨w3.heap.size, 1, none⟩ = some (.slice A5 n5 c5))
        ((refine PSt.cells (w := w) (xs := xs) (ys := ys) ?_; (repeat (first | with_reducible exact st9 | with_reducible exact st8 | with_reducible exact st7 | with_reducible refine PSt.drew ?_ | with_reducible refine PSt.alloc ?_ _))))
        ((first
          | (go_at_call 19
             refine (implRingNext_any f A n c xs _ (by (repeat (first | with_reducible exact st7.rx | with_reducible refine Rd.drew ?_)))).mono ?_
             rintro e w8 ⟨rfl, b8⟩
             rw [HQ.out.1]
             have st8 : PSt w w8 w1.heap.size w3.heap.size f A n c xs fy A5 n5 c5 ys := PSt.below (by (repeat (first | with_reducible exact st7 | with_reducible refine PSt.drew ?_))) b8)
          | (go_at_call 21
             refine (implRingRead_any fy A5 n5 c5 ys nx _ (by (repeat (first | with_reducible exact st8.ry | with_reducible refine Rd.drew ?_))) hnc5 HN5'.out (by omega) (by omega)).mono ?_
             rintro e w9 ⟨A9, n9, c9, rfl, _, r9, b9⟩
             rw [HQ.out.2.2.1] at r9
             rw [HQ.out.2.2.2.1]
             have st9 : PSt w w9 w1.heap.size w3.heap.size f A n c xs fy A5 n5 c5 ys := PSt.below (by (repeat (first | with_reducible exact st8 | with_reducible refine PSt.drew ?_))) b9)))
      all_goals
        clear hc0 hc1 hd0 hd1 st7 st8
        obtain ⟨⟨hc0, hc1⟩, hd0, hd1⟩ := st9.cells
        have hse : sameB [m] [m] = true := sameB_refl _
        go_upto_region 11 with fail
        go_region_held3 (fun w' => (w'.cell? ⟨w1.heap.size, 0, none⟩ = some (.int .i64 f) ∧ w'.cell? ⟨w1.heap.size, 1, none⟩ = some (.slice A n c)) ∧ w'.cell? ⟨w3.heap.size, 0, none⟩ = some (.int .i64 fy) ∧ w'.cell? ⟨w3.heap.size, 1, none⟩ = some (.slice A5 n5 c5))
          ((refine PSt.cells (w := w) (xs := xs) (ys := ys) ?_; (repeat (first | with_reducible exact st12 | with_reducible exact st11 | with_reducible exact st10 | with_reducible exact st9 | with_reducible refine PSt.drew ?_ | with_reducible refine PSt.drewN ?_ _ | with_reducible refine PSt.alloc ?_ _))))
          ((first
            | (go_at_call 16
               refine (implRingValid_any fy A5 n5 c5 ys _ (by (repeat (first | with_reducible exact st9.ry | with_reducible refine Rd.drew ?_)))).mono ?_
               rintro e w10 ⟨rfl, b10⟩
               rw [HQ.out.2.2.2.2]
               have st10 : PSt w w10 w1.heap.size w3.heap.size f A n c xs fy A5 n5 c5 ys := PSt.below (by (repeat (first | with_reducible exact st9 | with_reducible refine PSt.drew ?_))) b10
               have r10 := (r9.rd.below (by (repeat (first | with_reducible exact Below.refl _ _ | with_reducible refine below_drew_ ?_)) : Below w9.heap.size w9 w9.drew)).below b10)
            | (go_at_call 19
               have hq := st10.ry
               with_reducible refine (implRingNext_any fy A5 n5 c5 ys _ (by (repeat (first | with_reducible exact hq | with_reducible refine Rd.drew ?_)))).mono ?_
               rintro e w11 ⟨rfl, b11⟩
               rw [HQ.out.2.1]
               have st11 : PSt w w11 w1.heap.size w3.heap.size f A n c xs fy A5 n5 c5 ys := PSt.below (by (repeat (first | with_reducible exact st10 | with_reducible refine PSt.drew ?_))) b11
               have r11 := r10.below b11
               clear hq)
            | (go_at_call 19
               have hq := st11.rx
               with_reducible refine (implRingNext_any f A n c xs _ (by (repeat (first | with_reducible exact hq | with_reducible refine Rd.drew ?_)))).mono ?_
               rintro e w12 ⟨rfl, b12⟩
               rw [HQ.out.1]
               have st12 : PSt w w12 w1.heap.size w3.heap.size f A n c xs fy A5 n5 c5 ys := PSt.below (by (repeat (first | with_reducible exact st11 | with_reducible refine PSt.drew ?_))) b12
               have r12 := r11.below b12
               clear hq)
            | (go_at_call 35
               refine (sameInts_any A9 _ n9 1 c9 1 [m] [m] _ (by (repeat (first | with_reducible exact r12 | with_reducible refine Rd.drew ?_ | with_reducible refine Rd.alloc ?_ _))) (rd_built _ [m] (by simp))).mono ?_
               rintro e w13 ⟨rfl, q13, rfl⟩
               rw [hse])))
        all_goals
          have hbel := below_drewN_ (st12.alloc (.cells #[.int .i64 m] 3)).bel q13
          clear st9 st10 st11 st12 hc0 hc1 hd0 hd1
          go_wp2_with fail
          go_ret
          exact ⟨rfl, hbel⟩
end Go.Proofs.Ytjhnpnmpnmmpbaa

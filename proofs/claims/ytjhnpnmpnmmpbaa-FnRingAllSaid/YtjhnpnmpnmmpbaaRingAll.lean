/-
  RingAll of the program and of the reference.
-/
import Derived.Test.YtjhnpnmpnmmpbaaRingPutA
namespace Go.Proofs.Ytjhnpnmpnmmpbaa
open Go.RowKit
attribute [local go_sem ↓] Go.wp_at_zero Go.wp_at_succ

/-- what stands at the head of RingAll's loop: box 1 holds the ring, box 0 the result -/
structure AllSt (w wr : World) (f : Int) (A : Option Addr) (n c : Nat) (xs : List Int) : Prop where
  hx : Bx wr (w.heap.size + 1) 27 f A n c
  hy : Bx wr w.heap.size 27 0 none 0 0
  row : Row wr (w.heap.size + 2) A n xs
  cap : n ≤ c
  bel : Below w.heap.size w wr

theorem AllSt.start (w : World) : AllSt w ((w.alloc (ringBox 0 none 0 0)).alloc (ringBox 0 none 0 0)) 0 none 0 0 [] := by
  refine ⟨?_, (Bx.new w _ 0 none 0 0).alloc _, Row.nil_, Nat.le_refl _, (below_box w _).alloc (by simp) _⟩
  have := Bx.new (w.alloc (ringBox 0 none 0 0)) 27 0 none 0 0
  simpa using this
section
variable {w wr w2 : World} {f f' : Int} {A A' : Option Addr} {n c n' c' g : Nat} {xs ys : List Int}
theorem AllSt.put_ (hx : Bx w2 (w.heap.size + 1) 27 f A n c) (hy : Bx w2 w.heap.size 27 0 none 0 0) (hb : Below w.heap.size w w2) (hr : Row w2 (w.heap.size + 2) A' n' ys) (hc : n' ≤ c') : AllSt w ((w2.setCell ⟨w.heap.size + 1, 0, none⟩ (.int .i64 f')).setCell ⟨w.heap.size + 1, 1, none⟩ (.slice A' n' c')) f' A' n' c' ys :=
  ⟨(hx.set0 f').set1 A' n' c', (hy.far (by omega) _).far (by omega) _, (hr.grown_ge (by omega) (grown_set1 _ _ _ _)).grown_ge (by omega) (grown_set1 _ _ _ _), hc, (hb.setCell (by show w.heap.size ≤ w.heap.size + 1; omega) _).setCell (by show w.heap.size ≤ w.heap.size + 1; omega) _⟩
theorem AllSt.put (h : AllSt w w2 f A n c xs) (hr : Row w2 (w.heap.size + 2) A' n' ys) (hc : n' ≤ c') : AllSt w ((w2.setCell ⟨w.heap.size + 1, 0, none⟩ (.int .i64 f')).setCell ⟨w.heap.size + 1, 1, none⟩ (.slice A' n' c')) f' A' n' c' ys :=
  AllSt.put_ h.hx h.hy h.bel hr hc
theorem AllSt.below (h : AllSt w wr f A n c xs) (hb : Below wr.heap.size wr w2) : AllSt w w2 f A n c xs :=
  ⟨h.hx.below hb, h.hy.below hb, h.row.below hb, h.cap, below_step h.bel hb⟩
theorem AllSt.size (h : AllSt w wr f A n c xs) : w.heap.size + 2 ≤ wr.heap.size := h.hx.lt
end

/-- a ring out of events -/
def AllGot (w : World) (f : Int) (ys : List Int) (e : Ending) (w' : World) : Prop :=
  ∃ (A : Option Addr) (n c : Nat), e = .returned (.agg #[.int .i64 f, .slice A n c]) ∧ n ≤ c ∧ Row w' w.heap.size A n ys ∧ Below w.heap.size w w'
theorem ret_all {f f' : Int} {A : Option Addr} {n c : Nat} (h : f' = f) : Ending.returned (.agg #[.int .i64 f, .slice A n c]) = .returned (.agg #[.int .i64 f', .slice A n c]) := by rw [h]

/-- the ring behind k events, hidden -/
def RingIs (es : List Int) (k : Nat) (f : Int) (xs : List Int) : Prop := (allTo es k).1 = f ∧ (allTo es k).2 = xs
theorem RingIs.zero (es : List Int) : RingIs es 0 0 [] := ⟨rfl, rfl⟩
theorem RingIs.succ {es xs : List Int} {k : Nat} {f : Int} (h : RingIs es k f xs) : RingIs es (k + 1) (putF f xs (nth es k)) (putL f xs (nth es k)) := by
  obtain ⟨rfl, rfl⟩ := h
  exact ⟨rfl, rfl⟩

set_option maxHeartbeats 1600000 in
theorem implRingAll_any (E : Option Addr) (m d : Nat) (es : List Int) (w : World) (h : Rd w E m es) :
    Calls Try.prog 28 #[.slice E m d] w (AllGot w (allTo es es.length).1 (allTo es es.length).2) := by
  have hm := h.le
  have HL := Lib.hid h.len
  have hst := AllSt.start w
  go_enter Try.func28, Try.ntmps28
  go_wp2_with fail
  go_loopw [8] (fun i wr => ∃ (k n c : Nat) (f : Int) (A : Option Addr) (xs : List Int), k ≤ m ∧ i = .int .i64 k ∧ RingIs es k f xs ∧ AllSt w wr f A n c xs) (fun i _ => m - (intOf i).toNat)
  case atStart => exact ⟨0, 0, 0, 0, none, [], Nat.zero_le _, rfl, RingIs.zero es, hst⟩
  case round =>
    obtain ⟨k, n, c, f, A, xs, hk, rfl, hi, hs⟩ := hrel
    clear hst
    have hx0 := hs.hx.c0
    have hx1 := hs.hx.c1
    by_cases hlt : k < m
    · obtain ⟨g, off, rfl, hg, hcell⟩ := (h.below hs.bel).at_ hlt
      go_wp2_with fail
      refine (implRingPut_any f A n c xs (nth es k) _ hs.row.rd).mono ?_
      rintro e w2 ⟨A', n', c', rfl, hcap, hr', b'⟩
      have hs2 := hs.below b'
      have hz := hs.size
      have y0 := hs2.hx.c0
      have y1 := hs2.hx.c1
      have z0 := hs2.hx.f0
      have z1 := hs2.hx.f1
      have HS := Lib.hid (hs2.put (f' := putF f xs (nth es k)) (hr'.more hz) hcap)
      clear hs hs2 hx0 hx1
      go_wp2_with fail
      go_roundw
      case rel => exact ⟨k + 1, n', c', _, A', _, by omega, by go_num, hi.succ, HS.out⟩
      case measure => simp [intOf]; omega
    · obtain rfl : k = m := by omega
      have y0 := hs.hy.c0
      have y1 := hs.hy.c1
      have z0 := hs.hy.f0
      have z1 := hs.hy.f1
      have hv := (hs.hy.set0 f).set1 A n c
      have v0 := hv.c0
      have v1 := hv.c1
      go_wp2_with fail
      refine bodyPost_ret (v := .agg #[.int .i64 f, .slice A n c]) (by simp [results, Try.results28, go_sem, v0, v1]) rfl ⟨A, n, c, ret_all (by rw [HL.out]; exact hi.1), hs.cap, ?_, (hs.bel.setCell (Nat.le_refl _) _).setCell (Nat.le_refl _) _⟩
      rw [HL.out, hi.2]
      exact ((hs.row.grown_ge (by omega) (grown_set1 _ _ _ _)).grown_ge (by omega) (grown_set1 _ _ _ _)).more (by omega)

set_option maxHeartbeats 3200000 in
set_option maxRecDepth 100000 in
theorem specRingAll_any (E : Option Addr) (m d : Nat) (es : List Int) (w : World) (h : Rd w E m es) :
    Calls Try.prog 26 #[.slice E m d] w (AllGot w (allTo es es.length).1 (allTo es es.length).2) := by
  have hm := h.le
  have HL := Lib.hid h.len
  have hst := AllSt.start w
  go_enter Try.func26, Try.ntmps26
  go_wp2_with fail
  go_loopw [4] (fun i wr => ∃ (k n c : Nat) (f : Int) (A : Option Addr) (xs : List Int), k ≤ m ∧ i = .int .i64 k ∧ RingIs es k f xs ∧ AllSt w wr f A n c xs) (fun i _ => m - (intOf i).toNat)
  case atStart => exact ⟨0, 0, 0, 0, none, [], Nat.zero_le _, rfl, RingIs.zero es, hst⟩
  case round =>
    obtain ⟨k, n, c, f, A, xs, hk, rfl, hi, hs⟩ := hrel
    clear hst
    by_cases hlt : k < m
    · obtain ⟨g, off, rfl, hg, hcell⟩ := (h.below hs.bel).at_ hlt
      have hx0 := hs.hx.c0
      have hx1 := hs.hx.c1
      have i1 : (0 : Int) ≤ (k : Int) := by omega
      have i2 : (k : Int) < (m : Int) := by omega
      have hrow := hs.row
      have hz := hs.size
      have hB : ∀ w', Below wr.heap.size wr w' → (w'.cell? ⟨w.heap.size + 1, 0, none⟩ = some (.int .i64 f) ∧ w'.cell? ⟨w.heap.size + 1, 1, none⟩ = some (.slice A n c)) ∧ w'.cell? ⟨g, off + k, none⟩ = some (.int .i64 (nth es k)) :=
        fun w' hb => ⟨keep2 hb (by omega) hx0 hx1, (hb.cell (p := ⟨g, off + k, none⟩) hg).trans hcell⟩
      have HB := Lib.hid hB
      clear hB
      go_upto_region 5 with fail
      go_region_held3 (fun w' => (w'.cell? ⟨w.heap.size + 1, 0, none⟩ = some (.int .i64 f) ∧ w'.cell? ⟨w.heap.size + 1, 1, none⟩ = some (.slice A n c)) ∧ w'.cell? ⟨g, off + k, none⟩ = some (.int .i64 (nth es k)))
        ((refine HB.out _ ?_; (repeat (first | with_reducible exact hb2 | with_reducible exact Below.refl _ _ | with_reducible refine below_drew_ ?_ | (with_reducible refine Below.alloc ?_ ?_ _; (rotate_left; (first | omega | (simp <;> omega)))) | (with_reducible refine Below.setCell ?_ ?_ _; (rotate_left; ((try dsimp only); omega)))))))
        ((go_at_call 30
          refine (specRingPut_any f A n c xs (nth es k) _ (by (repeat (first | with_reducible exact hrow.rd | with_reducible refine Rd.drew ?_ | with_reducible refine Rd.alloc ?_ _)))).mono ?_
          rintro e w2 ⟨A', n', c', rfl, hcap, hr', b'⟩
          have hb2 : Below wr.heap.size wr w2 := below_step (by (repeat (first | with_reducible exact Below.refl _ _ | with_reducible refine below_drew_ ?_ | (with_reducible refine Below.alloc ?_ ?_ _; (rotate_left; (first | omega | (simp <;> omega))))))) b'
          have hsz2 := hb2.size
          (first
            | (refine have_of (p := Bx w2 wr.heap.size 27 0 none 0 0) ?_ ?_; (focus (refine Bx.below ?_ b'; (repeat (first | (with_reducible refine Bx.new_ _ _ _ _ _ ?_; (first | with_reducible rfl | (simp; done))) | with_reducible refine Bx.drew ?_ | with_reducible refine Bx.alloc ?_ _)); done)); intro hR2; have r20 := hR2.c0; have r21 := hR2.c1; have rf20 := hR2.f0; have rf21 := hR2.f1)
            | skip)))
      · have hs2 := (hs.below hb2).below (below_new w2 (ringBox (putF f xs (nth es k)) A' n' c'))
        have hq := Bx.new w2 27 (putF f xs (nth es k)) A' n' c'
        have q0 := hq.c0
        have q1 := hq.c1
        have y0 := hs2.hx.c0
        have y1 := hs2.hx.c1
        have z0 := hs2.hx.f0
        have z1 := hs2.hx.f1
        have HS := Lib.hid (hs2.put (f' := putF f xs (nth es k)) ((hr'.alloc (ringBox (putF f xs (nth es k)) A' n' c')).more hz) hcap)
        clear hs hs2 hx0 hx1 hq hr' b' hb2 hrow hcell HB
        go_wp2_with fail
        go_roundw
        case rel => exact ⟨k + 1, n', c', _, A', _, by omega, by go_num, hi.succ, HS.out⟩
        case measure => simp [intOf]; omega
      · have hs2 := hs.below hb2
        have hq := (hR2.set0 (putF f xs (nth es k))).set1 A' n' c'
        have q0 := hq.c0
        have q1 := hq.c1
        have hx3 := (hs2.hx.far (g := wr.heap.size) (i := 0) (by omega) (.int .i64 (putF f xs (nth es k)))).far (g := wr.heap.size) (i := 1) (by omega) (.slice A' n' c')
        have hy3 := (hs2.hy.far (g := wr.heap.size) (i := 0) (by omega) (.int .i64 (putF f xs (nth es k)))).far (g := wr.heap.size) (i := 1) (by omega) (.slice A' n' c')
        have y0 := hx3.c0
        have y1 := hx3.c1
        have z0 := hx3.f0
        have z1 := hx3.f1
        have HS := Lib.hid (AllSt.put_ (f' := putF f xs (nth es k)) hx3 hy3 ((hs2.bel.setCell (by show w.heap.size ≤ wr.heap.size; omega) _).setCell (by show w.heap.size ≤ wr.heap.size; omega) _) (((hr'.grown_ge (by simp) (grown_set1 _ wr.heap.size 0 _)).grown_ge (by simp) (grown_set1 _ wr.heap.size 1 _)).more (by simp; omega)) hcap)
        clear hs hs2 hx0 hx1 hq hr' b' hb2 hrow hcell HB hx3 hy3
        go_wp2_with fail
        go_roundw
        case rel => exact ⟨k + 1, n', c', _, A', _, by omega, by go_num, hi.succ, HS.out⟩
        case measure => simp [intOf]; omega
    · obtain rfl : k = m := by omega
      have hx0 := hs.hx.c0
      have hx1 := hs.hx.c1
      have y0 := hs.hy.c0
      have y1 := hs.hy.c1
      have z0 := hs.hy.f0
      have z1 := hs.hy.f1
      have hv := (hs.hy.set0 f).set1 A n c
      have v0 := hv.c0
      have v1 := hv.c1
      go_wp2_with fail
      refine bodyPost_ret (v := .agg #[.int .i64 f, .slice A n c]) (by simp [results, Try.results26, go_sem, v0, v1]) rfl ⟨A, n, c, ret_all (by rw [HL.out]; exact hi.1), hs.cap, ?_, (hs.bel.setCell (Nat.le_refl _) _).setCell (Nat.le_refl _) _⟩
      rw [HL.out, hi.2]
      exact ((hs.row.grown_ge (by omega) (grown_set1 _ _ _ _)).grown_ge (by omega) (grown_set1 _ _ _ _)).more (by omega)
end Go.Proofs.Ytjhnpnmpnmmpbaa

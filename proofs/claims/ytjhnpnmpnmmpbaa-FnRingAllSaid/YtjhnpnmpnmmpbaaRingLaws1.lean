/-
  The walks of the laws FnExactRingValid and FnExactRingNext.
-/
import Derived.Test.YtjhnpnmpnmmpbaaRing
import Derived.Deep.RegionWith
namespace Go.Proofs.Ytjhnpnmpnmmpbaa
open Go.RowKit

/-- block B is the box of a ring -/
def Bx (w : World) (B : Nat) (t : TypeId) (f : Int) (A : Option Addr) (n c : Nat) : Prop := w.heap[B]? = some (.cells #[.int .i64 f, .slice A n c] t (0, 0))
section
variable {w w' : World} {B : Nat} {t : TypeId} {f : Int} {A : Option Addr} {n c : Nat}
theorem Bx.new (w : World) (t : TypeId) (f : Int) (A : Option Addr) (n c : Nat) : Bx (w.alloc (.cells #[.int .i64 f, .slice A n c] t)) w.heap.size t f A n c := heap_alloc_new w _
theorem Bx.lt (h : Bx w B t f A n c) : B < w.heap.size := (Array.getElem?_eq_some_iff.1 h).1
theorem Bx.c0 (h : Bx w B t f A n c) : w.cell? ⟨B, 0, none⟩ = some (.int .i64 f) := by rw [cell_of_row w B 0 _ _ _ h]; rfl
theorem Bx.c1 (h : Bx w B t f A n c) : w.cell? ⟨B, 1, none⟩ = some (.slice A n c) := by rw [cell_of_row w B 1 _ _ _ h]; rfl
theorem Bx.below (h : Bx w B t f A n c) (hb : Below w.heap.size w w') : Bx w' B t f A n c := (hb.block B h.lt).trans h
theorem Bx.grown (h : Bx w B t f A n c) {g : Nat} (hb : w.grownBy w' (some g)) (hg : B ≠ g) : Bx w' B t f A n c := (hb.block B h.lt (by intro e; injection e with e; exact hg e)).trans h
theorem Bx.alloc (h : Bx w B t f A n c) (o : Obj) : Bx (w.alloc o) B t f A n c := (Below.heap_alloc w o B h.lt).trans h
theorem Bx.drew (h : Bx w B t f A n c) : Bx w.drew B t f A n c := h
theorem Bx.drewN (h : Bx w B t f A n c) (q : Nat) : Bx (w.drewN q) B t f A n c := h
end

set_option maxHeartbeats 1600000 in
theorem walk_FnExactRingValid (f : Int) (a0 : Option Addr) (len0 cap0 : Nat) (z0 : List Int) (w : World) (_u0 : (Lit.int .i64 f).wf = true) (w0 : IsRow .i64 w a0 len0 cap0 z0) :
    Calls Try.prog 3 #[.agg #[.int .i64 f, .slice a0 len0 cap0]] w fun e w' => e = .returned (.bool true) ∧ Below w.heap.size w w' := by
  have hb0 := below_box w (.cells #[.int .i64 f, .slice a0 len0 cap0] 24)
  have hx0 := Bx.new w 24 f a0 len0 cap0
  by_cases hlen : 1048576 < len0
  · have hl := w0.len_le
    go_enter Try.func3, Try.ntmps3
    go_wp2_with fail
    refine (szRing_no f a0 len0 cap0 _ (by omega) hlen).mono ?_
    rintro e w1 ⟨rfl, b1⟩
    clear hl
    go_wp2_with fail
    go_ret
    exact ⟨rfl, below_step hb0 b1⟩
  · have hr := w0.rd (by omega)
    generalize z0.take len0 = xs at hr
    have hs := sameB_refl xs
    have hself : (ringB f xs == ringB f xs) = true := by simp
    have hself2 : (nextZ f xs != nextZ f xs) = false := by simp
    have hd : decide ((1048576 : Int) - (len0 : Int) < 0) = false := by simp; omega
    go_enter Try.func3, Try.ntmps3
    go_wp2_with fail
    refine (szRing_yes f a0 len0 cap0 _ (by omega)).mono ?_
    rintro e w1 ⟨rfl, b1⟩
    have b01 := below_step hb0 b1
    have hx1 := hx0.below b1
    have hc0 := hx1.c0
    have hc1 := hx1.c1
    go_wp2_with fail
    refine (toRing_any f a0 len0 cap0 xs _ (hr.below b01)).mono ?_
    rintro e w2 ⟨g2, rfl, _, _, r2, b2⟩
    have b02 := below_step b01 b2
    go_wp2_with fail
    refine (specRingValid_any f _ len0 len0 xs _ r2.rd).mono ?_
    rintro e w3 ⟨rfl, b3⟩
    have b03 := below_step b02 b3
    have hx3 := (hx1.below b2).below b3
    clear hc0 hc1
    have hc0 := hx3.c0
    have hc1 := hx3.c1
    go_wp2_with fail
    refine (toRing_any f a0 len0 cap0 xs _ (hr.below b03)).mono ?_
    rintro e w4 ⟨g4, rfl, _, _, r4, b4⟩
    have b04 := below_step b03 b4
    have b05 : Below w.heap.size w (w4.alloc (ringBox f (some ⟨g4, 0, none⟩) len0 len0)) := b04.alloc b04.size _
    have hx4 := hx3.below b4
    have hy4 := Bx.new w4 27 f (some ⟨g4, 0, none⟩) len0 len0
    have r5 := r4.rd.alloc (ringBox f (some ⟨g4, 0, none⟩) len0 len0)
    go_wp2_with fail
    refine (implRingValid_any f _ len0 len0 xs _ r5).mono ?_
    rintro e w6 ⟨rfl, b6⟩
    have b06 := below_step b05 b6
    have hx6 := (hx4.alloc (ringBox f (some ⟨g4, 0, none⟩) len0 len0)).below b6
    have hy6 := hy4.below b6
    have r6 := r5.below b6
    clear hc0 hc1
    have hc0 := hx6.c0
    have hc1 := hx6.c1
    have hd0 := hy6.c0
    have hd1 := hy6.c1
    have hr6 := hr.below b06
    go_wp2_with fail
    go_region_with (first
      | (go_at_call 15; refine (toRing_any f a0 len0 cap0 xs _ hr6.drew).mono ?_; rintro e w7 ⟨g7, rfl, _, _, r7, b7⟩; have hy7 := hy6.drew.below b7; have he0 := hy7.c0; have he1 := hy7.c1; have r67 := r6.drew.below b7)
      | (go_at_call 17; refine (eqRing_any f f _ _ len0 len0 len0 len0 xs xs _ r67 r7.rd rfl hs).mono ?_; rintro e w8 ⟨rfl, b8⟩))
    all_goals go_wp2_with fail
    all_goals go_ret
    all_goals exact ⟨rfl, below_step (below_step b06.drew b7) b8⟩
set_option maxHeartbeats 1600000 in
theorem walk_FnExactRingNext (f : Int) (a0 : Option Addr) (len0 cap0 : Nat) (z0 : List Int) (w : World) (_u0 : (Lit.int .i64 f).wf = true) (w0 : IsRow .i64 w a0 len0 cap0 z0) :
    Calls Try.prog 4 #[.agg #[.int .i64 f, .slice a0 len0 cap0]] w fun e w' => e = .returned (.bool true) ∧ Below w.heap.size w w' := by
  have hb0 := below_box w (.cells #[.int .i64 f, .slice a0 len0 cap0] 24)
  have hx0 := Bx.new w 24 f a0 len0 cap0
  by_cases hlen : 1048576 < len0
  · have hl := w0.len_le
    go_enter Try.func4, Try.ntmps4
    go_wp2_with fail
    refine (szRing_no f a0 len0 cap0 _ (by omega) hlen).mono ?_
    rintro e w1 ⟨rfl, b1⟩
    clear hl
    go_wp2_with fail
    go_ret
    exact ⟨rfl, below_step hb0 b1⟩
  · have hr := w0.rd (by omega)
    generalize z0.take len0 = xs at hr
    have hs := sameB_refl xs
    have hself : (ringB f xs == ringB f xs) = true := by simp
    have hself2 : (nextZ f xs != nextZ f xs) = false := by simp
    have hd : decide ((1048576 : Int) - (len0 : Int) < 0) = false := by simp; omega
    go_enter Try.func4, Try.ntmps4
    go_wp2_with fail
    refine (szRing_yes f a0 len0 cap0 _ (by omega)).mono ?_
    rintro e w1 ⟨rfl, b1⟩
    have b01 := below_step hb0 b1
    have hx1 := hx0.below b1
    have hc0 := hx1.c0
    have hc1 := hx1.c1
    go_wp2_with fail
    refine (toRing_any f a0 len0 cap0 xs _ (hr.below b01)).mono ?_
    rintro e w2 ⟨g2, rfl, _, _, r2, b2⟩
    have b02 := below_step b01 b2
    go_wp2_with fail
    refine (specRingNext_any f _ len0 len0 xs _ r2.rd).mono ?_
    rintro e w3 ⟨rfl, b3⟩
    have b03 := below_step b02 b3
    have hx3 := (hx1.below b2).below b3
    clear hc0 hc1
    have hc0 := hx3.c0
    have hc1 := hx3.c1
    go_wp2_with fail
    refine (toRing_any f a0 len0 cap0 xs _ (hr.below b03)).mono ?_
    rintro e w4 ⟨g4, rfl, _, _, r4, b4⟩
    have b04 := below_step b03 b4
    have b05 : Below w.heap.size w (w4.alloc (ringBox f (some ⟨g4, 0, none⟩) len0 len0)) := b04.alloc b04.size _
    have hx4 := hx3.below b4
    have hy4 := Bx.new w4 27 f (some ⟨g4, 0, none⟩) len0 len0
    have r5 := r4.rd.alloc (ringBox f (some ⟨g4, 0, none⟩) len0 len0)
    go_wp2_with fail
    refine (implRingNext_any f _ len0 len0 xs _ r5).mono ?_
    rintro e w6 ⟨rfl, b6⟩
    have b06 := below_step b05 b6
    have hx6 := (hx4.alloc (ringBox f (some ⟨g4, 0, none⟩) len0 len0)).below b6
    have hy6 := hy4.below b6
    have r6 := r5.below b6
    clear hc0 hc1
    have hc0 := hx6.c0
    have hc1 := hx6.c1
    have hd0 := hy6.c0
    have hd1 := hy6.c1
    have hr6 := hr.below b06
    go_wp2_with fail
    go_region_with (first
      | (go_at_call 15; refine (toRing_any f a0 len0 cap0 xs _ hr6.drew).mono ?_; rintro e w7 ⟨g7, rfl, _, _, r7, b7⟩; have hy7 := hy6.drew.below b7; have he0 := hy7.c0; have he1 := hy7.c1; have r67 := r6.drew.below b7)
      | (go_at_call 17; refine (eqRing_any f f _ _ len0 len0 len0 len0 xs xs _ r67 r7.rd rfl hs).mono ?_; rintro e w8 ⟨rfl, b8⟩))
    all_goals go_wp2_with fail
    all_goals go_ret
    all_goals exact ⟨rfl, below_step (below_step b06.drew b7) b8⟩
end Go.Proofs.Ytjhnpnmpnmmpbaa

/-
  RingPut of the reference, for all rings; RingAll of the program and of the reference.
-/
import Derived.Test.YtjhnpnmpnmmpbaaRingPutS
namespace Go.Proofs.Ytjhnpnmpnmmpbaa
open Go.RowKit

theorem specRingPut_any (f : Int) (A : Option Addr) (n c : Nat) (xs : List Int) (ev : Int) (w : World) (h : Rd w A n xs) :
    Calls Try.prog 30 #[.agg #[.int .i64 f, .slice A n c], .int .i64 ev] w (PutGot w (putF f xs ev) (putL f xs ev) (putB f xs ev)) := by
  cases hv : ringB f xs
  · obtain ⟨p1, p2, p3⟩ := put_none (e := ev) hv
    rw [p1, p2, p3]
    have hb0 : Below w.heap.size w ((w.alloc (ringBox f A n c)).alloc (ringBox 0 none 0 0)) := (below_box w _).alloc (by simp) _
    have hr := (h.alloc (ringBox f A n c)).alloc (ringBox 0 none 0 0)
    have hy0 : Bx ((w.alloc (ringBox f A n c)).alloc (ringBox 0 none 0 0)) (w.heap.size + 1) 27 0 none 0 0 := by
      have := Bx.new (w.alloc (ringBox f A n c)) 27 0 none 0 0
      simpa using this
    clear p1 p2 p3
    go_enter Try.func30, Try.ntmps30
    go_wp2_with fail
    refine (specRingValid_any f A n c xs _ hr).mono ?_
    rintro e w1 ⟨rfl, b1⟩
    have hy1 := hy0.below b1
    have c0 := hy1.c0
    have c1 := hy1.c1
    have f0 := hy1.f0
    have f1 := hy1.f1
    go_wp2_with fail
    refine bodyPost_ret (v := .tuple #[.agg #[.int .i64 0, .slice none 0 0], .bool false]) (by simp [results, Try.results30, go_sem, c0, c1]) rfl ⟨none, 0, 0, rfl, Nat.le_refl _, Row.nil_, ?_⟩
    exact ((below_step hb0 b1).setCell (by show w.heap.size ≤ w.heap.size + 1; omega) _).setCell (by show w.heap.size ≤ w.heap.size + 1; omega) _
  · exact specRingPut_in f A n c xs ev w h hv
end Go.Proofs.Ytjhnpnmpnmmpbaa

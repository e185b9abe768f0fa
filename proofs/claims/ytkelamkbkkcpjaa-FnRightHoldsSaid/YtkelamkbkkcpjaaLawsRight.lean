/-
  The drawing of a right and an hour; the walk of the law FnRightHolds.
-/
import Derived.Test.YtkelamkbkkcpjaaRight
import Derived.Test.YtkelamkbkkcpjaaReader
import Derived.Test.YtkelamkbkkcpjaaAlive
namespace Go.Proofs.Ytkelamkbkkcpjaa
open Go.RowKit

theorem below_of_grown {B : Nat} {w w' : World} {R : Nat} (h : w.grownBy w' (some R)) (hB : B ≤ R) (hs : B ≤ w.heap.size) : Below B w w' :=
  (Below.refl _ _).grown h hs (fun k hk => by cases hk; exact hB)
/-- a slice that came in, in a later world -/
theorem IsRow.below {k : IntKind} {w w' : World} {a : Option Addr} {len cap : Nat} {zs : List Int} (h : IsRow k w a len cap zs) (hb : Below w.heap.size w w') : IsRow k w' a len cap zs := by
  rcases h with h | ⟨x, e, hl, hm, hz, hcell, hwz⟩
  · exact .inl h
  · refine .inr ⟨x, e, hl, hm, hz, fun i hi => ?_, hwz⟩
    rw [← hcell i hi]
    exact hb.cell (World.block_lt_of_cell? w _ (hcell i hi))

/-- what the drawing leaves: a right and an hour -/
def RightDrawn (w : World) (e : Ending) (w' : World) : Prop :=
  ∃ f a b h : Int, e = .returned (.tuple #[.agg #[.int .i64 f, .int .i64 a, .int .i64 b], .int .i64 h]) ∧ -1 ≤ h ∧ h ≤ 24 ∧ Below w.heap.size w w'

set_option maxHeartbeats 800000 in
theorem DrawRightHolds_any (A : Option Addr) (n c : Nat) (zs : List Int) (w : World) (h : IsRow .u8 w A n c zs) :
    Calls Try.prog 32 #[.slice A n c] w (RightDrawn w) := by
  have b0 : Below w.heap.size w (w.alloc (.cells #[.int .i64 0, .int .i64 0, .int .i64 0] 25)) := (Below.refl _ _).alloc (Nat.le_refl _) _
  have h' := h.below b0
  go_enter Try.func32, Try.ntmps32
  go_wp2_with fail
  refine (open_any A n c zs _ h').mono ?_
  rintro e w1 ⟨rfl, hr1, hb1⟩
  have hz : (w.alloc (.cells #[.int .i64 0, .int .i64 0, .int .i64 0] 25)).heap.size = w.heap.size + 1 := by simp
  rw [hz] at hr1 hb1 ⊢
  go_wp2_with fail
  refine (pick_any _ 0 5 _ hr1 (by omega) (by omega) (by omega)).mono ?_
  rintro e w2 ⟨x1, rfl, _, _, hr2, hg2⟩
  go_wp2_with fail
  refine (pick_any _ 1 24 _ hr2 (by omega) (by omega) (by omega)).mono ?_
  rintro e w3 ⟨x2, rfl, _, _, hr3, hg3⟩
  go_wp2_with fail
  refine (pick_any _ 2 24 _ hr3 (by omega) (by omega) (by omega)).mono ?_
  rintro e w4 ⟨x3, rfl, _, _, hr4, hg4⟩
  go_wp2_with fail
  refine (pick_any _ 3 26 _ hr4 (by omega) (by omega) (by omega)).mono ?_
  rintro e w5 ⟨x4, rfl, hx0, hx1, hr5, hg5⟩
  have hs1 := hb1.size
  have hs2 := hg2.size
  have hs3 := hg3.size
  have hs4 := hg4.size
  have hs5 := hg5.size
  rw [hz] at hs1
  have bb : Below (w.heap.size + 1) (w.alloc (.cells #[.int .i64 0, .int .i64 0, .int .i64 0] 25)) w5 :=
    (((hb1.trans (below_of_grown hg2 (Nat.le_refl _) (by omega))).trans (below_of_grown hg3 (Nat.le_refl _) (by omega))).trans (below_of_grown hg4 (Nat.le_refl _) (by omega))).trans (below_of_grown hg5 (Nat.le_refl _) (by omega))
  have hc0 : w5.cell? ⟨w.heap.size, 0, none⟩ = some (.int .i64 0) := by rw [bb.cell (p := ⟨w.heap.size, 0, none⟩) (by show w.heap.size < _; omega)]; simp
  have hc1 : w5.cell? ⟨w.heap.size, 1, none⟩ = some (.int .i64 0) := by rw [bb.cell (p := ⟨w.heap.size, 1, none⟩) (by show w.heap.size < _; omega)]; simp
  have hc2 : w5.cell? ⟨w.heap.size, 2, none⟩ = some (.int .i64 0) := by rw [bb.cell (p := ⟨w.heap.size, 2, none⟩) (by show w.heap.size < _; omega)]; simp
  have hf0 : w5.frozen? ⟨w.heap.size, 0, none⟩ = false := by rw [bb.frozen (p := ⟨w.heap.size, 0, none⟩) (by show w.heap.size < _; omega)]; exact World.frozen?_alloc_at _ _ _ _ rfl
  have hf1 : w5.frozen? ⟨w.heap.size, 1, none⟩ = false := by rw [bb.frozen (p := ⟨w.heap.size, 1, none⟩) (by show w.heap.size < _; omega)]; exact World.frozen?_alloc_at _ _ _ _ rfl
  have hf2 : w5.frozen? ⟨w.heap.size, 2, none⟩ = false := by rw [bb.frozen (p := ⟨w.heap.size, 2, none⟩) (by show w.heap.size < _; omega)]; exact World.frozen?_alloc_at _ _ _ _ rfl
  have b5 : Below w.heap.size w w5 := b0.trans (bb.mono (by omega))
  clear bb hg2 hg3 hg4 hg5 hr1 hr2 hr3 hr4 hr5 hb1 hz
  go_wp2
  refine bodyPost_ret (v := .tuple #[.agg #[.int .i64 x1, .int .i64 x2, .int .i64 x3], .int .i64 (x4 - 1)]) (by simp [results, Try.results32, go_sem, hc0, hc1, hc2]) rfl ⟨x1, x2, x3, x4 - 1, rfl, by omega, by omega, ?_⟩
  exact ((b5.setCell (Nat.le_refl _) _).setCell (Nat.le_refl _) _).setCell (Nat.le_refl _) _
end Go.Proofs.Ytkelamkbkkcpjaa

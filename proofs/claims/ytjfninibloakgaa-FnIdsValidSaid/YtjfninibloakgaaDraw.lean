/-
  Words for drawings that pick and append: a row of the call's own behind the reader, a list that was built by a literal.
-/
import Derived.Test.YtjfninibloakgaaReader
import Derived.Test.YtjfninibloakgaaAppend2
namespace Go.Proofs.Ytjfninibloakgaa
open Go.RowKit

theorem below_of_grown {B : Nat} {w w' : World} {R : Nat} (h : w.grownBy w' (some R)) (hB : B ≤ R) (hs : B ≤ w.heap.size) : Below B w w' :=
  (Below.refl _ _).grown h hs (fun k hk => by cases hk; exact hB)
/-- a slice that came in, in a later world -/
theorem IsRow.below {k : IntKind} {w w' : World} {a : Option Addr} {len cap : Nat} {zs : List Int} (h : IsRow k w a len cap zs) (hb : Below w.heap.size w w') : IsRow k w' a len cap zs := by
  rcases h with h | ⟨x, e, hl, hm, hz, hcell, hwz⟩
  · exact .inl h
  · refine .inr ⟨x, e, hl, hm, hz, fun i hi => ?_, hwz⟩
    rw [← hcell i hi]
    exact hb.cell (World.block_lt_of_cell? w _ (hcell i hi))
/-- what a pick leaves of a row that lies behind the reader -/
theorem Own.picked {w w' : World} {base n c R : Nat} {A : Option Addr} {xs : List Int} (h : Own w base A n c xs) (hR : R < base) (hg : w.grownBy w' (some R)) : Own w' base A n c xs :=
  h.kept hg (by
    cases hv : (Value.slice A n c).ownBlock with
    | none => exact .inl rfl
    | some k =>
      refine .inr fun e => ?_
      have := (h.block k hv).1
      injection e with e
      omega)
theorem Own.more {w : World} {base base' n c : Nat} {A : Option Addr} {xs : List Int} (h : Own w base A n c xs) (hb : base' ≤ base) : Own w base' A n c xs := by
  refine ⟨⟨h.1.1, ?_⟩, h.2⟩
  rcases h.1.2 with h | ⟨g, cap, cur, h1, h2, h3⟩
  · exact .inl h
  · exact .inr ⟨g, cap, cur, h1, by omega, h3⟩
/-- a list that a literal has built -/
theorem rd_built (w : World) (xs : List Int) (hn : xs.length ≤ 4194304) : Rd (w.alloc (.cells (xs.map (Value.int .i64)).toArray 3)) (some ⟨w.heap.size, 0, none⟩) xs.length xs := by
  refine ⟨rfl, hn, fun _ => ⟨w.heap.size, 0, rfl, by simp, fun j hj => ?_⟩⟩
  rw [cell_of_row _ w.heap.size (0 + j) _ _ _ (heap_alloc_new w _), Nat.zero_add, nth_get xs j hj]
  simp [hj]
/-- the picks of a reader do not touch what lies behind it -/
theorem Rd.picked {w w' : World} {n R g off : Nat} {xs : List Int} (h : Rd w (some ⟨g, off, none⟩) n xs) (hR : g ≠ R) (hg : w.grownBy w' (some R)) : Rd w' (some ⟨g, off, none⟩) n xs := by
  refine ⟨h.1, h.2.1, fun hn => ?_⟩
  obtain ⟨g', off', e, hlt, hc⟩ := h.2.2 hn
  injection e with e
  injection e with e1 e2
  subst e1 e2
  refine ⟨g, off, rfl, Nat.lt_of_lt_of_le hlt hg.size, fun j hj => ?_⟩
  rw [← hc j hj]
  exact hg.cell_far ⟨g, off + j, none⟩ hlt (by intro e; injection e with e; exact hR e)

/-- a list of at most mx ints is drawn -/
def IntsDrawn (w : World) (R P mx : Nat) (e : Ending) (w' : World) : Prop :=
  ∃ (A : Option Addr) (n c : Nat) (xs : List Int), e = .returned (.slice A n c) ∧ n ≤ c ∧ n ≤ mx ∧ Rd w' A n xs ∧ Rdr w' R (P + 30) ∧ Below R w w' ∧ w.heap.size ≤ w'.heap.size
/-- a list of at most mx ints is drawn out of bytes -/
def IntsGot (w : World) (mx : Nat) (e : Ending) (w' : World) : Prop :=
  ∃ (A : Option Addr) (n c : Nat) (xs : List Int), e = .returned (.slice A n c) ∧ n ≤ c ∧ n ≤ mx ∧ Rd w' A n xs ∧ Below w.heap.size w w'
end Go.Proofs.Ytjfninibloakgaa

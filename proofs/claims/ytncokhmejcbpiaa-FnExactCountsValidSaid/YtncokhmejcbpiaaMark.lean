/-
  Contracts of the laws' helpers that mark a list of ints by numbers of their own and look whether the marks still lie there; the copy that they make of an argument.
-/
import Derived.Test.YtncokhmejcbpiaaBase
namespace Go.Proofs.Ytncokhmejcbpiaa
open Go.RowKit

/-- a store into a row -/
theorem Row.set_ {w : World} {lo g off n : Nat} {xs : List Int} (h : Row w lo (some ⟨g, off, none⟩) n xs) (j : Nat) (hj : j < n) (v : Int) :
    Row (w.setCell ⟨g, off + j, none⟩ (.int .i64 v)) lo (some ⟨g, off, none⟩) n (xs.set j v) := by
  refine ⟨by simpa using h.1, h.2.1, fun hn => ?_⟩
  obtain ⟨g', off', e, hl, hg, hc⟩ := h.2.2 hn
  injection e with e
  injection e with e1 e2
  subst e1 e2
  refine ⟨g, off, rfl, hl, by simpa [World.setCell] using hg, fun i hi => ⟨?_, by simpa using (hc i hi).2⟩⟩
  by_cases hij : i = j
  · subst hij
    rw [World.cell?_setCell_same _ _ _ (hc i hi).1, nth_get _ _ (by rw [List.length_set, h.1]; exact hi)]
    simp
  · rw [World.cell?_setCell_other _ _ _ _ (by intro e; injection e; omega), (hc i hi).1]
    unfold nth
    rw [List.getD, List.getD, List.getElem?_set_ne (by omega)]

/-- the first j elements replaced by k, k + 1, .. -/
def marks (xs : List Int) (k : Int) : Nat → List Int
  | 0 => xs
  | j + 1 => (marks xs k j).set j (k + j)
theorem marks_len (xs : List Int) (k : Int) (j : Nat) : (marks xs k j).length = xs.length := by
  induction j with
  | zero => rfl
  | succ j ih => simp [marks, ih]
theorem marks_at (xs : List Int) (k : Int) (j i : Nat) (hi : i < xs.length) (hij : i < j) : nth (marks xs k j) i = k + i := by
  induction j with
  | zero => omega
  | succ j ih =>
    by_cases e : i = j
    · subst e
      rw [nth_get _ _ (by rw [marks_len]; exact hi)]
      simp [marks]
    · have := ih (by omega)
      unfold nth at this ⊢
      rw [marks, List.getD, List.getElem?_set_ne (by omega)]
      exact this


end Go.Proofs.Ytncokhmejcbpiaa

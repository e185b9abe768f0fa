/-
  slices.Clone of ints: a new row that holds the same.
-/
import Derived.Test.YtjfninibloakgaaAppend2
import Derived.Lib.SliceRun
namespace Go.Proofs.Ytjfninibloakgaa
open Go.RowKit

theorem rd_none {w : World} {n : Nat} {xs : List Int} (h : Rd w none n xs) : n = 0 ∧ xs = [] := by
  have hn : n = 0 := by
    rcases Nat.eq_zero_or_pos n with h0 | h0
    · exact h0
    · obtain ⟨g, off, e, _⟩ := h.2.2 h0
      cases e
  subst hn
  exact ⟨rfl, List.eq_nil_of_length_eq_zero h.len⟩
theorem below_new (w : World) (o : Obj) : Below w.heap.size w (w.alloc o) := (Below.refl _ _).alloc (Nat.le_refl _) _

/-- what Clone leaves: a row of the call's own -/
def Cloned (w : World) (n : Nat) (xs : List Int) (e : Ending) (w' : World) : Prop :=
  ∃ A' c', e = .returned (.slice A' n c') ∧ Own w' w.heap.size A' n c' xs ∧ Below w.heap.size w w'

set_option maxHeartbeats 400000 in
theorem clone_any (A : Option Addr) (n c : Nat) (xs : List Int) (w : World) (h : Rd w A n xs) :
    Calls Try.prog 35 #[.slice A n c] w (Cloned w n xs) := by
  have hn := h.le
  have heq := fun W : World => Lib.run_eql_slice_nil (P := Try.prog) W 22 3 A n c 0 0 Try.underlying22
  cases A with
  | none =>
    obtain ⟨rfl, rfl⟩ := rd_none h
    go_enter Try.func35, Try.ntmps35
    go_wp2
    go_ret
    exact ⟨none, 0, rfl, Own.nil_ _ _, Below.refl _ _⟩
  | some a =>
    have ho := Own.made w w.heap.size (Nat.le_refl _)
    have hr := h.alloc (.cells #[] 3)
    have hb := below_new w (.cells #[] 3)
    go_enter Try.func35, Try.ntmps35
    go_wp2_with (at_builtin; refine wpList_append_rd _ rfl (.tmp 5) (.tmp 6) rfl w.heap.size _ 0 0 [] rfl ho (some a) n c xs rfl hr (by omega) (size_one _ _ (Nat.le_refl _) _) ?_; intro A3 c3 w3 ho3 hgrow3 hbel3; have hb3 := hb.trans (hbel3 _ (Nat.le_refl _)); rw [List.nil_append, Nat.zero_add] at ho3; rw [Nat.zero_add])
    go_ret
    exact ⟨A3, c3, rfl, ho3, hb3⟩
end Go.Proofs.Ytjfninibloakgaa

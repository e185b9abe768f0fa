/-
  append at a step of a region that draws its order: the law of XAppend2 there; cells and rows through the worlds of such a region.
-/
import Derived.Test.YtjfninibloakgaaAppend2
import Derived.Test.YtjfninibloakgaaDraw
import Derived.Deep.RegionHeld3
import Derived.Deep.DrawnRows
import Derived.Deep.DeepCutAuto
namespace Go.Proofs.Ytjfninibloakgaa
open Go.RowKit

theorem step_append_rd {ops : Array Oper} {o : Oper} {a : Act} {K : Act → World → Prop} {Q : Exit → Act → World → Prop} {E : Prop} (w : World) (hgd : Region.wanted o (yielded ops a.tmps) = true) (s x : Operand)
    (ho : o.op = .call { callee := .builtin .append, args := #[s, x], argTypes := #[22, 22] })
    (base : Nat) (A : Option Addr) (n c : Nat) (xs : List Int) (hs : a.eval s = .slice A n c) (hown : Own w base A n c xs)
    (B : Option Addr) (m d : Nat) (ys : List Int) (hx : a.eval x = .slice B m d) (hr : Rd w B m ys) (hnm : n + m ≤ 4194304) (hbase : base ≤ w.heap.size)
    (k : Nat) (hk : n + m = k)
    (h : ∀ A' c' w', Own w' base A' k c' (xs ++ ys) → w.grownBy w' (Value.slice A n c).ownBlock → (∀ B', B' ≤ base → Below B' w w') →
      K (a.put o.dst (.slice A' k c')) w') : if Region.wanted o (yielded ops a.tmps) = true then Oper.wp Try.prog o a w K Q else E := by
  subst hk
  obtain ⟨A', c', w', hrun, h2, h3⟩ := run_append_rd w o.type base A n c xs hown B m d ys hr hnm hbase
  rw [if_pos hgd]
  unfold Oper.wp execOp
  simp only [ho, resolve, invoke, builtin, Sem.run_bind, Sem.run_pure, Result.andThen_ok, List.map_toArray, List.map_cons, List.map_nil, hs, hx, hrun]
  exact h A' c' w' h2 h3 fun B' hB => (Below.refl _ _).grown h3 (by omega) (fun k hk => by have := hown.1.lt k hk; omega)

/-- the empty literal, its block under a name -/
theorem Own.made_ {w : World} {base g : Nat} (hg : g = w.heap.size) (hb : base ≤ w.heap.size) : Own (w.alloc (.cells #[] 3)) base (some ⟨g, 0, none⟩) 0 0 [] := by
  subst hg; exact Own.made w base hb
/-- a block of one int -/
def One (w : World) (g : Nat) (x : Int) : Prop := w.heap[g]? = some (.cells #[.int .i64 x] 3 (0, 0))
theorem One.new_ {w : World} {g : Nat} (x : Int) (hg : g = w.heap.size) : One (w.alloc (.cells #[.int .i64 x] 3)) g x := by
  subst hg; exact heap_alloc_new w _
theorem One.lt {w : World} {g : Nat} {x : Int} (h : One w g x) : g < w.heap.size := (Array.getElem?_eq_some_iff.1 h).1
theorem One.alloc {w : World} {g : Nat} {x : Int} (h : One w g x) (o : Obj) : One (w.alloc o) g x := (Below.heap_alloc w o g h.lt).trans h
theorem One.drew {w : World} {g : Nat} {x : Int} (h : One w g x) : One w.drew g x := h
theorem One.grow {w w' : World} {g : Nat} {x : Int} (h : One w g x) {row : Option Nat} (hb : w.grownBy w' row) (hg : row ≠ some g) : One w' g x := (hb.block g h.lt (fun e => hg e.symm)).trans h
theorem One.rd {w : World} {g : Nat} {x : Int} (h : One w g x) : Rd w (some ⟨g, 0, none⟩) 1 [x] := by
  refine ⟨rfl, by simp [lenMax], fun _ => ⟨g, 0, rfl, h.lt, fun j hj => ?_⟩⟩
  obtain rfl : j = 0 := by omega
  rw [cell_of_row w g (0 + 0) _ _ _ h]
  rfl
theorem have_of {p q : Prop} (h : p) (k : p → q) : q := k h
theorem ne_some {a b : Nat} (h : a ≠ b) : some a ≠ some b := fun e => h (by injection e)
theorem own_block_some (g o n c : Nat) : (Value.slice (some ⟨g, o, none⟩) n c).ownBlock = some g := rfl
theorem below_drew_ {B : Nat} {a w : World} (h : Below B a w) : Below B a w.drew := ⟨h.os, h.tape, h.output, h.size, h.block⟩
end Go.Proofs.Ytjfninibloakgaa

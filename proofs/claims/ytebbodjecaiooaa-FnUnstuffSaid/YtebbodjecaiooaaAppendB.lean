/-
  append of one byte onto a slice of bytes that is nil or of the call's own: the kit's law at this program's types.
-/
import Derived.Test.YtebbodjecaiooaaBase
namespace Go.Proofs.Ytebbodjecaiooaa
open Go.RowKit

theorem info_u8 : (Try.prog.info? 5).map (fun i => (i.zero, i.size, i.bytes)) = some (some (.int .u8 0), 1, 1) := by kernel_rfl

/-- a slice of the call's own: nil, or a row of a block from base on -/
def OwnB (w : World) (base : Nat) (A : Option Addr) (n c : Nat) (xs : List Int) : Prop :=
  w.ownsRow base 5 1 (.slice A n c) n (xs.map (Value.int .u8)) ∧ n ≤ c

theorem OwnB.nil_ (w : World) (base : Nat) : OwnB w base none 0 0 [] := ⟨World.ownsRow_nil _ _ _ _, Nat.le_refl _⟩
theorem OwnB.len {w : World} {base n c : Nat} {A : Option Addr} {xs : List Int} (h : OwnB w base A n c xs) : xs.length = n := by simpa using h.1.1
theorem OwnB.alloc {w : World} {base n c : Nat} {A : Option Addr} {xs : List Int} (h : OwnB w base A n c xs) (o : Obj) : OwnB (w.alloc o) base A n c xs := ⟨h.1.alloc o, h.2⟩
theorem OwnB.drewN {w : World} {base n c : Nat} {A : Option Addr} {xs : List Int} (h : OwnB w base A n c xs) (q : Nat) : OwnB (w.drewN q) base A n c xs := h
theorem OwnB.drew {w : World} {base n c : Nat} {A : Option Addr} {xs : List Int} (h : OwnB w base A n c xs) : OwnB w.drew base A n c xs := h
theorem OwnB.below {w w' : World} {base n c : Nat} {A : Option Addr} {xs : List Int} (h : OwnB w base A n c xs) (hb : Below w.heap.size w w') : OwnB w' base A n c xs :=
  ⟨h.1.kept (row := none) ⟨hb.os, hb.tape, hb.output, hb.size, fun k hk _ => hb.block k hk⟩ (by cases hv : (Value.slice A n c).ownBlock <;> simp), h.2⟩
theorem OwnB.kept {w w' : World} {base n c : Nat} {A : Option Addr} {xs : List Int} {row : Option Nat} (h : OwnB w base A n c xs) (hg : w.grownBy w' row) (hne : (Value.slice A n c).ownBlock = none ∨ (Value.slice A n c).ownBlock ≠ row) : OwnB w' base A n c xs := ⟨h.1.kept hg hne, h.2⟩
theorem OwnB.block {w : World} {base n c : Nat} {A : Option Addr} {xs : List Int} (h : OwnB w base A n c xs) : ∀ k, (Value.slice A n c).ownBlock = some k → base ≤ k ∧ k < w.heap.size := h.1.lt
/-- the empty literal: a block without cells -/
theorem OwnB.made (w : World) (base : Nat) (hb : base ≤ w.heap.size) : OwnB (w.alloc (.cells #[] 5)) base (some ⟨w.heap.size, 0, none⟩) 0 0 [] :=
  ⟨World.ownsRow_made w #[] 0 hb (by simp) (by simp), Nat.le_refl _⟩

/-- the one cell of a block that was just made -/
theorem cell_oneB (w : World) (B : Nat) (hB : B = w.heap.size) (x : Value) (t : TypeId) : (w.alloc (.cells #[x] t)).cell? ⟨B, 0, none⟩ = some x := by subst hB; simp
theorem size_oneB (w : World) (k : Nat) (hk : k ≤ w.heap.size) (o : Obj) : k ≤ (w.alloc o).heap.size := by simp; omega

theorem wpList_append_byte {ops : Array Oper} {rest : List Oper} {o : Oper} {a : Act} {Q : Exit → Act → World → Prop} (w : World) (hgd : o.guard = none) (s x : Operand)
    (ho : o.op = .call { callee := .builtin .append, args := #[s, x], argTypes := #[27, 27] })
    (base : Nat) (A : Option Addr) (n c : Nat) (xs : List Int) (hs : a.eval s = .slice A n c) (hown : OwnB w base A n c xs)
    (B : Nat) (y : Int) (hx : a.eval x = .slice (some ⟨B, 0, none⟩) 1 1) (hcell : w.cell? ⟨B, 0, none⟩ = some (.int .u8 y)) (hn : n ≤ 4194304) (hbase : base ≤ w.heap.size)
    (h : ∀ g cap w', OwnB w' base (some ⟨g, 0, none⟩) (n + 1) cap (xs ++ [y]) → w.grownBy w' (Value.slice A n c).ownBlock → (∀ B', B' ≤ base → Below B' w w') → g < w'.heap.size →
      wpList Try.prog ops Q rest (a.put o.dst (.slice (some ⟨g, 0, none⟩) (n + 1) cap)) w') : wpList Try.prog ops Q (o :: rest) a w := by
  obtain ⟨i0, hi, hz0, hz1, hz2⟩ := info_parts info_u8
  refine wpList_append_lies w hgd s x 27 ho base 5 i0 (.int .u8 0) 1 1 Try.underlying27 hi hz0 hz1 hz2 rfl (by omega) (.slice A n c) n _ hs hown.1 ⟨B, 0, none⟩ 1 1 [.int .u8 y] hx rfl ?_ ?_ (by omega) (by unfold maxLen; omega) (by omega) hbase _ rfl ?_
  · intro t u ht
    match t, ht with
    | 0, ht => simp at ht; subst ht; simpa [Addr.add] using hcell
  · intro u hu
    simp at hu
    subst hu
    rfl
  · intro g cap w' h1 h2 h3 h4
    have h1' : OwnB w' base (some ⟨g, 0, none⟩) (n + 1) cap (xs ++ [y]) := by
      refine ⟨by simpa using h1, ?_⟩
      rcases h1.2 with ⟨h, _⟩ | ⟨_, _, _, h, _, _, hle, _⟩
      · cases h
      · injection h with _ _ hc
        subst hc
        exact hle
    refine h g cap w' h1' h2 (fun B' hB => ?_) h4
    exact (Below.refl _ _).grown h2 (by omega) (fun k hk => by have := hown.1.lt k hk; omega)
end Go.Proofs.Ytebbodjecaiooaa

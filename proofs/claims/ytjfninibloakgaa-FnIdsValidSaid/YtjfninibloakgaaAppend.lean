/-
  append of one int onto a slice of ints that is nil or of the call's own: the kit's law at this program's types.
-/
import Derived.Test.YtjfninibloakgaaBase
namespace Go.Proofs.Ytjfninibloakgaa
open Go.RowKit

theorem info_int : (Try.prog.info? 3).map (fun i => (i.zero, i.size, i.bytes)) = some (some (.int .i64 0), 1, 8) := by kernel_rfl

/-- a slice of the call's own: nil, or a row of a block from base on -/
def Own (w : World) (base : Nat) (A : Option Addr) (n c : Nat) (xs : List Int) : Prop :=
  w.ownsRow base 3 1 (.slice A n c) n (xs.map (Value.int .i64)) ∧ n ≤ c

theorem Own.nil_ (w : World) (base : Nat) : Own w base none 0 0 [] := ⟨World.ownsRow_nil _ _ _ _, Nat.le_refl _⟩
theorem Own.len {w : World} {base n c : Nat} {A : Option Addr} {xs : List Int} (h : Own w base A n c xs) : xs.length = n := by simpa using h.1.1
theorem Own.alloc {w : World} {base n c : Nat} {A : Option Addr} {xs : List Int} (h : Own w base A n c xs) (o : Obj) : Own (w.alloc o) base A n c xs := ⟨h.1.alloc o, h.2⟩
theorem Own.drewN {w : World} {base n c : Nat} {A : Option Addr} {xs : List Int} (h : Own w base A n c xs) (q : Nat) : Own (w.drewN q) base A n c xs := h
theorem Own.drew {w : World} {base n c : Nat} {A : Option Addr} {xs : List Int} (h : Own w base A n c xs) : Own w.drew base A n c xs := h
theorem Own.row {w : World} {base n c : Nat} {A : Option Addr} {xs : List Int} (h : Own w base A n c xs) (hn : n ≤ 4194304) : Row w base A n xs := Row.of_own h.1 hn
theorem Own.rd {w : World} {base n c : Nat} {A : Option Addr} {xs : List Int} (h : Own w base A n c xs) (hn : n ≤ 4194304) : Rd w A n xs := (h.row hn).rd
theorem Own.below {w w' : World} {base n c : Nat} {A : Option Addr} {xs : List Int} (h : Own w base A n c xs) (hb : Below w.heap.size w w') : Own w' base A n c xs :=
  ⟨h.1.kept (row := none) ⟨hb.os, hb.tape, hb.output, hb.size, fun k hk _ => hb.block k hk⟩ (by cases hv : (Value.slice A n c).ownBlock <;> simp), h.2⟩
theorem Own.kept {w w' : World} {base n c : Nat} {A : Option Addr} {xs : List Int} {row : Option Nat} (h : Own w base A n c xs) (hg : w.grownBy w' row) (hne : (Value.slice A n c).ownBlock = none ∨ (Value.slice A n c).ownBlock ≠ row) : Own w' base A n c xs := ⟨h.1.kept hg hne, h.2⟩
theorem Own.block {w : World} {base n c : Nat} {A : Option Addr} {xs : List Int} (h : Own w base A n c xs) : ∀ k, (Value.slice A n c).ownBlock = some k → base ≤ k ∧ k < w.heap.size := h.1.lt
/-- the empty literal: a block without cells -/
theorem Own.made (w : World) (base : Nat) (hb : base ≤ w.heap.size) : Own (w.alloc (.cells #[] 3)) base (some ⟨w.heap.size, 0, none⟩) 0 0 [] :=
  ⟨World.ownsRow_made w #[] 0 hb (by simp) (by simp), Nat.le_refl _⟩

/-- the one cell of a block that was just made -/
theorem cell_one (w : World) (B : Nat) (hB : B = w.heap.size) (x : Value) (t : TypeId) : (w.alloc (.cells #[x] t)).cell? ⟨B, 0, none⟩ = some x := by subst hB; simp
theorem size_one (w : World) (k : Nat) (hk : k ≤ w.heap.size) (o : Obj) : k ≤ (w.alloc o).heap.size := by simp; omega

theorem wpList_append_int {ops : Array Oper} {rest : List Oper} {o : Oper} {a : Act} {Q : Exit → Act → World → Prop} (w : World) (hgd : o.guard = none) (s x : Operand)
    (ho : o.op = .call { callee := .builtin .append, args := #[s, x], argTypes := #[22, 22] })
    (base : Nat) (A : Option Addr) (n c : Nat) (xs : List Int) (hs : a.eval s = .slice A n c) (hown : Own w base A n c xs)
    (B : Nat) (y : Int) (hx : a.eval x = .slice (some ⟨B, 0, none⟩) 1 1) (hcell : w.cell? ⟨B, 0, none⟩ = some (.int .i64 y)) (hn : n ≤ 4194304) (hbase : base ≤ w.heap.size)
    (h : ∀ g cap w', Own w' base (some ⟨g, 0, none⟩) (n + 1) cap (xs ++ [y]) → w.grownBy w' (Value.slice A n c).ownBlock → (∀ B', B' ≤ base → Below B' w w') → g < w'.heap.size →
      wpList Try.prog ops Q rest (a.put o.dst (.slice (some ⟨g, 0, none⟩) (n + 1) cap)) w') : wpList Try.prog ops Q (o :: rest) a w := by
  obtain ⟨i0, hi, hz0, hz1, hz2⟩ := info_parts info_int
  refine wpList_append_lies w hgd s x 22 ho base 3 i0 (.int .i64 0) 1 8 Try.underlying22 hi hz0 hz1 hz2 rfl (by omega) (.slice A n c) n _ hs hown.1 ⟨B, 0, none⟩ 1 1 [.int .i64 y] hx rfl ?_ ?_ (by omega) (by unfold maxLen; omega) (by omega) hbase _ rfl ?_
  · intro t u ht
    match t, ht with
    | 0, ht => simp at ht; subst ht; simpa [Addr.add] using hcell
  · intro u hu
    simp at hu
    subst hu
    rfl
  · intro g cap w' h1 h2 h3 h4
    have h1' : Own w' base (some ⟨g, 0, none⟩) (n + 1) cap (xs ++ [y]) := by
      refine ⟨by simpa using h1, ?_⟩
      rcases h1.2 with ⟨h, _⟩ | ⟨_, _, _, h, _, _, hle, _⟩
      · cases h
      · injection h with _ _ hc
        subst hc
        exact hle
    refine h g cap w' h1' h2 (fun B' hB => ?_) h4
    exact (Below.refl _ _).grown h2 (by omega) (fun k hk => by have := hown.1.lt k hk; omega)
end Go.Proofs.Ytjfninibloakgaa

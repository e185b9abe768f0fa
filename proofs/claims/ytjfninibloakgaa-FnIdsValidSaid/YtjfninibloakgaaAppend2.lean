/-
  append of a whole list of ints onto a slice of the call's own, guarded or not: the kit's law at this program's types.
-/
import Derived.Test.YtjfninibloakgaaAppend
namespace Go.Proofs.Ytjfninibloakgaa
open Go.RowKit

theorem run_append_rd (w : World) (ty : TypeId) (base : Nat) (A : Option Addr) (n c : Nat) (xs : List Int) (hown : Own w base A n c xs)
    (B : Option Addr) (m d : Nat) (ys : List Int) (hr : Rd w B m ys) (hnm : n + m ≤ 4194304) (hbase : base ≤ w.heap.size) :
    ∃ A' c' w', (Builtin.append_ #[22, 22] ty #[.slice A n c, .slice B m d]).run Try.prog w = .ok (.slice A' (n + m) c') w' ∧ Own w' base A' (n + m) c' (xs ++ ys) ∧ w.grownBy w' (Value.slice A n c).ownBlock := by
  obtain ⟨i0, hi, hz0, hz1, hz2⟩ := info_parts info_int
  have hone : ∀ u ∈ ys.map (Value.int .i64), u.oneCell' = true := by
    intro u hu
    obtain ⟨y, _, rfl⟩ := List.mem_map.1 hu
    rfl
  rcases B with _ | ad
  · have hm : m = 0 := by
      rcases Nat.eq_zero_or_pos m with h0 | h0
      · exact h0
      · obtain ⟨g, off, h, _⟩ := hr.2.2 h0
        cases h
    subst hm
    have hy : ys = [] := List.eq_nil_of_length_eq_zero hr.1
    subst hy
    refine ⟨A, c, w, ?_, by simpa using hown, World.grownBy.refl w _⟩
    rcases hown.1.2 with ⟨h, _⟩ | ⟨g, cap, cur, h, _, _, hnc, _⟩
    · injection h with h1 h2 h3
      subst h1 h2 h3
      simp [Builtin.append_, run_underlying Try.underlying22, sizeOf, typeInfo, hi, Builtin.lenOf, Builtin.firstCells]
    · injection h with h1 h2 h3
      subst h1 h3
      simp [Builtin.append_, run_underlying Try.underlying22, sizeOf, typeInfo, hi, Builtin.lenOf, Builtin.firstCells, hnc, storeCells]
  · have hcells : ∀ j u, (ys.map (Value.int .i64))[j]? = some u → w.cell? (ad.add j) = some u := by
      intro j u hu
      rw [List.getElem?_map] at hu
      have hj : j < m := by
        rcases Nat.lt_or_ge j m with h | h
        · exact h
        · rw [List.getElem?_eq_none (by rw [hr.1]; exact h)] at hu; cases hu
      obtain ⟨g, off, e, _, hc⟩ := hr.2.2 (by omega)
      injection e with e
      subst e
      have hadd : (⟨g, off, none⟩ : Addr).add j = ⟨g, off + j, none⟩ := by unfold Addr.add; split <;> simp_all
      rw [hadd, hc j hj]
      rw [List.getElem?_eq_getElem (by rw [hr.1]; exact hj)] at hu
      rw [nth_get ys j (by rw [hr.1]; exact hj)]
      exact hu
    obtain ⟨v', w', hrun, h2, h3, _, _⟩ := run_append_own_at (P := Try.prog) w base 22 ty 3 i0 (.int .i64 0) 1 8 Try.underlying22 hi hz0 hz1 hz2 rfl (by omega) (.slice A n c) n _ hown.1 ad m d (ys.map (Value.int .i64)) (by simp [hr.1]) hcells hone (by unfold maxLen; omega) (by omega) hbase
    rcases h2.2 with ⟨hv, h0⟩ | ⟨g, cap, cur, hv, hb, hh, hle, hrest⟩
    · subst hv
      refine ⟨none, 0, w', ?_, ⟨?_, by omega⟩, h3⟩
      · rw [hrun, h0]
      · rw [h0] at h2 ⊢
        simpa using h2
    · subst hv
      exact ⟨some ⟨g, 0, none⟩, cap, w', hrun, ⟨by simpa using h2, hle⟩, h3⟩

theorem wpList_append_rd {ops : Array Oper} {rest : List Oper} {o : Oper} {a : Act} {Q : Exit → Act → World → Prop} (w : World) (hgd : Region.wanted o (yielded ops a.tmps) = true) (s x : Operand)
    (ho : o.op = .call { callee := .builtin .append, args := #[s, x], argTypes := #[22, 22] })
    (base : Nat) (A : Option Addr) (n c : Nat) (xs : List Int) (hs : a.eval s = .slice A n c) (hown : Own w base A n c xs)
    (B : Option Addr) (m d : Nat) (ys : List Int) (hx : a.eval x = .slice B m d) (hr : Rd w B m ys) (hnm : n + m ≤ 4194304) (hbase : base ≤ w.heap.size)
    (h : ∀ A' c' w', Own w' base A' (n + m) c' (xs ++ ys) → w.grownBy w' (Value.slice A n c).ownBlock → (∀ B', B' ≤ base → Below B' w w') →
      wpList Try.prog ops Q rest (a.put o.dst (.slice A' (n + m) c')) w') : wpList Try.prog ops Q (o :: rest) a w := by
  obtain ⟨A', c', w', hrun, h2, h3⟩ := run_append_rd w o.type base A n c xs hown B m d ys hr hnm hbase
  refine wpList_step fun K hK => ?_
  rw [if_pos hgd]
  unfold Oper.wp execOp
  simp only [ho, resolve, invoke, builtin, Sem.run_bind, Sem.run_pure, Result.andThen_ok, List.map_toArray, List.map_cons, List.map_nil, hs, hx, hrun]
  exact hK _ _ (h A' c' w' h2 h3 fun B' hB => (Below.refl _ _).grown h3 (by omega) (fun k hk => by have := hown.1.lt k hk; omega))
end Go.Proofs.Ytjfninibloakgaa

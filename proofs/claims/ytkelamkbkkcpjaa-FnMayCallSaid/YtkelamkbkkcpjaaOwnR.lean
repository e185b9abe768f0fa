/-
  Rows of rights of the call's own; append onto them.
-/
import Derived.Test.YtkelamkbkkcpjaaMay2
import Derived.Test.YtkelamkbkkcpjaaDraw
namespace Go.Proofs.Ytkelamkbkkcpjaa
open Go.RowKit

/-- the cells of rights -/
def cellsR : List Rt → List Value
  | [] => []
  | r :: rs => .int .i64 r.f :: .int .i64 r.a :: .int .i64 r.b :: cellsR rs
theorem cellsR_len (rs : List Rt) : (cellsR rs).length = rs.length * 3 := by
  induction rs with
  | nil => rfl
  | cons r rs ih => simp [cellsR, ih]; omega
theorem cellsR_app (rs qs : List Rt) : cellsR (rs ++ qs) = cellsR rs ++ cellsR qs := by
  induction rs with
  | nil => rfl
  | cons r rs ih => simp [cellsR, ih]
theorem cellsR_at (rs : List Rt) (j : Nat) (hj : j < rs.length) :
    (cellsR rs)[j * 3]? = some (.int .i64 (rnth rs j).f) ∧ (cellsR rs)[j * 3 + 1]? = some (.int .i64 (rnth rs j).a) ∧ (cellsR rs)[j * 3 + 2]? = some (.int .i64 (rnth rs j).b) := by
  induction rs generalizing j with
  | nil => simp at hj
  | cons r rs ih =>
    rcases j with _ | j
    · exact ⟨rfl, rfl, rfl⟩
    · have := ih j (by simpa using hj)
      rw [show (j + 1) * 3 = j * 3 + 1 + 1 + 1 by omega]
      exact this
theorem cellsR_one (rs : List Rt) : ∀ u ∈ cellsR rs, u.oneCell' = true := by
  induction rs with
  | nil => intro u hu; cases hu
  | cons r rs ih =>
    intro u hu
    simp only [cellsR, List.mem_cons] at hu
    rcases hu with rfl | rfl | rfl | hu
    · rfl
    · rfl
    · rfl
    · exact ih u hu

/-- a slice of rights of the call's own: nil, or a row of a block from base on -/
def OwnR (w : World) (base : Nat) (A : Option Addr) (n c : Nat) (rs : List Rt) : Prop :=
  w.ownsRow base 25 3 (.slice A n c) n (cellsR rs) ∧ n ≤ c
section
variable {w w' : World} {base n c : Nat} {A : Option Addr} {rs : List Rt}
theorem OwnR.len (h : OwnR w base A n c rs) : rs.length = n := by have := h.1.1; rw [cellsR_len] at this; omega
theorem OwnR.alloc (h : OwnR w base A n c rs) (o : Obj) : OwnR (w.alloc o) base A n c rs := ⟨h.1.alloc o, h.2⟩
theorem OwnR.below (h : OwnR w base A n c rs) (hb : Below w.heap.size w w') : OwnR w' base A n c rs :=
  ⟨h.1.kept (row := none) ⟨hb.os, hb.tape, hb.output, hb.size, fun k hk _ => hb.block k hk⟩ (by cases hv : (Value.slice A n c).ownBlock <;> simp), h.2⟩
theorem OwnR.block (h : OwnR w base A n c rs) : ∀ k, (Value.slice A n c).ownBlock = some k → base ≤ k ∧ k < w.heap.size := h.1.lt
theorem OwnR.picked {R : Nat} (h : OwnR w base A n c rs) (hR : R < base) (hg : w.grownBy w' (some R)) : OwnR w' base A n c rs :=
  ⟨h.1.kept hg (by
    cases hv : (Value.slice A n c).ownBlock with
    | none => exact .inl rfl
    | some k =>
      refine .inr fun e => ?_
      have := (h.block k hv).1
      injection e with e
      omega), h.2⟩
theorem OwnR.made (w : World) (base : Nat) (hb : base ≤ w.heap.size) : OwnR (w.alloc (.cells #[] 25)) base (some ⟨w.heap.size, 0, none⟩) 0 0 [] :=
  ⟨World.ownsRow_made w #[] 0 hb (by simp) (by simp), Nat.le_refl _⟩
theorem OwnR.built (w : World) (base : Nat) (hb : base ≤ w.heap.size) (r : Rt) : OwnR (w.alloc (.cells #[.int .i64 r.f, .int .i64 r.a, .int .i64 r.b] 25)) base (some ⟨w.heap.size, 0, none⟩) 1 1 [r] :=
  ⟨⟨rfl, .inr ⟨w.heap.size, 1, _, rfl, hb, heap_alloc_new w _, Nat.le_refl _, by unfold maxLen; omega, rfl, rfl⟩⟩, Nat.le_refl _⟩
theorem OwnR.rd (h : OwnR w base A n c rs) (hn : n ≤ 4194304) : RdR w A n rs := by
  refine ⟨h.len, hn, fun h0 => ?_⟩
  have hl := h.len
  obtain ⟨g, cap, hv, hb, hg⟩ := h.1.form h0
  have hA : A = some ⟨g, 0, none⟩ := by injection hv
  subst hA
  refine ⟨g, 0, rfl, hg, fun j hj => ?_⟩
  obtain ⟨c0, c1, c2⟩ := cellsR_at rs j (by omega)
  have hadd : ∀ i, (⟨g, 0, none⟩ : Addr).add i = ⟨g, 0 + i, none⟩ := fun i => by unfold Addr.add; split <;> simp_all
  refine ⟨?_, ?_, ?_⟩
  · have := h.1.cells (g := g) rfl _ _ c0; rwa [hadd] at this
  · have := h.1.cells (g := g) rfl _ _ c1; rwa [hadd] at this
  · have := h.1.cells (g := g) rfl _ _ c2; rwa [hadd] at this
end
theorem OwnR.row {w : World} {base n c : Nat} {A : Option Addr} {rs : List Rt} (h : OwnR w base A n c rs) (hn : n ≤ 4194304) : RowR w base A n rs := by
  refine ⟨h.len, hn, fun h0 => ?_⟩
  obtain ⟨g, off, e, hlt, hc⟩ := (h.rd hn).2.2 h0
  subst e
  have hb := (h.block g rfl).1
  refine ⟨g, off, rfl, hb, hlt, fun j hj => ⟨hc j hj, fun i _ => ?_⟩⟩
  rcases h.1.2 with ⟨h1, _⟩ | ⟨g', cap', cur, h1, _, hh, _⟩
  · cases h1
  · have : g = g' := by injection h1 with h1; injection h1 with h1; injection h1
    subst this
    simp [World.frozen?, hh]
theorem RowR.picked {w w' : World} {lo n R : Nat} {A : Option Addr} {rs : List Rt} (h : RowR w lo A n rs) (hR : R < lo) (hg : w.grownBy w' (some R)) : RowR w' lo A n rs :=
  ⟨h.1, h.2.1, fun hn => by
    obtain ⟨b, off, e, hl, hb, hc⟩ := h.2.2 hn
    have hbl : w'.heap[b]? = w.heap[b]? := hg.block b hb (by intro e; injection e with e; omega)
    refine ⟨b, off, e, hl, Nat.lt_of_lt_of_le hb hg.size, fun j hj => ⟨(hc j hj).1.keep fun o => World.cell?_of_block hbl, fun i hi => ?_⟩⟩
    rw [← (hc j hj).2 i hi]; simp [World.frozen?, hbl]⟩
theorem rdR_built (w : World) (r : Rt) : RdR (w.alloc (.cells #[.int .i64 r.f, .int .i64 r.a, .int .i64 r.b] 25)) (some ⟨w.heap.size, 0, none⟩) 1 [r] :=
  (OwnR.built w w.heap.size (Nat.le_refl _) r).rd (by omega)

theorem run_append_rdR (w : World) (ty : TypeId) (base : Nat) (A : Option Addr) (n c : Nat) (xs : List Rt) (hown : OwnR w base A n c xs)
    (B : Option Addr) (m d : Nat) (ys : List Rt) (hr : RdR w B m ys) (hnm : n + m ≤ 4194304) (hbase : base ≤ w.heap.size) :
    ∃ A' c' w', (Builtin.append_ #[31, 31] ty #[.slice A n c, .slice B m d]).run Try.prog w = .ok (.slice A' (n + m) c') w' ∧ OwnR w' base A' (n + m) c' (xs ++ ys) ∧ w.grownBy w' (Value.slice A n c).ownBlock := by
  obtain ⟨i0, hi, hz0, hz1, hz2⟩ := info_parts info_right
  rcases B with _ | ad
  · have hm : m = 0 := by
      rcases Nat.eq_zero_or_pos m with h0 | h0
      · exact h0
      · obtain ⟨g, off, h, _⟩ := hr.2.2 h0
        cases h
    subst hm
    have hy : ys = [] := List.eq_nil_of_length_eq_zero hr.1
    subst hy
    refine ⟨A, c, w, ?_, by simpa using hown, World.grownBy.refl w _⟩
    rcases hown.1.2 with ⟨h, _⟩ | ⟨g, cap, cur, h, _, _, hnc, _⟩
    · injection h with h1 h2 h3
      subst h1 h2 h3
      simp [Builtin.append_, run_underlying Try.underlying31, sizeOf, typeInfo, hi, Builtin.lenOf, Builtin.firstCells]
    · injection h with h1 h2 h3
      subst h1 h3
      simp [Builtin.append_, run_underlying Try.underlying31, sizeOf, typeInfo, hi, Builtin.lenOf, Builtin.firstCells, hnc, storeCells]
  · have hcells : ∀ j u, (cellsR ys)[j]? = some u → w.cell? (ad.add j) = some u := by
      intro j u hu
      have hj : j < m * 3 := by
        rcases Nat.lt_or_ge j (m * 3) with h | h
        · exact h
        · rw [List.getElem?_eq_none (by rw [cellsR_len, hr.1]; exact h)] at hu; cases hu
      obtain ⟨g, off, e, _, hc⟩ := hr.2.2 (by omega)
      injection e with e
      subst e
      have hadd : (⟨g, off, none⟩ : Addr).add j = ⟨g, off + j, none⟩ := by unfold Addr.add; split <;> simp_all
      rw [hadd]
      obtain ⟨k0, k1, k2⟩ := cellsR_at ys (j / 3) (by rw [hr.1]; omega)
      obtain ⟨h0, h1, h2⟩ := hc (j / 3) (by omega)
      have : j % 3 = 0 ∨ j % 3 = 1 ∨ j % 3 = 2 := by omega
      rcases this with hm | hm | hm
      · rw [show j / 3 * 3 = j by omega] at k0
        rw [show off + j / 3 * 3 = off + j by omega] at h0
        rw [k0] at hu; rw [h0]; exact hu
      · rw [show j / 3 * 3 + 1 = j by omega] at k1
        rw [show off + j / 3 * 3 + 1 = off + j by omega] at h1
        rw [k1] at hu; rw [h1]; exact hu
      · rw [show j / 3 * 3 + 2 = j by omega] at k2
        rw [show off + j / 3 * 3 + 2 = off + j by omega] at h2
        rw [k2] at hu; rw [h2]; exact hu
    obtain ⟨v', w', hrun, h2, h3, _, _⟩ := run_append_own_at (P := Try.prog) w base 31 ty 25 i0 _ 3 24 Try.underlying31 hi hz0 hz1 hz2 rfl (by omega) (.slice A n c) n _ hown.1 ad m d (cellsR ys) (by rw [cellsR_len, hr.1]) hcells (cellsR_one ys) (by unfold maxLen; omega) (by omega) hbase
    rcases h2.2 with ⟨hv, h0⟩ | ⟨g, cap, cur, hv, hb, hh, hle, hrest⟩
    · subst hv
      refine ⟨none, 0, w', ?_, ⟨?_, by omega⟩, h3⟩
      · rw [hrun, h0]
      · rw [cellsR_app, h0]; rw [h0] at h2; exact h2
    · subst hv
      exact ⟨some ⟨g, 0, none⟩, cap, w', hrun, ⟨by rw [cellsR_app]; exact h2, hle⟩, h3⟩

theorem wpList_append_rdR {ops : Array Oper} {rest : List Oper} {o : Oper} {a : Act} {Q : Exit → Act → World → Prop} (w : World) (hgd : Region.wanted o (yielded ops a.tmps) = true) (s x : Operand)
    (ho : o.op = .call { callee := .builtin .append, args := #[s, x], argTypes := #[31, 31] })
    (base : Nat) (A : Option Addr) (n c : Nat) (xs : List Rt) (hs : a.eval s = .slice A n c) (hown : OwnR w base A n c xs)
    (B : Option Addr) (m d : Nat) (ys : List Rt) (hx : a.eval x = .slice B m d) (hr : RdR w B m ys) (hnm : n + m ≤ 4194304) (hbase : base ≤ w.heap.size)
    (h : ∀ A' c' w', OwnR w' base A' (n + m) c' (xs ++ ys) → w.grownBy w' (Value.slice A n c).ownBlock → (∀ B', B' ≤ base → Below B' w w') →
      wpList Try.prog ops Q rest (a.put o.dst (.slice A' (n + m) c')) w') : wpList Try.prog ops Q (o :: rest) a w := by
  obtain ⟨A', c', w', hrun, h2, h3⟩ := run_append_rdR w o.type base A n c xs hown B m d ys hr hnm hbase
  refine wpList_step fun K hK => ?_
  rw [if_pos hgd]
  unfold Oper.wp execOp
  simp only [ho, resolve, invoke, builtin, Sem.run_bind, Sem.run_pure, Result.andThen_ok, List.map_toArray, List.map_cons, List.map_nil, hs, hx, hrun]
  exact hK _ _ (h A' c' w' h2 h3 fun B' hB => (Below.refl _ _).grown h3 (by omega) (fun k hk => by have := hown.1.lt k hk; omega))
end Go.Proofs.Ytkelamkbkkcpjaa

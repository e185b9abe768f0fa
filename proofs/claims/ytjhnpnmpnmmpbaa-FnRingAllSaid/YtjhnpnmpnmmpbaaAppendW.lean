/-
  append of one int onto a fresh row that may begin within its block (what RingPut hands back): in place or in a new block.
-/
import Derived.Test.YtjhnpnmpnmmpbaaRingPutW
import Derived.ArgAppend
namespace Go.Proofs.Ytjhnpnmpnmmpbaa
open Go.RowKit

theorem Row.snoc_ {w : World} {lo g off n : Nat} {xs : List Int} (h : Row w lo (some ⟨g, off, none⟩) n xs) (hl : lo ≤ g) (hg : g < w.heap.size) (hc : (w.cell? ⟨g, off + n, none⟩).isSome = true) (hf : w.frozen? ⟨g, off + n, none⟩ = false) (hn : n + 1 ≤ 4194304) (y : Int) :
    Row (w.setCell ⟨g, off + n, none⟩ (.int .i64 y)) lo (some ⟨g, off, none⟩) (n + 1) (xs ++ [y]) := by
  have hlen := h.len
  refine ⟨by simp [h.1], hn, fun _ => ⟨g, off, rfl, hl, by simpa [World.setCell] using hg, fun i hi => ?_⟩⟩
  obtain ⟨u, hu⟩ := Option.isSome_iff_exists.1 hc
  by_cases hij : i = n
  · subst hij
    refine ⟨?_, by simpa using hf⟩
    rw [World.cell?_setCell_same _ _ _ hu]
    unfold nth
    simp [List.getD, ← hlen]
  · obtain ⟨g', off', e, _, _, hcell⟩ := h.2.2 (by omega)
    injection e with e
    injection e with e1 e2
    subst e1 e2
    refine ⟨?_, by simpa using (hcell i (by omega)).2⟩
    rw [World.cell?_setCell_other _ _ _ _ (by intro e; injection e; omega), (hcell i (by omega)).1]
    unfold nth
    rw [List.getD, List.getD, List.getElem?_append_left (by omega)]

theorem wpList_append_rowS {ops : Array Oper} {rest : List Oper} {o : Oper} {a : Act} {Q : Exit → Act → World → Prop} (w : World) (hgd : o.guard = none) (s x : Operand)
    (ho : o.op = .call { callee := .builtin .append, args := #[s, x], argTypes := #[22, 22] })
    (lo : Nat) (A : Option Addr) (n c : Nat) (xs : List Int) (hs : a.eval s = .slice A n c) (h : RowS w lo A n c xs)
    (B : Nat) (y : Int) (hx : a.eval x = .slice (some ⟨B, 0, none⟩) 1 1) (hcell : w.cell? ⟨B, 0, none⟩ = some (.int .i64 y)) (hlo : lo ≤ w.heap.size) (hn : n + 1 ≤ 4194304)
    (k : ∀ A' c' w', Row w' lo (some A') (n + 1) (xs ++ [y]) → n + 1 ≤ c' → Below lo w w' → wpList Try.prog ops Q rest (a.put o.dst (.slice (some A') (n + 1) c')) w') :
    wpList Try.prog ops Q (o :: rest) a w := by
  obtain ⟨i0, hi, hz0, hz1, hz2⟩ := info_parts info_int
  have hlen := h.row.len
  have hnews : ∀ t u, [Value.int .i64 y][t]? = some u → w.cell? ((⟨B, 0, none⟩ : Addr).add t) = some u := by
    intro t u ht
    match t, ht with
    | 0, ht => simp at ht; subst ht; simpa [Addr.add] using hcell
  have hone : ∀ u ∈ [Value.int .i64 y], u.oneCell' = true := by
    intro u hu
    simp at hu
    subst hu
    rfl
  have hgrow : ∀ v' w', w'.ownsRow w.heap.size 3 1 v' (n + 1) (xs.map (Value.int .i64) ++ [Value.int .i64 y]) → w.grownBy w' none → wpList Try.prog ops Q rest (a.put o.dst v') w' := by
    intro v' w' h1 h2
    obtain ⟨g, cap, hv, hb, hg⟩ := h1.form (by omega)
    subst hv
    have hcap : n + 1 ≤ cap := by
      rcases h1.2 with ⟨e, _⟩ | ⟨_, _, _, e, _, _, hle, _⟩
      · cases e
      · injection e with _ _ e3
        omega
    have hown : Own w' w.heap.size (some ⟨g, 0, none⟩) (n + 1) cap (xs ++ [y]) := ⟨by simpa using h1, hcap⟩
    refine k ⟨g, 0, none⟩ cap w' ((hown.row hn).more hlo) hcap ?_
    exact (Below.refl _ _).grown h2 hlo (fun k hk => by cases hk)
  cases A with
  | none =>
    have hn0 : n = 0 := by
      rcases Nat.eq_zero_or_pos n with h0 | h0
      · exact h0
      · obtain ⟨_, _, e, _⟩ := h.row.2.2 h0
        cases e
    have hc0 : c = 0 := by
      rcases Nat.eq_zero_or_pos c with h0 | h0
      · exact h0
      · obtain ⟨_, _, e, _⟩ := h.spare (by omega)
        cases e
    subst hn0 hc0
    exact wpList_append_grows w hgd s x 22 ho 3 i0 (.int .i64 0) 1 8 Try.underlying22 hi hz0 hz1 hz2 rfl (by omega) none 0 0 (xs.map (Value.int .i64)) hs (fun _ => ⟨rfl, rfl⟩) (by simp [hlen]) (fun b e => by cases e)
      ⟨B, 0, none⟩ 1 1 [.int .i64 y] hx rfl hnews hone (by omega) (by unfold maxLen; omega) (by omega) hgrow
  | some ad =>
    obtain ⟨g, off, spot⟩ := ad
    by_cases hfull : c < n + 1
    · refine wpList_append_grows w hgd s x 22 ho 3 i0 (.int .i64 0) 1 8 Try.underlying22 hi hz0 hz1 hz2 rfl (by omega) (some ⟨g, off, spot⟩) n c (xs.map (Value.int .i64)) hs (fun e => by cases e) (by simp [hlen]) ?_
        ⟨B, 0, none⟩ 1 1 [.int .i64 y] hx rfl hnews hone hfull (by unfold maxLen; omega) (by omega) hgrow
      intro b e j u hu
      injection e with e
      subst e
      rw [List.getElem?_map] at hu
      have hj : j < n := by
        rcases Nat.lt_or_ge j n with h | h
        · exact h
        · rw [List.getElem?_eq_none (by omega)] at hu; cases hu
      obtain ⟨g', off', e, _, _, hc⟩ := h.row.2.2 (by omega)
      injection e with e
      injection e with e1 e2 e3
      subst e1 e2 e3
      have hadd : (⟨g, off, none⟩ : Addr).add j = ⟨g, off + j, none⟩ := by unfold Addr.add; split <;> simp_all
      rw [hadd, (hc j hj).1]
      rw [List.getElem?_eq_getElem (by omega)] at hu
      rw [nth_get xs j (by omega)]
      exact hu
    · obtain ⟨g', off', e, hl, hg, hsp, hfz⟩ := h.spare (by omega)
      injection e with e
      injection e with e1 e2 e3
      subst e1 e2 e3
      refine wpList_append_arg w hgd s x 22 ho 3 i0 (.int .i64 0) 1 8 Try.underlying22 hi hz0 hz1 hz2 rfl (by omega) g off n c (xs.map (Value.int .i64)) hs (by simp [hlen]) ?_
        ⟨B, 0, none⟩ 1 1 [.int .i64 y] hx rfl hnews hone ?_ (by unfold maxLen; omega) (by omega) ?_ (fun _ => hgrow)
      · intro j u hu
        rw [List.getElem?_map] at hu
        have hj : j < n := by
          rcases Nat.lt_or_ge j n with h | h
          · exact h
          · rw [List.getElem?_eq_none (by omega)] at hu; cases hu
        obtain ⟨g', off', e, _, _, hc⟩ := h.row.2.2 (by omega)
        injection e with e
        injection e with e1 e2
        subst e1 e2
        rw [(hc j hj).1]
        rw [List.getElem?_eq_getElem (by omega)] at hu
        rw [nth_get xs j (by omega)]
        exact hu
      · intro _ j hj
        have : j = 0 := by simpa using hj
        subst this
        exact ⟨by simpa using hsp, by simpa using hfz⟩
      · intro _
        have hrow := h.row.snoc_ hl hg hsp hfz hn y
        have e : w.setCells g (off + n * 1) [.int .i64 y] = w.setCell ⟨g, off + n, none⟩ (.int .i64 y) := by simp [World.setCells]
        rw [e]
        exact k ⟨g, off, none⟩ c _ hrow (by omega) ((Below.refl _ _).setCell hl _)

theorem specRingPutW_any (f : Int) (A : Option Addr) (n c : Nat) (xs : List Int) (ev : Int) (w : World) (h : Rd w A n xs) :
    Calls Try.prog 30 #[.agg #[.int .i64 f, .slice A n c], .int .i64 ev] w (PutGotW w (putF f xs ev) (putL f xs ev) (putB f xs ev)) := by
  cases hv : ringB f xs
  · obtain ⟨p1, p2, p3⟩ := put_none (e := ev) hv
    rw [p1, p2, p3]
    have hb0 : Below w.heap.size w ((w.alloc (ringBox f A n c)).alloc (ringBox 0 none 0 0)) := (below_box w _).alloc (by simp) _
    have hr := (h.alloc (ringBox f A n c)).alloc (ringBox 0 none 0 0)
    have hy0 : Bx ((w.alloc (ringBox f A n c)).alloc (ringBox 0 none 0 0)) (w.heap.size + 1) 27 0 none 0 0 := by
      have := Bx.new (w.alloc (ringBox f A n c)) 27 0 none 0 0
      simpa using this
    clear p1 p2 p3
    go_enter Try.func30, Try.ntmps30
    go_wp2_with fail
    refine (specRingValid_any f A n c xs _ hr).mono ?_
    rintro e w1 ⟨rfl, b1⟩
    have hy1 := hy0.below b1
    have c0 := hy1.c0
    have c1 := hy1.c1
    have f0 := hy1.f0
    have f1 := hy1.f1
    go_wp2_with fail
    refine bodyPost_ret (v := .tuple #[.agg #[.int .i64 0, .slice none 0 0], .bool false]) (by simp [results, Try.results30, go_sem, c0, c1]) rfl ⟨none, 0, 0, rfl, RowS.nil_, ?_⟩
    exact ((below_step hb0 b1).setCell (by show w.heap.size ≤ w.heap.size + 1; omega) _).setCell (by show w.heap.size ≤ w.heap.size + 1; omega) _
  · exact specRingPutW_in f A n c xs ev w h hv
end Go.Proofs.Ytjhnpnmpnmmpbaa

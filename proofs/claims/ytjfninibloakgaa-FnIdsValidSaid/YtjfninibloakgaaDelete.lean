/-
  slices.Delete of one int, out of a row of the call's own.
-/
import Derived.Test.YtjfninibloakgaaArbPlain
import Derived.Test.YtjfninibloakgaaAppend2
import Derived.Test.YtjfninibloakgaaDraw
import Derived.Deep.RegionHeld3
import Derived.Deep.DrawnRows
import Derived.Deep.RegionLaw
import Derived.Lib.SliceRun
namespace Go.Proofs.Ytjfninibloakgaa
open Go.RowKit
attribute [local go_sem ↓] Go.wp_at_zero Go.wp_at_succ

/-- the block of a row of ints that may be written -/
def Shape (w : World) (g c : Nat) : Prop := ∃ cur, w.heap[g]? = some (.cells cur 3 (0, 0)) ∧ cur.size = c
theorem Shape.set {w : World} {g c : Nat} (h : Shape w g c) (g' i : Nat) (v : Value) : Shape (w.setCell ⟨g', i, none⟩ v) g c := by
  obtain ⟨cur, h1, h2⟩ := h
  by_cases e : g = g'
  · subst e
    exact ⟨cur.setIfInBounds i v, by simp [World.setCell, Array.getElem?_modify, h1], by simpa using h2⟩
  · refine ⟨cur, ?_, h2⟩
    rw [← h1]
    exact Below.heap_setCell _ _ _ _ (by intro h; exact e h)
theorem Shape.sets {g c : Nat} (g' : Nat) : ∀ (vs : List Value) (o : Nat) (w0 : World), Shape w0 g c → Shape (w0.setCells g' o vs) g c
  | [], _, _, h => h
  | v :: vs, o, _, h => Shape.sets g' vs (o + 1) _ (h.set g' o v)
theorem Shape.cell {w : World} {g c : Nat} (h : Shape w g c) (j : Nat) (hj : j < c) : (w.cell? ⟨g, j, none⟩).isSome = true := by
  obtain ⟨cur, h1, h2⟩ := h
  rw [cell_of_row w g j _ _ _ h1]
  simp; omega
theorem Shape.froz {w : World} {g c : Nat} (h : Shape w g c) (j : Nat) : w.frozen? ⟨g, j, none⟩ = false := by
  obtain ⟨cur, h1, h2⟩ := h
  simp [World.frozen?, h1]
theorem grown_sets (g : Nat) : ∀ (vs : List Value) (o : Nat) (w0 : World), w0.grownBy (w0.setCells g o vs) (some g)
  | [], _, _ => World.grownBy.refl _ _
  | v :: vs, o, w => by
    have h1 : World.grownBy w (w.setCell ⟨g, o, none⟩ v) (some g) := ⟨rfl, rfl, rfl, by simp [World.setCell], fun k hk hne => Below.heap_setCell _ _ _ _ (by intro e; exact hne (by rw [e]))⟩
    have h2 := grown_sets g vs (o + 1) (w.setCell ⟨g, o, none⟩ v)
    exact ⟨h2.os.trans h1.os, h2.tape.trans h1.tape, h2.output.trans h1.output, Nat.le_trans h1.size h2.size, fun i hi hne => (h2.block i (Nat.lt_of_lt_of_le hi h1.size) hne).trans (h1.block i hi hne)⟩

theorem Own.shape {w : World} {base n c g : Nat} {xs : List Int} (h : Own w base (some ⟨g, 0, none⟩) n c xs) : Shape w g c ∧ base ≤ g ∧ c ≤ maxLen := by
  rcases h.1.2 with ⟨e, _⟩ | ⟨g', cap, cur, e, hb, hh, _, hm, hs, _⟩
  · cases e
  · injection e with e1 _ e3
    injection e1 with e1
    injection e1 with e1
    subst e1 e3
    exact ⟨⟨cur, hh, by omega⟩, hb, hm⟩
theorem Own.of_shape {w : World} {base n c g : Nat} {xs : List Int} (h : Shape w g c) (hb : base ≤ g) (hn : n ≤ c) (hm : c ≤ maxLen) (hl : xs.length = n) (hc : ∀ j, j < n → w.cell? ⟨g, j, none⟩ = some (.int .i64 (nth xs j))) : Own w base (some ⟨g, 0, none⟩) n c xs := by
  obtain ⟨cur, h1, h2⟩ := h
  refine ⟨⟨by simp [hl], .inr ⟨g, c, cur, rfl, hb, h1, hn, hm, by omega, ?_⟩⟩, hn⟩
  apply List.ext_getElem?
  intro j
  by_cases hj : j < n
  · have := hc j hj
    rw [cell_of_row w g j _ _ _ h1] at this
    rw [List.getElem?_take, if_pos (by omega), Array.getElem?_toList, this, List.getElem?_map, List.getElem?_eq_getElem (by omega), nth_get xs j (by omega)]
    rfl
  · rw [List.getElem?_eq_none (by simp; omega), List.getElem?_eq_none (by simp; omega)]

theorem nth_cutAt (l : List Int) (k j : Nat) (hk : k < l.length) : nth (cutAt l k) j = if j < k then nth l j else nth l (j + 1) := by
  unfold cutAt nth
  by_cases h : j < k
  · rw [if_pos h, List.getD, List.getD, List.getElem?_append_left (by simp; omega), List.getElem?_take, if_pos h]
  · rw [if_neg h, List.getD, List.getD, List.getElem?_append_right (by simp; omega), List.getElem?_drop]
    congr 2
    simp
    omega

theorem deleted_own {w : World} {base g k r c : Nat} {xs : List Int} (h : Own w base (some ⟨g, 0, none⟩) (k + 1 + r) c xs) (hm : k + 1 + r ≤ 1000) {W1 : World} (hW : W1 = w.drew.setCells g (0 + k * 1) ((xs.drop (k + 1)).map (Value.int .i64))) :
    Own (W1.setCells g (k + r) [.int .i64 0]) base (some ⟨g, 0, none⟩) (k + r) c (cutAt xs k) ∧ w.grownBy (W1.setCells g (k + r) [.int .i64 0]) (some g) := by
  obtain ⟨hsh, hbg, hcm⟩ := h.shape
  have hlen := h.len
  have hnc := h.2
  obtain ⟨g', off', e, hg, hcell⟩ := (h.rd (by omega)).2.2 (by omega)
  injection e with e
  injection e with e1 e2
  subst e1 e2
  have hml : ((xs.drop (k + 1)).map (Value.int .i64)).length = r := by simp; omega
  rw [Nat.zero_add, Nat.mul_one] at hW
  have hsh1 : Shape W1 g c := by rw [hW]; exact Shape.sets g _ _ _ hsh
  have hg1 : w.grownBy W1 (some g) := by
    rw [hW]
    have := grown_sets g ((xs.drop (k + 1)).map (Value.int .i64)) k w.drew
    exact ⟨this.os, this.tape, this.output, this.size, this.block⟩
  have hg2 := grown_sets g [Value.int .i64 0] (k + r) W1
  refine ⟨Own.of_shape (Shape.sets g _ _ _ hsh1) hbg (by omega) hcm (by rw [cutAt_len xs k (by omega)]; omega) (fun j hj => ?_), ⟨hg2.os.trans hg1.os, hg2.tape.trans hg1.tape, hg2.output.trans hg1.output, Nat.le_trans hg1.size hg2.size, fun i hi hne => (hg2.block i (Nat.lt_of_lt_of_le hi hg1.size) hne).trans (hg1.block i hi hne)⟩⟩
  rw [World.cell?_setCells_out g _ _ _ _ (fun _ _ => .inl hj), hW, nth_cutAt xs k j (by omega)]
  by_cases hjk : j < k
  · rw [if_pos hjk, World.cell?_setCells_out g _ _ _ _ (fun _ _ => .inl hjk)]
    have := hcell j (by omega)
    rw [Nat.zero_add] at this
    exact this
  · rw [if_neg hjk]
    have := World.cell?_setCells_in g ((xs.drop (k + 1)).map (Value.int .i64)) k w.drew (fun t ht => hsh.cell _ (by omega)) (j - k) (by omega)
    rw [show k + (j - k) = j by omega] at this
    rw [this]
    simp only [List.getElem_map, List.getElem_drop]
    rw [nth_get xs (j + 1) (by omega)]
    congr 3
    omega

/-- what Delete leaves -/
def Deleted (w : World) (base : Nat) (A : Option Addr) (m c : Nat) (ys : List Int) (e : Ending) (w' : World) : Prop :=
  e = .returned (.slice A m c) ∧ Own w' base A m c ys ∧ w.grownBy w' (Value.slice A m c).ownBlock
/-- the cells that move to the left -/
def moved (xs : List Int) (k : Nat) : List Value := (xs.drop (k + 1)).map (Value.int .i64)

set_option maxHeartbeats 3200000 in
set_option maxRecDepth 100000 in
theorem delete_any (base : Nat) (g k r c : Nat) (xs : List Int) (w : World) (h : Own w base (some ⟨g, 0, none⟩) (k + 1 + r) c xs) (hm : k + 1 + r ≤ 1000) :
    Calls Try.prog 36 #[.slice (some ⟨g, 0, none⟩) (k + 1 + r) c, .int .i64 k, .int .i64 ((k : Int) + 1)] w (Deleted w base (some ⟨g, 0, none⟩) (k + r) c (cutAt xs k)) := by
  obtain ⟨hsh, hbg, hcm⟩ := h.shape
  have hlen := h.len
  have hnc := h.2
  have hrd := h.rd (by omega)
  obtain ⟨g', off', e, hg, hcell⟩ := hrd.2.2 (by omega)
  injection e with e
  injection e with e1 e2
  subst e1 e2
  obtain ⟨i0, hi, hz0, hz1, hz2⟩ := info_parts info_int
  have hml : (moved xs k).length = r := by unfold moved; simp; omega
  have hmg : ∀ t u, (moved xs k)[t]? = some u → t < r ∧ u = .int .i64 (nth xs (k + 1 + t)) := by
    intro t u hu
    have ht : t < r := by
      rcases Nat.lt_or_ge t r with h | h
      · exact h
      · rw [List.getElem?_eq_none (by omega)] at hu; cases hu
    refine ⟨ht, ?_⟩
    unfold moved at hu
    rw [List.getElem?_map, List.getElem?_drop, List.getElem?_eq_getElem (by omega)] at hu
    simp at hu
    rw [← hu, nth_get xs _ (by omega)]
  have hsrc0 : c = k + 1 → Hid (∀ t u, (moved xs k)[t]? = some u → w.drew.cell? ((⟨g, 0, none⟩ : Addr).add t) = some u) := fun hc t u hu => by
    have := (hmg t u hu).1
    omega
  have hsrc1 : Hid (∀ t u, (moved xs k)[t]? = some u → w.drew.cell? ((⟨g, k + 1, none⟩ : Addr).add t) = some u) := by
    intro t u hu
    obtain ⟨ht, rfl⟩ := hmg t u hu
    rw [Addr.add_lit]
    have := hcell (k + 1 + t) (by omega)
    rw [Nat.zero_add] at this
    exact this
  have s1 : Hid ((moved xs k).length = r * 1) := by show _ = _; omega
  have s2 : Hid (∀ u ∈ moved xs k, u.oneCell' = true) := by
    intro u hu
    unfold moved at hu
    obtain ⟨x, _, rfl⟩ := List.mem_map.1 hu
    rfl
  have s3 : Hid (∀ t, t < (moved xs k).length → (w.drew.cell? ⟨g, 0 + k * 1 + t, none⟩).isSome = true ∧ w.drew.frozen? ⟨g, 0 + k * 1 + t, none⟩ = false) := by
    intro t ht
    exact ⟨hsh.cell _ (by omega), hsh.froz _⟩
  obtain ⟨W1, hW1⟩ : ∃ W1, W1 = w.drew.setCells g (0 + k * 1) (moved xs k) := ⟨_, rfl⟩
  have hsh1 : Shape W1 g c := by rw [hW1]; exact Shape.sets g _ _ _ hsh
  have HD := Lib.hid (deleted_own h hm hW1)
  have HW := Lib.hid hW1
  clear hW1
  have hcl : ∀ ty c', (Builtin.clear_ #[22] ty #[.slice (some ⟨g, k + r, none⟩) 1 c']).run Try.prog W1 = .ok (.tuple #[]) (W1.setCells g (k + r) [.int .i64 0]) := fun ty c' =>
    Lib.run_clear_slice W1 22 3 ty (.int .i64 0) Try.underlying22 (fun w => by simp [zeroValue, typeInfo, hi, hz0]) rfl rfl g (k + r) 1 c' (by omega) (fun j hj => hsh1.cell _ (by omega)) (fun j _ => hsh1.froz _)
  have hsub : k + 1 + r - (k + r) = 1 := by omega
  have hcn2 : ¬ c = k + r := by omega
  have hic : (k : Int) ≤ (c : Int) := by omega
  have hjc : (k : Int) + 1 ≤ (c : Int) := by omega
  have hcn : ¬ c = k := by omega
  have H0 := Lib.hid (And.intro hcell (And.intro hmg (And.intro hml hlen)))
  have hq1 : (0 : Int) ≤ (k : Int) + 1 := by omega
  have hq2 : (k : Int) + 1 ≤ (k : Int) + 1 + (r : Int) := by omega
  have hq3 : (k : Int) + 1 + (r : Int) ≤ (c : Int) := by omega
  have hq4 : (k : Int) ≤ (k : Int) + 1 := by omega
  have hq5 : (0 : Int) ≤ (k : Int) := by omega
  have hw1 : IntKind.i64.wrap ((k : Int) + 1) = (k : Int) + 1 := IntWalk.i64_in _ (by omega)
  clear hcell hmg hml hlen hrd h
  by_cases hck : c = k + 1
  · have hsrc := hsrc0 hck
    clear hsrc0 hsrc1
    obtain rfl : r = 0 := by omega
    subst hck
    rw [Nat.add_zero] at hcl
    go_enter Try.func36, Try.ntmps36
    go_wp2_with fail
    go_region_held3 (fun _ => True) (trivial)
      ((refine step_append_room rfl (.tmp 22) (.tmp 25) 22 rfl 3 i0 1 Try.underlying22 hi hz1 g 0 k (k + 1) (by simp [Act.eval]) ⟨g, 0, none⟩ 0 0 (moved xs k) (by simp [Act.eval]) s1.out hsrc.out s2.out (by omega) s3.out ?_; rw [← HW.out]))
    go_wp2_with fail
    go_ret
    exact ⟨rfl, HD.out.1, HD.out.2⟩
  · clear hsrc0
    go_enter Try.func36, Try.ntmps36
    go_wp2_with fail
    go_region_held3 (fun _ => True) (trivial)
      ((refine step_append_room rfl (.tmp 22) (.tmp 25) 22 rfl 3 i0 1 Try.underlying22 hi hz1 g 0 k c (by simp [Act.eval]) ⟨g, k + 1, none⟩ r (c - (k + 1)) (moved xs k) (by simp [Act.eval]) s1.out hsrc1.out s2.out (by omega) s3.out ?_; rw [← HW.out]))
    go_wp2_with fail
    go_ret
    exact ⟨rfl, HD.out.1, HD.out.2⟩
end Go.Proofs.Ytjfninibloakgaa

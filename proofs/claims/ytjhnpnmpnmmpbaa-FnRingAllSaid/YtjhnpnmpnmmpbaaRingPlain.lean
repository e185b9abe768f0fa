/-
  Plain facts on rings of events: what is kept and what is lost. No program in sight.
-/
import Derived.Test.YtjhnpnmpnmmpbaaWithin
namespace Go.Proofs.Ytjhnpnmpnmmpbaa

/-- a ring that is valid: the number of the first event, and the events -/
def ringB (f : Int) (xs : List Int) : Bool := decide (0 ≤ f) && (decide (f ≤ 9999) && (decide (xs.length ≤ 6) && (withinB xs 100 && (decide (f = 0) || decide (xs.length = 6)))))
theorem ringB_true {f : Int} {xs : List Int} : ringB f xs = true ↔ 0 ≤ f ∧ f ≤ 9999 ∧ xs.length ≤ 6 ∧ withinB xs 100 = true ∧ (f = 0 ∨ xs.length = 6) := by unfold ringB; simp
theorem ringB_no {f : Int} {xs : List Int} (h : ¬ (0 ≤ f ∧ f ≤ 9999 ∧ xs.length ≤ 6 ∧ withinB xs 100 = true ∧ (f = 0 ∨ xs.length = 6))) : ringB f xs = false := by
  cases hb : ringB f xs
  · rfl
  · exact absurd (ringB_true.1 hb) h

/-- an event can be put -/
def putB (f : Int) (xs : List Int) (e : Int) : Bool := ringB f xs && (decide (0 ≤ e) && (decide (e ≤ 99) && !(decide (xs.length = 6) && decide (f = 9999))))
theorem putB_true {f e : Int} {xs : List Int} : putB f xs e = true ↔ ringB f xs = true ∧ 0 ≤ e ∧ e ≤ 99 ∧ ¬ (xs.length = 6 ∧ f = 9999) := by unfold putB; simp; intro _ _ _; omega
theorem putB_no {f e : Int} {xs : List Int} (h : ¬ (ringB f xs = true ∧ 0 ≤ e ∧ e ≤ 99 ∧ ¬ (xs.length = 6 ∧ f = 9999))) : putB f xs e = false := by
  cases hb : putB f xs e
  · rfl
  · exact absurd (putB_true.1 hb) h
/-- the ring with a further event: the first number, the events -/
def putF (f : Int) (xs : List Int) (e : Int) : Int := if ringB f xs = true then (if putB f xs e = true ∧ xs.length = 6 then f + 1 else f) else 0
def putL (f : Int) (xs : List Int) (e : Int) : List Int := if ringB f xs = true then (if putB f xs e = true then (if xs.length = 6 then (xs ++ [e]).drop 1 else xs ++ [e]) else xs) else []
section
variable {f e : Int} {xs : List Int}
theorem put_none (h : ringB f xs = false) : putF f xs e = 0 ∧ putL f xs e = [] ∧ putB f xs e = false := by
  refine ⟨by unfold putF; rw [h]; rfl, by unfold putL; rw [h]; rfl, putB_no (by rw [h]; simp)⟩
theorem put_not (h : ringB f xs = true) (h' : putB f xs e = false) : putF f xs e = f ∧ putL f xs e = xs := by
  refine ⟨by unfold putF; rw [h, h']; simp, by unfold putL; rw [h, h']; simp⟩
theorem put_full (h : ringB f xs = true) (h' : putB f xs e = true) (h6 : xs.length = 6) : putF f xs e = f + 1 ∧ putL f xs e = (xs ++ [e]).drop 1 := by
  refine ⟨by unfold putF; rw [h, h']; simp [h6], by unfold putL; rw [h, h']; simp [h6]⟩
theorem put_more (h : ringB f xs = true) (h' : putB f xs e = true) (h6 : ¬ xs.length = 6) : putF f xs e = f ∧ putL f xs e = xs ++ [e] := by
  refine ⟨by unfold putF; rw [h, h']; simp [h6], by unfold putL; rw [h, h']; simp [h6]⟩
theorem within_snoc (h : withinB xs 100 = true) (h0 : 0 ≤ e) (h1 : e ≤ 99) : withinB (xs ++ [e]) 100 = true := by
  rw [withinB_true] at h ⊢
  intro x hx
  rcases List.mem_append.1 hx with hx | hx
  · exact h x hx
  · simp at hx; omega
theorem within_drop (h : withinB xs 100 = true) (k : Nat) : withinB (xs.drop k) 100 = true := by
  rw [withinB_true] at h ⊢
  exact fun x hx => h x (List.mem_of_mem_drop hx)
theorem within_snoc_no (h : ¬ (0 ≤ e ∧ e ≤ 99)) : withinB (xs ++ [e]) 100 = false := by
  cases hb : withinB (xs ++ [e]) 100
  · rfl
  · have := withinB_true.1 hb e (by simp)
    omega
/-- putting keeps a ring valid -/
theorem put_valid (h : ringB f xs = true) : ringB (putF f xs e) (putL f xs e) = true := by
  cases hp : putB f xs e
  · rw [(put_not h hp).1, (put_not h hp).2]; exact h
  · obtain ⟨_, h0, h1, h9⟩ := putB_true.1 hp
    obtain ⟨a, b, c, d, g⟩ := ringB_true.1 h
    by_cases h6 : xs.length = 6
    · rw [(put_full h hp h6).1, (put_full h hp h6).2]
      refine ringB_true.2 ⟨by omega, by omega, by simp; omega, within_drop (within_snoc d h0 h1) 1, .inr (by simp; omega)⟩
    · rw [(put_more h hp h6).1, (put_more h hp h6).2]
      refine ringB_true.2 ⟨by omega, by omega, by simp; omega, within_snoc d h0 h1, .inl (by omega)⟩
theorem put_len (h : ringB f xs = true) (hp : putB f xs e = true) : putF f xs e + (putL f xs e).length = f + xs.length + 1 := by
  by_cases h6 : xs.length = 6
  · rw [(put_full h hp h6).1, (put_full h hp h6).2]; simp; omega
  · rw [(put_more h hp h6).1, (put_more h hp h6).2]; simp; omega
/-- the last one of the events is the one that was put -/
theorem put_last (h : ringB f xs = true) (hp : putB f xs e = true) : ((putL f xs e).drop (f + xs.length - putF f xs e).toNat) = [e] := by
  obtain ⟨a, b, c, d, g⟩ := ringB_true.1 h
  by_cases h6 : xs.length = 6
  · rw [(put_full h hp h6).1, (put_full h hp h6).2, List.drop_drop, show 1 + (f + xs.length - (f + 1)).toNat = xs.length by omega]
    simp
  · rw [(put_more h hp h6).1, (put_more h hp h6).2, show (f + xs.length - f).toNat = xs.length by omega]
    simp
end

def nextZ (f : Int) (xs : List Int) : Int := if ringB f xs = true then f + xs.length else -1
theorem nextZ_yes {f : Int} {xs : List Int} (h : ringB f xs = true) : nextZ f xs = f + xs.length := by unfold nextZ; rw [if_pos h]
theorem nextZ_no {f : Int} {xs : List Int} (h : ringB f xs = false) : nextZ f xs = -1 := by unfold nextZ; rw [h]; rfl

/-- what is read from a number on, and how many are lost -/
def readB (f : Int) (xs : List Int) (m : Int) : Bool := ringB f xs && (decide (0 ≤ m) && decide (m ≤ f + xs.length))
theorem readB_true {f m : Int} {xs : List Int} : readB f xs m = true ↔ ringB f xs = true ∧ 0 ≤ m ∧ m ≤ f + xs.length := by unfold readB; simp
theorem readB_no {f m : Int} {xs : List Int} (h : ¬ (ringB f xs = true ∧ 0 ≤ m ∧ m ≤ f + xs.length)) : readB f xs m = false := by
  cases hb : readB f xs m
  · rfl
  · exact absurd (readB_true.1 hb) h
def readL (f : Int) (xs : List Int) (m : Int) : List Int := if readB f xs m = true then xs.drop (m - f).toNat else []
def readZ (f : Int) (xs : List Int) (m : Int) : Int := if readB f xs m = true then (if m < f then f - m else 0) else -1
theorem read_no {f m : Int} {xs : List Int} (h : readB f xs m = false) : readL f xs m = [] ∧ readZ f xs m = -1 := by
  unfold readL readZ; rw [h]; exact ⟨rfl, rfl⟩
theorem read_old {f m : Int} {xs : List Int} (h : readB f xs m = true) (hm : m < f) : readL f xs m = xs ∧ readZ f xs m = f - m := by
  unfold readL readZ
  rw [if_pos h, if_pos h, if_pos hm, show (m - f).toNat = 0 by omega]
  exact ⟨rfl, rfl⟩
theorem read_new {f m : Int} {xs : List Int} (h : readB f xs m = true) (hm : ¬ m < f) : readL f xs m = xs.drop (m - f).toNat ∧ readZ f xs m = 0 := by
  unfold readL readZ
  rw [if_pos h, if_pos h, if_neg hm]
  exact ⟨rfl, rfl⟩

/-- the ring after events -/
def allTo (es : List Int) : Nat → Int × List Int
  | 0 => (0, [])
  | k + 1 => (putF (allTo es k).1 (allTo es k).2 (nth es k), putL (allTo es k).1 (allTo es k).2 (nth es k))
theorem allTo_valid (es : List Int) (k : Nat) : ringB (allTo es k).1 (allTo es k).2 = true := by
  induction k with
  | zero => rfl
  | succ k ih => exact put_valid ih

/-- the events that can be put -/
def goodTo (es : List Int) (k : Nat) : List Int := (es.take k).filter fun e => decide (0 ≤ e) && decide (e ≤ 99)
def lost6 (g : List Int) : Nat := g.length - 6
theorem goodTo_yes (es : List Int) (k : Nat) (hk : k < es.length) (h : 0 ≤ nth es k ∧ nth es k ≤ 99) : goodTo es (k + 1) = goodTo es k ++ [nth es k] := by
  unfold goodTo
  rw [take_succ_nth es k hk, List.filter_append]
  simp [h]
theorem goodTo_no (es : List Int) (k : Nat) (hk : k < es.length) (h : ¬ (0 ≤ nth es k ∧ nth es k ≤ 99)) : goodTo es (k + 1) = goodTo es k := by
  unfold goodTo
  rw [take_succ_nth es k hk, List.filter_append]
  have : (decide (0 ≤ nth es k) && decide (nth es k ≤ 99)) = false := by
    cases hb : (decide (0 ≤ nth es k) && decide (nth es k ≤ 99))
    · rfl
    · simp at hb; exact absurd hb h
  simp [this]
theorem goodTo_len (es : List Int) (k : Nat) : (goodTo es k).length ≤ k := by
  unfold goodTo
  refine Nat.le_trans (List.length_filter_le _ _) ?_
  simp; omega
theorem all_good (es : List Int) : ∀ k, k ≤ es.length → k ≤ 9000 → (allTo es k).1 = (lost6 (goodTo es k) : Int) ∧ (allTo es k).2 = (goodTo es k).drop (lost6 (goodTo es k)) := by
  intro k
  induction k with
  | zero => intro _ _; exact ⟨rfl, rfl⟩
  | succ k ih =>
    intro hk h9
    obtain ⟨e1, e2⟩ := ih (by omega) (by omega)
    have hv := allTo_valid es k
    have hl := goodTo_len es k
    have h2 : (allTo es k).2.length = (goodTo es k).length - lost6 (goodTo es k) := by rw [e2]; simp
    have hl6 : lost6 (goodTo es k) = (goodTo es k).length - 6 := rfl
    by_cases h : 0 ≤ nth es k ∧ nth es k ≤ 99
    · have hp : putB (allTo es k).1 (allTo es k).2 (nth es k) = true := putB_true.2 ⟨hv, h.1, h.2, by rw [e1]; omega⟩
      rw [goodTo_yes es k (by omega) h]
      have hn : lost6 (goodTo es k ++ [nth es k]) = (goodTo es k).length + 1 - 6 := by unfold lost6; simp
      rw [hn]
      by_cases h6 : (allTo es k).2.length = 6
      · obtain ⟨f1, f2⟩ := put_full hv hp h6
        refine ⟨by show putF _ _ _ = _; rw [f1, e1]; omega, ?_⟩
        show putL _ _ _ = _
        rw [f2, e2, ← List.drop_append_of_le_length (by omega), List.drop_drop]
        congr 1
        omega
      · obtain ⟨f1, f2⟩ := put_more hv hp h6
        refine ⟨by show putF _ _ _ = _; rw [f1, e1]; omega, ?_⟩
        show putL _ _ _ = _
        rw [f2, e2, show lost6 (goodTo es k) = 0 by omega, show (goodTo es k).length + 1 - 6 = 0 by omega]
        simp
    · have hp : putB (allTo es k).1 (allTo es k).2 (nth es k) = false := putB_no (by rintro ⟨_, a, b, _⟩; exact h ⟨a, b⟩)
      rw [goodTo_no es k (by omega) h]
      obtain ⟨f1, f2⟩ := put_not hv hp
      exact ⟨by show putF _ _ _ = _; rw [f1, e1], by show putL _ _ _ = _; rw [f2, e2]⟩
end Go.Proofs.Ytjhnpnmpnmmpbaa

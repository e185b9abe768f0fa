/-
  Plain facts on stuffed bits: what is stuffed is read back, no run is longer than 4, at most one bit in 4 is stuffed in; longest runs are the same from both ends. No program in sight.
-/
import Derived.Test.YtebbodjecaiooaaBits
import Derived.Test.YtebbodjecaiooaaRunPlain
namespace Go.Proofs.Ytebbodjecaiooaa
open Runs

theorem snoc_ind {P : List Int → Prop} (h0 : P []) (hs : ∀ l c, P l → P (l ++ [c])) (l : List Int) : P l := by
  have : ∀ m : List Int, P m.reverse := by
    intro m
    induction m with
    | nil => exact h0
    | cons a t ih => rw [List.reverse_cons]; exact hs _ _ ih
  have := this l.reverse
  rwa [List.reverse_reverse] at this

def otherZ (c : Int) : Int := if c = 48 then 49 else 48
theorem other_ne (c : Int) : otherZ c ≠ c := by unfold otherZ; split <;> omega

/-- one bit more on the wire -/
def stuffStep (wire : List Int) (c : Int) : List Int := if endRun (wire ++ [c]) = 4 then wire ++ [c] ++ [otherZ c] else wire ++ [c]
def stuffL (l : List Int) : List Int := l.foldl stuffStep []
theorem stuffL_snoc (l : List Int) (c : Int) : stuffL (l ++ [c]) = stuffStep (stuffL l) c := by unfold stuffL; rw [List.foldl_append]; rfl
theorem step_yes {wire : List Int} {c : Int} (h : endRun (wire ++ [c]) = 4) : stuffStep wire c = wire ++ [c] ++ [otherZ c] := by unfold stuffStep; rw [if_pos h]
theorem step_no {wire : List Int} {c : Int} (h : endRun (wire ++ [c]) ≠ 4) : stuffStep wire c = wire ++ [c] := by unfold stuffStep; rw [if_neg h]

theorem endRun_up (l : List Int) (c : Int) : endRun (l ++ [c]) ≤ endRun l + 1 := by
  unfold endRun
  rw [rev_snoc]
  cases l.reverse with
  | nil => simp [headRun]
  | cons b t => simp only [headRun]; split <;> omega
theorem endRun_other (l : List Int) (c d : Int) (h : d ≠ c) : endRun (l ++ [c] ++ [d]) = 1 := by rw [endRun_snoc, if_neg h]
theorem endRun_stuff (l : List Int) : endRun (stuffL l) ≤ 3 := by
  induction l using snoc_ind with
  | h0 => simp [stuffL, endRun_nil]
  | hs l c ih =>
    rw [stuffL_snoc]
    by_cases h : endRun (stuffL l ++ [c]) = 4
    · rw [step_yes h, endRun_other _ _ _ (other_ne c)]; omega
    · rw [step_no h]
      have := endRun_up (stuffL l) c
      omega

/-- the message that is read off a text (told over the text turned round) -/
def msgR : List Int → List Int
  | [] => []
  | c :: t => if headRun t = 4 then msgR t else msgR t ++ [c]
def msg (t : List Int) : List Int := msgR t.reverse
theorem msg_nil : msg [] = [] := rfl
theorem msg_snoc (t : List Int) (c : Int) : msg (t ++ [c]) = if endRun t = 4 then msg t else msg t ++ [c] := by unfold msg endRun; rw [rev_snoc]; rfl
theorem msg_yes {t : List Int} {c : Int} (h : endRun t = 4) : msg (t ++ [c]) = msg t := by rw [msg_snoc, if_pos h]
theorem msg_no {t : List Int} {c : Int} (h : endRun t ≠ 4) : msg (t ++ [c]) = msg t ++ [c] := by rw [msg_snoc, if_neg h]
theorem msg_len (t : List Int) : (msg t).length ≤ t.length := by
  induction t using snoc_ind with
  | h0 => simp [msg_nil]
  | hs l c ih =>
    rw [msg_snoc]
    split <;> simp <;> omega
theorem msg_stuff (l : List Int) : msg (stuffL l) = l := by
  induction l using snoc_ind with
  | h0 => rfl
  | hs l c ih =>
    have h3 := endRun_stuff l
    rw [stuffL_snoc]
    by_cases h : endRun (stuffL l ++ [c]) = 4
    · rw [step_yes h, msg_yes h, msg_no (by omega), ih]
    · rw [step_no h, msg_no (by omega), ih]

/-- no beginning ends in more than b equal ones -/
def RunsLe (b : Nat) (t : List Int) : Prop := ∀ p s, t = p ++ s → endRun p ≤ b
theorem RunsLe.nil_ (b : Nat) : RunsLe b [] := by
  intro p s h
  have : p = [] := by
    cases p with
    | nil => rfl
    | cons a t => cases h
  rw [this, endRun_nil]; omega
theorem RunsLe.snoc {b : Nat} {t : List Int} {c : Int} (h : RunsLe b t) (hc : endRun (t ++ [c]) ≤ b) : RunsLe b (t ++ [c]) := by
  intro p s e
  rcases List.eq_nil_or_concat s with hs | ⟨s', d, hs⟩
  · subst hs
    rw [List.append_nil] at e
    rw [← e]; exact hc
  · subst hs
    rw [List.concat_eq_append, ← List.append_assoc] at e
    have := List.append_inj' e rfl
    exact h p s' this.1
theorem stuff_runs (l : List Int) : RunsLe 4 (stuffL l) := by
  induction l using snoc_ind with
  | h0 => exact RunsLe.nil_ 4
  | hs l c ih =>
    have h3 := endRun_stuff l
    have hu := endRun_up (stuffL l) c
    rw [stuffL_snoc]
    have h1 := ih.snoc (c := c) (by omega)
    by_cases h : endRun (stuffL l ++ [c]) = 4
    · rw [step_yes h]
      exact h1.snoc (by rw [endRun_other _ _ _ (other_ne c)]; omega)
    · rw [step_no h]; exact h1
theorem longest_le {b : Nat} {t : List Int} (h : RunsLe b t) : longest t ≤ b := by
  have : ∀ k, longTo t k ≤ b := by
    intro k
    induction k with
    | zero => simp [longTo]
    | succ k ih =>
      have := h (t.take (k + 1)) (t.drop (k + 1)) (List.take_append_drop _ _).symm
      simp only [longTo]; omega
  exact this _
theorem le_longTo {t : List Int} {j k : Nat} (hj : j ≤ k) : endRun (t.take j) ≤ longTo t k := by
  induction k with
  | zero => obtain rfl : j = 0 := by omega
            simp [endRun_nil]
  | succ k ih =>
    rcases Nat.lt_or_ge k j with h | h
    · obtain rfl : j = k + 1 := by omega
      simp only [longTo]; omega
    · have := ih h
      simp only [longTo]; omega
theorem le_longest {t : List Int} (p s : List Int) (e : t = p ++ s) : endRun p ≤ longest t := by
  have : p = t.take p.length := by rw [e]; simp
  rw [this]
  exact le_longTo (by rw [e]; simp)

theorem stuff_len (l : List Int) : ∃ d, (stuffL l).length = l.length + d ∧ 3 * d + endRun (stuffL l) ≤ l.length + 1 := by
  induction l using snoc_ind with
  | h0 => exact ⟨0, rfl, by simp [stuffL, endRun_nil]⟩
  | hs l c ih =>
    obtain ⟨d, h1, h2⟩ := ih
    have hu := endRun_up (stuffL l) c
    rw [stuffL_snoc]
    by_cases h : endRun (stuffL l ++ [c]) = 4
    · rw [step_yes h, endRun_other _ _ _ (other_ne c)]
      exact ⟨d + 1, by simp; omega, by simp; omega⟩
    · rw [step_no h]
      exact ⟨d, by simp; omega, by simp; omega⟩
theorem stuff_share (l : List Int) : l.length ≤ (stuffL l).length ∧ ((stuffL l).length - l.length) * 3 ≤ l.length ∧ (stuffL l).length ≤ 2 * l.length := by
  obtain ⟨d, h1, h2⟩ := stuff_len l
  have : l = [] ∨ 1 ≤ endRun (stuffL l) := by
    rcases List.eq_nil_or_concat l with h | ⟨m, c, h⟩
    · exact .inl h
    · right
      rw [List.concat_eq_append] at h
      rw [h, stuffL_snoc]
      unfold stuffStep
      split <;> exact endRun_pos _ _
  rcases this with h | h
  · subst h; simp [stuffL]
  · omega

/-- the message whose bits on the wire a text is -/
def unst (t : List Int) : Option (List Int) := if bitsB (msg t) = true ∧ stuffL (msg t) = t then some (msg t) else none
theorem unst_yes {t : List Int} (h1 : bitsB (msg t) = true) (h2 : stuffL (msg t) = t) : unst t = some (msg t) := by unfold unst; rw [if_pos ⟨h1, h2⟩]
theorem unst_no {t : List Int} (h : ¬ (bitsB (msg t) = true ∧ stuffL (msg t) = t)) : unst t = none := by unfold unst; rw [if_neg h]
theorem unst_long {t : List Int} (p s : List Int) (e : t = p ++ s) (h : 4 < endRun p) : unst t = none := by
  refine unst_no fun hh => ?_
  have := stuff_runs (msg t)
  rw [hh.2] at this
  have := this p s e
  omega
theorem unst_stuff {l : List Int} (h : bitsB l = true) : unst (stuffL l) = some l := by
  rw [unst_yes (by rw [msg_stuff]; exact h) (by rw [msg_stuff]), msg_stuff]

/-- somewhere r equal numbers stand one behind the other -/
def HasRun (t : List Int) (r : Nat) : Prop := ∃ p q c, t = p ++ List.replicate r c ++ q
theorem headRun_split : ∀ l : List Int, ∃ c q, l = List.replicate (headRun l) c ++ q := by
  intro l
  induction l with
  | nil => exact ⟨0, [], rfl⟩
  | cons a t ih =>
    cases t with
    | nil => exact ⟨a, [], rfl⟩
    | cons b t =>
      obtain ⟨c, q, e⟩ := ih
      simp only [headRun] at e ⊢
      split
      · next hab =>
        subst hab
        refine ⟨a, q, ?_⟩
        have hc : c = a := by
          cases t with
          | nil => simp [headRun] at e; exact e.1.symm
          | cons d t =>
            simp only [headRun] at e
            split at e
            · simp [List.replicate_succ] at e; exact e.1.symm
            · simp [List.replicate_succ] at e; exact e.1.symm
        rw [hc] at e
        rw [List.replicate_succ, List.cons_append, ← e]
      · exact ⟨a, b :: t, rfl⟩
theorem headRun_ge : ∀ (r : Nat) (c : Int) (q : List Int), r ≤ headRun (List.replicate r c ++ q) := by
  intro r
  induction r with
  | zero => intros; omega
  | succ r ih =>
    intro c q
    rw [List.replicate_succ, List.cons_append]
    cases r with
    | zero =>
      simp only [List.replicate, List.nil_append]
      cases q with
      | nil => simp [headRun]
      | cons d q => simp only [headRun]; split <;> omega
    | succ r =>
      have := ih c q
      rw [List.replicate_succ, List.cons_append] at this ⊢
      simp only [headRun] at this ⊢
      simp
      exact this
theorem HasRun.le {t : List Int} {r : Nat} (h : HasRun t r) : r ≤ longest t := by
  obtain ⟨p, q, c, e⟩ := h
  refine Nat.le_trans ?_ (le_longest (p ++ List.replicate r c) q e)
  unfold endRun
  rw [List.reverse_append, List.reverse_replicate]
  exact headRun_ge r c _
theorem hasRun_of_end (p : List Int) : HasRun p (endRun p) := by
  obtain ⟨c, q, e⟩ := headRun_split p.reverse
  refine ⟨q.reverse, [], c, ?_⟩
  unfold endRun
  have := congrArg List.reverse e
  rw [List.reverse_reverse, List.reverse_append, List.reverse_replicate] at this
  rw [List.append_nil]
  exact this
theorem HasRun.more {p : List Int} {r : Nat} (h : HasRun p r) (s : List Int) : HasRun (p ++ s) r := by
  obtain ⟨a, q, c, e⟩ := h
  exact ⟨a, q ++ s, c, by rw [e]; simp⟩
theorem hasRun_longest (t : List Int) : HasRun t (longest t) := by
  have : ∀ k, HasRun t (longTo t k) := by
    intro k
    induction k with
    | zero => exact ⟨t, [], 0, by simp [longTo]⟩
    | succ k ih =>
      simp only [longTo]
      rcases Nat.le_total (longTo t k) (endRun (t.take (k + 1))) with h | h
      · rw [Nat.max_eq_right h]
        have := (hasRun_of_end (t.take (k + 1))).more (t.drop (k + 1))
        rwa [List.take_append_drop] at this
      · rw [Nat.max_eq_left h]; exact ih
  exact this _
theorem HasRun.turned {t : List Int} {r : Nat} (h : HasRun t r) : HasRun t.reverse r := by
  obtain ⟨p, q, c, e⟩ := h
  exact ⟨q.reverse, p.reverse, c, by rw [e]; simp⟩
theorem longest_turned (t : List Int) : longest t.reverse = longest t := by
  have h1 := (hasRun_longest t).turned.le
  have h2 := (hasRun_longest t.reverse).turned.le
  rw [List.reverse_reverse] at h2
  omega
theorem longest_take (t : List Int) (k : Nat) : longest (t.take k) ≤ longest t := by
  have := ((hasRun_longest (t.take k)).more (t.drop k)).le
  rwa [List.take_append_drop] at this
theorem longest_snoc (t : List Int) (c : Int) : longest t ≤ longest (t ++ [c]) ∧ longest (t ++ [c]) ≤ longest t + 1 := by
  refine ⟨((hasRun_longest t).more [c]).le, ?_⟩
  apply longest_le
  apply RunsLe.snoc
  · intro p s e
    have := le_longest p s e
    omega
  · have h1 := endRun_up t c
    have h2 := le_longest t [] (by simp : t = t ++ [])
    omega
theorem longest_zero (t : List Int) : longest t = 0 ↔ t = [] := by
  constructor
  · intro h
    rcases List.eq_nil_or_concat t with h1 | ⟨m, c, h1⟩
    · exact h1
    · rw [List.concat_eq_append] at h1
      have h2 := endRun_pos m c
      have h3 := le_longest (m ++ [c]) [] (by simpa using h1)
      omega
  · rintro rfl; rfl
end Go.Proofs.Ytebbodjecaiooaa

/-
  Plain facts on runs of equal numbers in a list: how many equal ones stand at its end, and the longest run. No program in sight.
-/
namespace Go.Proofs.Ytebbodjecaiooaa.Runs

/-- how many equal numbers a list begins with -/
def headRun : List Int → Nat
  | [] => 0
  | [_] => 1
  | a :: b :: t => if a = b then headRun (b :: t) + 1 else 1
/-- how many equal numbers a list ends with -/
def endRun (l : List Int) : Nat := headRun l.reverse
theorem endRun_nil : endRun [] = 0 := rfl
theorem endRun_one (a : Int) : endRun [a] = 1 := rfl
theorem rev_snoc (l : List Int) (c : Int) : (l ++ [c]).reverse = c :: l.reverse := by simp
theorem endRun_snoc (l : List Int) (b c : Int) : endRun (l ++ [b] ++ [c]) = if c = b then endRun (l ++ [b]) + 1 else 1 := by
  unfold endRun
  rw [rev_snoc, rev_snoc]
  rfl
theorem endRun_pos (l : List Int) (c : Int) : 1 ≤ endRun (l ++ [c]) := by
  unfold endRun
  rw [rev_snoc]
  cases l.reverse with
  | nil => simp [headRun]
  | cons b t => simp only [headRun]; split <;> omega
theorem headRun_le (l : List Int) : headRun l ≤ l.length := by
  induction l with
  | nil => simp [headRun]
  | cons a t ih =>
    cases t with
    | nil => simp [headRun]
    | cons b t => simp only [headRun, List.length_cons] at ih ⊢; split <;> omega
theorem endRun_le (l : List Int) : endRun l ≤ l.length := by unfold endRun; have := headRun_le l.reverse; simpa using this

/-- the longest run among the beginnings of l of length up to k -/
def longTo (l : List Int) : Nat → Nat
  | 0 => 0
  | k + 1 => max (longTo l k) (endRun (l.take (k + 1)))
def longest (l : List Int) : Nat := longTo l l.length
theorem longTo_le (l : List Int) (k : Nat) : longTo l k ≤ k := by
  induction k with
  | zero => simp [longTo]
  | succ k ih =>
    simp only [longTo]
    have := endRun_le (l.take (k + 1))
    rw [List.length_take] at this
    omega
end Go.Proofs.Ytebbodjecaiooaa.Runs

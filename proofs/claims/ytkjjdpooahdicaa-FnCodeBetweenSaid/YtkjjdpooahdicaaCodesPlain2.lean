/-
  Plain facts on bits of small numbers, one bit at a time: no program in sight.
-/
import Derived.Test.YtkjjdpooahdicaaCodesPlain
namespace Go.Proofs.Ytkjjdpooahdicaa.CodesPlain

def popTo (x : Nat) : Nat → Nat
  | 0 => 0
  | k + 1 => popTo x k + x / 2 ^ k % 2
theorem popTo_six (x : Nat) (hx : x < 64) : popTo x 6 = popN x := by
  have := lt64 (fun x => popTo x 6 == popN x) (by decide +kernel) x hx
  simpa using this
theorem popTo_le (x k : Nat) : popTo x k ≤ k := by
  induction k with
  | zero => simp [popTo]
  | succ k ih => simp only [popTo]; omega
/-- a bit of a number, as Go reckons it -/
def bitZ (a : Nat) (k : Nat) : Int := ((a : Int) / 2 ^ k).tmod 2
theorem bit_differ (a b k : Nat) (ha : a < 64) (hb : b < 64) (hk : k < 6) : (bitZ a k != bitZ b k) = ((a ^^^ b) / 2 ^ k % 2 == 1) := by
  have := lt64two (fun a b => (List.range 6).all fun k => (bitZ a k != bitZ b k) == ((a ^^^ b) / 2 ^ k % 2 == 1)) (by decide +kernel) a b ha hb
  have := List.all_eq_true.1 this k (List.mem_range.2 hk)
  simpa using this
theorem bit_same (a b k : Nat) (ha : a < 64) (hb : b < 64) (hk : k < 6) : (bitZ a k == bitZ b k) = !(a ^^^ b).testBit k := by
  have := lt64two (fun a b => (List.range 6).all fun k => (bitZ a k == bitZ b k) == !(a ^^^ b).testBit k) (by decide +kernel) a b ha hb
  have := List.all_eq_true.1 this k (List.mem_range.2 hk)
  simpa using this

def okTo (u x : Nat) : Nat → Bool
  | 0 => true
  | k + 1 => okTo u x k && (!u.testBit k || x.testBit k)
theorem okTo_six (u x : Nat) (hu : u < 64) (hx : x < 64) : okTo u x 6 = (u &&& (63 - x) == 0) := by
  have := lt64two (fun u x => okTo u x 6 == (u &&& (63 - x) == 0)) (by decide +kernel) u x hu hx
  simpa using this
theorem ok_step (a b c k : Nat) (ha : a < 64) (hb : b < 64) (hc : c < 64) (hk : k < 6) :
    ((bitZ c k == bitZ a k) || (bitZ c k == bitZ b k)) = (!(c ^^^ a).testBit k || (a ^^^ b).testBit k) := by
  rw [bit_same c a k hc ha hk, bit_same c b k hc hb hk]
  have e : (c ^^^ b).testBit k = ((c ^^^ a).testBit k ^^ (a ^^^ b).testBit k) := by
    simp only [Nat.testBit_xor]
    cases c.testBit k <;> cases a.testBit k <;> cases b.testBit k <;> rfl
  rw [e]
  cases (c ^^^ a).testBit k <;> cases (a ^^^ b).testBit k <;> rfl

/-- the numbers below k that can be read -/
def btwTo (a b k : Nat) : List Int := ((List.range k).filter fun n => ((codeN n ^^^ a) &&& (63 - (a ^^^ b))) == 0).map (fun n : Nat => (n : Int))
theorem btwTo_yes (a b k : Nat) (h : ((codeN k ^^^ a) &&& (63 - (a ^^^ b)) == 0) = true) : btwTo a b (k + 1) = btwTo a b k ++ [(k : Int)] := by
  unfold btwTo
  rw [List.range_succ, List.filter_append, List.filter_cons, if_pos h, List.filter_nil, List.map_append]
  rfl
theorem btwTo_no (a b k : Nat) (h : ((codeN k ^^^ a) &&& (63 - (a ^^^ b)) == 0) = false) : btwTo a b (k + 1) = btwTo a b k := by
  unfold btwTo
  rw [List.range_succ, List.filter_append, List.filter_cons, if_neg (by rw [h]; simp), List.filter_nil, List.append_nil]
theorem btwTo_len (a b k : Nat) : (btwTo a b k).length ≤ k := by
  unfold btwTo
  rw [List.length_map]
  exact Nat.le_trans (List.length_filter_le _ _) (by simp)
theorem btwTo_all (a b : Nat) (ha : a < 64) (hb : b < 64) : btwTo a b 64 = between (a : Int) (b : Int) := by
  have h : cvB (a : Int) = true ∧ cvB (b : Int) = true := by unfold cvB; simp; omega
  unfold between
  rw [if_pos h]
  rfl
end Go.Proofs.Ytkjjdpooahdicaa.CodesPlain

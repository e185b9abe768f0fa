/-
  Plain facts on position codes: numbers alone, no program in sight. The codes of 0..63, how they are read back, in how many bits two differ, and what is read between two.
-/
namespace Go.Proofs.Ytkjjdpooahdicaa.CodesPlain

/-- the code of a number -/
def codeN (n : Nat) : Nat := n ^^^ (n / 2)
/-- the number of a code -/
def readN (c : Nat) : Nat := c ^^^ (c / 2) ^^^ (c / 4) ^^^ (c / 8) ^^^ (c / 16) ^^^ (c / 32)
/-- how many of the six lowest bits are 1 -/
def popN (x : Nat) : Nat := x % 2 + x / 2 % 2 + x / 4 % 2 + x / 8 % 2 + x / 16 % 2 + x / 32 % 2
/-- the numbers that can be read between two codes -/
def btwN (a b : Nat) : List Nat := (List.range 64).filter fun n => ((codeN n ^^^ a) &&& (63 - (a ^^^ b))) == 0

def cvB (n : Int) : Bool := decide (0 ≤ n) && decide (n < 64)
def codeOf (n : Int) : Int := if cvB n = true then (codeN n.toNat : Int) else -1
def codeRead (n : Int) : Int := if cvB n = true then (readN n.toNat : Int) else -1
def bitsApart (a b : Int) : Int := if cvB a = true ∧ cvB b = true then (popN (a.toNat ^^^ b.toNat) : Int) else -1
def between (a b : Int) : List Int := if cvB a = true ∧ cvB b = true then (btwN a.toNat b.toNat).map (fun n : Nat => (n : Int)) else []

theorem lt64 (P : Nat → Bool) (h : (List.range 64).all P = true) (n : Nat) (hn : n < 64) : P n = true :=
  List.all_eq_true.1 h n (List.mem_range.2 hn)
theorem lt64two (P : Nat → Nat → Bool) (h : ((List.range 64).all fun a => (List.range 64).all fun b => P a b) = true) (a b : Nat) (ha : a < 64) (hb : b < 64) : P a b = true :=
  lt64 (P a) (lt64 (fun a => (List.range 64).all fun b => P a b) h a ha) b hb

theorem read_code (n : Nat) (hn : n < 64) : readN (codeN n) = n := by
  have := lt64 (fun n => readN (codeN n) == n) (by decide +kernel) n hn
  simpa using this
theorem code_read (n : Nat) (hn : n < 64) : codeN (readN n) = n := by
  have := lt64 (fun n => codeN (readN n) == n) (by decide +kernel) n hn
  simpa using this
theorem code_lt (n : Nat) (hn : n < 64) : codeN n < 64 := by
  have := lt64 (fun n => decide (codeN n < 64)) (by decide +kernel) n hn
  simpa using this
theorem read_lt (n : Nat) (hn : n < 64) : readN n < 64 := by
  have := lt64 (fun n => decide (readN n < 64)) (by decide +kernel) n hn
  simpa using this
theorem read_step (c : Nat) (hc : c < 64) : readN c = c ^^^ readN (c / 2) := by
  have := lt64 (fun c => readN c == c ^^^ readN (c / 2)) (by decide +kernel) c hc
  simpa using this
theorem xor_lt (a b : Nat) (ha : a < 64) (hb : b < 64) : a ^^^ b < 64 := by
  have : a ^^^ b < 2 ^ 6 := Nat.xor_lt_two_pow (by omega) (by omega)
  omega
theorem pop_le (x : Nat) : popN x ≤ 6 := by unfold popN; omega
theorem pop_zero (x : Nat) (hx : x < 64) : (popN x == 0) = (x == 0) := by
  have := lt64 (fun x => (popN x == 0) == (x == 0)) (by decide +kernel) x hx
  simpa using this
theorem pop_xor (x y : Nat) (hx : x < 64) (hy : y < 64) : popN (x ^^^ y) ≤ popN x + popN y := by
  have := lt64two (fun x y => decide (popN (x ^^^ y) ≤ popN x + popN y)) (by decide +kernel) x y hx hy
  simpa using this
theorem code_next (n : Nat) (hn : n < 64) : popN (codeN n ^^^ codeN ((n + 1) % 64)) = 1 := by
  have := lt64 (fun n => popN (codeN n ^^^ codeN ((n + 1) % 64)) == 1) (by decide +kernel) n hn
  simpa using this
theorem code_inj (n k : Nat) (hn : n < 64) (hk : k < 64) (h : codeN n = codeN k) : n = k := by
  rw [← read_code n hn, ← read_code k hk, h]
/-- what is asked of the numbers between two codes -/
theorem btw_all (a b : Nat) (ha : a < 64) (hb : b < 64) :
    (btwN a b).length = 2 ^ popN (a ^^^ b) ∧ readN a ∈ btwN a b ∧ readN b ∈ btwN a b := by
  have := lt64two (fun a b => (btwN a b).length == 2 ^ popN (a ^^^ b) && (btwN a b).contains (readN a) && (btwN a b).contains (readN b)) (by decide +kernel) a b ha hb
  simpa [and_assoc] using this
end Go.Proofs.Ytkjjdpooahdicaa.CodesPlain

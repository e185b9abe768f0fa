/-
  Plain facts on cars that are lowered: a step as the program makes it and as the reference makes it, how many ticks it takes and how long the cars wait, as plain sums over the sorted floors. What is asked of them is one function to Bool ('stepB'), which the next texts decide over the whole finite domain: 1..4 cars at floors 0..7, supplies 1..4. No program in sight.
-/
import Derived.Test.YthbgnnnbidnlbaaWithin
import Derived.Test.YthbgnnnbidnlbaaHas
namespace Go.Proofs.Ythbgnnnbidnlbaa

/-- the car at k -/
def nn (l : List Nat) (k : Nat) : Nat := l.getD k 0
/-- the program's step at floor f, the first k cars looked at -/
def impRow (cars : List Nat) (s f : Nat) (st : List Nat × Nat) : Nat → List Nat × Nat
  | 0 => st
  | k + 1 => match impRow cars s f st k with
    | (r, m) => bif Nat.beq (nn cars k) f && Nat.blt m s then (r.set k (nn r k - 1), m + 1) else (r, m)
/-- the floors 1..f done -/
def impTo (cars : List Nat) (s : Nat) : Nat → List Nat × Nat
  | 0 => (cars, 0)
  | f + 1 => impRow cars s (f + 1) (impTo cars s f) cars.length
/-- where cars are after a tick -/
def lowStep (cars : List Nat) (s : Nat) : List Nat := (impTo cars s 7).1

def hasN : List Nat → Nat → Bool
  | [], _ => false
  | x :: t, k => Nat.beq x k || hasN t k
/-- the reference's choice among the first k cars: the car's number plus 1, 0 for none -/
def bestTo (cars moved : List Nat) : Nat → Nat
  | 0 => 0
  | k + 1 => bif Nat.blt 0 (nn cars k) && (!hasN moved k && (Nat.beq (bestTo cars moved k) 0 || Nat.blt (nn cars k) (nn cars (bestTo cars moved k - 1)))) then k + 1 else bestTo cars moved k
/-- a number, read out first -/
def forceN {α : Type} (x : Nat) (k : Nat → α) : α := bif Nat.beq x 0 then k 0 else bif Nat.beq x 1 then k 1 else bif Nat.beq x 2 then k 2 else bif Nat.beq x 3 then k 3 else bif Nat.beq x 4 then k 4 else bif Nat.beq x 5 then k 5 else bif Nat.beq x 6 then k 6 else bif Nat.beq x 7 then k 7 else k x
theorem forceN_eq {α : Type} (x : Nat) (k : Nat → α) : forceN x k = k x := by
  unfold forceN
  match x with
  | 0 | 1 | 2 | 3 | 4 | 5 | 6 | 7 => rfl
  | n + 8 => rfl
def forceL : List Nat → (List Nat → Bool) → Bool
  | [], k => k []
  | x :: t, k => forceN x fun x => forceL t fun t => k (x :: t)
theorem forceL_eq (l : List Nat) : ∀ k : List Nat → Bool, forceL l k = k l := by
  induction l with
  | nil => intro k; rfl
  | cons x t ih => intro k; rw [forceL, forceN_eq, ih]
/-- the reference's step: where the cars are, and which have moved -/
def specTo (cars : List Nat) : Nat → List Nat × List Nat
  | 0 => (cars, [])
  | n + 1 => match specTo cars n with
    | (o, m) => forceN (bestTo cars m cars.length) fun b => bif Nat.beq b 0 then (o, m) else (o.set (b - 1) (nn cars (b - 1) - 1), m ++ [b - 1])
def eqN : List Nat → List Nat → Bool
  | [], [] => true
  | a :: s, b :: t => Nat.beq a b && eqN s t
  | _, _ => false
theorem eqN_true : ∀ {s t : List Nat}, eqN s t = true → s = t
  | [], [], _ => rfl
  | a :: s, b :: t, h => by
    simp only [eqN, Bool.and_eq_true] at h
    rw [Nat.eq_of_beq_eq_true h.1, eqN_true h.2]
  | [], _ :: _, h => by cases h
  | _ :: _, [], h => by cases h

/-- how many cars are not down -/
def posN : List Nat → Nat
  | [] => 0
  | x :: t => bif Nat.beq x 0 then posN t else posN t + 1
def sumN : List Nat → Nat
  | [] => 0
  | x :: t => x + sumN t
def maxN : List Nat → Nat
  | [] => 0
  | x :: t => bif Nat.ble x (maxN t) then maxN t else x
def insN (x : Nat) : List Nat → List Nat
  | [] => [x]
  | y :: t => bif Nat.ble x y then x :: y :: t else y :: insN x t
def sortN : List Nat → List Nat
  | [] => []
  | x :: t => insN x (sortN t)
def phiS (s : Nat) : List Nat → Nat
  | [] => 0
  | x :: t => (1 + t.length / s) * x + phiS s t
def tauD (s : Nat) : Nat → List Nat → Nat
  | _, [] => 0
  | 0, x :: t => x + tauD s (s - 1) t
  | c + 1, _ :: t => tauD s c t
def tauS (s : Nat) (l : List Nat) : Nat := tauD s 0 l.reverse
/-- how long the cars wait together -/
def phi (s : Nat) (l : List Nat) : Nat := phiS s (sortN l)
/-- after how many ticks all are down -/
def tau (s : Nat) (l : List Nat) : Nat := tauS s (sortN l)
def lt8 : List Nat → Bool
  | [] => true
  | x :: t => Nat.blt x 8 && lt8 t
/-- a car that has moved, one that has not, and what the law asks of them -/
def pairB (x y : Nat) : List Nat → List Nat → Bool
  | c :: cs, t :: ts => !(Nat.blt y x && (Nat.beq t c && (Nat.blt 0 c && Nat.blt c x))) && pairB x y cs ts
  | _, _ => true
def eachB (l t : List Nat) : List Nat → List Nat → Bool
  | c :: cs, d :: ds => (Nat.beq d c || Nat.beq (d + 1) c) && (pairB c d l t && eachB l t cs ds)
  | _, _ => true
def movN : List Nat → List Nat → Nat
  | c :: cs, d :: ds => bif Nat.blt d c then movN cs ds + 1 else movN cs ds
  | _, _ => 0

/-- what holds of cars l, a supply s and the cars t after a step -/
def stepB (l : List Nat) (s : Nat) (t : List Nat) : Bool :=
  eqN t (specTo l s).1 && (lt8 t && (eachB l t l t && (Nat.ble (movN l t) s && Nat.beq t.length l.length))) &&
  (forceL (sortN l) fun l' => forceL (sortN t) fun t' =>
    (bif Nat.blt 0 (sumN l) then Nat.blt (sumN t) (sumN l) && (Nat.beq (tauS s l') (1 + tauS s t') && Nat.beq (phiS s l') (posN l + phiS s t')) else Nat.beq (tauS s l') 0 && Nat.beq (phiS s l') 0) &&
    (Nat.ble (maxN l) (tauS s l') && (Nat.ble (sumN l) (tauS s l' * s) && (Nat.ble (tauS s l') 28 && (Nat.ble (sumN l) (phiS s l') && (Nat.ble (phiS s l') 200 &&
    (bif Nat.beq (maxN l) 0 then Nat.beq (tauS s l') 0 && Nat.beq (sumN l) 0 else Nat.blt 0 (tauS s l') && Nat.blt 0 (sumN l)) &&
    (bif Nat.beq s 4 then Nat.beq (phiS s l') (sumN l) else Nat.ble (phiS (s + 1) l') (phiS s l'))))))))

/-- p holds of all lists of k cars -/
def allCars : Nat → (List Nat → Bool) → Bool
  | 0, p => p []
  | k + 1, p => [0, 1, 2, 3, 4, 5, 6, 7].all fun x => allCars k fun l => p (x :: l)
theorem mem8 {x : Nat} (h : x < 8) : x ∈ ([0, 1, 2, 3, 4, 5, 6, 7] : List Nat) := by
  have : x = 0 ∨ x = 1 ∨ x = 2 ∨ x = 3 ∨ x = 4 ∨ x = 5 ∨ x = 6 ∨ x = 7 := by omega
  rcases this with rfl | rfl | rfl | rfl | rfl | rfl | rfl | rfl <;> simp
theorem allCars_of : ∀ (k : Nat) (p : List Nat → Bool), allCars k p = true → ∀ l : List Nat, l.length = k → (∀ x ∈ l, x < 8) → p l = true := by
  intro k
  induction k with
  | zero => intro p h l hl _; rw [List.eq_nil_of_length_eq_zero hl]; exact h
  | succ k ih =>
    intro p h l hl hx
    match l, hl with
    | x :: t, hl => exact ih (fun l => p (x :: l)) (List.all_eq_true.1 h x (mem8 (hx x (by simp)))) t (by simpa using hl) (fun y hy => hx y (by simp [hy]))
/-- what is decided -/
def askB (l : List Nat) : Bool := [1, 2, 3, 4].all fun s => forceL (lowStep l s) fun t => stepB l s t
end Go.Proofs.Ythbgnnnbidnlbaa

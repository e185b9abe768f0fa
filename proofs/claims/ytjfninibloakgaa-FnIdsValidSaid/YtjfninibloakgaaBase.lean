/-
  Words for slices of ints in memory: what a slice that is read holds ('Rd'), what a slice of the call's own holds ('Row'); how they are kept. No function of the program is named here.
-/
import Derived.Test.YtjfninibloakgaaRows
import Derived.WalkKit
import Derived.WalkSpells
import Derived.ProofKit
import Derived.Below
import Derived.Deep.Draws
import Derived.Deep.AppendLies
import Derived.Deep.LoopGhost
import Derived.Deep.QuietTactic
import Derived.BigQuiet
import Derived.Lib.Hide
namespace Go.Proofs.Ytjfninibloakgaa
open Go.RowKit

theorem ret_int {k : IntKind} {a b : Int} (h : a = b) : Ending.returned (.int k a) = .returned (.int k b) := by rw [h]
theorem ret_bool {a b : Bool} (h : a = b) : Ending.returned (.bool a) = .returned (.bool b) := by rw [h]

/-- the element at j, 0 behind the end -/
def nth (xs : List Int) (j : Nat) : Int := xs.getD j 0
theorem nth_get (xs : List Int) (j : Nat) (h : j < xs.length) : nth xs j = xs[j] := by unfold nth; simp [List.getD, h]
theorem nth_mem (xs : List Int) (j : Nat) (h : j < xs.length) : nth xs j ∈ xs := by rw [nth_get xs j h]; exact List.getElem_mem h
theorem mem_nth {xs : List Int} {x : Int} (h : x ∈ xs) : ∃ j, j < xs.length ∧ nth xs j = x := by
  obtain ⟨j, hj, e⟩ := List.mem_iff_getElem.1 h
  exact ⟨j, hj, by rw [nth_get xs j hj]; exact e⟩
theorem nth_ext {xs ys : List Int} (hl : xs.length = ys.length) (h : ∀ j, j < xs.length → nth xs j = nth ys j) : xs = ys := by
  apply List.ext_getElem hl
  intro j h1 h2
  have := h j h1
  rwa [nth_get xs j h1, nth_get ys j h2] at this
theorem take_succ_nth (xs : List Int) (k : Nat) (h : k < xs.length) : xs.take (k + 1) = xs.take k ++ [nth xs k] := by
  rw [List.take_succ_eq_append_getElem h, nth_get xs k h]

/-- the greatest length that is spoken of here -/
def lenMax : Nat := 4194304

/-- THE SLICE VALUE '.slice A n c' READS AS xs. -/
def Rd (w : World) (A : Option Addr) (n : Nat) (xs : List Int) : Prop :=
  xs.length = n ∧ n ≤ lenMax ∧ (0 < n → ∃ g off, A = some ⟨g, off, none⟩ ∧ g < w.heap.size ∧ ∀ j, j < n → w.cell? ⟨g, off + j, none⟩ = some (.int .i64 (nth xs j)))

/-- IT READS AS xs, lies from block lo on, and may be written. -/
def Row (w : World) (lo : Nat) (A : Option Addr) (n : Nat) (xs : List Int) : Prop :=
  xs.length = n ∧ n ≤ lenMax ∧ (0 < n → ∃ g off, A = some ⟨g, off, none⟩ ∧ lo ≤ g ∧ g < w.heap.size ∧ ∀ j, j < n → w.cell? ⟨g, off + j, none⟩ = some (.int .i64 (nth xs j)) ∧ w.frozen? ⟨g, off + j, none⟩ = false)

section
variable {w w' : World} {A : Option Addr} {n lo lo' : Nat} {xs : List Int}
theorem Rd.len (h : Rd w A n xs) : xs.length = n := h.1
theorem Rd.le (h : Rd w A n xs) : n ≤ 4194304 := h.2.1
theorem Rd.nil_ : Rd w A 0 [] := ⟨rfl, by simp [lenMax], fun h => absurd h (by omega)⟩
theorem Rd.at_ {k : Nat} (h : Rd w A n xs) (hk : k < n) : ∃ g off, A = some ⟨g, off, none⟩ ∧ g < w.heap.size ∧ w.cell? ⟨g, off + k, none⟩ = some (.int .i64 (nth xs k)) := by
  obtain ⟨g, off, e, hg, hc⟩ := h.2.2 (by omega)
  exact ⟨g, off, e, hg, hc k hk⟩
theorem Rd.keep (h : Rd w A n xs) (hs : w.heap.size ≤ w'.heap.size) (hk : ∀ p : Addr, p.block < w.heap.size → w'.cell? p = w.cell? p) : Rd w' A n xs :=
  ⟨h.1, h.2.1, fun hn => by
    obtain ⟨g, off, e, hg, hc⟩ := h.2.2 hn
    exact ⟨g, off, e, by omega, fun j hj => (hk _ hg).trans (hc j hj)⟩⟩
theorem Rd.below (h : Rd w A n xs) (hb : Below w.heap.size w w') : Rd w' A n xs := h.keep hb.size fun _ hp => hb.cell hp
theorem Rd.drew (h : Rd w A n xs) : Rd w.drew A n xs := h
theorem Rd.drewN (h : Rd w A n xs) (k : Nat) : Rd (w.drewN k) A n xs := h
theorem Rd.alloc (h : Rd w A n xs) (o : Obj) : Rd (w.alloc o) A n xs := h.below ((Below.refl _ _).alloc (Nat.le_refl _) o)

theorem Row.len (h : Row w lo A n xs) : xs.length = n := h.1
theorem Row.le (h : Row w lo A n xs) : n ≤ 4194304 := h.2.1
theorem Row.rd (h : Row w lo A n xs) : Rd w A n xs :=
  ⟨h.1, h.2.1, fun hn => by
    obtain ⟨g, off, e, _, hg, hc⟩ := h.2.2 hn
    exact ⟨g, off, e, hg, fun j hj => (hc j hj).1⟩⟩
theorem Row.nil_ : Row w lo A 0 [] := ⟨rfl, by simp [lenMax], fun h => absurd h (by omega)⟩
theorem Row.at_ {k : Nat} (h : Row w lo A n xs) (hk : k < n) : ∃ g off, A = some ⟨g, off, none⟩ ∧ lo ≤ g ∧ g < w.heap.size ∧ w.cell? ⟨g, off + k, none⟩ = some (.int .i64 (nth xs k)) ∧ w.frozen? ⟨g, off + k, none⟩ = false := by
  obtain ⟨g, off, e, hl, hg, hc⟩ := h.2.2 (by omega)
  exact ⟨g, off, e, hl, hg, hc k hk⟩
theorem Row.more (h : Row w lo A n xs) (hl : lo' ≤ lo) : Row w lo' A n xs :=
  ⟨h.1, h.2.1, fun hn => by
    obtain ⟨g, off, e, hb, hg, hc⟩ := h.2.2 hn
    exact ⟨g, off, e, by omega, hg, hc⟩⟩
theorem Row.keep (h : Row w lo A n xs) (hs : w.heap.size ≤ w'.heap.size) (hk : ∀ p : Addr, lo ≤ p.block → p.block < w.heap.size → w'.cell? p = w.cell? p ∧ w'.frozen? p = w.frozen? p) : Row w' lo A n xs :=
  ⟨h.1, h.2.1, fun hn => by
    obtain ⟨g, off, e, hl, hg, hc⟩ := h.2.2 hn
    exact ⟨g, off, e, hl, by omega, fun j hj => ⟨(hk ⟨g, off + j, none⟩ hl hg).1.trans (hc j hj).1, (hk ⟨g, off + j, none⟩ hl hg).2.trans (hc j hj).2⟩⟩⟩
theorem Row.below (h : Row w lo A n xs) (hb : Below w.heap.size w w') : Row w' lo A n xs := h.keep hb.size fun _ _ hp => ⟨hb.cell hp, hb.frozen hp⟩
theorem Row.drew (h : Row w lo A n xs) : Row w.drew lo A n xs := h
theorem Row.drewN (h : Row w lo A n xs) (k : Nat) : Row (w.drewN k) lo A n xs := h
theorem Row.alloc (h : Row w lo A n xs) (o : Obj) : Row (w.alloc o) lo A n xs := h.below ((Below.refl _ _).alloc (Nat.le_refl _) o)
end

theorem below_drewN_ {B : Nat} {a w : World} (h : Below B a w) (n : Nat) : Below B a (w.drewN n) := ⟨h.os, h.tape, h.output, h.size, h.block⟩
/-- two steps, each keeping all that was there when it began -/
theorem below_next {a b c : World} {B : Nat} (h : Below B a b) (hB : B ≤ b.heap.size) (k : Below b.heap.size b c) : Below B a c := h.trans (k.mono hB)
theorem below_step {a b c : World} (h : Below a.heap.size a b) (k : Below b.heap.size b c) : Below a.heap.size a c := h.trans (k.mono h.size)

/-- a row that append has made -/
theorem Row.of_own {w : World} {base : Nat} {e : TypeId} {A : Option Addr} {n c : Nat} {xs : List Int} (h : w.ownsRow base e 1 (.slice A n c) n (xs.map (Value.int .i64))) (hn : n ≤ 4194304) : Row w base A n xs := by
  have hl : xs.length = n := by simpa using h.1
  refine ⟨hl, hn, fun h0 => ?_⟩
  obtain ⟨g, cap, hv, hb, hg⟩ := h.form h0
  have hA : A = some ⟨g, 0, none⟩ := by injection hv
  subst hA
  refine ⟨g, 0, rfl, hb, hg, fun j hj => ?_⟩
  have hc := h.cells (g := g) rfl j (.int .i64 (nth xs j)) (by
    rw [List.getElem?_map, nth_get xs j (by omega), List.getElem?_eq_getElem (by omega)]; rfl)
  have hadd : (⟨g, 0, none⟩ : Addr).add j = ⟨g, 0 + j, none⟩ := by unfold Addr.add; split <;> simp_all
  rw [hadd] at hc
  refine ⟨hc, ?_⟩
  rcases h.2 with ⟨h1, _⟩ | ⟨g', cap', cur, h1, _, hh, _⟩
  · cases h1
  · have : g = g' := by injection h1 with h1; injection h1 with h1; injection h1
    subst this
    simp [World.frozen?, hh]

/-- a slice of ints that came in -/
def IsRow (k : IntKind) (w : World) (a : Option Addr) (len cap : Nat) (zs : List Int) : Prop :=
  (a = none ∧ len = 0 ∧ cap = 0 ∧ zs = []) ∨
  ∃ x, a = some x ∧ len ≤ cap ∧ cap ≤ maxLen ∧ zs.length = cap ∧ (∀ i, i < zs.length → w.cell? (x.add i) = some (.int k (zs.getD i 0))) ∧ ∀ n ∈ zs, (Lit.int k n).wf = true

theorem IsRow.cell {k : IntKind} {w : World} {a : Option Addr} {len cap : Nat} {zs : List Int} (h : IsRow k w a len cap zs) (h0 : 0 < len) :
    ∃ g off, a = some ⟨g, off, none⟩ ∧ g < w.heap.size ∧ ∀ j, j < len → w.cell? ⟨g, off + j, none⟩ = some (.int k (nth (zs.take len) j)) := by
  rcases h with ⟨_, h, _⟩ | ⟨⟨b, off, spot⟩, rfl, hl, hm, hz, hcell, hwz⟩
  · omega
  · have hc := hcell 0 (by omega)
    have hspot : spot = none := by simpa [Addr.add] using World.cell?_spot hc
    subst hspot
    refine ⟨b, off, rfl, ?_, fun j hj => ?_⟩
    · have := World.block_lt_of_cell? w _ hc
      simpa [Addr.add] using this
    · have hj' := hcell j (by omega)
      have hadd : (⟨b, off, none⟩ : Addr).add j = ⟨b, off + j, none⟩ := by unfold Addr.add; split <;> simp_all
      rw [hadd] at hj'
      rw [hj']
      unfold nth
      simp [List.getD, hj]
theorem IsRow.len_le {k : IntKind} {w : World} {a : Option Addr} {len cap : Nat} {zs : List Int} (h : IsRow k w a len cap zs) : (zs.take len).length = len ∧ len ≤ cap ∧ cap ≤ 9223372036854775807 := by
  rcases h with ⟨_, rfl, rfl, rfl⟩ | ⟨_, rfl, hl, hm, hz, _, _⟩
  · simp
  · unfold maxLen at hm; simp; omega
theorem IsRow.wf {k : IntKind} {w : World} {a : Option Addr} {len cap : Nat} {zs : List Int} (h : IsRow k w a len cap zs) : ∀ n ∈ zs.take len, (Lit.int k n).wf = true := by
  rcases h with ⟨_, rfl, rfl, rfl⟩ | ⟨_, rfl, hl, hm, hz, _, hw⟩
  · simp
  · exact fun n hn => hw n (List.mem_of_mem_take hn)
theorem IsRow.rd {w : World} {a : Option Addr} {len cap : Nat} {zs : List Int} (h : IsRow .i64 w a len cap zs) (hn : len ≤ 4194304) : Rd w a len (zs.take len) :=
  ⟨h.len_le.1, hn, fun h0 => h.cell h0⟩

/-- what a call that only makes memory leaves of a result that is a slice of ints -/
def RetRow (w : World) (xs : List Int) (e : Ending) (w' : World) : Prop :=
  ∃ A n c, e = .returned (.slice A n c) ∧ n ≤ c ∧ Row w' w.heap.size A n xs ∧ Below w.heap.size w w'

end Go.Proofs.Ytjfninibloakgaa

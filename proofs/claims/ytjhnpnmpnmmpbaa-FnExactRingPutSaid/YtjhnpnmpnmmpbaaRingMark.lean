/-
  markRing and heldRing of a ring whose list lies between two blocks.
-/
import Derived.Test.YtjhnpnmpnmmpbaaRingAll
namespace Go.Proofs.Ytjhnpnmpnmmpbaa
open Go.RowKit

/-- only blocks from lo on and ahead of hi have turned -/
structure Mid (lo hi : Nat) (w w' : World) : Prop where
  os : w'.os = w.os
  tape : w'.tape = w.tape
  output : w'.output = w.output
  size : w.heap.size ≤ w'.heap.size
  block : ∀ k, k < w.heap.size → (k < lo ∨ hi ≤ k) → w'.heap[k]? = w.heap[k]?
theorem Mid.of_below {lo hi : Nat} {w w' : World} (h : Below w.heap.size w w') : Mid lo hi w w' := ⟨h.os, h.tape, h.output, h.size, fun k hk _ => h.block k hk⟩
theorem Mid.of_grown {lo hi g : Nat} {w w' : World} (h : w.grownBy w' (some g)) (hl : lo ≤ g) (hh : g < hi) : Mid lo hi w w' :=
  ⟨h.os, h.tape, h.output, h.size, fun k hk ho => h.block k hk (by intro e; injection e with e; omega)⟩
theorem Mid.trans {lo hi : Nat} {a b c : World} (h : Mid lo hi a b) (k : Mid lo hi b c) : Mid lo hi a c :=
  ⟨k.os.trans h.os, k.tape.trans h.tape, k.output.trans h.output, Nat.le_trans h.size k.size, fun i hi ho => (k.block i (Nat.lt_of_lt_of_le hi h.size) ho).trans (h.block i hi ho)⟩
theorem Mid.below {lo hi B : Nat} {w w' : World} (h : Mid lo hi w w') (hB : B ≤ lo) (hs : B ≤ w.heap.size) : Below B w w' :=
  ⟨h.os, h.tape, h.output, h.size, fun k hk => h.block k (by omega) (.inl (by omega))⟩
theorem Bx.mid {w w' : World} {B : Nat} {t : TypeId} {f : Int} {A : Option Addr} {n c lo hi : Nat} (h : Bx w B t f A n c) (hm : Mid lo hi w w') (hB : B < lo ∨ hi ≤ B) : Bx w' B t f A n c := (hm.block B h.lt hB).trans h

theorem markIntS_zero (A : Option Addr) (c : Nat) (k : Int) (w : World) :
    Calls Try.prog 24 #[.slice A 0 c, .int .i64 k] w fun e w' => e = .returned (.int .i64 k) ∧ w = w' := by
  go_enter Try.func24, Try.ntmps24
  go_wp2
  go_loop [1, 5] (fun kk i => i = .int .i64 0 ∧ kk = .int .i64 k) (fun _ _ => 0)
  case atStart => exact ⟨rfl, rfl⟩
  case round =>
    obtain ⟨rfl, rfl⟩ := hrel
    go_wp2
    go_ret
    exact ⟨rfl, rfl⟩

set_option maxHeartbeats 400000 in
theorem markIntS_both (g off n c lo : Nat) (xs : List Int) (k : Int) (w : World) (h : Row w lo (some ⟨g, off, none⟩) n xs) (h0 : 0 ≤ k) (h1 : k ≤ 4194304) :
    Calls Try.prog 24 #[.slice (some ⟨g, off, none⟩) n c, .int .i64 k] w fun e w' => e = .returned (.int .i64 (k + n)) ∧ Row w' lo (some ⟨g, off, none⟩) n (marks xs k n) ∧ w.grownBy w' (some g) := by
  have hn := h.le
  go_enter Try.func24, Try.ntmps24
  go_wp2
  go_loopw [1, 5] (fun kk i wr => ∃ j : Nat, j ≤ n ∧ i = .int .i64 j ∧ kk = .int .i64 (k + j) ∧ Row wr lo (some ⟨g, off, none⟩) n (marks xs k j) ∧ w.grownBy wr (some g)) (fun _ i _ => n - (intOf i).toNat)
  case atStart => exact ⟨0, Nat.zero_le _, rfl, by simp, h, World.grownBy.refl _ _⟩
  case round =>
    obtain ⟨j, hj, rfl, rfl, hr, hb⟩ := hrel
    by_cases hlt : j < n
    · obtain ⟨g', off', e, hlo, hg, hcell, hfr⟩ := hr.at_ hlt
      injection e with e
      injection e with e1 e2
      subst e1 e2
      have hr' := hr.set_ j hlt (k + j)
      have hb' := grown_trans1 hb (grown_set1 wr g (off + j) (.int .i64 (k + j)))
      clear hr hb
      go_wp2
      go_roundw
      case rel => exact ⟨j + 1, by omega, by go_num, by go_num, hr', hb'⟩
      case measure => simp [intOf]; omega
    · obtain rfl : j = n := by omega
      go_wp2
      go_ret
      exact ⟨rfl, hr, hb⟩

/-- what markRing leaves -/
def RingMarked (w : World) (lo hi : Nat) (A : Option Addr) (n : Nat) (xs : List Int) (k : Int) (e : Ending) (w' : World) : Prop :=
  e = .returned (.int .i64 (k + n)) ∧ Row w' lo A n (marks xs k n) ∧ Mid lo hi w w'

/-- the list of a ring lies ahead of hi -/
def Ahead (A : Option Addr) (n hi : Nat) : Prop := 0 < n → ∀ g off, A = some ⟨g, off, none⟩ → g < hi
theorem Row.ahead {w : World} {lo n : Nat} {A : Option Addr} {xs : List Int} (h : Row w lo A n xs) : Ahead A n w.heap.size := fun hn g off e => by
  obtain ⟨g', off', e', _, hg, _⟩ := h.2.2 hn
  rw [e] at e'
  injection e' with e'
  injection e' with e1 e2
  omega

theorem markRing_in (f : Int) (A : Option Addr) (n c lo hi : Nat) (xs : List Int) (k : Int) (w : World) (h : Row w lo A n xs) (ha : Ahead A n hi) (h0 : 0 ≤ k) (h1 : k ≤ 4194304) :
    Calls Try.prog 23 #[.agg #[.int .i64 f, .slice A n c], .int .i64 k] w (RingMarked w lo hi A n xs k) := by
  have hn := h.le
  have hr := h.alloc (ringBox f A n c)
  rcases Nat.eq_zero_or_pos n with hz | hz
  · subst hz
    have hx : xs = [] := List.eq_nil_of_length_eq_zero h.len
    subst hx
    go_enter Try.func23, Try.ntmps23
    go_wp2_with fail
    refine (markIntS_zero A c k _).mono ?_
    rintro e w1 ⟨rfl, rfl⟩
    go_wp2_with fail
    go_ret
    exact ⟨ret_int (by simp), Row.nil_, Mid.of_below (below_box w _)⟩
  · obtain ⟨g, off, rfl, hl, _⟩ := h.2.2 hz
    have hgh := ha hz g off rfl
    go_enter Try.func23, Try.ntmps23
    go_wp2_with fail
    refine (markIntS_both g off n c lo xs k _ hr h0 h1).mono ?_
    rintro e w1 ⟨rfl, hr1, hg1⟩
    go_wp2_with fail
    go_ret
    exact ⟨rfl, hr1, (Mid.of_below (below_box w _)).trans (Mid.of_grown hg1 hl hgh)⟩

theorem heldRing_any (f : Int) (A : Option Addr) (n c : Nat) (xs : List Int) (k : Int) (w : World) (h : Rd w A n (marks xs k n)) (h0 : 0 ≤ k) (h1 : k ≤ 4194304) :
    Calls Try.prog 29 #[.agg #[.int .i64 f, .slice A n c], .int .i64 k] w (Int' (k + n) w) := by
  have hn := h.le
  have hr := h.alloc (ringBox f A n c)
  have hb := below_box w (ringBox f A n c)
  have hd : decide (k + (n : Int) < 0) = false := by simp; omega
  go_enter Try.func29, Try.ntmps29
  go_wp2_with fail
  refine (heldIntS_any A n c xs k _ hr h0 h1).mono ?_
  rintro e w1 ⟨rfl, rfl⟩
  go_wp2_with fail
  go_ret
  exact ⟨rfl, hb⟩
end Go.Proofs.Ytjhnpnmpnmmpbaa

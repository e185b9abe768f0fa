/-
  markIntS once more: only the block of the list that is marked has turned.
-/
import Derived.Test.YtjfninibloakgaaTo
namespace Go.Proofs.Ytjfninibloakgaa
open Go.RowKit

theorem grown_set1 (w : World) (g i : Nat) (u : Value) : w.grownBy (w.setCell ⟨g, i, none⟩ u) (some g) :=
  ⟨rfl, rfl, rfl, by simp [World.setCell], fun k hk hne => Below.heap_setCell _ _ _ _ (by intro e; exact hne (by rw [e]))⟩
theorem below_grown {B : Nat} {w w' : World} {g : Nat} (h : w.grownBy w' (some g)) (hB : B ≤ g) (hs : B ≤ w.heap.size) : Below B w w' :=
  (Below.refl _ _).grown h hs (fun k hk => by cases hk; exact hB)
theorem grown_trans1 {a b c : World} {g : Nat} (h : a.grownBy b (some g)) (k : b.grownBy c (some g)) : a.grownBy c (some g) :=
  ⟨k.os.trans h.os, k.tape.trans h.tape, k.output.trans h.output, Nat.le_trans h.size k.size, fun i hi hne => (k.block i (Nat.lt_of_lt_of_le hi h.size) hne).trans (h.block i hi hne)⟩
/-- a row behind the block that has turned -/
theorem Row.grown_ge {w w' : World} {lo n g : Nat} {A : Option Addr} {xs : List Int} (h : Row w lo A n xs) (hg : g < lo) (hw : w.grownBy w' (some g)) : Row w' lo A n xs :=
  ⟨h.1, h.2.1, fun hn => by
    obtain ⟨b, off, e, hl, hb, hc⟩ := h.2.2 hn
    have hbl : w'.heap[b]? = w.heap[b]? := hw.block b hb (by intro e; injection e with e; omega)
    refine ⟨b, off, e, hl, Nat.lt_of_lt_of_le hb hw.size, fun j hj => ⟨?_, ?_⟩⟩
    · rw [← (hc j hj).1]; exact World.cell?_of_block hbl
    · rw [← (hc j hj).2]; simp [World.frozen?, hbl]⟩

set_option maxHeartbeats 400000 in
theorem markIntS_at (g off n c lo : Nat) (xs : List Int) (k : Int) (w : World) (h : Row w lo (some ⟨g, off, none⟩) n xs) (h0 : 0 ≤ k) (h1 : k ≤ 4194304) :
    Calls Try.prog 21 #[.slice (some ⟨g, off, none⟩) n c, .int .i64 k] w fun e w' => e = .returned (.int .i64 (k + n)) ∧ w.grownBy w' (some g) := by
  have hn := h.le
  go_enter Try.func21, Try.ntmps21
  go_wp2
  go_loopw [1, 5] (fun kk i wr => ∃ j : Nat, j ≤ n ∧ i = .int .i64 j ∧ kk = .int .i64 (k + j) ∧ Row wr lo (some ⟨g, off, none⟩) n (marks xs k j) ∧ w.grownBy wr (some g)) (fun _ i _ => n - (intOf i).toNat)
  case atStart => exact ⟨0, Nat.zero_le _, rfl, by simp, h, World.grownBy.refl _ _⟩
  case round =>
    obtain ⟨j, hj, rfl, rfl, hr, hb⟩ := hrel
    by_cases hlt : j < n
    · obtain ⟨g', off', e, hlo, hg, hcell, hfr⟩ := hr.at_ hlt
      injection e with e
      injection e with e1 e2
      subst e1 e2
      have hr' := hr.set_ j hlt (k + j)
      have hb' := grown_trans1 hb (grown_set1 wr g (off + j) (.int .i64 (k + j)))
      clear hr hb
      go_wp2
      go_roundw
      case rel => exact ⟨j + 1, by omega, by go_num, by go_num, hr', hb'⟩
      case measure => simp [intOf]; omega
    · obtain rfl : j = n := by omega
      go_wp2
      go_ret
      exact ⟨rfl, hb⟩

/-- a new list of ints that holds xs, in a block of its own -/
def Copied2 (w : World) (n : Nat) (xs : List Int) (e : Ending) (w' : World) : Prop :=
  e = .returned (.slice (some ⟨w.heap.size, 0, none⟩) n n) ∧ Row w' w.heap.size (some ⟨w.heap.size, 0, none⟩) n xs ∧ Below w.heap.size w w' ∧ w.heap.size < w'.heap.size

set_option maxHeartbeats 400000 in
theorem toIntS_new (A : Option Addr) (n c : Nat) (xs : List Int) (w : World) (h : Rd w A n xs) :
    Calls Try.prog 12 #[.slice A n c] w (Copied2 w n xs) := by
  have hn := h.le
  have hmk := run_make_ints n hn
  have hrow := row_made w n hn
  have HL := Lib.hid h.len
  have hc0 : copyTo xs 0 = List.replicate n 0 := by rw [copyTo, HL.out]
  rw [← hc0] at hrow
  clear hc0
  have hb0 : Below w.heap.size w (w.alloc (.cells (zeros n) 3)) := (Below.refl _ _).alloc (Nat.le_refl _) _
  have hz0 : w.heap.size < (w.alloc (.cells (zeros n) 3)).heap.size := by simp
  go_enter Try.func12, Try.ntmps12
  go_wp2
  clear hmk
  go_loopw [4] (fun i wr => ∃ k : Nat, k ≤ n ∧ i = .int .i64 k ∧ Row wr w.heap.size (some ⟨w.heap.size, 0, none⟩) n (copyTo xs k) ∧ Below w.heap.size w wr ∧ w.heap.size < wr.heap.size) (fun i _ => n - (intOf i).toNat)
  case atStart => exact ⟨0, Nat.zero_le _, rfl, hrow, hb0, hz0⟩
  case round =>
    obtain ⟨k, hk, rfl, hr, hb, hz⟩ := hrel
    clear hrow hb0 hz0
    by_cases hlt : k < n
    · obtain ⟨g, off, rfl, hg, hcell⟩ := (h.below hb).at_ hlt
      obtain ⟨g', off', e, _, hg', hcell', hfr'⟩ := hr.at_ hlt
      injection e with e
      injection e with e1 e2
      subst e1 e2
      rw [Nat.zero_add] at hcell' hfr'
      have hr' := hr.set_ k hlt (nth xs k)
      rw [Nat.zero_add] at hr'
      have hb' : Below w.heap.size w (wr.setCell ⟨w.heap.size, k, none⟩ (.int .i64 (nth xs k))) := hb.setCell (Nat.le_refl _) _
      have hz' : w.heap.size < (wr.setCell ⟨w.heap.size, k, none⟩ (.int .i64 (nth xs k))).heap.size := by simpa [World.setCell] using hz
      clear hr hb
      go_wp2
      go_roundw
      case rel => exact ⟨k + 1, by omega, by go_num, hr', hb', hz'⟩
      case measure => simp [intOf]; omega
    · obtain rfl : k = n := by omega
      go_wp2
      go_ret
      have hx : copyTo xs k = xs := by
        have := copyTo_all xs
        rwa [HL.out] at this
      rw [hx] at hr
      exact ⟨rfl, hr, hb, hz⟩
end Go.Proofs.Ytjfninibloakgaa

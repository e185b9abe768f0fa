/-
  The laws' helper toIntS: a copy of a list of ints in new memory.
-/
import Derived.Test.YtjfninibloakgaaMark
namespace Go.Proofs.Ytjfninibloakgaa
open Go.RowKit

theorem info_int_ : (Try.prog.info? 3).map (fun i => (i.zero, i.size, i.bytes)) = some (some (.int .i64 0), 1, 8) := by kernel_rfl
/-- the cells that make lays -/
def zeros (n : Nat) : Array Value := madeCells #[.int .i64 0] n
theorem zeros_get (n j : Nat) (h : j < n) : (zeros n)[j]? = some (.int .i64 0) := by
  unfold zeros madeCells
  rw [Array.getElem?_map, Array.getElem?_eq_getElem (by simpa using h)]
  simp [Nat.mod_one]
theorem run_make_ints (n : Nat) (hn : n ≤ 4194304) (w : World) :
    (Instr.makeSlice 22 (.int .i64 (n : Int)) (.int .i64 (n : Int))).run Try.prog w = .ok (.slice (some ⟨w.heap.size, 0, none⟩) n n) (w.alloc (.cells (zeros n) 3)) := by
  obtain ⟨i0, hi, hz0, hz1, hz2⟩ := info_parts info_int_
  have hr := run_make (P := Try.prog) w 22 3 i0 _ Try.underlying22 hi hz0 .i64 .i64 (n : Int) (n : Int) (by omega) (by omega) (by rw [hz2]; omega) (by omega)
  rw [hr, hz1]
  simp [zeros, Value.cells]
theorem row_made (w : World) (n : Nat) (hn : n ≤ 4194304) : Row (w.alloc (.cells (zeros n) 3)) w.heap.size (some ⟨w.heap.size, 0, none⟩) n (List.replicate n 0) := by
  refine ⟨by simp, hn, fun _ => ⟨w.heap.size, 0, rfl, Nat.le_refl _, by simp, fun j hj => ⟨?_, ?_⟩⟩⟩
  · rw [cell_of_row _ w.heap.size (0 + j) _ _ _ (heap_alloc_new w _), Nat.zero_add, zeros_get n j hj, nth_get _ _ (by simpa using hj)]
    simp
  · exact World.frozen?_alloc_at _ _ _ _ rfl

def copyTo (xs : List Int) : Nat → List Int
  | 0 => List.replicate xs.length 0
  | k + 1 => (copyTo xs k).set k (nth xs k)
theorem copyTo_len (xs : List Int) (k : Nat) : (copyTo xs k).length = xs.length := by
  induction k with
  | zero => simp [copyTo]
  | succ k ih => simp [copyTo, ih]
theorem copyTo_at (xs : List Int) (k i : Nat) (hi : i < xs.length) (hik : i < k) : nth (copyTo xs k) i = nth xs i := by
  induction k with
  | zero => omega
  | succ k ih =>
    by_cases e : i = k
    · subst e
      rw [nth_get _ _ (by rw [copyTo_len]; exact hi)]
      simp [copyTo]
    · have := ih (by omega)
      rw [← this]
      unfold nth
      rw [copyTo, List.getD, List.getD, List.getElem?_set_ne (by omega)]
theorem copyTo_all (xs : List Int) : copyTo xs xs.length = xs :=
  nth_ext (copyTo_len _ _) (fun j hj => copyTo_at xs _ j (by rwa [copyTo_len] at hj) (by rwa [copyTo_len] at hj))

/-- a new list of ints that holds xs -/
def Copied (w : World) (n : Nat) (xs : List Int) (e : Ending) (w' : World) : Prop :=
  e = .returned (.slice (some ⟨w.heap.size, 0, none⟩) n n) ∧ Row w' w.heap.size (some ⟨w.heap.size, 0, none⟩) n xs ∧ Below w.heap.size w w'

set_option maxHeartbeats 400000 in
theorem toIntS_any (A : Option Addr) (n c : Nat) (xs : List Int) (w : World) (h : Rd w A n xs) :
    Calls Try.prog 12 #[.slice A n c] w (Copied w n xs) := by
  have hn := h.le
  have hmk := run_make_ints n hn
  have hrow := row_made w n hn
  have HL := Lib.hid h.len
  have hc0 : copyTo xs 0 = List.replicate n 0 := by rw [copyTo, HL.out]
  rw [← hc0] at hrow
  clear hc0
  have hb0 : Below w.heap.size w (w.alloc (.cells (zeros n) 3)) := (Below.refl _ _).alloc (Nat.le_refl _) _
  go_enter Try.func12, Try.ntmps12
  go_wp2
  clear hmk
  go_loopw [4] (fun i wr => ∃ k : Nat, k ≤ n ∧ i = .int .i64 k ∧ Row wr w.heap.size (some ⟨w.heap.size, 0, none⟩) n (copyTo xs k) ∧ Below w.heap.size w wr) (fun i _ => n - (intOf i).toNat)
  case atStart => exact ⟨0, Nat.zero_le _, rfl, hrow, hb0⟩
  case round =>
    obtain ⟨k, hk, rfl, hr, hb⟩ := hrel
    clear hrow hb0
    by_cases hlt : k < n
    · obtain ⟨g, off, rfl, hg, hcell⟩ := (h.below hb).at_ hlt
      obtain ⟨g', off', e, _, hg', hcell', hfr'⟩ := hr.at_ hlt
      injection e with e
      injection e with e1 e2
      subst e1 e2
      rw [Nat.zero_add] at hcell' hfr'
      have hr' := hr.set_ k hlt (nth xs k)
      rw [Nat.zero_add] at hr'
      have hb' : Below w.heap.size w (wr.setCell ⟨w.heap.size, k, none⟩ (.int .i64 (nth xs k))) := hb.setCell (Nat.le_refl _) _
      clear hr hb
      go_wp2
      go_roundw
      case rel => exact ⟨k + 1, by omega, by go_num, hr', hb'⟩
      case measure => simp [intOf]; omega
    · obtain rfl : k = n := by omega
      go_wp2
      go_ret
      have hx : copyTo xs k = xs := by
        have := copyTo_all xs
        rwa [HL.out] at this
      rw [hx] at hr
      exact ⟨rfl, hr, hb⟩
end Go.Proofs.Ytjfninibloakgaa

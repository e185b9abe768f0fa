/-
  Contracts of the laws' helpers that mark a list of ints by numbers of their own and look whether the marks still lie there; the copy that they make of an argument.
-/
import Derived.Test.YtjfninibloakgaaBase
namespace Go.Proofs.Ytjfninibloakgaa
open Go.RowKit

/-- a store into a row -/
theorem Row.set_ {w : World} {lo g off n : Nat} {xs : List Int} (h : Row w lo (some ⟨g, off, none⟩) n xs) (j : Nat) (hj : j < n) (v : Int) :
    Row (w.setCell ⟨g, off + j, none⟩ (.int .i64 v)) lo (some ⟨g, off, none⟩) n (xs.set j v) := by
  refine ⟨by simpa using h.1, h.2.1, fun hn => ?_⟩
  obtain ⟨g', off', e, hl, hg, hc⟩ := h.2.2 hn
  injection e with e
  injection e with e1 e2
  subst e1 e2
  refine ⟨g, off, rfl, hl, by simpa [World.setCell] using hg, fun i hi => ⟨?_, by simpa using (hc i hi).2⟩⟩
  by_cases hij : i = j
  · subst hij
    rw [World.cell?_setCell_same _ _ _ (hc i hi).1, nth_get _ _ (by rw [List.length_set, h.1]; exact hi)]
    simp
  · rw [World.cell?_setCell_other _ _ _ _ (by intro e; injection e; omega), (hc i hi).1]
    unfold nth
    rw [List.getD, List.getD, List.getElem?_set_ne (by omega)]

/-- the first j elements replaced by k, k + 1, .. -/
def marks (xs : List Int) (k : Int) : Nat → List Int
  | 0 => xs
  | j + 1 => (marks xs k j).set j (k + j)
theorem marks_len (xs : List Int) (k : Int) (j : Nat) : (marks xs k j).length = xs.length := by
  induction j with
  | zero => rfl
  | succ j ih => simp [marks, ih]
theorem marks_at (xs : List Int) (k : Int) (j i : Nat) (hi : i < xs.length) (hij : i < j) : nth (marks xs k j) i = k + i := by
  induction j with
  | zero => omega
  | succ j ih =>
    by_cases e : i = j
    · subst e
      rw [nth_get _ _ (by rw [marks_len]; exact hi)]
      simp [marks]
    · have := ih (by omega)
      unfold nth at this ⊢
      rw [marks, List.getD, List.getElem?_set_ne (by omega)]
      exact this

set_option maxHeartbeats 400000 in
theorem markIntS_any (A : Option Addr) (n c lo : Nat) (xs : List Int) (k : Int) (w : World) (h : Row w lo A n xs) (h0 : 0 ≤ k) (h1 : k ≤ 4194304) :
    Calls Try.prog 21 #[.slice A n c, .int .i64 k] w fun e w' => e = .returned (.int .i64 (k + n)) ∧ Row w' lo A n (marks xs k n) ∧ Below lo w w' ∧ w'.heap.size = w.heap.size := by
  have hn := h.le
  go_enter Try.func21, Try.ntmps21
  go_wp2
  go_loopw [1, 5] (fun kk i wr => ∃ j : Nat, j ≤ n ∧ i = .int .i64 j ∧ kk = .int .i64 (k + j) ∧ Row wr lo A n (marks xs k j) ∧ Below lo w wr ∧ Hid (wr.heap.size = w.heap.size)) (fun _ i _ => n - (intOf i).toNat)
  case atStart => exact ⟨0, Nat.zero_le _, rfl, by simp, h, Below.refl _ _, rfl⟩
  case round =>
    obtain ⟨j, hj, rfl, rfl, hr, hb, HS⟩ := hrel
    by_cases hlt : j < n
    · obtain ⟨g, off, rfl, hlo, hg, hcell, hfr⟩ := hr.at_ hlt
      have hr' := hr.set_ j hlt (k + j)
      have hb' : Below lo w (wr.setCell ⟨g, off + j, none⟩ (.int .i64 (k + j))) := hb.setCell hlo _
      have HS' : Hid ((wr.setCell ⟨g, off + j, none⟩ (.int .i64 (k + j))).heap.size = w.heap.size) := by
        show _ = _
        rw [← HS.out]; simp [World.setCell]
      clear hr hb
      go_wp2
      go_roundw
      case rel => exact ⟨j + 1, by omega, by go_num, by go_num, hr', hb', HS'⟩
      case measure => simp [intOf]; omega
    · obtain rfl : j = n := by omega
      go_wp2
      go_ret
      exact ⟨rfl, hr, hb, HS.out⟩

set_option maxHeartbeats 400000 in
theorem heldIntS_any (A : Option Addr) (n c : Nat) (xs : List Int) (k : Int) (w : World) (h : Rd w A n (marks xs k n)) (h0 : 0 ≤ k) (h1 : k ≤ 4194304) :
    Calls Try.prog 22 #[.slice A n c, .int .i64 k] w fun e w' => e = .returned (.int .i64 (k + n)) ∧ w = w' := by
  have hn := h.le
  have hlen := h.len
  rw [marks_len] at hlen
  have HL := Lib.hid hlen
  clear hlen
  go_enter Try.func22, Try.ntmps22
  go_wp2
  go_loop [1, 5] (fun kk i => ∃ j : Nat, j ≤ n ∧ i = .int .i64 j ∧ kk = .int .i64 (k + j)) (fun _ i => n - (intOf i).toNat)
  case atStart => exact ⟨0, Nat.zero_le _, rfl, by simp⟩
  case round =>
    obtain ⟨j, hj, rfl, rfl⟩ := hrel
    by_cases hlt : j < n
    · obtain ⟨g, off, rfl, hg, hcell⟩ := h.at_ hlt
      rw [marks_at xs k n j (by rw [HL.out]; exact hlt) hlt] at hcell
      go_wp2
      go_round
      case rel => exact ⟨j + 1, by omega, by go_num, by go_num⟩
      case measure => simp [intOf]; omega
    · obtain rfl : j = n := by omega
      go_wp2
      go_ret
      exact ⟨rfl, rfl⟩
end Go.Proofs.Ytjfninibloakgaa

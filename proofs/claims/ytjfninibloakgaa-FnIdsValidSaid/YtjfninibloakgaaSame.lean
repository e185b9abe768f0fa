/-
  Contracts of the laws' helpers on two lists of ints: whether they are equal. The order of the two reads is open: the world has drawn, nothing is written.
-/
import Derived.Test.YtjfninibloakgaaBase
namespace Go.Proofs.Ytjfninibloakgaa
open Go.RowKit

/-- two lists are equal -/
def sameB (xs ys : List Int) : Bool := xs == ys
theorem sameB_true {xs ys : List Int} : sameB xs ys = true ↔ xs = ys := by unfold sameB; simp
theorem sameB_refl (xs : List Int) : sameB xs xs = true := sameB_true.2 rfl
theorem sameB_len {xs ys : List Int} (h : xs.length ≠ ys.length) : sameB xs ys = false := by
  cases hb : sameB xs ys
  · rfl
  · exact absurd (congrArg List.length (sameB_true.1 hb)) h
theorem sameB_at {xs ys : List Int} (k : Nat) (h : nth xs k ≠ nth ys k) : sameB xs ys = false := by
  cases hb : sameB xs ys
  · rfl
  · rw [sameB_true.1 hb] at h; exact absurd rfl h

set_option maxHeartbeats 400000 in
theorem eqIntS_any (A B : Option Addr) (n m c d : Nat) (xs ys : List Int) (w : World) (h : Rd w A n xs) (h' : Rd w B m ys) :
    Calls Try.prog 14 #[.slice A n c, .slice B m d] w fun e w' => e = .returned (.bool (sameB xs ys)) ∧ ∃ q, w' = w.drewN q := by
  have hn := h.le
  have hm := h'.le
  by_cases hnm : n = m
  · subst hnm
    go_enter Try.func14, Try.ntmps14
    go_wp2
    go_loopw [5] (fun i wr => ∃ k q : Nat, k ≤ n ∧ i = .int .i64 k ∧ wr = w.drewN q ∧ Hid (∀ j, j < k → nth xs j = nth ys j)) (fun i _ => n - (intOf i).toNat)
    case atStart => exact ⟨0, 0, Nat.zero_le _, rfl, rfl, fun j hj => absurd hj (by omega)⟩
    case round =>
      obtain ⟨k, q, hk, rfl, rfl, H⟩ := hrel
      by_cases hlt : k < n
      · obtain ⟨g, off, rfl, _, hcell⟩ := h.at_ hlt
        obtain ⟨g', off', rfl, _, hcell'⟩ := h'.at_ hlt
        by_cases hx : nth xs k = nth ys k
        · have hb : (nth xs k != nth ys k) = false := by simp [hx]
          have HX := Lib.hid hx
          clear hx
          go_wp2
          go_quiet (fail)
          go_wp2
          go_roundw
          case rel => exact ⟨k + 1, _, by omega, by go_num, rfl, fun j hj => by
            rcases Nat.lt_or_ge j k with h1 | h1
            · exact H.out j h1
            · obtain rfl : j = k := by omega
              exact HX.out⟩
          case measure => simp [intOf]; omega
        · have hb : (nth xs k != nth ys k) = true := by simp [hx]
          have HX := Lib.hid hx
          clear hx
          go_wp2
          go_quiet (fail)
          go_wp2
          go_ret
          exact ⟨ret_bool (sameB_at k HX.out).symm, _, World.drewN_drewN _ _ _⟩
      · go_wp2
        go_ret
        exact ⟨ret_bool (sameB_true.2 (nth_ext (h.len.trans h'.len.symm) (fun j hj => H.out j (by rw [h.len] at hj; omega)))).symm, q, rfl⟩
  · have hb : ((n : Int) != (m : Int)) = true := by rw [bne_iff_ne]; omega
    go_enter Try.func14, Try.ntmps14
    go_wp2
    go_ret
    exact ⟨ret_bool (sameB_len (by rw [h.len, h'.len]; exact hnm)).symm, 0, rfl⟩
set_option maxHeartbeats 400000 in
theorem sameInts_any (A B : Option Addr) (n m c d : Nat) (xs ys : List Int) (w : World) (h : Rd w A n xs) (h' : Rd w B m ys) :
    Calls Try.prog 29 #[.slice A n c, .slice B m d] w fun e w' => e = .returned (.bool (sameB xs ys)) ∧ ∃ q, w' = w.drewN q := by
  have hn := h.le
  have hm := h'.le
  by_cases hnm : n = m
  · subst hnm
    go_enter Try.func29, Try.ntmps29
    go_wp2
    go_loopw [5] (fun i wr => ∃ k q : Nat, k ≤ n ∧ i = .int .i64 k ∧ wr = w.drewN q ∧ Hid (∀ j, j < k → nth xs j = nth ys j)) (fun i _ => n - (intOf i).toNat)
    case atStart => exact ⟨0, 0, Nat.zero_le _, rfl, rfl, fun j hj => absurd hj (by omega)⟩
    case round =>
      obtain ⟨k, q, hk, rfl, rfl, H⟩ := hrel
      by_cases hlt : k < n
      · obtain ⟨g, off, rfl, _, hcell⟩ := h.at_ hlt
        obtain ⟨g', off', rfl, _, hcell'⟩ := h'.at_ hlt
        by_cases hx : nth xs k = nth ys k
        · have hb : (nth xs k != nth ys k) = false := by simp [hx]
          have HX := Lib.hid hx
          clear hx
          go_wp2
          go_quiet (fail)
          go_wp2
          go_roundw
          case rel => exact ⟨k + 1, _, by omega, by go_num, rfl, fun j hj => by
            rcases Nat.lt_or_ge j k with h1 | h1
            · exact H.out j h1
            · obtain rfl : j = k := by omega
              exact HX.out⟩
          case measure => simp [intOf]; omega
        · have hb : (nth xs k != nth ys k) = true := by simp [hx]
          have HX := Lib.hid hx
          clear hx
          go_wp2
          go_quiet (fail)
          go_wp2
          go_ret
          exact ⟨ret_bool (sameB_at k HX.out).symm, _, World.drewN_drewN _ _ _⟩
      · go_wp2
        go_ret
        exact ⟨ret_bool (sameB_true.2 (nth_ext (h.len.trans h'.len.symm) (fun j hj => H.out j (by rw [h.len] at hj; omega)))).symm, q, rfl⟩
  · have hb : ((n : Int) != (m : Int)) = true := by rw [bne_iff_ne]; omega
    go_enter Try.func29, Try.ntmps29
    go_wp2
    go_ret
    exact ⟨ret_bool (sameB_len (by rw [h.len, h'.len]; exact hnm)).symm, 0, rfl⟩
end Go.Proofs.Ytjfninibloakgaa

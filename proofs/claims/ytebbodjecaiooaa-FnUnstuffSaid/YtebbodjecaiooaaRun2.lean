/-
  l23Run and LongestRun of the reference; the walk of the law FnExactLongestRun.
-/
import Derived.Test.YtebbodjecaiooaaRun
namespace Go.Proofs.Ytebbodjecaiooaa
open Go.RowKit Runs

theorem nth_cons_zero (a : Int) (t : List Int) : nth (a :: t) 0 = a := rfl
theorem nth_cons_succ (a : Int) (t : List Int) (i : Nat) : nth (a :: t) (i + 1) = nth t i := rfl
theorem headRun_is (l : List Int) : ∀ n, n ≤ l.length → 0 < l.length → (∀ i, i < n → nth l i = nth l 0) → (n = l.length ∨ nth l n ≠ nth l 0) → headRun l = n := by
  induction l with
  | nil => intro n _ h; simp at h
  | cons a t ih =>
    intro n hn _ h1 h2
    cases n with
    | zero => rcases h2 with h | h
              · simp at h
              · exact absurd rfl h
    | succ n =>
      cases t with
      | nil =>
        simp at hn
        subst hn
        rfl
      | cons b t =>
        have hz : nth (a :: b :: t) 0 = a := rfl
        by_cases hab : a = b
        · subst hab
          rw [headRun, if_pos rfl]
          cases n with
          | zero => rcases h2 with h | h
                    · simp at h
                    · exact absurd rfl h
          | succ n =>
            have := ih (n + 1) (by simp at hn ⊢; omega) (by simp) (fun i hi => h1 (i + 1) (by omega)) (by
              rcases h2 with h | h
              · left; simp at h ⊢; omega
              · right; exact h)
            omega
        · rw [headRun, if_neg hab]
          cases n with
          | zero => rfl
          | succ n =>
            have := h1 1 (by omega)
            exact absurd this.symm hab
theorem nth_reverse (l : List Int) (i : Nat) (h : i < l.length) : nth l.reverse i = nth l (l.length - 1 - i) := by
  rw [nth_get _ _ (by simpa using h), nth_get _ _ (by omega), List.getElem_reverse]
theorem endRun_is (l : List Int) (n : Nat) (hn : n ≤ l.length) (h0 : 0 < l.length) (h1 : ∀ i, i < n → nth l (l.length - 1 - i) = nth l (l.length - 1))
    (h2 : n = l.length ∨ nth l (l.length - 1 - n) ≠ nth l (l.length - 1)) : endRun l = n := by
  unfold endRun
  refine headRun_is l.reverse n (by simpa using hn) (by simpa using h0) (fun i hi => ?_) ?_
  · rw [nth_reverse l i (by omega), nth_reverse l 0 h0, Nat.sub_zero]
    exact h1 i hi
  · rcases h2 with h | h
    · left; simpa using h
    · by_cases e : n = l.length
      · left; simpa using e
      · right
        rw [nth_reverse l n (by omega), nth_reverse l 0 h0, Nat.sub_zero]
        exact h

set_option maxHeartbeats 800000 in
theorem l23Run_any (s : ByteArray) (w : World) (hs : s.size ≤ 4194304) :
    Calls Try.prog 24 #[.string s] w fun e w' => e = .returned (.int .i64 (endRun (bl s))) ∧ ∃ q, w' = w.drewN q := by
  have HL := Lib.hid (bl_len s)
  have hg := bl_get s
  go_enter Try.func24, Try.ntmps24
  go_wp2
  go_loopw [3] (fun i wr => ∃ k q : Nat, k ≤ s.size ∧ i = .int .i64 k ∧ wr = w.drewN q ∧ Hid (∀ i, i < k → nth (bl s) (s.size - 1 - i) = nth (bl s) (s.size - 1))) (fun i _ => s.size - (intOf i).toNat)
  case atStart => exact ⟨0, 0, Nat.zero_le _, rfl, rfl, fun j hj => absurd hj (by omega)⟩
  case round =>
    obtain ⟨k, q, hk, rfl, rfl, H⟩ := hrel
    by_cases hlt : k < s.size
    · obtain ⟨p, hp⟩ : ∃ p, p = s.size - 1 - k := ⟨_, rfl⟩
      obtain ⟨t, ht⟩ : ∃ t, t = s.size - 1 := ⟨_, rfl⟩
      have e1 : IntKind.i64.wrap ((s.size : Int) - 1) = (t : Int) := by rw [IntWalk.i64_in _ (by omega)]; omega
      have e2 : IntKind.i64.wrap ((t : Int) - (k : Int)) = (p : Int) := by rw [IntWalk.i64_in _ (by omega)]; omega
      have i1 : (0 : Int) ≤ (p : Int) := by omega
      have i2 : (p : Int) < (s.size : Int) := by omega
      have i3 : (0 : Int) ≤ (t : Int) := by omega
      have i4 : (t : Int) < (s.size : Int) := by omega
      have i5 : p < s.size := by omega
      have i6 : t < s.size := by omega
      have dg : decide ((k : Int) < (s.size : Int)) = true := by simp; omega
      have HP := Lib.hid hp
      have HT := Lib.hid ht
      clear hp ht
      by_cases hx : nth (bl s) p = nth (bl s) t
      · have hb' : (nth (bl s) p == nth (bl s) t) = true := by simp [hx]
        have HX := Lib.hid hx
        clear hx
        go_wp2
        go_quiet (fail)
        clear e1 e2
        go_wp2
        go_roundw
        case rel => exact ⟨k + 1, _, by omega, by go_num, rfl, fun j hj => by
          rcases Nat.lt_or_ge j k with h1 | h1
          · exact H.out j h1
          · obtain rfl : j = k := by omega
            rw [← HP.out, ← HT.out]
            exact HX.out⟩
        case measure => simp [intOf]; omega
      · have hb' : (nth (bl s) p == nth (bl s) t) = false := by simp [hx]
        have HF : Hid (endRun (bl s) = k) := endRun_is (bl s) k (by rw [HL.out]; omega) (by rw [HL.out]; omega) (by rw [HL.out]; exact H.out) (.inr (by rw [HL.out, ← HP.out, ← HT.out]; exact hx))
        clear hx
        go_wp2
        go_quiet (fail)
        clear e1 e2
        go_wp2
        go_ret
        exact ⟨ret_int (by rw [HF.out]), _, World.drewN_drewN _ _ _⟩
    · obtain rfl : k = s.size := by omega
      have dg : decide ((s.size : Int) < (s.size : Int)) = false := by simp
      have HF : Hid (endRun (bl s) = s.size) := by
        show _ = _
        by_cases h0 : s.size = 0
        · have : bl s = [] := List.eq_nil_of_length_eq_zero (by rw [HL.out]; exact h0)
          rw [this, h0]; rfl
        · exact endRun_is (bl s) s.size (by rw [HL.out]; omega) (by rw [HL.out]; omega) (by rw [HL.out]; exact H.out) (.inl HL.out.symm)
      go_wp2
      go_quiet (fail)
      go_wp2
      go_ret
      exact ⟨ret_int (by rw [HF.out]), _, World.drewN_drewN _ _ _⟩

theorem bl_extract (s : ByteArray) (k : Nat) : bl (s.extract 0 k) = (bl s).take k := by
  unfold bl
  rw [← List.map_take]
  congr 1
  simp [ByteArray.data_extract]

set_option maxHeartbeats 800000 in
theorem specLongestRun_any (s : ByteArray) (w : World) (hs : s.size ≤ 4194304) :
    Calls Try.prog 13 #[.string s] w fun e w' => e = .returned (.int .i64 (longest (bl s))) ∧ ∃ q, w' = w.drewN q := by
  have HL := Lib.hid (bl_len s)
  go_enter Try.func13, Try.ntmps13
  go_wp2
  go_loopw [3, 4] (fun m i wr => ∃ k a q : Nat, k ≤ s.size ∧ a ≤ k ∧ i = .int .i64 k ∧ m = .int .i64 a ∧ wr = w.drewN q ∧ Hid (a = longTo (bl s) k)) (fun _ i _ => s.size - (intOf i).toNat)
  case atStart => exact ⟨0, 0, 0, Nat.zero_le _, Nat.le_refl _, rfl, rfl, rfl, rfl⟩
  case round =>
    obtain ⟨k, a, q, hk, ha, rfl, rfl, rfl, H⟩ := hrel
    by_cases hlt : k < s.size
    · have HE := Lib.hid (bl_extract s (k + 1))
      have hle := endRun_le ((bl s).take (k + 1))
      rw [List.length_take] at hle
      go_wp2_with fail
      refine (l23Run_any _ _ (by simp; omega)).mono ?_
      rintro e w1 ⟨rfl, q1, rfl⟩
      rw [HE.out]
      have HN : Hid (max a (endRun ((bl s).take (k + 1))) = longTo (bl s) (k + 1)) := by show _ = _; rw [longTo, ← H.out]
      generalize endRun ((bl s).take (k + 1)) = b at *
      by_cases hm : (a : Int) < (b : Int)
      · go_wp2_with fail
        go_roundw
        case rel => exact ⟨k + 1, b, _, by omega, by omega, by go_num, rfl, rfl, by show _ = _; rw [← HN.out]; omega⟩
        case measure => simp [intOf]; omega
      · go_wp2_with fail
        go_roundw
        case rel => exact ⟨k + 1, a, _, by omega, by omega, by go_num, rfl, rfl, by show _ = _; rw [← HN.out]; omega⟩
        case measure => simp [intOf]; omega
    · obtain rfl : k = s.size := by omega
      go_wp2
      go_ret
      exact ⟨ret_int (by rw [H.out, longest, HL.out]), q, rfl⟩

theorem walk_FnExactLongestRun (s : ByteArray) (w : World) (_w0 : s.size ≤ maxLen) :
    Calls Try.prog 4 #[.string s] w fun e w' => e = .returned (.bool true) ∧ Below w.heap.size w w' := by
  by_cases hlen : 1048576 < s.size
  · go_enter Try.func4, Try.ntmps4
    go_wp2
    go_ret
    exact ⟨rfl, Below.refl _ _⟩
  · have hb : ((longest (bl s) : Int) != (longest (bl s) : Int)) = false := by simp
    go_enter Try.func4, Try.ntmps4
    go_wp2_with fail
    refine (specLongestRun_any s _ (by omega)).mono ?_
    rintro e w1 ⟨rfl, q1, rfl⟩
    go_wp2_with fail
    refine (implLongestRun_any s _ (by omega)).mono ?_
    rintro e w2 ⟨rfl, q2, rfl⟩
    go_wp2_with fail
    go_ret
    exact ⟨rfl, below_drewN_ (Below.refl _ _) _⟩
end Go.Proofs.Ytebbodjecaiooaa

/-
  The walks of the laws FnLowerOk, FnLowerTicks and FnLowerWait.
-/
import Derived.Test.YthbgnnnbidnlbaaWait
import Derived.Test.YthbgnnnbidnlbaaDrawLower
import Derived.Test.YthbgnnnbidnlbaaAlive
namespace Go.Proofs.Ythbgnnnbidnlbaa
open Go.RowKit

theorem lowerB_four {xs : List Int} {s : Int} (h : lowerB xs s = true) : lowerB xs 4 = true := by
  obtain ⟨h1, _, h3⟩ := lowerB_true.1 h
  exact lowerB_true.2 ⟨h1, by omega, h3⟩
theorem lowerB_zero (xs : List Int) : lowerB xs 0 = false := lowerB_no (by omega)

set_option maxHeartbeats 800000 in
theorem walk_FnLowerOk (a0 : Option Addr) (len0 cap0 : Nat) (z0 : List Int) (w : World) (w0 : IsRow .u8 w a0 len0 cap0 z0) :
    Calls Try.prog 7 #[.slice a0 len0 cap0] w fun e w' => e = .returned (.bool true) ∧ Below w.heap.size w w' := by
  by_cases hlen : 1048576 < len0
  · go_enter Try.func7, Try.ntmps7
    go_wp2
    go_ret
    exact ⟨rfl, Below.refl _ _⟩
  · go_enter Try.func7, Try.ntmps7
    go_wp2_with fail
    refine (DrawLowerOk_any a0 len0 cap0 z0 _ w0).mono ?_
    rintro e w1 ⟨A, n, c, xs, s, rfl, hnc, hn4, hs0, hs5, rd1, b1⟩
    have hz := lowerB_zero xs
    cases hv : lowerB xs s
    · go_wp2_with fail
      refine (implLowerOk_any A n c xs s _ rd1).mono ?_
      rintro e w2 ⟨rfl, rfl⟩
      go_wp2_with fail
      refine (specLowerOk_any A n c xs s _ rd1).mono ?_
      rintro e w2 ⟨rfl, rfl⟩
      go_wp2_with fail
      refine (implLowerOk_any A n c xs 0 _ rd1).mono ?_
      rintro e w2 ⟨rfl, rfl⟩
      go_wp2_with fail
      refine (alive_any _).mono ?_
      rintro e w4 ⟨rfl, b4⟩
      go_wp2_with fail
      go_ret
      exact ⟨rfl, below_step b1 b4⟩
    · have h4 := lowerB_four hv
      go_wp2_with fail
      refine (implLowerOk_any A n c xs s _ rd1).mono ?_
      rintro e w2 ⟨rfl, rfl⟩
      go_wp2_with fail
      refine (specLowerOk_any A n c xs s _ rd1).mono ?_
      rintro e w2 ⟨rfl, rfl⟩
      go_wp2_with fail
      refine (implLowerOk_any A n c xs 4 _ rd1).mono ?_
      rintro e w2 ⟨rfl, rfl⟩
      go_wp2_with fail
      refine (implLowerOk_any A n c xs 0 _ rd1).mono ?_
      rintro e w2 ⟨rfl, rfl⟩
      go_wp2_with fail
      refine (alive_any _).mono ?_
      rintro e w4 ⟨rfl, b4⟩
      go_wp2_with fail
      go_ret
      exact ⟨rfl, below_step b1 b4⟩

set_option maxHeartbeats 1600000 in
theorem walk_FnLowerTicks (a0 : Option Addr) (len0 cap0 : Nat) (z0 : List Int) (w : World) (w0 : IsRow .u8 w a0 len0 cap0 z0) :
    Calls Try.prog 9 #[.slice a0 len0 cap0] w fun e w' => e = .returned (.bool true) ∧ Below w.heap.size w w' := by
  by_cases hlen : 1048576 < len0
  · go_enter Try.func9, Try.ntmps9
    go_wp2
    go_ret
    exact ⟨rfl, Below.refl _ _⟩
  · go_enter Try.func9, Try.ntmps9
    go_wp2_with fail
    refine (DrawLowerTicks_any a0 len0 cap0 z0 _ w0).mono ?_
    rintro e w1 ⟨A, n, c, xs, s, rfl, hnc, hn4, hs0, hs5, rd1, b1⟩
    go_wp2_with fail
    refine (implLowerTicks_any A n c xs s _ rd1).mono ?_
    rintro e w2 ⟨rfl, b2⟩
    go_wp2_with fail
    refine (specLowerTicks_any A n c xs s _ (rd1.below b2)).mono ?_
    rintro e w3 ⟨rfl, b3⟩
    have rd3 := (rd1.below b2).below b3
    have b13 := below_step (below_step b1 b2) b3
    clear b1 b2 b3 rd1
    cases hv : lowerB xs s
    · rw [ticksZ_no hv]
      clear hv
      go_wp2_with fail
      refine (alive_any _).mono ?_
      rintro e w4 ⟨rfl, b4⟩
      go_wp2_with fail
      go_ret
      exact ⟨rfl, below_step b13 b4⟩
    · obtain ⟨l, s, rfl, rfl⟩ := lower_nat hv
      have ho := lowOk_iff.1 hv
      rw [ticksZ_yes ho]
      have HL := Lib.hid (rd_toZ_len rd3)
      obtain ⟨-, -, -, -, -, p6, p7, p8, p9, p10, -, -, p13, p14, -⟩ := ho.parts
      have HNX := Lib.hid (ticksZ_yes ho.next)
      have HST := Lib.hid (lowS_yes ho)
      have HT : Hid (tau s l = 0 ∨ tau s l = 1 + tau s (lowStep l s)) := by
        rcases Nat.eq_zero_or_pos (sumN l) with h0 | h0
        · exact .inl (p7 h0).1
        · exact .inr (p6 h0).2.1
      have hm0 : ∀ mx : Nat, mx = maxN l → ((((tau s l : Nat) : Int) == 0) == ((mx : Int) == 0)) = true := by
        intro mx hmx
        by_cases hm : maxN l = 0
        · rw [hmx, hm, (p13 hm).1]; rfl
        · have h1 := (p14 hm).1
          have e1 : (((tau s l : Nat) : Int) == 0) = false := by simp; omega
          have e2 : ((mx : Int) == 0) = false := by simp; omega
          rw [e1, e2]; rfl
      have HM0 := Lib.hid hm0
      have hmulv : ∃ M : Nat, wrap64 (((tau s l : Nat) : Int) * (s : Int)) = (M : Int) ∧ sumN l ≤ M := by
        refine ⟨tau s l * s, ?_, p9⟩
        have : tau s l * s ≤ 28 * 4 := Nat.mul_le_mul p10 ho.2.2.2.2
        have e : (((tau s l : Nat) : Int) * (s : Int)) = ((tau s l * s : Nat) : Int) := by rw [Int.natCast_mul]
        rw [e]
        exact IntWalk.wrap64_in _ (by omega)
      obtain ⟨M, hmul, hM⟩ := hmulv
      have HMUL := Lib.hid hmul
      have hself : (((tau s l : Nat) : Int) != ((tau s l : Nat) : Int)) = false := by simp
      have hsum8 := ho.2.2.1
      have HS8 := Lib.hid hsum8
      clear p6 p7 p9 p13 p14 hm0 hmul hsum8 ho hv
      generalize tau s l = T at *
      go_wp2_with fail
      go_loop [6, 7] (fun m i => ∃ k x : Nat, k ≤ n ∧ i = .int .i64 k ∧ m = .int .i64 (x : Int) ∧ Hid (x = maxN (l.take k))) (fun _ i => n - (intOf i).toNat)
      case atStart => exact ⟨0, 0, Nat.zero_le _, rfl, rfl, rfl⟩
      case round =>
        obtain ⟨k, x, hk, rfl, rfl, H⟩ := hrel
        by_cases hlt : k < n
        · obtain ⟨g, off, rfl, hg, hcell⟩ := rd3.at_ hlt
          rw [toZ_nth] at hcell
          have hkl : k < l.length := by rw [HL.out]; exact hlt
          have HN : Hid (max x (nn l k) = maxN (l.take (k + 1))) := by show _ = _; rw [take_succ_nn l k hkl, maxN_snoc, H.out]
          generalize nn l k = y at hcell HN
          clear hkl
          by_cases hm : (x : Int) < (y : Int)
          · go_wp2
            go_round
            case rel => exact ⟨k + 1, y, by omega, by go_num, by go_num, by have := HN.out; rw [show max x y = y by omega] at this; exact this⟩
            case measure => simp [intOf]; omega
          · go_wp2
            go_round
            case rel => exact ⟨k + 1, x, by omega, by go_num, by go_num, by have := HN.out; rw [show max x y = x by omega] at this; exact this⟩
            case measure => simp [intOf]; omega
        · obtain rfl : k = n := by omega
          have HX : Hid (x = maxN l) := by have := H.out; rw [List.take_of_length_le (by rw [HL.out]; omega)] at this; exact this
          have hxT : x ≤ T := by rw [HX.out]; exact p8
          have hmm := HM0.out x HX.out
          have hmul := HMUL.out
          clear hself
          rcases Nat.eq_zero_or_pos T with hT | hT
          · have hTy : ((T : Int) == 0) = true := by simp; omega
            have hxz : ((x : Int) == 0) = true := by simp; omega
            clear hT hmm
            go_wp2_with fail
            refine (sum_any_28 A k c l _ rd3 HS8.out hn4).mono ?_
            rintro e w' ⟨rfl, rfl⟩
            go_wp2_with fail
            go_ret
            exact ⟨rfl, b13⟩
          · have hTn : ((T : Int) == 0) = false := by simp; omega
            have hxz : ((x : Int) == 0) = false := by rw [hTn] at hmm; cases hq : ((x : Int) == 0); rfl; rw [hq] at hmm; cases hmm
            clear hmm
            have HD : Hid (T = 1 + tau s (lowStep l s)) := by rcases HT.out with h | h; omega; exact h
            go_wp2_with fail
            refine (sum_any_28 A k c l _ rd3 HS8.out hn4).mono ?_
            rintro e w' ⟨rfl, rfl⟩
            go_wp2_with fail
            refine (implLowerStep_any A k c (toZ l) s _ rd3).mono ?_
            rintro e w5 ⟨A5, n5, c5, rfl, _, r5, b5⟩
            rw [HST.out] at r5
            go_wp2_with fail
            refine (implLowerTicks_any A5 n5 c5 (toZ (lowStep l s)) s _ r5.rd).mono ?_
            rintro e w6 ⟨rfl, b6⟩
            rw [HNX.out]
            have hlast : (((tau s (lowStep l s) : Nat) : Int) == (T : Int) - 1) = true := by rw [HD.out]; simp; omega
            clear hmul
            go_wp2_with fail
            go_ret
            exact ⟨rfl, below_step (below_step b13 b5) b6⟩

set_option maxHeartbeats 1600000 in
theorem walk_FnLowerWait (a0 : Option Addr) (len0 cap0 : Nat) (z0 : List Int) (w : World) (w0 : IsRow .u8 w a0 len0 cap0 z0) :
    Calls Try.prog 10 #[.slice a0 len0 cap0] w fun e w' => e = .returned (.bool true) ∧ Below w.heap.size w w' := by
  by_cases hlen : 1048576 < len0
  · go_enter Try.func10, Try.ntmps10
    go_wp2
    go_ret
    exact ⟨rfl, Below.refl _ _⟩
  · go_enter Try.func10, Try.ntmps10
    go_wp2_with fail
    refine (DrawLowerWait_any a0 len0 cap0 z0 _ w0).mono ?_
    rintro e w1 ⟨A, n, c, xs, s, rfl, hnc, hn4, hs0, hs5, rd1, b1⟩
    go_wp2_with fail
    refine (implLowerWait_any A n c xs s _ rd1).mono ?_
    rintro e w2 ⟨rfl, b2⟩
    go_wp2_with fail
    refine (specLowerWait_any A n c xs s _ (rd1.below b2)).mono ?_
    rintro e w3 ⟨rfl, b3⟩
    have rd3 := (rd1.below b2).below b3
    have b13 := below_step (below_step b1 b2) b3
    clear b1 b2 b3 rd1
    cases hv : lowerB xs s
    · rw [waitZ_no hv]
      clear hv
      go_wp2_with fail
      refine (alive_any _).mono ?_
      rintro e w4 ⟨rfl, b4⟩
      go_wp2_with fail
      go_ret
      exact ⟨rfl, below_step b13 b4⟩
    · obtain ⟨l, s, rfl, rfl⟩ := lower_nat hv
      have ho := lowOk_iff.1 hv
      have ho4 : LowOk l 4 := ⟨ho.1, ho.2.1, ho.2.2.1, by omega, by omega⟩
      rw [waitZ_yes ho]
      obtain ⟨-, -, -, -, -, -, -, -, -, -, p11, p12, -, -, -, p16⟩ := ho.parts
      have HW4 := Lib.hid ((waitZ_yes ho4).trans (by rw [ho4.parts.2.2.2.2.2.2.2.2.2.2.2.2.2.2.1 rfl] : ((phi 4 l : Nat) : Int) = ((sumN l : Nat) : Int)))
      have hself : (((phi s l : Nat) : Int) != ((phi s l : Nat) : Int)) = false := by simp
      have hsum : (((sumN l : Nat) : Int) == ((sumN l : Nat) : Int)) = true := by simp
      have HS8 := Lib.hid ho.2.2.1
      have hs4' : s ≤ 4 := ho.2.2.2.2
      have HU : Hid (s ≠ 4 → waitZ (toZ l) ((s : Int) + 1) = ((phi (s + 1) l : Nat) : Int) ∧ phi (s + 1) l ≤ phi s l) := fun hne => by
        have ho5 : LowOk l (s + 1) := ⟨ho.1, ho.2.1, ho.2.2.1, by omega, by omega⟩
        exact ⟨waitZ_yes ho5, p16 hne⟩
      clear p16 hv ho ho4
      generalize phi s l = X at *
      go_wp2_with fail
      refine (implLowerWait_any A n c (toZ l) 4 _ rd3).mono ?_
      rintro e w5 ⟨rfl, b5⟩
      have HW4' : Hid (waitZ (toZ l) 4 = ((sumN l : Nat) : Int)) := HW4.out
      rw [HW4'.out]
      have rd5 := rd3.below b5
      go_wp2_with fail
      refine (sum_any_28 A n c l _ rd5 HS8.out hn4).mono ?_
      rintro e w' ⟨rfl, rfl⟩
      go_wp2_with fail
      refine (sum_any_28 A n c l _ rd5 HS8.out hn4).mono ?_
      rintro e w' ⟨rfl, rfl⟩
      by_cases hs4 : s = 4
      · subst hs4
        go_wp2_with fail
        go_ret
        exact ⟨rfl, below_step b13 b5⟩
      · have hsn : ((s : Int) == 4) = false := by simp; omega
        obtain ⟨u1, u2⟩ := HU.out hs4
        have HU1 := Lib.hid u1
        clear u1 hs4
        go_wp2_with fail
        refine (implLowerWait_any A n c (toZ l) ((s : Int) + 1) _ rd5).mono ?_
        rintro e w6 ⟨rfl, b6⟩
        rw [HU1.out]
        generalize phi (s + 1) l = Y at *
        go_wp2_with fail
        go_ret
        exact ⟨rfl, below_step (below_step b13 b5) b6⟩
end Go.Proofs.Ythbgnnnbidnlbaa

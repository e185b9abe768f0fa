/-
  The walks of the laws FnBitsValid, FnLongestRun and FnStuff.
-/
import Derived.Test.YtebbodjecaiooaaUnstuffS
import Derived.Test.YtebbodjecaiooaaDrawBits
import Derived.Test.YtebbodjecaiooaaAlive
namespace Go.Proofs.Ytebbodjecaiooaa
open Go.RowKit Runs

theorem bitsB_take {l : List Int} (h : bitsB l = true) (k : Nat) : bitsB (l.take k) = true := by
  obtain ⟨h1, h2⟩ := bitsB_true.1 h
  refine bitsB_true.2 ⟨by rw [List.length_take]; omega, List.all_eq_true.2 fun x hx => List.all_eq_true.1 h2 x (List.mem_of_mem_take hx)⟩
theorem bitsB_two (l : List Int) : bitsB (l ++ [50]) = false := bitsB_bad (by rw [List.all_append]; simp [bitB])
theorem size_zero {s : ByteArray} (h : s.size = 0) : s = ⟨#[]⟩ := bl_inj (by have := bl_len s; rw [h] at this; rw [List.eq_nil_of_length_eq_zero this]; rfl)

set_option maxHeartbeats 800000 in
theorem walk_FnBitsValid (a0 : Option Addr) (len0 cap0 : Nat) (z0 : List Int) (w : World) (w0 : IsRow .u8 w a0 len0 cap0 z0) :
    Calls Try.prog 7 #[.slice a0 len0 cap0] w fun e w' => e = .returned (.bool true) ∧ Below w.heap.size w w' := by
  by_cases hlen : 1048576 < len0
  · go_enter Try.func7, Try.ntmps7
    go_wp2
    go_ret
    exact ⟨rfl, Below.refl _ _⟩
  · go_enter Try.func7, Try.ntmps7
    go_wp2_with fail
    refine (DrawBitsValid_any a0 len0 cap0 z0 _ w0).mono ?_
    rintro e w1 ⟨s, rfl, hs, b1⟩
    have h2 : bitsB (bl (s ++ (⟨#[50]⟩ : ByteArray))) = false := by rw [bl_append]; exact bitsB_two _
    have h0 : bitsB (bl (⟨#[]⟩ : ByteArray)) = true := rfl
    have hs2 : (s ++ (⟨#[50]⟩ : ByteArray)).size ≤ 300 := by have h1 : (⟨#[50]⟩ : ByteArray).size = 1 := rfl; simp; omega
    cases hv : bitsB (bl s)
    · go_wp2_with fail
      refine (implBitsValid_any s _ (by omega)).mono ?_
      rintro e w2 ⟨rfl, rfl⟩
      go_wp2_with fail
      refine (specBitsValid_any s _ (by omega)).mono ?_
      rintro e w2 ⟨rfl, rfl⟩
      go_wp2_with fail
      refine (implBitsValid_any _ _ (by omega)).mono ?_
      rintro e w2 ⟨rfl, rfl⟩
      go_wp2_with fail
      refine (implBitsValid_any _ _ (by decide)).mono ?_
      rintro e w2 ⟨rfl, rfl⟩
      go_wp2_with fail
      refine (alive_any _).mono ?_
      rintro e w4 ⟨rfl, b4⟩
      go_wp2_with fail
      go_ret
      exact ⟨rfl, below_step b1 b4⟩
    · rcases Nat.eq_zero_or_pos s.size with hz | hz
      · obtain rfl := size_zero hz
        clear hz
        go_wp2_with fail
        refine (implBitsValid_any _ _ (by decide)).mono ?_
        rintro e w2 ⟨rfl, rfl⟩
        go_wp2_with fail
        refine (specBitsValid_any _ _ (by decide)).mono ?_
        rintro e w2 ⟨rfl, rfl⟩
        go_wp2_with fail
        refine (implBitsValid_any _ _ (by first | decide | omega)).mono ?_
        rintro e w2 ⟨rfl, rfl⟩
        go_wp2_with fail
        refine (implBitsValid_any _ _ (by decide)).mono ?_
        rintro e w2 ⟨rfl, rfl⟩
        go_wp2_with fail
        refine (alive_any _).mono ?_
        rintro e w4 ⟨rfl, b4⟩
        go_wp2_with fail
        go_ret
        exact ⟨rfl, below_step b1 b4⟩
      · obtain ⟨p, hp⟩ : ∃ p, s.size = p + 1 := ⟨s.size - 1, by omega⟩
        have ht : bitsB (bl (s.extract 0 p)) = true := by rw [bl_extract]; exact bitsB_take hv p
        have hne : ((s.size : Int) == 0) = false := by rw [beq_eq_false_iff_ne]; omega
        have hsub : (s.size : Int) - 1 = (p : Int) := by omega
        have hps : (p : Int) ≤ (s.size : Int) := by omega
        have hpsz : (s.extract 0 p).size ≤ 300 := by rw [← bl_len, bl_extract, List.length_take, bl_len]; omega
        clear hp hz
        go_wp2_with fail
        refine (implBitsValid_any s _ (by omega)).mono ?_
        rintro e w2 ⟨rfl, rfl⟩
        go_wp2_with fail
        refine (specBitsValid_any s _ (by omega)).mono ?_
        rintro e w2 ⟨rfl, rfl⟩
        go_wp2_with fail
        refine (implBitsValid_any _ _ (by omega)).mono ?_
        rintro e w2 ⟨rfl, rfl⟩
        go_wp2_with fail
        refine (implBitsValid_any _ _ (by omega)).mono ?_
        rintro e w2 ⟨rfl, rfl⟩
        go_wp2_with fail
        refine (implBitsValid_any _ _ (by decide)).mono ?_
        rintro e w2 ⟨rfl, rfl⟩
        go_wp2_with fail
        refine (alive_any _).mono ?_
        rintro e w4 ⟨rfl, b4⟩
        go_wp2_with fail
        go_ret
        exact ⟨rfl, below_step b1 b4⟩

set_option maxHeartbeats 1600000 in
theorem walk_FnStuff (a0 : Option Addr) (len0 cap0 : Nat) (z0 : List Int) (w : World) (w0 : IsRow .u8 w a0 len0 cap0 z0) :
    Calls Try.prog 9 #[.slice a0 len0 cap0] w fun e w' => e = .returned (.bool true) ∧ Below w.heap.size w w' := by
  by_cases hlen : 1048576 < len0
  · go_enter Try.func9, Try.ntmps9
    go_wp2
    go_ret
    exact ⟨rfl, Below.refl _ _⟩
  · go_enter Try.func9, Try.ntmps9
    go_wp2_with fail
    refine (DrawStuff_any a0 len0 cap0 z0 _ w0).mono ?_
    rintro e w1 ⟨s, rfl, hs, b1⟩
    go_wp2_with fail
    refine (implStuff_any s _ (by omega)).mono ?_
    rintro e w2 ⟨o, rfl, h2, b2⟩
    go_wp2_with fail
    refine (specStuff_any s _ (by omega)).mono ?_
    rintro e w3 ⟨o3, rfl, h3, b3⟩
    obtain rfl : o3 = o := bl_inj (h3.trans h2.symm)
    have b13 := below_step (below_step b1 b2) b3
    clear h3 b1 b2 b3
    have HS := Lib.hid (bl_len s)
    cases hv : bitsB (bl s)
    · rw [stuffZ_no hv] at h2
      obtain rfl : o3 = ⟨#[]⟩ := bl_inj h2
      clear h2
      go_wp2_with fail
      refine (specBitsValid_any s _ (by omega)).mono ?_
      rintro e w4 ⟨rfl, rfl⟩
      go_wp2_with fail
      refine (alive_any _).mono ?_
      rintro e w4 ⟨rfl, b4⟩
      go_wp2_with fail
      go_ret
      exact ⟨rfl, below_step b13 b4⟩
    · rw [stuffZ_yes hv] at h2
      have hsz : o3.size = (stuffL (bl s)).length := by rw [← bl_len, h2]
      have hsh := stuff_share (bl s)
      rw [← hsz, HS.out] at hsh
      obtain ⟨q1, q2, q3⟩ := hsh
      have hu : unst (bl o3) = some (bl s) := by rw [h2]; exact unst_stuff hv
      have HU := Lib.hid hu
      have hlo : longest (bl o3) ≤ 4 := by rw [h2]; exact longest_le (stuff_runs _)
      clear h2 hu hsz
      go_wp2_with fail
      refine (specBitsValid_any s _ (by omega)).mono ?_
      rintro e w4 ⟨rfl, rfl⟩
      go_wp2_with fail
      refine (implUnstuff_any o3 _ (by omega)).mono ?_
      rintro e w4 ⟨o4, rfl, h4, _, b4⟩
      rw [HU.out] at h4 ⊢
      obtain rfl : o4 = s := bl_inj h4
      have b14 := below_step b13 b4
      clear h4
      go_wp2_with fail
      refine (implLongestRun_any o3 _ (by omega)).mono ?_
      rintro e w5 ⟨rfl, q5, rfl⟩
      generalize longest (bl o3) = lo at *
      have q4 : ((o3.size : Int) - (o4.size : Int)) * 3 ≤ (o4.size : Int) := by omega
      go_wp2_with fail
      go_ret
      exact ⟨rfl, below_drewN_ b14 q5⟩

/-- the elements from j on, turned round -/
def turnTo (xs : List Int) (j : Nat) : List Int := (xs.drop j).reverse
theorem turnTo_end (xs : List Int) : turnTo xs xs.length = [] := by unfold turnTo; simp
theorem turnTo_succ (xs : List Int) (j : Nat) (hj : j < xs.length) : turnTo xs j = turnTo xs (j + 1) ++ [nth xs j] := by
  unfold turnTo; rw [List.drop_eq_getElem_cons hj, List.reverse_cons, nth_get xs j hj]
theorem turnTo_len (xs : List Int) (j : Nat) : (turnTo xs j).length = xs.length - j := by unfold turnTo; simp

set_option maxHeartbeats 1600000 in
theorem walk_FnLongestRun (a0 : Option Addr) (len0 cap0 : Nat) (z0 : List Int) (w : World) (w0 : IsRow .u8 w a0 len0 cap0 z0) :
    Calls Try.prog 8 #[.slice a0 len0 cap0] w fun e w' => e = .returned (.bool true) ∧ Below w.heap.size w w' := by
  by_cases hlen : 1048576 < len0
  · go_enter Try.func8, Try.ntmps8
    go_wp2
    go_ret
    exact ⟨rfl, Below.refl _ _⟩
  · go_enter Try.func8, Try.ntmps8
    go_wp2_with fail
    refine (DrawLongestRun_any a0 len0 cap0 z0 _ w0).mono ?_
    rintro e w1 ⟨s, rfl, hs, b1⟩
    have hself : ((longest (bl s) : Int) != (longest (bl s) : Int)) = false := by simp
    go_wp2_with fail
    refine (implLongestRun_any s _ (by omega)).mono ?_
    rintro e w2 ⟨rfl, q2, rfl⟩
    go_wp2_with fail
    refine (specLongestRun_any s _ (by omega)).mono ?_
    rintro e w3 ⟨rfl, q3, rfl⟩
    have HL := Lib.hid (bl_len s)
    have hll : longest (bl s) ≤ 200 := by
      have h1 := longTo_le (bl s) (bl s).length
      have h2 : longest (bl s) ≤ (bl s).length := h1
      rw [HL.out] at h2; omega
    have HTN := Lib.hid (longest_turned (bl s))
    have HTK := Lib.hid (fun k => longest_take (bl s) k)
    have HSN := Lib.hid (longest_snoc (bl s) 49)
    have HZ := Lib.hid (longest_zero (bl s))
    go_wp2_with fail
    go_loop [5, 6] (fun v i => ∃ (j : Nat) (o : ByteArray), j ≤ s.size ∧ i = .int .i64 ((j : Int) - 1) ∧ v = .string o ∧ o.size ≤ 200 ∧ Hid (bl o = turnTo (bl s) j)) (fun _ i => (intOf i + 1).toNat)
    case atStart => exact ⟨s.size, ⟨#[]⟩, Nat.le_refl _, rfl, rfl, by decide, by show _ = _; rw [← HL.out, turnTo_end]; rfl⟩
    case round =>
      obtain ⟨j, o, hj, rfl, rfl, ho, H⟩ := hrel
      rcases Nat.eq_zero_or_pos j with h0 | h0
      · subst h0
        have HO : Hid (longest (bl o) = longest (bl s)) := by show _ = _; rw [H.out, ← HTN.out]; rfl
        have HE : Hid (bl (s ++ (⟨#[49]⟩ : ByteArray)) = bl s ++ [49]) := by show _ = _; rw [bl_append]; rfl
        have hs1 : (s ++ (⟨#[49]⟩ : ByteArray)).size ≤ 300 := by have h1 : (⟨#[49]⟩ : ByteArray).size = 1 := rfl; simp; omega
        obtain ⟨hh, hhalf⟩ : ∃ hh : Nat, (s.size : Int) / 2 = (hh : Int) := ⟨s.size / 2, by omega⟩
        have hhs : (hh : Int) ≤ (s.size : Int) := by omega
        have HX : Hid (bl (s.extract 0 hh) = (bl s).take hh) := bl_extract s hh
        have hpsz : (s.extract 0 hh).size ≤ 300 := by rw [← bl_len, HX.out, List.length_take, HL.out]; omega
        go_wp2_with fail
        refine (implLongestRun_any _ _ (by omega)).mono ?_
        rintro e w4 ⟨rfl, q4, rfl⟩
        rw [HE.out]
        go_wp2_with fail
        refine (implLongestRun_any o _ (by omega)).mono ?_
        rintro e w5 ⟨rfl, q5, rfl⟩
        rw [HO.out]
        have heq : ((longest (bl s) : Int) == (longest (bl s) : Int)) = true := by simp
        go_wp2_with fail
        refine (implLongestRun_any _ _ (by omega)).mono ?_
        rintro e w6 ⟨rfl, q6, rfl⟩
        rw [HX.out]
        have t1 := HTK.out hh
        obtain ⟨t2, t3⟩ := HSN.out
        have hzz : (((longest (bl s) : Int) == 0) = true ∧ s = ⟨#[]⟩) ∨ (((longest (bl s) : Int) == 0) = false ∧ s.toList.isEmpty = false ∧ (s.toList == []) = false ∧ decide (s.toList = []) = false) := by
          by_cases hsz : s.size = 0
          · have := size_zero hsz
            subst this
            exact .inl ⟨rfl, rfl⟩
          · right
            have hbl : bl s ≠ [] := fun h => by have := HL.out; rw [h] at this; simp at this; omega
            have hne : longest (bl s) ≠ 0 := fun h => hbl (HZ.out.1 h)
            have htl : s.toList ≠ [] := fun h => by rw [ByteArray.toList_eq] at h; apply hbl; unfold bl; rw [h]; rfl
            exact ⟨by simp; omega, by simpa using htl, by simpa using htl, by simpa using htl⟩
        generalize longest (bl s ++ [49]) = y at *
        generalize longest ((bl s).take hh) = y2 at *
        clear hhalf hself
        rcases hzz with ⟨z1, z2⟩ | ⟨z1, z2, z3, z4⟩
        · subst z2
          go_wp2_with fail
          refine (alive_any _).mono ?_
          rintro e w9 ⟨rfl, b9⟩
          go_wp2_with fail
          go_ret
          exact ⟨rfl, below_step (below_drewN_ b1 _) b9⟩
        · go_wp2_with fail
          refine (alive_any _).mono ?_
          rintro e w9 ⟨rfl, b9⟩
          go_wp2_with fail
          go_ret
          exact ⟨rfl, below_step (below_drewN_ b1 _) b9⟩
      · obtain ⟨d, rfl⟩ : ∃ d, j = d + 1 := ⟨j - 1, by omega⟩
        have e1 : ((d + 1 : Nat) : Int) - 1 = (d : Int) := by omega
        rw [e1]
        clear e1 h0
        have HS : Hid (bl (o ++ s.extract d (d + 1)) = turnTo (bl s) d) := by show _ = _; rw [bl_append, H.out, bl_piece s d (by omega), ← turnTo_succ (bl s) d (by rw [HL.out]; omega)]
        have hsz : (o ++ s.extract d (d + 1)).size ≤ 200 := by rw [← bl_len, HS.out, turnTo_len, HL.out]; omega
        go_wp2
        go_round
        case rel => exact ⟨d, _, by omega, by go_num, rfl, hsz, HS⟩
        case measure => simp [intOf]
end Go.Proofs.Ytebbodjecaiooaa

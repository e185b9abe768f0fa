/-
  Contract of the reference's CodeBetween; the walk of the law FnExactCodeBetween.
-/
import Derived.Test.YtkjjdpooahdicaaCodes4
import Derived.Test.YtkjjdpooahdicaaSame
import Derived.Test.YtkjjdpooahdicaaMark
namespace Go.Proofs.Ytkjjdpooahdicaa
open Go.RowKit CodesPlain

theorem okTo_false (u x t : Nat) (h : okTo u x t = false) : okTo u x (t + 1) = false := by rw [okTo, h]; rfl
theorem okTo_next (a b c t : Nat) (ha : a < 64) (hb : b < 64) (hc : c < 64) (ht : t < 6) (h : okTo (c ^^^ a) (a ^^^ b) t = true) (r : Bool)
    (hr : ((bitZ c t == bitZ a t) || (bitZ c t == bitZ b t)) = r) : okTo (c ^^^ a) (a ^^^ b) (t + 1) = r := by
  rw [okTo, h, ← ok_step a b c t ha hb hc ht, hr]; rfl

set_option maxHeartbeats 1600000 in
theorem specCodeBetween_in (m k : Nat) (hm : m < 64) (hk : k < 64) (w : World) : Calls Try.prog 17 #[.int .i64 m, .int .i64 k] w (RetRow w (between m k)) := by
  have HBA := Lib.hid (bitsApart_nat m k hm hk)
  have hge : (0 : Int) ≤ bitsApart m k := by rw [HBA.out]; omega
  have hbuild : Below w.heap.size w (w.alloc (.cells #[] 3)) := (Below.refl _ _).alloc (Nat.le_refl _) _
  go_enter Try.func17, Try.ntmps17
  go_wp2
  go_loopw [5, 6] (fun v i wr => ∃ (j n c : Nat) (A : Option Addr), j ≤ 64 ∧ i = .int .i64 j ∧ v = .slice A n c ∧ n ≤ 64 ∧ Own wr w.heap.size A n c (btwTo m k j) ∧ Below w.heap.size w wr) (fun _ i _ => 64 - (intOf i).toNat)
  case atStart => exact ⟨0, 0, 0, _, by omega, rfl, rfl, by omega, Own.made w _ (Nat.le_refl _), hbuild⟩
  case round =>
    obtain ⟨j, n, c, A, hj, rfl, rfl, hn, hown, hb⟩ := hrel
    by_cases hlt : j < 64
    · have hcj := codeOf_codeN j hlt
      have hcl := code_lt j hlt
      have hnl := btwTo_len m k j
      rw [hown.len] at hnl
      have HX := Lib.hid (okTo_six (codeN j ^^^ m) (m ^^^ k) (xor_lt _ _ hcl hm) (xor_lt _ _ hm hk))
      obtain ⟨wo, rfl⟩ : ∃ wo : World, wo = wr := ⟨_, rfl⟩
      go_wp2_with (first
        | (go_at_call 15; refine (specBitsApart_any _ _ _).mono ?_; rintro e w' ⟨rfl, q, rfl⟩)
        | (go_at_call 11; refine (specCodeOf_any _ _).mono ?_; rintro e w' ⟨rfl, rfl⟩))
      go_loop [8, 9] (fun o i => ∃ t : Nat, t ≤ 6 ∧ i = .int .i64 t ∧ o = .bool (okTo (codeN j ^^^ m) (m ^^^ k) t)) (fun _ i => 6 - (intOf i).toNat)
      case atStart => exact ⟨0, by omega, rfl, rfl⟩
      case round =>
        obtain ⟨t, ht, rfl, rfl⟩ := hrel
        by_cases htl : t < 6
        · cases hok : okTo (codeN j ^^^ m) (m ^^^ k) t
          · have HO := Lib.hid (okTo_false _ _ t hok)
            clear hok
            go_wp2
            go_round
            case rel => exact ⟨t + 1, by omega, by go_num, by rw [HO.out]⟩
            case measure => simp [intOf]; omega
          · have HO := Lib.hid (fun r hr => okTo_next m k (codeN j) t hm hk hcl htl hok r hr)
            clear hok
            cases e1 : (bitZ (codeN j) t == bitZ m t)
            · cases e2 : (bitZ (codeN j) t == bitZ k t)
              · have HR := Lib.hid (HO.out false (by rw [e1, e2]; rfl))
                unfold bitZ at e1 e2
                go_wp2
                go_round
                case rel => exact ⟨t + 1, by omega, by go_num, by rw [HR.out]⟩
                case measure => simp [intOf]; omega
              · have HR := Lib.hid (HO.out true (by rw [e1, e2]; rfl))
                unfold bitZ at e1 e2
                go_wp2
                go_round
                case rel => exact ⟨t + 1, by omega, by go_num, by rw [HR.out]⟩
                case measure => simp [intOf]; omega
            · have HR := Lib.hid (HO.out true (by rw [e1]; rfl))
              unfold bitZ at e1
              go_wp2
              go_round
              case rel => exact ⟨t + 1, by omega, by go_num, by rw [HR.out]⟩
              case measure => simp [intOf]; omega
        · obtain rfl : t = 6 := by omega
          have hbs := hb.size
          have hown' := hown.drewN q
          cases hok : okTo (codeN j ^^^ m) (m ^^^ k) 6
          · have HE := Lib.hid (btwTo_no m k j (by rw [← HX.out]; exact hok))
            clear hok
            go_wp2
            go_roundw
            case rel => exact ⟨j + 1, n, c, A, by omega, by go_num, rfl, by omega, by rw [HE.out]; exact hown', below_drewN_ hb q⟩
            case measure => simp [intOf]; omega
          · have HE := Lib.hid (btwTo_yes m k j (by rw [← HX.out]; exact hok))
            clear hok
            go_wp2_with (at_builtin; refine wpList_append_int _ rfl (.tmp 50) (.tmp 52) rfl w.heap.size A n c (btwTo m k j) rfl (hown'.alloc _) wo.heap.size (j : Int) rfl (cell_one _ _ rfl _ _) (by omega) (size_one _ _ hbs _) ?_; intro g cap w1 hown1 hgrow1 hbel1 hlt1)
            have hb1 : Below w.heap.size w w1 := ((below_drewN_ hb q).alloc hbs _).trans (hbel1 _ (Nat.le_refl _))
            rw [← HE.out] at hown1
            clear hgrow1 hbel1
            go_wp2
            go_roundw
            case rel => exact ⟨j + 1, n + 1, cap, _, by omega, by go_num, rfl, by omega, hown1, hb1⟩
            case measure => simp [intOf]; omega
    · obtain rfl : j = 64 := by omega
      go_wp2
      go_ret
      exact ⟨A, n, c, rfl, hown.2, by rw [← btwTo_all m k hm hk]; exact hown.row (by omega), hb⟩

theorem specCodeBetween_any (a b : Int) (w : World) : Calls Try.prog 17 #[.int .i64 a, .int .i64 b] w (RetRow w (between a b)) := by
  by_cases h : cvB a = true ∧ cvB b = true
  · have h1 := cvB_true.1 h.1
    have h2 := cvB_true.1 h.2
    obtain ⟨m, rfl⟩ := Int.eq_ofNat_of_zero_le h1.1
    obtain ⟨k, rfl⟩ := Int.eq_ofNat_of_zero_le h2.1
    exact specCodeBetween_in m k (by omega) (by omega) w
  · have hba := bitsApart_no a b h
    go_enter Try.func17, Try.ntmps17
    go_wp2
    refine wp_loop_rounds 1 ?_
    rw [rounds_succ]
    go_wp2_with (go_at_call 15; refine (specBitsApart_any _ _ _).mono ?_; rintro e w' ⟨rfl, q, rfl⟩)
    go_ret
    rw [between_no a b h]
    exact ⟨_, 0, 0, rfl, Nat.le_refl _, Row.nil_, below_drewN_ ((Below.refl _ _).alloc (Nat.le_refl _) _) q⟩
end Go.Proofs.Ytkjjdpooahdicaa

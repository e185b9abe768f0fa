/-
  The walk of the law FnSendOrder.
-/
import Derived.Test.YtjfninibloakgaaSend
import Derived.Test.YtjfninibloakgaaLawsArb
import Derived.Test.YtjfninibloakgaaAscend
import Derived.Test.YtjfninibloakgaaSame
namespace Go.Proofs.Ytjfninibloakgaa
open Go.RowKit

theorem send_has {xs : List Int} (h : idsB xs = true) (j : Nat) (hj : j < xs.length) : hasB (send xs) (nth xs j) = true :=
  hasB_true.2 ((send_perm h).mem_iff.2 (nth_mem xs j hj))

set_option maxHeartbeats 3200000 in
theorem walk_FnSendOrder (a0 : Option Addr) (len0 cap0 : Nat) (z0 : List Int) (w : World) (w0 : IsRow .u8 w a0 len0 cap0 z0) :
    Calls Try.prog 10 #[.slice a0 len0 cap0] w fun e w' => e = .returned (.bool true) ∧ Below w.heap.size w w' := by
  by_cases hlen : 1048576 < len0
  · go_enter Try.func10, Try.ntmps10
    go_wp2
    go_ret
    exact ⟨rfl, Below.refl _ _⟩
  · go_enter Try.func10, Try.ntmps10
    go_wp2_with fail
    refine (DrawSendOrder_any a0 len0 cap0 z0 _ w0).mono ?_
    rintro e w1 ⟨A, n, c, xs, rfl, hnc, hn8, rd1, b1⟩
    have HL := Lib.hid rd1.len
    go_wp2_with fail
    refine (implSendOrder_any A n c xs _ rd1 hnc).mono ?_
    rintro e w2 ⟨A2, n2, c2, rfl, _, r2, b2⟩
    go_wp2_with fail
    refine (specSendOrder_any A n c xs _ (rd1.below b2) (by omega)).mono ?_
    rintro e w3 ⟨A3, n3, c3, rfl, _, r3, b3⟩
    have hl2 := r2.rd.below b3
    go_wp2_with fail
    refine (sameInts_any A2 A3 n2 n3 c2 c3 _ _ _ hl2 r3.rd).mono ?_
    rintro e w4 ⟨rfl, q4, rfl⟩
    rw [sameB_refl]
    have rd4 := (rd1.below (below_step b2 b3)).drewN q4
    have hl4 := hl2.drewN q4
    have b4 : Below w.heap.size w (w3.drewN q4) := below_drewN_ (below_step (below_step b1 b2) b3) q4
    generalize w3.drewN q4 = wa at *
    clear b1 b2 b3 rd1 r2 r3 hl2
    go_wp2_with fail
    refine (specIdsValid_any A n c xs _ rd4 hnc).mono ?_
    rintro e w5 ⟨rfl, q5, rfl⟩
    have rd5 := rd4.drewN q5
    have hl5 := hl4.drewN q5
    have b5 : Below w.heap.size w (wa.drewN q5) := below_drewN_ b4 q5
    generalize wa.drewN q5 = wb at *
    clear b4 rd4 hl4
    cases hv : idsB xs
    · rw [send_no hv] at hl5
      have h20 : n2 = 0 := by have := hl5.len; simpa using this.symm
      subst h20
      go_wp2_with fail
      refine (alive_any _).mono ?_
      rintro e w6 ⟨rfl, b6⟩
      go_wp2_with fail
      go_ret
      exact ⟨rfl, below_step b5 b6⟩
    · have HV := Lib.hid hv
      have h2n : n2 = n := by have := hl5.len; rw [(send_perm hv).length_eq, HL.out] at this; exact this.symm
      subst h2n
      have hasc := asc_of_pairwise (send_asc hv)
      have HAS := Lib.hid hasc
      have HTU := Lib.hid (send_turned hv (ids' := xs.reverse) (List.reverse_perm xs))
      have HAL := Lib.hid (fun j hj => send_has hv j hj)
      clear hasc hv
      have hom := Own.made wb wb.heap.size (Nat.le_refl _)
      have hbm : Below wb.heap.size wb (wb.alloc (.cells #[] 3)) := (Below.refl _ _).alloc (Nat.le_refl _) _
      go_wp2_with fail
      go_loopw [5, 6] (fun v i wr => ∃ (j m c' : Nat) (A' : Option Addr), j ≤ n2 ∧ i = .int .i64 ((j : Int) - 1) ∧ v = .slice A' m c' ∧ m ≤ n2 ∧ Own wr wb.heap.size A' m c' (turnTo xs j) ∧ Below wb.heap.size wb wr) (fun _ i _ => (intOf i + 1).toNat)
      case atStart => exact ⟨n2, 0, 0, _, Nat.le_refl _, rfl, rfl, by omega, by rw [← HL.out, turnTo_end]; exact hom, hbm⟩
      case round =>
        obtain ⟨j, m, c', A', hj, rfl, rfl, hmn, ho, hb⟩ := hrel
        clear hom hbm
        have hbs := hb.size
        rcases Nat.eq_zero_or_pos j with h0 | h0
        · subst h0
          rw [turnTo_all] at ho
          have rdt := ho.rd (by omega)
          have hl6 := hl5.below hb
          have b6 := below_step b5 hb
          have hmc := ho.2
          clear ho hl5 hb b5
          go_wp2_with fail
          refine (ascend_any A2 n2 c2 _ _ hl6 HAS.out).mono ?_
          rintro e w7 ⟨rfl, q7, rfl⟩
          have hl7 := hl6.drewN q7
          have rd7 := rdt.drewN q7
          have b7 : Below w.heap.size w (wr.drewN q7) := below_drewN_ b6 q7
          generalize wr.drewN q7 = wc at *
          clear hl6 rdt b6
          go_wp2_with fail
          refine (implSendOrder_any A' m c' xs.reverse _ rd7 hmc).mono ?_
          rintro e w8 ⟨A8, n8, c8, rfl, _, r8, b8⟩
          rw [HTU.out] at r8
          go_wp2_with fail
          refine (sameInts_any A8 A2 n8 n2 c8 c2 _ _ _ r8.rd (hl7.below b8)).mono ?_
          rintro e w9 ⟨rfl, q9, rfl⟩
          rw [sameB_refl]
          go_wp2_with fail
          go_ret
          exact ⟨rfl, below_drewN_ (below_step b7 b8) q9⟩
        · obtain ⟨d, rfl⟩ : ∃ d, j = d + 1 := ⟨j - 1, by omega⟩
          have e1 : ((d + 1 : Nat) : Int) - 1 = (d : Int) := by omega
          rw [e1]
          clear e1 h0
          obtain ⟨g, off, rfl, hgb, hcellb⟩ := rd5.at_ (show d < n2 by omega)
          have hcell := (hb.cell (p := ⟨g, off + d, none⟩) hgb).trans hcellb
          have HCB := Lib.hid hcellb
          clear hcellb
          have HS := Lib.hid (turnTo_succ xs d (by rw [HL.out]; omega))
          have HAD := Lib.hid (HAL.out d (by rw [HL.out]; omega))
          have hml := turnTo_len xs (d + 1)
          rw [ho.len, HL.out] at hml
          have hml' : m + 1 ≤ n2 := by omega
          clear hml
          go_wp2_with (at_builtin; refine wpList_append_int _ rfl (.tmp 36) (.tmp 41) rfl wb.heap.size A' m c' (turnTo xs (d + 1)) rfl (ho.alloc _) wr.heap.size _ rfl (cell_one _ _ rfl _ _) (by omega) (size_one _ _ hbs _) ?_; intro g1 cap w3' ho3 hgrow1 hbel1 hlt1; have hcell3 := (((hb.alloc hbs (.cells #[.int .i64 (nth xs d)] 3)).trans (hbel1 _ (Nat.le_refl _))).cell (p := ⟨g, off + d, none⟩) hgb).trans HCB.out)
          have hb4 : Below wb.heap.size wb w3' := (hb.alloc hbs _).trans (hbel1 _ (Nat.le_refl _))
          rw [← HS.out] at ho3
          clear hgrow1 hbel1 hcell hcell3
          refine (hasInt_any A2 n2 c2 _ _ _ (hl5.below hb4)).mono ?_
          rintro e w6 ⟨rfl, rfl⟩
          rw [HAD.out]
          go_wp2_with fail
          go_roundw
          case rel => exact ⟨d, m + 1, cap, _, by omega, by go_num, rfl, by omega, ho3, hb4⟩
          case measure => simp [intOf]
end Go.Proofs.Ytjfninibloakgaa

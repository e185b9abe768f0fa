/-
  The walk of the law FnMayHours.
-/
import Derived.Test.YtkelamkbkkcpjaaLawsMay
namespace Go.Proofs.Ytkelamkbkkcpjaa
open Go.RowKit

theorem forB_no1 {fl h : Int} {r : Rt} (h1 : (r.f == fl) = false) : forB fl h r = false := by unfold forB; rw [h1]; rfl
theorem forB_yes1 {fl h : Int} {r : Rt} (h1 : (r.f == fl) = true) : forB fl h r = holdsB r.a r.b h := by unfold forB; rw [h1]; rfl

set_option maxHeartbeats 3200000 in
theorem walk_FnMayHours (a0 : Option Addr) (len0 cap0 : Nat) (z0 : List Int) (w : World) (w0 : IsRow .u8 w a0 len0 cap0 z0) :
    Calls Try.prog 11 #[.slice a0 len0 cap0] w fun e w' => e = .returned (.bool true) ∧ Below w.heap.size w w' := by
  by_cases hlen : 1048576 < len0
  · go_enter Try.func11, Try.ntmps11
    go_wp2
    go_ret
    exact ⟨rfl, Below.refl _ _⟩
  · go_enter Try.func11, Try.ntmps11
    go_wp2_with fail
    refine (DrawMayHours_any a0 len0 cap0 z0 _ w0).mono ?_
    rintro e w1 ⟨A, n, c, rs, B, m, d, op, fl, rfl, hnc, hn7, rd1, ro1, b1⟩
    obtain ⟨X, hX⟩ : ∃ X, X = hoursTo rs op fl 24 := ⟨_, rfl⟩
    have HX := Lib.hid hX
    have hself : ((X : Int) != (X : Int)) = false := by simp
    have hX24 : X ≤ 24 := by rw [hX]; exact cnt_le _ _
    clear hX
    go_wp2_with fail
    refine (implMayHours_any A n c rs B m d op fl _ rd1 ro1).mono ?_
    rintro e w2 ⟨rfl, b2⟩
    rw [← HX.out]
    go_wp2_with fail
    refine (specMayHours_any A n c rs B m d op fl _ (rd1.below b2) (ro1.below b2)).mono ?_
    rintro e w3 ⟨rfl, b3⟩
    rw [← HX.out]
    have rd3 := (rd1.below b2).below b3
    have ro3 := (ro1.below b2).below b3
    have b13 := below_step (below_step b1 b2) b3
    clear rd1 ro1 b1 b2 b3
    cases hv : rightsB rs
    · obtain rfl : X = 0 := by rw [HX.out]; exact hours_none (.inl hv) 24
      go_wp2_with fail
      refine (specRightsValid_any A n c rs _ rd3).mono ?_
      rintro e w5 ⟨rfl, rfl⟩
      go_wp2_with fail
      refine (alive_any _).mono ?_
      rintro e w5 ⟨rfl, b5⟩
      go_wp2_with fail
      go_ret
      exact ⟨rfl, below_step b13 b5⟩
    · cases hi : inB fl 0 7
      · have hnn := inB_false.1 hi
        obtain rfl : X = 0 := by rw [HX.out]; exact hours_none (.inr hi) 24
        by_cases hneg : fl < 0
        · go_wp2_with fail
          refine (specRightsValid_any A n c rs _ rd3).mono ?_
          rintro e w5 ⟨rfl, rfl⟩
          go_wp2_with fail
          refine (alive_any _).mono ?_
          rintro e w5 ⟨rfl, b5⟩
          go_wp2_with fail
          go_ret
          exact ⟨rfl, below_step b13 b5⟩
        · have hge : 8 ≤ fl := by omega
          have hdn : decide (fl < 0) = false := by simp; omega
          go_wp2_with fail
          refine (specRightsValid_any A n c rs _ rd3).mono ?_
          rintro e w5 ⟨rfl, rfl⟩
          go_wp2_with fail
          refine (alive_any _).mono ?_
          rintro e w5 ⟨rfl, b5⟩
          go_wp2_with fail
          go_ret
          exact ⟨rfl, below_step b13 b5⟩
      · obtain ⟨hy0, hy1⟩ := inB_true.1 hi
        have hdn : decide (fl < 0) = false := by simp; omega
        have hdm : decide (8 ≤ fl) = false := by simp; omega
        have HV := Lib.hid hv
        have HI := Lib.hid hi
        go_wp2_with fail
        refine (specRightsValid_any A n c rs _ rd3).mono ?_
        rintro e w5 ⟨rfl, rfl⟩
        rw [HV.out]
        clear hv hi
        go_wp2_with fail
        go_loopw [7, 8, 9] (fun s i _ wr => ∃ j x : Nat, j ≤ n ∧ i = .int .i64 j ∧ s = .int .i64 (x : Int) ∧ x ≤ 24 * j ∧ Below w3.heap.size w3 wr ∧ Hid (x = sumTo rs fl j)) (fun _ i _ _ => n - (intOf i).toNat)
        case atStart => exact ⟨0, 0, Nat.zero_le _, rfl, rfl, by omega, Below.refl _ _, rfl⟩
        case round =>
          obtain ⟨j, x, hj, rfl, rfl, hx, hb, HS⟩ := hrel
          by_cases hlt : j < n
          · go_wp2_with fail
            go_loopw [7, 9] (fun s i wr => ∃ t y : Nat, t ≤ 24 ∧ i = .int .i64 t ∧ s = .int .i64 (y : Int) ∧ y ≤ 24 * j + t ∧ Below w3.heap.size w3 wr ∧ Hid (y = x + cnt (fun h : Nat => forB fl (h : Int) (rnth rs j)) t)) (fun _ i _ => 24 - (intOf i).toNat)
            case atStart => exact ⟨0, x, Nat.zero_le _, rfl, rfl, by omega, hb, rfl⟩
            case round =>
              obtain ⟨t, y, ht, rfl, rfl, hy, hb2, HY⟩ := hrel
              by_cases htl : t < 24
              · obtain ⟨g, off, rfl, hg, hc0, hc1, hc2⟩ := (rd3.below hb2).at_ hlt
                cases hfl : ((rnth rs j).f == fl)
                · have HN : Hid (y = x + cnt (fun h : Nat => forB fl (h : Int) (rnth rs j)) (t + 1)) := by show _ = _; rw [cnt_no (forB_no1 hfl)]; exact HY.out
                  go_wp2_with fail
                  go_roundw
                  case rel => exact ⟨t + 1, y, by omega, by go_num, rfl, by omega, hb2, HN⟩
                  case measure => simp [intOf]; omega
                · cases hho : holdsB (rnth rs j).a (rnth rs j).b (t : Int)
                  · have HN : Hid (y = x + cnt (fun h : Nat => forB fl (h : Int) (rnth rs j)) (t + 1)) := by show _ = _; rw [cnt_no ((forB_yes1 hfl).trans hho)]; exact HY.out
                    go_wp2_with fail
                    refine (implRightHolds_any _ _ _ t _).mono ?_
                    rintro e w6 ⟨rfl, b6⟩
                    go_wp2_with fail
                    go_roundw
                    case rel => exact ⟨t + 1, y, by omega, by go_num, rfl, by omega, below_step hb2 b6, HN⟩
                    case measure => simp [intOf]; omega
                  · have HN : Hid (y + 1 = x + cnt (fun h : Nat => forB fl (h : Int) (rnth rs j)) (t + 1)) := by show _ = _; rw [cnt_yes ((forB_yes1 hfl).trans hho), HY.out]; rfl
                    go_wp2_with fail
                    refine (implRightHolds_any _ _ _ t _).mono ?_
                    rintro e w6 ⟨rfl, b6⟩
                    go_wp2_with fail
                    go_roundw
                    case rel => exact ⟨t + 1, y + 1, by omega, by go_num, by go_num, by omega, below_step hb2 b6, HN⟩
                    case measure => simp [intOf]; omega
              · obtain rfl : t = 24 := by omega
                have HN : Hid (y = sumTo rs fl (j + 1)) := by show _ = _; rw [HY.out, HS.out]; rfl
                go_wp2_with fail
                go_roundw
                case rel => exact ⟨j + 1, y, by omega, by go_num, rfl, by omega, hb2, HN⟩
                case measure => simp [intOf]; omega
          · obtain rfl : j = n := by omega
            have rok := ro3.below hb
            have HL := Lib.hid rd3.len
            cases ho : hasB op fl
            · have hsum := hours_sum HV.out HI.out ho
              rw [HL.out, ← HX.out, ← HS.out] at hsum
              obtain ⟨hle, hiff⟩ := hsum
              have hd1 : decide ((X : Int) ≤ (x : Int)) = true := by simp; omega
              by_cases hX0 : X = 0
              · obtain rfl := hX0
                obtain rfl : x = 0 := hiff.1 rfl
                go_wp2_with fail
                refine (hasInt_any B m d op fl _ rok).mono ?_
                rintro e w6 ⟨rfl, rfl⟩
                go_wp2_with fail
                refine (hasInt_any B m d op fl _ rok).mono ?_
                rintro e w6 ⟨rfl, rfl⟩
                go_wp2_with fail
                go_ret
                exact ⟨rfl, below_step b13 hb⟩
              · have hx0 : ¬ x = 0 := fun e => hX0 (hiff.2 e)
                have e1 : ((X : Int) == 0) = false := by simp; omega
                have e2 : ((x : Int) == 0) = false := by simp; omega
                clear hX0 hx0 hiff
                go_wp2_with fail
                refine (hasInt_any B m d op fl _ rok).mono ?_
                rintro e w6 ⟨rfl, rfl⟩
                go_wp2_with fail
                refine (hasInt_any B m d op fl _ rok).mono ?_
                rintro e w6 ⟨rfl, rfl⟩
                go_wp2_with fail
                go_ret
                exact ⟨rfl, below_step b13 hb⟩
            · obtain rfl : X = 24 := by rw [HX.out]; exact hours_open HV.out HI.out ho
              go_wp2_with fail
              refine (hasInt_any B m d op fl _ rok).mono ?_
              rintro e w6 ⟨rfl, rfl⟩
              go_wp2_with fail
              go_ret
              exact ⟨rfl, below_step b13 hb⟩
end Go.Proofs.Ytkelamkbkkcpjaa

/-
  The walk of the law FnMayFloors.
-/
import Derived.Test.YtkelamkbkkcpjaaLawsMay
import Derived.Test.YtkelamkbkkcpjaaAscend
namespace Go.Proofs.Ytkelamkbkkcpjaa
open Go.RowKit

theorem floors_open {rs : List Rt} {op : List Int} {hh : Int} (h1 : rightsB rs = true) (h3 : inB hh 0 23 = true) (k : Nat) (hk : k < 8) (ho : hasB op (k : Int) = true) : mayB rs op (k : Int) hh = true := by
  rw [mayB_yes h1 (inB_yes (by omega)) h3, ho]; rfl

set_option maxHeartbeats 1600000 in
theorem walk_FnMayFloors (a0 : Option Addr) (len0 cap0 : Nat) (z0 : List Int) (w : World) (w0 : IsRow .u8 w a0 len0 cap0 z0) :
    Calls Try.prog 12 #[.slice a0 len0 cap0] w fun e w' => e = .returned (.bool true) ∧ Below w.heap.size w w' := by
  by_cases hlen : 1048576 < len0
  · go_enter Try.func12, Try.ntmps12
    go_wp2
    go_ret
    exact ⟨rfl, Below.refl _ _⟩
  · go_enter Try.func12, Try.ntmps12
    go_wp2_with fail
    refine (DrawMayFloors_any a0 len0 cap0 z0 _ w0).mono ?_
    rintro e w1 ⟨A, n, c, rs, B, m, d, op, hh, rfl, hnc, hn7, rd1, ro1, b1⟩
    have hs' := sameB_refl (floorsTo rs op hh 8)
    go_wp2_with fail
    refine (implMayFloors_any A n c rs B m d op hh _ rd1 ro1).mono ?_
    rintro e w2 ⟨A2, n2, c2, rfl, -, r2, b2⟩
    have rd2 := rd1.below b2
    have ro2 := ro1.below b2
    have b12 := below_step b1 b2
    go_wp2_with fail
    refine (specMayFloors_any A n c rs B m d op hh _ rd2 ro2).mono ?_
    rintro e w3 ⟨A3, n3, c3, rfl, -, r3, b3⟩
    have rd3 := rd2.below b3
    have ro3 := ro2.below b3
    have x3 := r2.rd.below b3
    have b13 := below_step b12 b3
    go_wp2_with fail
    refine (sameInts_any A2 A3 n2 n3 c2 c3 _ _ _ x3 r3.rd).mono ?_
    rintro e w4 ⟨rfl, q, rfl⟩
    have rd4 := rd3.drewN q
    have ro4 := ro3.drewN q
    have x4 := x3.drewN q
    have b14 : Below w.heap.size w (w3.drewN q) := below_drewN_ b13 q
    generalize w3.drewN q = w4 at *
    clear rd3 ro3 x3 b13 r3 r2 b3 rd2 ro2 b12 b2 rd1 ro1 b1
    cases hv : rightsB rs
    · have HX := Lib.hid (floorsTo_none (op := op) (h := hh) (.inl hv) 8)
      go_wp2_with fail
      refine (specRightsValid_any A n c rs _ rd4).mono ?_
      rintro e w5 ⟨rfl, rfl⟩
      obtain rfl : n2 = 0 := by have := x4.len; rw [HX.out] at this; simpa using this.symm
      go_wp2_with fail
      refine (alive_any _).mono ?_
      rintro e w5 ⟨rfl, b5⟩
      go_wp2_with fail
      go_ret
      exact ⟨rfl, below_step b14 b5⟩
    · cases hi : inB hh 0 23
      · have hnn := inB_false.1 hi
        have HX := Lib.hid (floorsTo_none (rs := rs) (op := op) (h := hh) (.inr hi) 8)
        obtain rfl : n2 = 0 := by have := x4.len; rw [HX.out] at this; simpa using this.symm
        by_cases hneg : hh < 0
        · go_wp2_with fail
          refine (specRightsValid_any A n c rs _ rd4).mono ?_
          rintro e w5 ⟨rfl, rfl⟩
          go_wp2_with fail
          refine (alive_any _).mono ?_
          rintro e w5 ⟨rfl, b5⟩
          go_wp2_with fail
          go_ret
          exact ⟨rfl, below_step b14 b5⟩
        · have hge : 23 < hh := by omega
          have hdn : decide (hh < 0) = false := by simp; omega
          go_wp2_with fail
          refine (specRightsValid_any A n c rs _ rd4).mono ?_
          rintro e w5 ⟨rfl, rfl⟩
          go_wp2_with fail
          refine (alive_any _).mono ?_
          rintro e w5 ⟨rfl, b5⟩
          go_wp2_with fail
          go_ret
          exact ⟨rfl, below_step b14 b5⟩
      · obtain ⟨hy0, hy1⟩ := inB_true.1 hi
        have hdn : decide (hh < 0) = false := by simp; omega
        have hdm : decide (23 < hh) = false := by simp; omega
        have HF := Lib.hid (fun k hk => floorsTo_has rs op hh 8 k hk)
        have HO := Lib.hid (fun k hk ho => floors_open (rs := rs) (op := op) hv hi k hk ho)
        have hasc := asc_of_pairwise (floorsTo_pw rs op hh 8)
        go_wp2_with fail
        refine (specRightsValid_any A n c rs _ rd4).mono ?_
        rintro e w5 ⟨rfl, rfl⟩
        go_wp2_with fail
        go_loopw [7] (fun i wr => ∃ k : Nat, k ≤ 8 ∧ i = .int .i64 k ∧ Below w4.heap.size w4 wr) (fun i _ => 8 - (intOf i).toNat)
        case atStart => exact ⟨0, Nat.zero_le _, rfl, Below.refl _ _⟩
        case round =>
          obtain ⟨k, hk, rfl, hb⟩ := hrel
          have rdk := rd4.below hb
          have rok := ro4.below hb
          have xk := x4.below hb
          by_cases hlt : k < 8
          · have hf := HF.out k hlt
            cases hm : mayB rs op (k : Int) hh
            · rw [hm] at hf
              have hno : hasB op (k : Int) = false := by
                cases ho : hasB op (k : Int) with
                | false => rfl
                | true => rw [HO.out k hlt ho] at hm; cases hm
              go_wp2_with fail
              refine (hasInt_any A2 n2 c2 _ k _ xk).mono ?_
              rintro e w6 ⟨rfl, rfl⟩
              go_wp2_with fail
              refine (implMayCall_any A n c rs B m d op k hh _ rdk rok).mono ?_
              rintro e w7 ⟨rfl, b7⟩
              go_wp2_with fail
              refine (hasInt_any B m d op k _ (rok.below b7)).mono ?_
              rintro e w8 ⟨rfl, rfl⟩
              go_wp2_with fail
              go_roundw
              case rel => exact ⟨k + 1, by omega, by go_num, below_step hb b7⟩
              case measure => simp [intOf]; omega
            · rw [hm] at hf
              cases ho : hasB op (k : Int)
              · go_wp2_with fail
                refine (hasInt_any A2 n2 c2 _ k _ xk).mono ?_
                rintro e w6 ⟨rfl, rfl⟩
                go_wp2_with fail
                refine (implMayCall_any A n c rs B m d op k hh _ rdk rok).mono ?_
                rintro e w7 ⟨rfl, b7⟩
                go_wp2_with fail
                refine (hasInt_any B m d op k _ (rok.below b7)).mono ?_
                rintro e w8 ⟨rfl, rfl⟩
                go_wp2_with fail
                go_roundw
                case rel => exact ⟨k + 1, by omega, by go_num, below_step hb b7⟩
                case measure => simp [intOf]; omega
              · go_wp2_with fail
                refine (hasInt_any A2 n2 c2 _ k _ xk).mono ?_
                rintro e w6 ⟨rfl, rfl⟩
                go_wp2_with fail
                refine (implMayCall_any A n c rs B m d op k hh _ rdk rok).mono ?_
                rintro e w7 ⟨rfl, b7⟩
                go_wp2_with fail
                refine (hasInt_any B m d op k _ (rok.below b7)).mono ?_
                rintro e w8 ⟨rfl, rfl⟩
                go_wp2_with fail
                refine (hasInt_any A2 n2 c2 _ k _ (xk.below b7)).mono ?_
                rintro e w8 ⟨rfl, rfl⟩
                go_wp2_with fail
                go_roundw
                case rel => exact ⟨k + 1, by omega, by go_num, below_step hb b7⟩
                case measure => simp [intOf]; omega
          · obtain rfl : k = 8 := by omega
            go_wp2_with fail
            refine (ascend_any A2 n2 c2 _ _ xk hasc).mono ?_
            rintro e w6 ⟨rfl, q6, rfl⟩
            go_wp2_with fail
            go_ret
            exact ⟨rfl, below_drewN_ (below_step b14 hb) q6⟩
end Go.Proofs.Ytkelamkbkkcpjaa

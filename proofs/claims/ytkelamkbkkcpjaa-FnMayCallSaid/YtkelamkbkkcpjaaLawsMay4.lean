/-
  The walk of the law FnMayCall.
-/
import Derived.Test.YtkelamkbkkcpjaaLawsMay
namespace Go.Proofs.Ytkelamkbkkcpjaa
open Go.RowKit

def MayCase (rs : List Rt) (op : List Int) (fl hh : Int) (ok cl ni fe : Bool) : Prop :=
  mayB rs op fl hh = ok ∧ mayB rs [] fl hh = cl ∧ mayB [] op fl hh = ni ∧ hasB op fl = ni ∧ mayB (restR rs) op fl hh = fe
theorem anyB_rest {rs : List Rt} {fl hh : Int} (h : anyB (restR rs) fl hh = true) : anyB rs fl hh = true := by
  rw [anyB_true] at h ⊢
  obtain ⟨r, hr, e⟩ := h
  exact ⟨r, List.mem_of_mem_drop hr, e⟩
theorem may_cases {rs : List Rt} {op : List Int} {fl hh : Int} (hv : rightsB rs = true) (hi : inB fl 0 7 = true) (hj : inB hh 0 23 = true) :
    MayCase rs op fl hh true true true true ∨ MayCase rs op fl hh true false true true ∨ MayCase rs op fl hh true true false true ∨ MayCase rs op fl hh true true false false ∨ MayCase rs op fl hh false false false false := by
  unfold MayCase
  rw [mayB_yes hv hi hj, mayB_yes hv hi hj, mayB_yes rightsB_nil hi hj, mayB_yes (rightsB_drop hv) hi hj]
  have e1 : hasB [] fl = false := rfl
  have e2 : anyB [] fl hh = false := rfl
  rw [e1, e2]
  have hr := anyB_rest (rs := rs) (fl := fl) (hh := hh)
  cases hasB op fl <;> cases ha : anyB rs fl hh <;> cases hb : anyB (restR rs) fl hh <;> simp_all

set_option maxHeartbeats 6400000 in
theorem walk_FnMayCall (a0 : Option Addr) (len0 cap0 : Nat) (z0 : List Int) (w : World) (w0 : IsRow .u8 w a0 len0 cap0 z0) :
    Calls Try.prog 10 #[.slice a0 len0 cap0] w fun e w' => e = .returned (.bool true) ∧ Below w.heap.size w w' := by
  by_cases hlen : 1048576 < len0
  · go_enter Try.func10, Try.ntmps10
    go_wp2
    go_ret
    exact ⟨rfl, Below.refl _ _⟩
  · go_enter Try.func10, Try.ntmps10
    go_wp2_with fail
    refine (DrawMayCall_any a0 len0 cap0 z0 _ w0).mono ?_
    rintro e w1 ⟨A, n, c, rs, B, m, d, op, fl, hh, rfl, hnc, hn7, rd1, ro1, b1⟩
    go_wp2_with fail
    refine (implMayCall_any A n c rs B m d op fl hh _ rd1 ro1).mono ?_
    rintro e w2 ⟨rfl, b2⟩
    have rd2 := rd1.below b2
    have ro2 := ro1.below b2
    have b12 := below_step b1 b2
    clear rd1 ro1 b1 b2
    go_wp2_with fail
    refine (specMayCall_any A n c rs B m d op fl hh _ rd2 ro2).mono ?_
    rintro e w3 ⟨rfl, b3⟩
    have rd3 := rd2.below b3
    have ro3 := ro2.below b3
    have b13 := below_step b12 b3
    clear rd2 ro2 b12 b3
    cases hv : rightsB rs
    · have hm := mayB_no (op := op) (fl := fl) (h := hh) (.inl hv)
      go_wp2_with fail
      refine (specRightsValid_any A n c rs _ rd3).mono ?_
      rintro e w5 ⟨rfl, rfl⟩
      go_wp2_with fail
      refine (alive_any _).mono ?_
      rintro e w5 ⟨rfl, b5⟩
      go_wp2_with fail
      go_ret
      exact ⟨rfl, below_step b13 b5⟩
    cases hi : inB fl 0 7
    · have hm := mayB_no (rs := rs) (op := op) (fl := fl) (h := hh) (.inr (.inl hi))
      have hnn := inB_false.1 hi
      by_cases hneg : fl < 0
      · go_wp2_with fail
        refine (specRightsValid_any A n c rs _ rd3).mono ?_
        rintro e w5 ⟨rfl, rfl⟩
        go_wp2_with fail
        refine (alive_any _).mono ?_
        rintro e w5 ⟨rfl, b5⟩
        go_wp2_with fail
        go_ret
        exact ⟨rfl, below_step b13 b5⟩
      · have hge : 8 ≤ fl := by omega
        have hdn : decide (fl < 0) = false := by simp; omega
        go_wp2_with fail
        refine (specRightsValid_any A n c rs _ rd3).mono ?_
        rintro e w5 ⟨rfl, rfl⟩
        go_wp2_with fail
        refine (alive_any _).mono ?_
        rintro e w5 ⟨rfl, b5⟩
        go_wp2_with fail
        go_ret
        exact ⟨rfl, below_step b13 b5⟩
    obtain ⟨hy0, hy1⟩ := inB_true.1 hi
    have hdn : decide (fl < 0) = false := by simp; omega
    have hdm : decide (8 ≤ fl) = false := by simp; omega
    cases hj : inB hh 0 23
    · have hm := mayB_no (rs := rs) (op := op) (fl := fl) (h := hh) (.inr (.inr hj))
      have hnn := inB_false.1 hj
      by_cases hneg : hh < 0
      · go_wp2_with fail
        refine (specRightsValid_any A n c rs _ rd3).mono ?_
        rintro e w5 ⟨rfl, rfl⟩
        go_wp2_with fail
        refine (alive_any _).mono ?_
        rintro e w5 ⟨rfl, b5⟩
        go_wp2_with fail
        go_ret
        exact ⟨rfl, below_step b13 b5⟩
      · have hge : 23 < hh := by omega
        have hdn' : decide (hh < 0) = false := by simp; omega
        go_wp2_with fail
        refine (specRightsValid_any A n c rs _ rd3).mono ?_
        rintro e w5 ⟨rfl, rfl⟩
        go_wp2_with fail
        refine (alive_any _).mono ?_
        rintro e w5 ⟨rfl, b5⟩
        go_wp2_with fail
        go_ret
        exact ⟨rfl, below_step b13 b5⟩
    obtain ⟨hz0, hz1⟩ := inB_true.1 hj
    have hdn' : decide (hh < 0) = false := by simp; omega
    have hdm' : decide (23 < hh) = false := by simp; omega
    have HM := Lib.hid (may_cases (op := op) hv hi hj)
    have HV := Lib.hid hv
    clear hi hj
    rcases Nat.eq_zero_or_pos n with h0 | h0
    · subst h0
      rcases HM.out with ⟨m1, m2, m3, m4, m5⟩ | ⟨m1, m2, m3, m4, m5⟩ | ⟨m1, m2, m3, m4, m5⟩ | ⟨m1, m2, m3, m4, m5⟩ | ⟨m1, m2, m3, m4, m5⟩
      all_goals
        go_wp2_with fail
        refine (specRightsValid_any A 0 c rs _ rd3).mono ?_
        rintro e w5 ⟨rfl, rfl⟩
        go_wp2_with fail
        refine (implMayCall_any A 0 c rs none 0 0 [] fl hh _ rd3 Rd.nil_).mono ?_
        rintro e w6 ⟨rfl, b6⟩
        go_wp2_with fail
        refine (implMayCall_any none 0 0 [] B m d op fl hh _ RdR.nil_ (ro3.below b6)).mono ?_
        rintro e w7 ⟨rfl, b7⟩
        go_wp2_with fail
        refine (hasInt_any B m d op fl _ ((ro3.below b6).below b7)).mono ?_
        rintro e w8 ⟨rfl, rfl⟩
        go_wp2_with fail
        (first
          | ((with_reducible refine (hasInt_any B m d op fl _ ((ro3.below b6).below b7)).mono ?_); rintro e w8 ⟨rfl, rfl⟩; go_wp2_with fail; go_ret; exact ⟨rfl, below_step (below_step b13 b6) b7⟩)
          | (go_ret; exact ⟨rfl, below_step (below_step b13 b6) b7⟩))
    · by_cases hc1 : c = 1
      · subst hc1
        obtain rfl : n = 1 := by omega
        have rdc : RdR w3 A 0 (restR rs) := by have := rd3.len; unfold restR; rw [List.drop_of_length_le (by omega)]; exact RdR.nil_
        rcases HM.out with ⟨m1, m2, m3, m4, m5⟩ | ⟨m1, m2, m3, m4, m5⟩ | ⟨m1, m2, m3, m4, m5⟩ | ⟨m1, m2, m3, m4, m5⟩ | ⟨m1, m2, m3, m4, m5⟩
        all_goals
          go_wp2_with fail
          refine (specRightsValid_any A 1 1 rs _ rd3).mono ?_
          rintro e w5 ⟨rfl, rfl⟩
          go_wp2_with fail
          refine (implMayCall_any A 0 0 (restR rs) B m d op fl hh _ rdc ro3).mono ?_
          rintro e w5 ⟨rfl, b5⟩
          go_wp2_with fail
          refine (implMayCall_any A 1 1 rs none 0 0 [] fl hh _ (rd3.below b5) Rd.nil_).mono ?_
          rintro e w6 ⟨rfl, b6⟩
          go_wp2_with fail
          refine (implMayCall_any none 0 0 [] B m d op fl hh _ RdR.nil_ ((ro3.below b5).below b6)).mono ?_
          rintro e w7 ⟨rfl, b7⟩
          go_wp2_with fail
          refine (hasInt_any B m d op fl _ (((ro3.below b5).below b6).below b7)).mono ?_
          rintro e w8 ⟨rfl, rfl⟩
          go_wp2_with fail
          (first
            | ((with_reducible refine (hasInt_any B m d op fl _ (((ro3.below b5).below b6).below b7)).mono ?_); rintro e w8 ⟨rfl, rfl⟩; go_wp2_with fail; go_ret; exact ⟨rfl, below_step (below_step (below_step b13 b5) b6) b7⟩)
            | (go_ret; exact ⟨rfl, below_step (below_step (below_step b13 b5) b6) b7⟩))
      · have rdc := rd3.cut h0
        rcases HM.out with ⟨m1, m2, m3, m4, m5⟩ | ⟨m1, m2, m3, m4, m5⟩ | ⟨m1, m2, m3, m4, m5⟩ | ⟨m1, m2, m3, m4, m5⟩ | ⟨m1, m2, m3, m4, m5⟩
        all_goals
          go_wp2_with fail
          refine (specRightsValid_any A n c rs _ rd3).mono ?_
          rintro e w5 ⟨rfl, rfl⟩
          go_wp2_with fail
          refine (implMayCall_any _ _ _ (restR rs) B m d op fl hh _ rdc ro3).mono ?_
          rintro e w5 ⟨rfl, b5⟩
          go_wp2_with fail
          refine (implMayCall_any A n c rs none 0 0 [] fl hh _ (rd3.below b5) Rd.nil_).mono ?_
          rintro e w6 ⟨rfl, b6⟩
          go_wp2_with fail
          refine (implMayCall_any none 0 0 [] B m d op fl hh _ RdR.nil_ ((ro3.below b5).below b6)).mono ?_
          rintro e w7 ⟨rfl, b7⟩
          go_wp2_with fail
          refine (hasInt_any B m d op fl _ (((ro3.below b5).below b6).below b7)).mono ?_
          rintro e w8 ⟨rfl, rfl⟩
          go_wp2_with fail
          (first
            | ((with_reducible refine (hasInt_any B m d op fl _ (((ro3.below b5).below b6).below b7)).mono ?_); rintro e w8 ⟨rfl, rfl⟩; go_wp2_with fail; go_ret; exact ⟨rfl, below_step (below_step (below_step b13 b5) b6) b7⟩)
            | (go_ret; exact ⟨rfl, below_step (below_step (below_step b13 b5) b6) b7⟩))
end Go.Proofs.Ytkelamkbkkcpjaa

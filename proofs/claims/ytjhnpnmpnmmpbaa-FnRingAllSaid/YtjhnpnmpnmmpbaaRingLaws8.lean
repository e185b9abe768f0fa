/-
  The walk of the law FnRingAll.
-/
import Derived.Test.YtjhnpnmpnmmpbaaRingLaws5
import Derived.Test.YtjhnpnmpnmmpbaaRingAll
namespace Go.Proofs.Ytjhnpnmpnmmpbaa
open Go.RowKit
attribute [local go_sem ↓] Go.wp_at_zero Go.wp_at_succ

/-- what stands behind RingAll -/
structure QSt (w W : World) (B4 : Nat) (f : Int) (A4 : Option Addr) (n4 c4 : Nat) (ys : List Int) (A : Option Addr) (n : Nat) (es : List Int) : Prop where
  hx : Bx W B4 27 f A4 n4 c4
  r4 : Rd W A4 n4 ys
  re : Rd W A n es
  bel : Below w.heap.size w W
section
variable {w W W' : World} {B4 : Nat} {f : Int} {A A4 : Option Addr} {n n4 c4 : Nat} {es ys : List Int}
theorem QSt.below (h : QSt w W B4 f A4 n4 c4 ys A n es) (hb : Below W.heap.size W W') : QSt w W' B4 f A4 n4 c4 ys A n es :=
  ⟨h.hx.below hb, h.r4.below hb, h.re.below hb, below_step h.bel hb⟩
theorem QSt.drew (h : QSt w W B4 f A4 n4 c4 ys A n es) : QSt w W.drew B4 f A4 n4 c4 ys A n es := ⟨h.hx.drew, h.r4.drew, h.re.drew, below_drew_ h.bel⟩
theorem QSt.drewN (h : QSt w W B4 f A4 n4 c4 ys A n es) (q : Nat) : QSt w (W.drewN q) B4 f A4 n4 c4 ys A n es := ⟨h.hx.drewN q, h.r4.drewN q, h.re.drewN q, below_drewN_ h.bel q⟩
theorem QSt.cells (h : QSt w W B4 f A4 n4 c4 ys A n es) : W.cell? ⟨B4, 0, none⟩ = some (.int .i64 f) ∧ W.cell? ⟨B4, 1, none⟩ = some (.slice A4 n4 c4) := ⟨h.hx.c0, h.hx.c1⟩
end

set_option maxHeartbeats 6400000 in
set_option maxRecDepth 100000 in
theorem walk_FnRingAll (a0 : Option Addr) (len0 cap0 : Nat) (z0 : List Int) (w : World) (w0 : IsRow .u8 w a0 len0 cap0 z0) :
    Calls Try.prog 11 #[.slice a0 len0 cap0] w fun e w' => e = .returned (.bool true) ∧ Below w.heap.size w w' := by
  by_cases hlen : 1048576 < len0
  · go_enter Try.func11, Try.ntmps11
    go_wp2
    go_ret
    exact ⟨rfl, Below.refl _ _⟩
  · go_enter Try.func11, Try.ntmps11
    go_wp2_with fail
    refine (DrawRingAll_any a0 len0 cap0 z0 _ w0).mono ?_
    rintro e w1 ⟨A, n, c, es, rfl, hnc, hn16, rd1, b1⟩
    have HL := Lib.hid rd1.len
    have HAG := Lib.hid (all_good es n (by rw [rd1.len]; exact Nat.le_refl _) (by omega))
    have HAV := Lib.hid (allTo_valid es n)
    go_wp2_with fail
    refine (implRingAll_any A n c es _ rd1).mono ?_
    rintro e w2 ⟨A4, n4, c4, rfl, hnc4, r2, b2⟩
    rw [HL.out] at r2 ⊢
    generalize hgf : (allTo es n).1 = f at *
    generalize hgl : (allTo es n).2 = ys at *
    have HG := Lib.hid (And.intro hgf hgl)
    clear hgf hgl
    have st3 : QSt w (w2.alloc (ringBox f A4 n4 c4)) w2.heap.size f A4 n4 c4 ys A n es :=
      ⟨Bx.new w2 _ f A4 n4 c4, r2.rd.alloc _, (rd1.below b2).alloc _, (below_step b1 b2).alloc (below_step b1 b2).size _⟩
    clear rd1 b1 r2 b2
    have hse : sameB ys ys = true := sameB_refl ys
    go_upto_region 5 with fail
    generalize w2.heap.size = B4 at *
    generalize w2.alloc (ringBox f A4 n4 c4) = wa at *
    obtain ⟨hc0, hc1⟩ := st3.cells
    go_region_held3 (fun w' => w'.cell? ⟨B4, 0, none⟩ = some (.int .i64 f) ∧ w'.cell? ⟨B4, 1, none⟩ = some (.slice A4 n4 c4))
      ((refine QSt.cells (w := w) (ys := ys) (A := A) (n := n) (es := es) ?_; (repeat (first | with_reducible exact st5 | with_reducible exact st4 | with_reducible exact st3 | with_reducible refine QSt.drew ?_))))
      ((first
        | (go_at_call 26
           refine (specRingAll_any A n c es _ (by (repeat (first | with_reducible exact st3.re | with_reducible refine Rd.drew ?_)))).mono ?_
           rintro e w4 ⟨A7, n7, c7, rfl, _, r7, b4⟩
           rw [HL.out] at r7 ⊢
           rw [HG.out.1]
           rw [HG.out.2] at r7
           have st4 : QSt w w4 B4 f A4 n4 c4 ys A n es := QSt.below (by (repeat (first | with_reducible exact st3 | with_reducible refine QSt.drew ?_))) b4)
        | (go_at_call 38
           refine (sameRing_any f f A4 A7 n4 n7 c4 c7 ys ys _ (by (repeat (first | with_reducible exact st4.r4 | with_reducible refine Rd.drew ?_))) (by (repeat (first | with_reducible exact r7.rd | with_reducible refine Rd.drew ?_)))).mono ?_
           rintro e w5 ⟨rfl, b5⟩
           rw [sameR_true]
           have st5 : QSt w w5 B4 f A4 n4 c4 ys A n es := QSt.below (by (repeat (first | with_reducible exact st4 | with_reducible refine QSt.drew ?_))) b5)))
    clear hc0 hc1 st3 st4 b4 b5 r7
    have ho5 := Own.made w5 w5.heap.size (Nat.le_refl _)
    have b55 := below_new w5 (.cells #[] 3)
    go_wp2_with fail
    go_loopw [5, 6] (fun v i wr => ∃ (k m c' : Nat) (A' : Option Addr), i = .int .i64 k ∧ k ≤ n ∧ m ≤ k ∧ v = .slice A' m c' ∧ Own wr w5.heap.size A' m c' (goodTo es k) ∧ Below w5.heap.size w5 wr) (fun _ i _ => n - (intOf i).toNat)
    case atStart => exact ⟨0, 0, 0, _, rfl, Nat.zero_le _, Nat.le_refl _, rfl, ho5, b55⟩
    case round =>
      obtain ⟨k, m, c', A', rfl, hk, hmk, rfl, ho, hb⟩ := hrel
      clear ho5 b55
      have hs5 := hb.size
      by_cases hlt : k < n
      · obtain ⟨g, off, rfl, hg, hcell⟩ := (st5.re.below hb).at_ hlt
        by_cases h0 : 0 ≤ nth es k ∧ nth es k ≤ 99
        · have HGY := Lib.hid (goodTo_yes es k (by rw [HL.out]; exact hlt) h0)
          obtain ⟨h01, h02⟩ := h0
          generalize nth es k = y at *
          have d1 : decide (0 ≤ y) = true := by simp; omega
          have d2 : decide (y ≤ 99) = true := by simp; omega
          go_wp2_with (at_builtin; refine wpList_append_int _ rfl (.tmp 39) (.tmp 44) rfl w5.heap.size A' m c' (goodTo es k) rfl (ho.alloc _) wr.heap.size _ rfl (cell_one _ _ rfl _ _) (by omega) (size_one _ _ hs5 _) ?_; intro g1 cap w6 ho6 hgrow6 hbel6 hlt6)
          have hb6 : Below w5.heap.size w5 w6 := (hb.alloc hs5 _).trans (hbel6 _ (Nat.le_refl _))
          rw [← HGY.out] at ho6
          clear hgrow6 hbel6
          go_wp2
          go_roundw
          case rel => exact ⟨k + 1, m + 1, cap, _, by go_num, by omega, by omega, rfl, ho6, hb6⟩
          case measure => simp [intOf]; omega
        · have HGN := Lib.hid (goodTo_no es k (by rw [HL.out]; exact hlt) h0)
          rw [← HGN.out] at ho
          by_cases h01 : 0 ≤ nth es k
          · have h02 : ¬ nth es k ≤ 99 := fun h => h0 ⟨h01, h⟩
            generalize nth es k = y at *
            have d1 : decide (0 ≤ y) = true := by simp; omega
            have d2 : decide (y ≤ 99) = false := by simp; omega
            clear h0 h01 h02
            go_wp2_with fail
            go_roundw
            case rel => exact ⟨k + 1, m, c', A', by go_num, by omega, by omega, rfl, ho, hb⟩
            case measure => simp [intOf]; omega
          · generalize nth es k = y at *
            have d1 : decide (0 ≤ y) = false := by simp; omega
            clear h0 h01
            go_wp2_with fail
            go_roundw
            case rel => exact ⟨k + 1, m, c', A', by go_num, by omega, by omega, rfl, ho, hb⟩
            case measure => simp [intOf]; omega
      · obtain rfl : k = n := by omega
        clear hlt
        have st6 := st5.below hb
        have hcap := ho.2
        have hml := ho.len
        have rg := ho.rd (by omega)
        obtain ⟨e1, e2⟩ := HAG.out
        have HV := Lib.hid HAV.out
        have hA1 : 0 < c' → ∃ g, A' = some ⟨g, 0, none⟩ := fun h0 => by
          rcases ho.1.2 with ⟨e, _⟩ | ⟨g, cap, cur, e, _⟩
          · injection e with _ _ e3
            omega
          · injection e with e1 _ _
            exact ⟨g, e1⟩
        have hA1 : 0 < c' → ∃ g, A' = some ⟨g, 0, none⟩ := fun h0 => by
          rcases ho.1.2 with ⟨e, _⟩ | ⟨g, cap, cur, e, _⟩
          · injection e with _ _ e3
            omega
          · injection e with e1 _ _
            exact ⟨g, e1⟩
        clear st5 hb ho
        generalize goodTo es k = G at *
        have hcase : (m < 6 ∧ c' = 0) ∨ (m < 6 ∧ 0 < c') ∨ m = 6 ∨ ∃ d, m = d + 6 ∧ 1 ≤ d := by
          rcases Nat.lt_or_ge m 6 with h | h
          · rcases Nat.eq_zero_or_pos c' with h' | h'
            · exact .inl ⟨h, h'⟩
            · exact .inr (.inl ⟨h, h'⟩)
          · rcases Nat.eq_or_lt_of_le h with h | h
            · exact .inr (.inr (.inl h.symm))
            · exact .inr (.inr (.inr ⟨m - 6, by omega, by omega⟩))
        rcases hcase with ⟨h6, h0⟩ | ⟨h6, h0⟩ | h6 | ⟨d, h6, hd1⟩
        · subst h0
          obtain rfl : m = 0 := by omega
          have hl0 : lost6 G = 0 := by unfold lost6; omega
          rw [hl0] at e1 e2
          obtain rfl : f = 0 := e1
          obtain rfl : ys = G := by rw [e2]; rfl
          clear e2 hl0 h6 hA1 HAG HAV HG
          obtain ⟨hc0, hc1⟩ := st6.cells
          go_wp2_with fail
          go_region_held3 (fun w' => w'.cell? ⟨B4, 0, none⟩ = some (.int .i64 (0)) ∧ w'.cell? ⟨B4, 1, none⟩ = some (.slice A4 n4 c4))
            ((refine QSt.cells (w := w) (ys := ys) (A := A) (n := k) (es := es) ?_; (repeat (first | with_reducible exact st9 | with_reducible exact st8 | with_reducible exact st6 | with_reducible refine QSt.drew ?_ | with_reducible refine QSt.drewN ?_ _))))
            ((first
              | (go_at_call 35
                 refine (sameInts_any A4 _ n4 _ c4 _ (ys) (ys) _ (by (repeat (first | with_reducible exact st6.r4 | with_reducible refine Rd.drew ?_))) (by (repeat (first | with_reducible exact rg | with_reducible refine Rd.drew ?_)))).mono ?_
                 rintro e w7 ⟨rfl, q7, rfl⟩
                 rw [sameB_refl])
              | (go_at_call 16
                 refine (implRingValid_any (0) A4 n4 c4 (ys) _ (by (repeat (first | with_reducible exact st6.r4 | with_reducible refine Rd.drew ?_ | with_reducible refine Rd.drewN ?_ _)))).mono ?_
                 rintro e w8 ⟨rfl, b8⟩
                 rw [HV.out]
                 have st8 : QSt w w8 B4 (0) A4 n4 c4 (ys) A k es := QSt.below (by (repeat (first | with_reducible exact st6 | with_reducible refine QSt.drew ?_ | with_reducible refine QSt.drewN ?_ _))) b8)
              | (go_at_call 33
                 refine (alive_any _).mono ?_
                 rintro e w9 ⟨rfl, b9⟩
                 have st9 : QSt w w9 B4 (0) A4 n4 c4 (ys) A k es := QSt.below (by (repeat (first | with_reducible exact st8 | with_reducible refine QSt.drew ?_))) b9)))
          all_goals
            have hbel := st9.bel
            clear st6 st8 st9 hc0 hc1
            go_wp2_with fail
            go_ret
            exact ⟨rfl, hbel⟩
        · obtain ⟨g, rfl⟩ := hA1 h0
          have hl0 : lost6 G = 0 := by unfold lost6; omega
          rw [hl0] at e1 e2
          obtain rfl : f = 0 := e1
          obtain rfl : ys = G := by rw [e2]; rfl
          clear e2 hl0 hA1 HAG HAV HG
          have hcn : ¬ c' = 0 := by omega
          have hlt6 : (m : Int) - 6 < 0 := by omega
          have i1 : (0 : Int) ≤ (m : Int) := by omega
          have i2 : (m : Int) ≤ (c' : Int) := by omega
          obtain ⟨hc0, hc1⟩ := st6.cells
          go_wp2_with fail
          go_region_held3 (fun w' => w'.cell? ⟨B4, 0, none⟩ = some (.int .i64 (0)) ∧ w'.cell? ⟨B4, 1, none⟩ = some (.slice A4 n4 c4))
            ((refine QSt.cells (w := w) (ys := ys) (A := A) (n := k) (es := es) ?_; (repeat (first | with_reducible exact st9 | with_reducible exact st8 | with_reducible exact st6 | with_reducible refine QSt.drew ?_ | with_reducible refine QSt.drewN ?_ _))))
            ((first
              | (go_at_call 35
                 refine (sameInts_any A4 _ n4 _ c4 _ (ys) (ys) _ (by (repeat (first | with_reducible exact st6.r4 | with_reducible refine Rd.drew ?_))) (by (repeat (first | with_reducible exact rg | with_reducible refine Rd.drew ?_)))).mono ?_
                 rintro e w7 ⟨rfl, q7, rfl⟩
                 rw [sameB_refl])
              | (go_at_call 16
                 refine (implRingValid_any (0) A4 n4 c4 (ys) _ (by (repeat (first | with_reducible exact st6.r4 | with_reducible refine Rd.drew ?_ | with_reducible refine Rd.drewN ?_ _)))).mono ?_
                 rintro e w8 ⟨rfl, b8⟩
                 rw [HV.out]
                 have st8 : QSt w w8 B4 (0) A4 n4 c4 (ys) A k es := QSt.below (by (repeat (first | with_reducible exact st6 | with_reducible refine QSt.drew ?_ | with_reducible refine QSt.drewN ?_ _))) b8)
              | (go_at_call 33
                 refine (alive_any _).mono ?_
                 rintro e w9 ⟨rfl, b9⟩
                 have st9 : QSt w w9 B4 (0) A4 n4 c4 (ys) A k es := QSt.below (by (repeat (first | with_reducible exact st8 | with_reducible refine QSt.drew ?_))) b9)))
          all_goals
            have hbel := st9.bel
            clear st6 st8 st9 hc0 hc1
            go_wp2_with fail
            go_ret
            exact ⟨rfl, hbel⟩
        · subst h6
          obtain ⟨g, rfl⟩ := hA1 (by omega)
          have hl0 : lost6 G = 0 := by unfold lost6; omega
          rw [hl0] at e1 e2
          obtain rfl : f = 0 := e1
          obtain rfl : ys = G := by rw [e2]; rfl
          clear e2 hl0 hA1 HAG HAV HG
          have hcn : ¬ c' = 0 := by omega
          have i2 : (6 : Int) ≤ (c' : Int) := by omega
          obtain ⟨hc0, hc1⟩ := st6.cells
          go_wp2_with fail
          go_region_held3 (fun w' => w'.cell? ⟨B4, 0, none⟩ = some (.int .i64 (0)) ∧ w'.cell? ⟨B4, 1, none⟩ = some (.slice A4 n4 c4))
            ((refine QSt.cells (w := w) (ys := ys) (A := A) (n := k) (es := es) ?_; (repeat (first | with_reducible exact st9 | with_reducible exact st8 | with_reducible exact st6 | with_reducible refine QSt.drew ?_ | with_reducible refine QSt.drewN ?_ _))))
            ((first
              | (go_at_call 35
                 refine (sameInts_any A4 _ n4 _ c4 _ (ys) (ys) _ (by (repeat (first | with_reducible exact st6.r4 | with_reducible refine Rd.drew ?_))) (by (repeat (first | with_reducible exact rg | with_reducible refine Rd.drew ?_)))).mono ?_
                 rintro e w7 ⟨rfl, q7, rfl⟩
                 rw [sameB_refl])
              | (go_at_call 16
                 refine (implRingValid_any (0) A4 n4 c4 (ys) _ (by (repeat (first | with_reducible exact st6.r4 | with_reducible refine Rd.drew ?_ | with_reducible refine Rd.drewN ?_ _)))).mono ?_
                 rintro e w8 ⟨rfl, b8⟩
                 rw [HV.out]
                 have st8 : QSt w w8 B4 (0) A4 n4 c4 (ys) A k es := QSt.below (by (repeat (first | with_reducible exact st6 | with_reducible refine QSt.drew ?_ | with_reducible refine QSt.drewN ?_ _))) b8)
              | (go_at_call 33
                 refine (alive_any _).mono ?_
                 rintro e w9 ⟨rfl, b9⟩
                 have st9 : QSt w w9 B4 (0) A4 n4 c4 (ys) A k es := QSt.below (by (repeat (first | with_reducible exact st8 | with_reducible refine QSt.drew ?_))) b9)))
          all_goals
            have hbel := st9.bel
            clear st6 st8 st9 hc0 hc1
            go_wp2_with fail
            go_ret
            exact ⟨rfl, hbel⟩
        · subst h6
          obtain ⟨g, rfl⟩ := hA1 (by omega)
          have hl0 : lost6 G = d := by unfold lost6; omega
          rw [hl0] at e1 e2
          obtain rfl : f = (d : Int) := e1
          subst e2
          clear hl0 hA1 HAG HAV HG
          have hcn : ¬ c' = d := by omega
          have i1 : (0 : Int) ≤ (d : Int) := by omega
          have i2 : (d : Int) + 6 ≤ (c' : Int) := by omega
          have i3 : (d : Int) ≤ (d : Int) + 6 := by omega
          have hgt : ¬ (d : Int) < 0 := by omega
          replace rg := rg.drop (k := d) (by omega)
          rw [Nat.zero_add, Nat.add_sub_cancel_left] at rg
          have i4 : d ≤ d + 6 := by omega
          have i5 : d ≤ c' := by omega
          obtain ⟨hc0, hc1⟩ := st6.cells
          go_wp2_with fail
          go_region_held3 (fun w' => w'.cell? ⟨B4, 0, none⟩ = some (.int .i64 ((d : Int))) ∧ w'.cell? ⟨B4, 1, none⟩ = some (.slice A4 n4 c4))
            ((refine QSt.cells (w := w) (ys := G.drop d) (A := A) (n := k) (es := es) ?_; (repeat (first | with_reducible exact st9 | with_reducible exact st8 | with_reducible exact st6 | with_reducible refine QSt.drew ?_ | with_reducible refine QSt.drewN ?_ _))))
            ((first
              | (go_at_call 35
                 refine (sameInts_any A4 _ n4 _ c4 _ (G.drop d) (G.drop d) _ (by (repeat (first | with_reducible exact st6.r4 | with_reducible refine Rd.drew ?_))) (by (repeat (first | with_reducible exact rg | with_reducible refine Rd.drew ?_)))).mono ?_
                 rintro e w7 ⟨rfl, q7, rfl⟩
                 rw [sameB_refl])
              | (go_at_call 16
                 refine (implRingValid_any ((d : Int)) A4 n4 c4 (G.drop d) _ (by (repeat (first | with_reducible exact st6.r4 | with_reducible refine Rd.drew ?_ | with_reducible refine Rd.drewN ?_ _)))).mono ?_
                 rintro e w8 ⟨rfl, b8⟩
                 rw [HV.out]
                 have st8 : QSt w w8 B4 ((d : Int)) A4 n4 c4 (G.drop d) A k es := QSt.below (by (repeat (first | with_reducible exact st6 | with_reducible refine QSt.drew ?_ | with_reducible refine QSt.drewN ?_ _))) b8)
              | (go_at_call 33
                 refine (alive_any _).mono ?_
                 rintro e w9 ⟨rfl, b9⟩
                 have st9 : QSt w w9 B4 ((d : Int)) A4 n4 c4 (G.drop d) A k es := QSt.below (by (repeat (first | with_reducible exact st8 | with_reducible refine QSt.drew ?_))) b9)))
          all_goals
            have hbel := st9.bel
            clear st6 st8 st9 hc0 hc1
            go_wp2_with fail
            go_ret
            exact ⟨rfl, hbel⟩
end Go.Proofs.Ytjhnpnmpnmmpbaa

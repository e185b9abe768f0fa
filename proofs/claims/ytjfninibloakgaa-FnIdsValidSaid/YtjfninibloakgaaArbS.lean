/-
  Arbitrate of the reference; the walk of the law FnExactArbitrate.
-/
import Derived.Test.YtjfninibloakgaaArb
namespace Go.Proofs.Ytjfninibloakgaa
open Go.RowKit

theorem below_made (w : World) : Below w.heap.size w (w.alloc (.cells #[] 3)) := (Below.refl _ _).alloc (Nat.le_refl _) _

set_option maxHeartbeats 1600000 in
set_option maxRecDepth 100000 in
theorem specArbitrate_in (A : Option Addr) (n c : Nat) (ids : List Int) (w : World) (h : Rd w A n ids) (hnc : n ≤ c) (hv : idsB ids = true) :
    Calls Try.prog 17 #[.slice A n c] w (Arbed ids w) := by
  have HL := Lib.hid h.len
  have h6 : n ≤ 6 := by rw [← HL.out]; exact (idsB_true.1 hv).1
  have HW := Lib.hid (idsB_true.1 hv).2.1
  have HE := Lib.hid (arb_yes hv)
  have hbm := below_made w
  have hom := Own.made w w.heap.size (Nat.le_refl _)
  go_enter Try.func17, Try.ntmps17
  go_wp2_with fail
  refine (specIdsValid_any A n c ids _ (h.alloc _) hnc).mono ?_
  rintro e w' ⟨rfl, q, rfl⟩
  go_wp2_with fail
  have HV := Lib.hid hv
  clear hv
  go_loopw [3, 4] (fun v i wr => ∃ (k c' : Nat) (A' : Option Addr), k ≤ n ∧ i = .int .i64 k ∧ v = .slice A' k c' ∧ Own wr w.heap.size A' k c' (nodes0 k) ∧ Below w.heap.size w wr) (fun _ i _ => n - (intOf i).toNat)
  case atStart => exact ⟨0, 0, _, by omega, rfl, rfl, hom.drewN q, below_drewN_ hbm q⟩
  case round =>
    obtain ⟨k, c', A', hk, rfl, rfl, hown, hb⟩ := hrel
    clear hbm hom
    by_cases hlt : k < n
    · have hbs := hb.size
      go_wp2_with (at_builtin; refine wpList_append_int _ rfl (.tmp 21) (.tmp 23) rfl w.heap.size A' k c' (nodes0 k) rfl (hown.alloc _) wr.heap.size (k : Int) rfl (cell_one _ _ rfl _ _) (by omega) (size_one _ _ hbs _) ?_; intro g cap w1 hown1 hgrow1 hbel1 hlt1)
      have hb1 : Below w.heap.size w w1 := (hb.alloc hbs _).trans (hbel1 _ (Nat.le_refl _))
      rw [← nodes0_succ] at hown1
      clear hgrow1 hbel1
      go_wp2
      go_roundw
      case rel => exact ⟨k + 1, cap, _, by omega, by go_num, rfl, hown1, hb1⟩
      case measure => simp [intOf]; omega
    · obtain rfl : k = n := by omega
      have hrd := hown.rd (by omega)
      clear hown
      obtain ⟨wa, rfl⟩ : ∃ wa : World, wa = wr := ⟨_, rfl⟩
      go_wp2_with fail
      go_loopw [3, 5] (fun v i wr => ∃ (b m c'' : Nat) (A'' : Option Addr), b ≤ 7 ∧ i = .int .i64 ((b : Int) - 1) ∧ v = .slice A'' m c'' ∧ m ≤ k ∧ Rd wr A'' m (arbDown ids (7 - b)) ∧ Below w.heap.size w wr) (fun _ i _ => (intOf i + 1).toNat)
      case atStart => exact ⟨7, k, c', A', by omega, rfl, rfl, by omega, by have := HL.out; rw [← this] at hrd ⊢; exact hrd, hb⟩
      case round =>
        obtain ⟨b, m, c'', A'', hb7, rfl, rfl, hmk, hrd2, hb2⟩ := hrel
        clear hrd hb
        rcases Nat.eq_zero_or_pos b with hb0 | hb0
        · subst hb0
          rcases Nat.eq_zero_or_pos m with hm0 | hm0
          · subst hm0
            have HF : Hid (arb ids = -1) := by
              show _ = _
              have he : arbDown ids 7 = [] := List.eq_nil_of_length_eq_zero hrd2.len
              rw [HE.out, he]; rfl
            go_wp2
            go_ret
            exact ⟨ret_int HF.out.symm, hb2⟩
          · have hmne : ((m : Int) == 0) = false := by simp; omega
            have hne : 0 < (arbDown ids 7).length := by have := hrd2.len; rw [this]; exact hm0
            obtain ⟨g, off, rfl, hg, hcell⟩ := hrd2.at_ hm0
            have HF : Hid (arb ids = nth (arbDown ids 7) 0) := by
              show _ = _
              rw [HE.out, headD_nth _ hne]
            have hc0 : wr.cell? ⟨g, off, none⟩ = some (.int .i64 (nth (arbDown ids 7) 0)) := hcell
            clear HE hcell hrd2 hne
            generalize nth (arbDown ids 7) 0 = z at *
            go_wp2
            go_ret
            exact ⟨ret_int HF.out.symm, hb2⟩
        · obtain ⟨d, rfl⟩ : ∃ d, b = d + 1 := ⟨b - 1, by omega⟩
          have e1 : ((d + 1 : Nat) : Int) - 1 = (d : Int) := by omega
          rw [e1]
          clear e1 hb0
          have hd7 : d < 7 := by omega
          have HN : Hid (arbDown ids (7 - d) = arbStep ids d (arbDown ids (7 - (d + 1)))) := by
            show _ = _
            rw [show 7 - d = (7 - (d + 1)) + 1 by omega, arbDown]
            congr 1
            omega
          have HM := Lib.hid (fun (k : Nat) (hk : k < (arbDown ids (7 - (d + 1))).length) => arbDown_nth hk)
          generalize arbDown ids (7 - (d + 1)) = nodes at hrd2 HN HM
          have HNL := Lib.hid hrd2.len
          obtain ⟨wb, rfl⟩ : ∃ wb : World, wb = wr := ⟨_, rfl⟩
          have hbs2 := hb2.size
          have hbm := below_made wb
          have hom := Own.made wb wb.heap.size (Nat.le_refl _)
          go_wp2_with fail
          go_loopw [6, 7] (fun v i wr => ∃ (j c1 : Nat) (A1 : Option Addr), j ≤ m ∧ i = .int .i64 j ∧ v = .slice A1 j c1 ∧ Own wr wb.heap.size A1 j c1 (bitsTo ids d nodes j) ∧ Below wb.heap.size wb wr) (fun _ i _ => m - (intOf i).toNat)
          case atStart => exact ⟨0, 0, _, by omega, rfl, rfl, hom, hbm⟩
          case round =>
            obtain ⟨j, c1, A1, hj, rfl, rfl, hown1, hb3⟩ := hrel
            clear hbm hom
            have hbs3 := hb3.size
            by_cases hjl : j < m
            · obtain ⟨g, off, rfl, hg, hcell⟩ := (hrd2.below hb3).at_ hjl
              obtain ⟨x, hx, hxl⟩ := HM.out j (by rw [HNL.out]; exact hjl)
              have hxn : x < k := by rw [← HL.out]; exact hxl
              obtain ⟨g', off', rfl, hg', hcell'⟩ := ((h.below hb2).below hb3).at_ hxn
              have hy := withinB_nth HW.out x hxl
              have HS := Lib.hid (bitsTo_succ (ids := ids) (b := d) (by rw [HNL.out]; exact hjl) hx)
              have HA := Lib.hid (mod_bit (nth ids x) d hy.1 hy.2 hd7)
              rw [hx] at hcell
              generalize nth ids x = y at *
              obtain ⟨hy0, hy1⟩ := hy
              clear hx hxl
              go_wp2_with (at_builtin; refine wpList_append_int _ rfl (.tmp 36) (.tmp 47) rfl wb.heap.size A1 j c1 (bitsTo ids d nodes j) rfl (hown1.alloc _) wr.heap.size _ rfl (cell_one _ _ rfl _ _) (by omega) (size_one _ _ hbs3 _) ?_; intro g1 cap w1 hown2 hgrow1 hbel1 hlt1)
              have hb4 : Below wb.heap.size wb w1 := (hb3.alloc hbs3 _).trans (hbel1 _ (Nat.le_refl _))
              rw [HA.out, ← HS.out] at hown2
              clear hgrow1 hbel1
              go_wp2
              go_roundw
              case rel => exact ⟨j + 1, cap, _, by omega, by go_num, rfl, hown2, hb4⟩
              case measure => simp [intOf]; omega
            · obtain rfl : j = m := by omega
              have hsent := hown1.rd (by omega)
              have hall : bitsTo ids d nodes j = bitsOf ids d nodes := by rw [← bitsTo_all, HNL.out]
              rw [hall] at hsent
              clear hown1 hall
              have hrd3 := hrd2.below hb3
              have hb5 : Below w.heap.size w wr := below_next hb2 hbs2 hb3
              obtain ⟨wc, rfl⟩ : ∃ wc : World, wc = wr := ⟨_, rfl⟩
              have hbs5 := hb5.size
              have hbm := below_made wc
              have hom := Own.made wc wc.heap.size (Nat.le_refl _)
              go_wp2_with fail
              refine (specWireBit_any A1 j c1 _ _ hsent).mono ?_
              rintro e w' ⟨rfl, rfl⟩
              go_wp2_with fail
              go_loopw [9, 10] (fun v i wr => ∃ (t m2 c2 : Nat) (A2 : Option Addr), t ≤ j ∧ i = .int .i64 t ∧ v = .slice A2 m2 c2 ∧ m2 ≤ t ∧ Own wr wc.heap.size A2 m2 c2 (leftTo ids d nodes t) ∧ Below wc.heap.size wc wr) (fun _ i _ => j - (intOf i).toNat)
              case atStart => exact ⟨0, 0, 0, _, by omega, rfl, rfl, by omega, hom, hbm⟩
              case round =>
                obtain ⟨t, m2, c2, A2, ht, rfl, rfl, hm2, hown3, hb6⟩ := hrel
                clear hbm hom
                have hbs6 := hb6.size
                by_cases htl : t < j
                · obtain ⟨g, off, rfl, hg, hcell⟩ := (hrd3.below hb6).at_ htl
                  obtain ⟨g', off', rfl, hg', hcell'⟩ := (hsent.below hb6).at_ htl
                  obtain ⟨x, hx, hxl⟩ := HM.out t (by rw [HNL.out]; exact htl)
                  rw [hx] at hcell
                  rw [bitsOf_nth (by rw [HNL.out]; exact htl) hx] at hcell'
                  have htn : t < nodes.length := by rw [HNL.out]; exact htl
                  cases hw : (bitAt (nth ids x) d == wireZ (bitsOf ids d nodes))
                  · have HS := Lib.hid (leftTo_no htn hx hw)
                    clear hx htn
                    go_wp2
                    go_roundw
                    case rel => exact ⟨t + 1, m2, c2, A2, by omega, by go_num, rfl, by omega, by rw [HS.out]; exact hown3, hb6⟩
                    case measure => simp [intOf]; omega
                  · have HS := Lib.hid (leftTo_yes htn hx hw)
                    clear hx htn
                    go_wp2_with (at_builtin; refine wpList_append_int _ rfl (.tmp 64) (.tmp 69) rfl wc.heap.size A2 m2 c2 (leftTo ids d nodes t) rfl (hown3.alloc _) wr.heap.size (x : Int) rfl (cell_one _ _ rfl _ _) (by omega) (size_one _ _ hbs6 _) ?_; intro g1 cap w1 hown4 hgrow1 hbel1 hlt1)
                    have hb7' : Below wc.heap.size wc w1 := (hb6.alloc hbs6 _).trans (hbel1 _ (Nat.le_refl _))
                    rw [← HS.out] at hown4
                    clear hgrow1 hbel1
                    go_wp2
                    go_roundw
                    case rel => exact ⟨t + 1, m2 + 1, cap, _, by omega, by go_num, rfl, by omega, hown4, hb7'⟩
                    case measure => simp [intOf]; omega
                · obtain rfl : t = j := by omega
                  have hrd4 := hown3.rd (by omega)
                  have hall : leftTo ids d nodes t = arbDown ids (7 - d) := by rw [HN.out, ← leftTo_all, HNL.out]
                  rw [hall] at hrd4
                  clear hall hown3
                  go_wp2
                  go_roundw
                  case rel => exact ⟨d, m2, c2, A2, by omega, by go_num, rfl, by omega, hrd4, below_next hb5 hbs5 hb6⟩
                  case measure => simp [intOf]

theorem specArbitrate_any (A : Option Addr) (n c : Nat) (ids : List Int) (w : World) (h : Rd w A n ids) (hnc : n ≤ c) :
    Calls Try.prog 17 #[.slice A n c] w (Arbed ids w) := by
  cases hv : idsB ids
  · have HF := Lib.hid (arb_no hv)
    have hbm := below_made w
    go_enter Try.func17, Try.ntmps17
    go_wp2_with fail
    refine (specIdsValid_any A n c ids _ (h.alloc _) hnc).mono ?_
    rintro e w' ⟨rfl, q, rfl⟩
    go_wp2_with fail
    go_ret
    exact ⟨ret_int HF.out.symm, below_drewN_ hbm q⟩
  · exact specArbitrate_in A n c ids w h hnc hv

set_option maxHeartbeats 400000 in
theorem walk_FnExactArbitrate (a0 : Option Addr) (len0 cap0 : Nat) (z0 : List Int) (w : World) (w0 : IsRow .i64 w a0 len0 cap0 z0) :
    Calls Try.prog 5 #[.slice a0 len0 cap0] w fun e w' => e = .returned (.bool true) ∧ Below w.heap.size w w' := by
  by_cases hlen : 1048576 < len0
  · go_enter Try.func5, Try.ntmps5
    go_wp2
    go_ret
    exact ⟨rfl, Below.refl _ _⟩
  · have hr := w0.rd (by omega)
    generalize z0.take len0 = xs at hr
    have hs := sameB_refl xs
    have hb : (arb xs != arb xs) = false := by simp
    go_enter Try.func5, Try.ntmps5
    go_wp2_with fail
    refine (toIntS_any a0 len0 cap0 xs _ hr).mono ?_
    rintro e w1 ⟨rfl, r1, b1⟩
    go_wp2_with fail
    refine (specArbitrate_any _ _ _ xs _ r1.rd (Nat.le_refl _)).mono ?_
    rintro e w2 ⟨rfl, b2⟩
    have b1' := below_step b1 b2
    go_wp2_with fail
    refine (toIntS_any a0 len0 cap0 xs _ (hr.below b1')).mono ?_
    rintro e w3 ⟨rfl, r3, b3⟩
    go_wp2_with fail
    refine (implArbitrate_any _ _ _ xs _ r3.rd (Nat.le_refl _)).mono ?_
    rintro e w4 ⟨rfl, b4⟩
    have b14 := below_step (below_step b1' b3) b4
    go_wp2_with fail
    refine (toIntS_any a0 len0 cap0 xs _ (hr.below b14)).mono ?_
    rintro e w5 ⟨rfl, r5, b5⟩
    go_wp2_with fail
    refine (eqIntS_any _ _ _ _ _ _ xs xs _ ((r3.rd.below b4).below b5) r5.rd).mono ?_
    rintro e w6 ⟨rfl, q, rfl⟩
    go_wp2_with fail
    go_ret
    exact ⟨rfl, below_drewN_ (below_step b14 b5) q⟩
end Go.Proofs.Ytjfninibloakgaa

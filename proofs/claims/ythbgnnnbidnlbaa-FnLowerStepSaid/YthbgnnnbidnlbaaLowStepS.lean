/-
  LowerStep of the reference.
-/
import Derived.Test.YthbgnnnbidnlbaaLowStep
import Derived.Test.YthbgnnnbidnlbaaDraw
import Derived.Test.YthbgnnnbidnlbaaQuiet
namespace Go.Proofs.Ythbgnnnbidnlbaa
open Go.RowKit

theorem hasB_toZ (l : List Nat) (k : Nat) : hasB (toZ l) (k : Int) = hasN l k := by
  induction l with
  | nil => rfl
  | cons x t ih =>
    have e : hasB (toZ (x :: t)) (k : Int) = (((k : Int) == (x : Int)) || hasB (toZ t) (k : Int)) := rfl
    rw [e, ih, hasN]
    congr 1
    rw [Bool.eq_iff_iff]
    constructor
    · intro h
      have : (k : Int) = x := by simpa using h
      rw [show x = k by omega]; exact Nat.beq_refl k
    · intro h
      have := Nat.eq_of_beq_eq_true h
      subst this; simp
theorem bestTo_le (cars mv : List Nat) (k : Nat) : bestTo cars mv k ≤ k := by
  induction k with
  | zero => exact Nat.le_refl _
  | succ k ih => rw [bestTo]; cases h : (Nat.blt 0 (nn cars k) && (!hasN mv k && (Nat.beq (bestTo cars mv k) 0 || Nat.blt (nn cars k) (nn cars (bestTo cars mv k - 1))))) <;> simp <;> omega
theorem blt_iff {a b : Nat} : Nat.blt a b = true ↔ a < b := by rw [Nat.blt_eq]
theorem best_no {cars mv : List Nat} {k b : Nat} (h : b = bestTo cars mv k) (hc : nn cars k = 0 ∨ hasN mv k = true ∨ (b ≠ 0 ∧ ¬ nn cars k < nn cars (b - 1))) : b = bestTo cars mv (k + 1) := by
  rw [bestTo, ← h]
  have : (Nat.blt 0 (nn cars k) && (!hasN mv k && (Nat.beq b 0 || Nat.blt (nn cars k) (nn cars (b - 1))))) = false := by
    cases hb : (Nat.blt 0 (nn cars k) && (!hasN mv k && (Nat.beq b 0 || Nat.blt (nn cars k) (nn cars (b - 1)))))
    · rfl
    · simp only [Bool.and_eq_true, Bool.or_eq_true, blt_iff] at hb
      obtain ⟨h1, h2, h3⟩ := hb
      rcases hc with hc | hc | hc
      · omega
      · rw [hc] at h2; cases h2
      · rcases h3 with h3 | h3
        · exact absurd (Nat.eq_of_beq_eq_true h3) hc.1
        · exact absurd h3 hc.2
  rw [this]; rfl
theorem best_yes {cars mv : List Nat} {k b : Nat} (h : b = bestTo cars mv k) (h1 : 0 < nn cars k) (h2 : hasN mv k = false) (h3 : b = 0 ∨ nn cars k < nn cars (b - 1)) : k + 1 = bestTo cars mv (k + 1) := by
  rw [bestTo, ← h]
  have : (Nat.blt 0 (nn cars k) && (!hasN mv k && (Nat.beq b 0 || Nat.blt (nn cars k) (nn cars (b - 1))))) = true := by
    simp only [Bool.and_eq_true, Bool.or_eq_true, blt_iff]
    refine ⟨h1, by rw [h2]; rfl, ?_⟩
    rcases h3 with h3 | h3
    · left; subst h3; rfl
    · exact .inr h3
  rw [this]; rfl
theorem spec_no {cars o mv : List Nat} {n : Nat} (h : (o, mv) = specTo cars n) (hb : bestTo cars mv cars.length = 0) : (o, mv) = specTo cars (n + 1) := by
  rw [specTo, ← h]
  show _ = forceN _ _
  rw [forceN_eq, hb]; rfl
theorem spec_yes {cars o mv : List Nat} {n b : Nat} (h : (o, mv) = specTo cars n) (hb : bestTo cars mv cars.length = b + 1) : (o.set b (nn cars b - 1), mv ++ [b]) = specTo cars (n + 1) := by
  rw [specTo, ← h]
  show _ = forceN _ _
  rw [forceN_eq, hb]; rfl
theorem best_pos {cars mv : List Nat} {k b : Nat} (h : bestTo cars mv k = b + 1) : 0 < nn cars b := by
  induction k with
  | zero => cases h
  | succ k ih =>
    by_cases hc : 0 < nn cars k ∧ hasN mv k = false ∧ (bestTo cars mv k = 0 ∨ nn cars k < nn cars (bestTo cars mv k - 1))
    · rw [← best_yes rfl hc.1 hc.2.1 hc.2.2] at h
      have : k = b := by omega
      subst this; exact hc.1
    · apply ih
      rw [← h]
      apply best_no rfl
      rcases Nat.eq_zero_or_pos (nn cars k) with h1 | h1
      · exact .inl h1
      · cases h2 : hasN mv k
        · refine .inr (.inr ⟨fun e => hc ⟨h1, h2, .inl e⟩, fun e => hc ⟨h1, h2, .inr e⟩⟩)
        · exact .inr (.inl rfl)
theorem toZ_snoc (l : List Nat) (x : Nat) : toZ (l ++ [x]) = toZ l ++ [(x : Int)] := by unfold toZ; simp

/-- a row in a block below B is kept by what keeps all below B -/
theorem Row.below_lt {w w' : World} {lo n g off B : Nat} {xs : List Int} (h : Row w lo (some ⟨g, off, none⟩) n xs) (hg : g < B) (hb : Below B w w') (hs : w.heap.size ≤ w'.heap.size) : Row w' lo (some ⟨g, off, none⟩) n xs := by
  refine ⟨h.1, h.2.1, fun hn => ?_⟩
  obtain ⟨g', off', e, hl, hlt, hc⟩ := h.2.2 hn
  injection e with e
  injection e with e1 e2
  subst e1 e2
  refine ⟨g, off, rfl, hl, by omega, fun j hj => ⟨?_, ?_⟩⟩
  · rw [← (hc j hj).1]; exact hb.cell (p := ⟨g, off + j, none⟩) hg
  · rw [← (hc j hj).2]; exact hb.frozen (p := ⟨g, off + j, none⟩) hg
theorem grown_set (w : World) (g i : Nat) (u : Value) : w.grownBy (w.setCell ⟨g, i, none⟩ u) (some g) :=
  ⟨rfl, rfl, rfl, by simp [World.setCell], fun k hk hne => Below.heap_setCell _ _ _ _ (by intro e; exact hne (by rw [e]))⟩

set_option maxHeartbeats 3200000 in
set_option maxRecDepth 100000 in
theorem specLowerStep_in (A : Option Addr) (n c : Nat) (cars : List Nat) (s : Nat) (w : World) (h : Rd w A n (toZ cars)) (hv : lowerB (toZ cars) (s : Int) = true) :
    Calls Try.prog 15 #[.slice A n c, .int .i64 (s : Int)] w (RetRow w (toZ (specTo cars s).1)) := by
  have HL := Lib.hid (rd_toZ_len h)
  have hv' := lowerB_true.1 hv
  have hs4 : s ≤ 4 := by omega
  have hn1 : 1 ≤ n ∧ n ≤ 4 := by have := hv'.1; rw [toZ_len, HL.out] at this; exact this
  obtain ⟨hn1, hn4⟩ := hn1
  have H8 : Hid (∀ k, k < n → nn cars k < 8) := fun k hk => by
    have := withinB_nth hv'.2.2 k (by rw [toZ_len, HL.out]; exact hk)
    rw [toZ_nth] at this
    omega
  clear hv'
  go_enter Try.func15, Try.ntmps15
  go_wp2_with fail
  refine (specLowerOk_any A n c (toZ cars) s _ h).mono ?_
  rintro e w' ⟨rfl, rfl⟩
  have HV := Lib.hid hv
  have ho := Own.made w w.heap.size (Nat.le_refl _)
  have hr := h.alloc (.cells #[] 3)
  have hb := below_new w (.cells #[] 3)
  go_wp2_with (at_builtin; refine wpList_append_rd _ rfl (.tmp 15) (.tmp 16) rfl w.heap.size _ 0 0 [] rfl ho A n c (toZ cars) rfl hr (by omega) (size_one _ _ (Nat.le_refl _) _) ?_; intro A3 c3 w3 ho3 hgrow3 hbel3; have hb3 := hb.trans (hbel3 _ (Nat.le_refl _)); rw [List.nil_append, Nat.zero_add] at ho3; rw [Nat.zero_add])
  clear hv ho hr hb hgrow3 hbel3
  have hrow3 := ho3.row (by omega)
  have hnc3 := ho3.2
  obtain ⟨g3, off3, rfl, hlo3, hg3, _, _⟩ := hrow3.at_ (show 0 < n by omega)
  have hom := Own.made w3 w3.heap.size (Nat.le_refl _)
  have hrow3' := hrow3.alloc (.cells #[] 3)
  have hs3 := hb3.size
  have hb3' : Below w.heap.size w (w3.alloc (.cells #[] 3)) := hb3.alloc hs3 _
  have hsz3 : w3.heap.size ≤ (w3.alloc (.cells #[] 3)).heap.size := by simp
  clear ho3 hrow3 hb3
  go_loopw [6, 7] (fun v i wr => ∃ (j m c' : Nat) (A' : Option Addr) (o mv : List Nat), j ≤ s ∧ i = .int .i64 (j : Int) ∧ v = .slice A' m c' ∧ m ≤ j ∧ Own wr w3.heap.size A' m c' (toZ mv) ∧ Row wr w.heap.size (some ⟨g3, off3, none⟩) n (toZ o) ∧ Below w.heap.size w wr ∧ w3.heap.size ≤ wr.heap.size ∧ Hid ((o, mv) = specTo cars j)) (fun _ i _ => s - (intOf i).toNat)
  case atStart => exact ⟨0, 0, 0, _, cars, [], by omega, rfl, rfl, by omega, hom, hrow3', hb3', hsz3, rfl⟩
  case round =>
    obtain ⟨j, m, c', A', o, mv, hj, rfl, rfl, hmj, hown, hrow, hb, hsz, HT⟩ := hrel
    clear hom hrow3' hb3' hsz3
    by_cases hjs : j < s
    · obtain ⟨wa, rfl⟩ : ∃ wa : World, wa = wr := ⟨_, rfl⟩
      have hmrd := hown.rd (by omega)
      have hrd := h.below hb
      go_wp2_with fail
      go_loopw [8, 9] (fun be i wr => ∃ (k b q : Nat), k ≤ n ∧ i = .int .i64 k ∧ be = .int .i64 ((b : Int) - 1) ∧ b ≤ k ∧ wr = wa.drewN q ∧ Hid (b = bestTo cars mv k)) (fun _ i _ => n - (intOf i).toNat)
      case atStart => exact ⟨0, 0, 0, Nat.zero_le _, rfl, rfl, by omega, rfl, rfl⟩
      case round =>
        obtain ⟨k, b, q, hk, rfl, rfl, hbk, rfl, HB⟩ := hrel
        by_cases hlt : k < n
        · obtain ⟨g, off, rfl, hg, hc⟩ := hrd.2.2 (show 0 < n by omega)
          have hck := hc k hlt
          rw [toZ_nth] at hck
          have i1 : (0 : Int) ≤ (k : Int) := by omega
          have i2 : (k : Int) < (n : Int) := by omega
          rcases Nat.eq_zero_or_pos (nn cars k) with hz | hz
          · have HN := Lib.hid (best_no HB.out (.inl hz))
            rw [hz] at hck
            have hck0 : wa.cell? ⟨g, off + k, none⟩ = some (.int .i64 0) := hck
            clear hck hc hz
            go_wp2_with fail
            go_quiet (fail)
            go_wp2_with fail
            go_roundw
            case rel => exact ⟨k + 1, b, _, by omega, by go_num, rfl, by omega, rfl, HN.out⟩
            case measure => simp [intOf]; omega
          · have hzz : ∃ z : Int, ((nn cars k : Nat) : Int) = z ∧ 0 < z := ⟨_, rfl, by omega⟩
            obtain ⟨z, hz', hz0⟩ := hzz
            have hzt : decide (0 < z) = true := by simp; omega
            rw [hz'] at hck
            cases hh : hasN mv k
            · have hhas := hasB_toZ mv k
              rw [hh] at hhas
              rcases Nat.eq_zero_or_pos b with hb0 | hb0
              · subst hb0
                have HN := Lib.hid (best_yes HB.out hz hh (.inl rfl))
                have e0 : ((0 : Nat) : Int) - 1 = -1 := by omega
                rw [e0]
                clear hz' hz hc hh e0
                go_wp2_with fail
                go_quiet ((go_at_call 32; exact quiet_add_left (l1Has_any A' m c' (toZ mv) k _ (hmrd.drewN _))))
                go_wp2_with fail
                go_roundw
                case rel => exact ⟨k + 1, k + 1, _, by omega, by go_num, by go_num, by omega, rfl, HN.out⟩
                case measure => simp [intOf]; omega
              · obtain ⟨d, rfl⟩ : ∃ d, b = d + 1 := ⟨b - 1, by omega⟩
                have e1 : ((d + 1 : Nat) : Int) - 1 = (d : Int) := by omega
                rw [e1]
                have hcd := hc d (by omega)
                rw [toZ_nth] at hcd
                have hdn : decide ((d : Int) < 0) = false := by simp
                have i3 : (0 : Int) ≤ (d : Int) := by omega
                have i4 : (d : Int) < (n : Int) := by omega
                by_cases hcmp : nn cars k < nn cars d
                · have HN := Lib.hid (best_yes HB.out hz hh (.inr (by simpa using hcmp)))
                  have hdc : decide (z < ((nn cars d : Nat) : Int)) = true := by simp; omega
                  generalize ((nn cars d : Nat) : Int) = y at hcd hdc
                  clear hz' hz hc hh e1 hcmp
                  go_wp2_with fail
                  go_quiet ((go_at_call 32; exact quiet_add_left (l1Has_any A' m c' (toZ mv) k _ (hmrd.drewN _))))
                  go_wp2_with fail
                  go_roundw
                  case rel => exact ⟨k + 1, k + 1, _, by omega, by go_num, by go_num, by omega, rfl, HN.out⟩
                  case measure => simp [intOf]; omega
                · have HN := Lib.hid (best_no HB.out (.inr (.inr ⟨by omega, by simpa using hcmp⟩)))
                  have hdc : decide (z < ((nn cars d : Nat) : Int)) = false := by simp; omega
                  generalize ((nn cars d : Nat) : Int) = y at hcd hdc
                  clear hz' hz hc hh e1 hcmp
                  go_wp2_with fail
                  go_quiet ((go_at_call 32; exact quiet_add_left (l1Has_any A' m c' (toZ mv) k _ (hmrd.drewN _))))
                  go_wp2_with fail
                  go_roundw
                  case rel => exact ⟨k + 1, d + 1, _, by omega, by go_num, by go_num, by omega, rfl, HN.out⟩
                  case measure => simp [intOf]; omega
            · have hhas := hasB_toZ mv k
              rw [hh] at hhas
              have HN := Lib.hid (best_no HB.out (.inr (.inl hh)))
              clear hz' hz hc hh
              go_wp2_with fail
              go_quiet ((go_at_call 32; exact quiet_add_left (l1Has_any A' m c' (toZ mv) k _ (hmrd.drewN _))))
              go_wp2_with fail
              go_roundw
              case rel => exact ⟨k + 1, b, _, by omega, by go_num, rfl, by omega, rfl, HN.out⟩
              case measure => simp [intOf]; omega
        · obtain rfl : k = n := by omega
          have hown := hown.drewN q
          have hrow := hrow.drewN q
          have hb := below_drewN_ hb q
          have hrd := hrd.drewN q
          have hsz : w3.heap.size ≤ (wa.drewN q).heap.size := hsz
          obtain ⟨wd, hwd⟩ : ∃ wd : World, wd = wa.drewN q := ⟨_, rfl⟩
          rw [← hwd] at hown hrow hb hrd hsz
          rw [← hwd]
          clear hwd
          have HBE : Hid (bestTo cars mv cars.length = b) := by
            show _ = _
            rw [HL.out]; exact HB.out.symm
          rcases Nat.eq_zero_or_pos b with hb0 | hb0
          · subst hb0
            have HN := Lib.hid (spec_no HT.out HBE.out)
            go_wp2_with fail
            go_roundw
            case rel => exact ⟨j + 1, m, c', A', o, mv, by omega, by go_num, rfl, by omega, hown, hrow, hb, hsz, HN.out⟩
            case measure => simp [intOf]; omega
          · obtain ⟨d, rfl⟩ : ∃ d, b = d + 1 := ⟨b - 1, by omega⟩
            have e1 : ((d + 1 : Nat) : Int) - 1 = (d : Int) := by omega
            rw [e1]
            clear e1
            have HN := Lib.hid (spec_yes HT.out HBE.out)
            have hpos := best_pos HBE.out
            have h8 := H8.out d (by omega)
            obtain ⟨g, off, rfl, hg, hc⟩ := hrd.2.2 (show 0 < k by omega)
            have hcd := hc d (by omega)
            obtain ⟨g', off', e, hlo', hg', hcell', hfr'⟩ := hrow.at_ (show d < k by omega)
            injection e with e
            injection e with e1 e2
            subst e1 e2
            rw [toZ_nth] at hcd
            have hset := hrow.set_ d (by omega) (((nn cars d : Nat) : Int) - 1)
            have ez : (toZ o).set d (((nn cars d : Nat) : Int) - 1) = toZ (o.set d (nn cars d - 1)) := by
              rw [toZ_set]; congr 1; omega
            rw [ez] at hset
            have hown2 := hown.picked (show g3 < w3.heap.size by omega) (grown_set wd g3 (off3 + d) (.int .i64 (((nn cars d : Nat) : Int) - 1)))
            have hbel : Below w.heap.size w (wd.setCell ⟨g3, off3 + d, none⟩ (.int .i64 (((nn cars d : Nat) : Int) - 1))) := hb.setCell hlo' _
            have hsz2 : w3.heap.size ≤ (wd.setCell ⟨g3, off3 + d, none⟩ (.int .i64 (((nn cars d : Nat) : Int) - 1))).heap.size := by simpa [World.setCell] using hsz
            have hzb : (0 : Int) < ((nn cars d : Nat) : Int) ∧ ((nn cars d : Nat) : Int) < 8 := by omega
            generalize ((nn cars d : Nat) : Int) = z at hcd hset hown2 hbel hsz2 hzb
            obtain ⟨hz0, hz8⟩ := hzb
            clear hc ez hown hrow hpos h8
            go_wp2_with (at_builtin; refine wpList_append_int _ rfl (.tmp 67) (.tmp 69) rfl w3.heap.size A' m c' (toZ mv) rfl (hown2.alloc _) wd.heap.size (d : Int) rfl (cell_one _ _ (by simp [World.setCell]) _ _) (by omega) (size_one _ _ hsz2 _) ?_; intro g1 cap w5 ho5 hgrow5 hbel5 hlt5)
            have hs5 := hgrow5.size
            have hb5 : Below w.heap.size w w5 := (hbel.alloc hbel.size _).trans (hbel5 _ hs3)
            have hrow5 := (hset.alloc (.cells #[.int .i64 (d : Int)] 3)).below_lt (show g3 < w3.heap.size by omega) (hbel5 _ (Nat.le_refl _)) hs5
            rw [← toZ_snoc] at ho5
            have hsz5 : w3.heap.size ≤ w5.heap.size := by simp at hs5; omega
            clear hgrow5 hbel5 hs5
            go_wp2
            go_roundw
            case rel => exact ⟨j + 1, m + 1, cap, _, _, _, by omega, by go_num, rfl, by omega, ho5, hrow5, hb5, hsz5, HN.out⟩
            case measure => simp [intOf]; omega
    · obtain rfl : j = s := by omega
      have HE : Hid (o = (specTo cars j).1) := by
        show _ = _
        rw [← HT.out]
      go_wp2
      go_ret
      exact ⟨_, n, c3, rfl, hnc3, by rw [← HE.out]; exact hrow, hb⟩
end Go.Proofs.Ythbgnnnbidnlbaa

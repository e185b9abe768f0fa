/-
  markRightS; the walk of the law FnExactMayFloors.
-/
import Derived.Test.YtkelamkbkkcpjaaMay2
import Derived.Test.YtkelamkbkkcpjaaMark2
namespace Go.Proofs.Ytkelamkbkkcpjaa
open Go.RowKit

/-- the cells of n rights in block B hold ints and may be written -/
def CanMark (w : World) (B n : Nat) : Prop := ∀ o, o < n * 3 → (∃ v : Int, w.cell? ⟨B, o, none⟩ = some (.int .i64 v)) ∧ w.frozen? ⟨B, o, none⟩ = false
theorem CanMark.set_ {w : World} {B n : Nat} (h : CanMark w B n) (i : Nat) (x : Int) : CanMark (w.setCell ⟨B, i, none⟩ (.int .i64 x)) B n := by
  intro o ho
  obtain ⟨⟨v, hv⟩, hf⟩ := h o ho
  refine ⟨?_, by simpa using hf⟩
  by_cases hoi : o = i
  · subst hoi
    exact ⟨x, by rw [World.cell?_setCell_same _ _ _ hv]⟩
  · exact ⟨v, by rw [World.cell?_setCell_other _ _ _ _ (by intro e; injection e; omega)]; exact hv⟩
theorem RowR.can {w : World} {lo B n : Nat} {rs : List Rt} (h : RowR w lo (some ⟨B, 0, none⟩) n rs) : CanMark w B n := by
  intro o ho
  obtain ⟨g, off, e, _, _, hc⟩ := h.2.2 (by omega)
  injection e with e
  injection e with e1 e2
  subst e1 e2
  obtain ⟨⟨h0, h1, h2⟩, hf⟩ := hc (o / 3) (by omega)
  have : o % 3 = 0 ∨ o % 3 = 1 ∨ o % 3 = 2 := by omega
  have hfr := hf (o % 3) (by omega)
  have ho3 : 0 + o / 3 * 3 + o % 3 = o := by omega
  rw [ho3] at hfr
  refine ⟨?_, hfr⟩
  rcases this with hm | hm | hm
  · exact ⟨_, by rw [← h0]; congr 2; omega⟩
  · exact ⟨_, by rw [← h1]; congr 2; omega⟩
  · exact ⟨_, by rw [← h2]; congr 2; omega⟩

set_option maxHeartbeats 400000 in
theorem markRightS_at (g n c : Nat) (k : Int) (w : World) (h : CanMark w g n) (hn : n ≤ 1048576) (h0 : 0 ≤ k) (h1 : k ≤ 4194304) :
    Calls Try.prog 29 #[.slice (some ⟨g, 0, none⟩) n c, .int .i64 k] w fun e w' => e = .returned (.int .i64 (k + 3 * (n : Int))) ∧ w.grownBy w' (some g) := by
  go_enter Try.func29, Try.ntmps29
  go_wp2
  go_loopw [1, 5] (fun kk i wr => ∃ j : Nat, j ≤ n ∧ i = .int .i64 j ∧ kk = .int .i64 (k + 3 * (j : Int)) ∧ CanMark wr g n ∧ w.grownBy wr (some g)) (fun _ i _ => n - (intOf i).toNat)
  case atStart => exact ⟨0, Nat.zero_le _, rfl, by simp, h, World.grownBy.refl _ _⟩
  case round =>
    obtain ⟨j, hj, rfl, rfl, hr, hb⟩ := hrel
    by_cases hlt : j < n
    · obtain ⟨⟨v0, hc0⟩, hf0⟩ := hr (j * 3) (by omega)
      obtain ⟨⟨v1, hc1⟩, hf1⟩ := hr (j * 3 + 1) (by omega)
      obtain ⟨⟨v2, hc2⟩, hf2⟩ := hr (j * 3 + 2) (by omega)
      have hr' := ((hr.set_ (j * 3) (k + 3 * (j : Int))).set_ (j * 3 + 1) (k + 3 * (j : Int) + 1)).set_ (j * 3 + 2) (k + 3 * (j : Int) + 1 + 1)
      have hb' := grown_trans1 (grown_trans1 (grown_trans1 hb (grown_set1 _ g (j * 3) (.int .i64 (k + 3 * (j : Int))))) (grown_set1 _ g (j * 3 + 1) (.int .i64 (k + 3 * (j : Int) + 1)))) (grown_set1 _ g (j * 3 + 2) (.int .i64 (k + 3 * (j : Int) + 1 + 1)))
      clear hr hb
      go_wp2
      go_roundw
      case rel => exact ⟨j + 1, by omega, by go_num, by go_num, hr', hb'⟩
      case measure => simp [intOf]; omega
    · obtain rfl : j = n := by omega
      go_wp2
      go_ret
      exact ⟨rfl, hb⟩

set_option maxHeartbeats 1600000 in
theorem walk_FnExactMayFloors (a0 : Option Addr) (len0 cap0 : Nat) (rs : List Rt) (a1 : Option Addr) (len1 cap1 : Nat) (z1 : List Int) (hh : Int) (w : World) (w0 : IsRights w a0 len0 cap0 rs) (w1 : IsRow .i64 w a1 len1 cap1 z1) (_w2 : (Lit.int .i64 hh).wf = true) :
    Calls Try.prog 7 #[.slice a0 len0 cap0, .slice a1 len1 cap1, .int .i64 hh] w fun e w' => e = .returned (.bool true) ∧ Below w.heap.size w w' := by
  by_cases hlen1 : 1048576 < len1
  · go_enter Try.func7, Try.ntmps7
    go_wp2
    go_ret
    exact ⟨rfl, Below.refl _ _⟩
  have d1 : decide ((1048576 : Int) < (len1 : Int)) = false := by simp; omega
  by_cases hlen : 1048576 < len0
  · have h1 := w0.1
    have h2 := w0.2.1
    unfold maxLen at h2
    go_enter Try.func7, Try.ntmps7
    go_wp2_with fail
    refine (szRightS_no a0 len0 cap0 _ (by omega) hlen).mono ?_
    rintro e w1 ⟨rfl, rfl⟩
    go_wp2_with fail
    go_ret
    exact ⟨rfl, Below.refl _ _⟩
  · have hr := w0.rd (by omega)
    have hq := w1.rd (by omega)
    generalize z1.take len1 = op at hq
    have hs := sameB_refl op
    have hs' := sameB_refl (floorsTo rs op hh 8)
    have hd : decide ((1048576 : Int) - (len0 : Int) < 0) = false := by simp; omega
    go_enter Try.func7, Try.ntmps7
    go_wp2_with fail
    refine (szRightS_yes a0 len0 cap0 _ (by omega)).mono ?_
    rintro e w1 ⟨rfl, rfl⟩
    go_wp2_with fail
    refine (toRightS_any a0 len0 cap0 rs _ hr (by omega)).mono ?_
    rintro e w1 ⟨rfl, r1, b1, _⟩
    go_wp2_with fail
    refine (toIntS_any a1 len1 cap1 op _ (hq.below b1)).mono ?_
    rintro e w2 ⟨rfl, q2, b2⟩
    have b12 := below_step b1 b2
    go_wp2_with fail
    refine (specMayFloors_any _ _ _ rs _ _ _ op hh _ (r1.rd.below b2) q2.rd).mono ?_
    rintro e w3 ⟨A3, n3, c3, rfl, -, r3, b3⟩
    have b13 := below_step b12 b3
    clear r1 q2
    go_wp2_with fail
    refine (toRightS_any a0 len0 cap0 rs _ (hr.below b13) (by omega)).mono ?_
    rintro e w4 ⟨rfl, r4, b4, hz4⟩
    have b14 := below_step b13 b4
    go_wp2_with fail
    refine (toIntS_new a1 len1 cap1 op _ (hq.below b14)).mono ?_
    rintro e w5 ⟨rfl, q5, b5, hz5⟩
    have b15 := below_step b14 b5
    have b35 : Below w3.heap.size w3 w5 := below_step b4 b5
    go_wp2_with fail
    refine (implMayFloors_any _ _ _ rs _ _ _ op hh _ (r4.rd.below b5) q5.rd).mono ?_
    rintro e w6 ⟨A6, n6, c6, rfl, -, r6, b6⟩
    have hl6 := r6.le
    have b36 := below_step b35 b6
    go_wp2_with fail
    refine (eqIntS_any A6 A3 n6 n3 c6 c3 _ _ _ r6.rd (r3.rd.below b36)).mono ?_
    rintro e w7 ⟨rfl, q7, rfl⟩
    have b67 : Below w6.heap.size w6 (w6.drewN q7) := below_drewN_ (Below.refl _ _) q7
    have b37 := below_step b36 b67
    go_wp2_with fail
    refine (toRightS_any a0 len0 cap0 rs _ (hr.below (below_step b13 b37)) (by omega)).mono ?_
    rintro e w8 ⟨rfl, r8, b8, _⟩
    have b68 := below_step b67 b8
    have b38 := below_step b36 b68
    go_wp2_with fail
    refine (eqRightS_same _ _ _ _ _ rs _ (((r4.rd.below b5).below b6).below b68) r8.rd).mono ?_
    rintro e w9 ⟨rfl, b9⟩
    have b69 := below_step b68 b9
    have b39 := below_step b36 b69
    clear r8 b67 b68 b37 b38
    go_wp2_with fail
    refine (toIntS_any a1 len1 cap1 op _ (hq.below (below_step b13 b39))).mono ?_
    rintro e w10 ⟨rfl, q10, b10⟩
    have b610 := below_step b69 b10
    have b310 := below_step b36 b610
    go_wp2_with fail
    refine (eqIntS_any _ _ _ _ _ _ op op _ ((q5.rd.below b6).below b610) q10.rd).mono ?_
    rintro e w11 ⟨rfl, q11, rfl⟩
    have hc4 := (((r4.below b5).below b6).below b610).can
    have hc4' : CanMark (w10.drewN q11) w3.heap.size len0 := hc4
    have q5' := ((q5.below b6).below b610).drewN q11
    have r6' := (r6.below b610).drewN q11
    have b311 : Below w3.heap.size w3 (w10.drewN q11) := below_drewN_ b310 q11
    have hs3 := b4.size
    have hs4 := b5.size
    have hs5 := b6.size
    have hs6 := b610.size
    clear hc4 q10 b10 b9 b8 b69 b39 b310
    go_wp2_with fail
    refine (markRightS_at _ _ _ 1 _ hc4' (by omega) (by omega) (by omega)).mono ?_
    rintro e w12 ⟨rfl, g12⟩
    have q12 := q5'.grown_ge (by omega) g12
    have r12 := r6'.grown_ge (by omega) g12
    have b312 : Below w3.heap.size w3 w12 := b311.trans (below_grown g12 (Nat.le_refl _) (by show w3.heap.size ≤ w10.heap.size; omega))
    have hs12 : w10.heap.size ≤ w12.heap.size := g12.size
    clear hc4' q5' r6' g12 b311
    go_wp2_with fail
    refine (markIntS_at _ 0 _ _ _ op _ _ q12 (by omega) (by omega)).mono ?_
    rintro e w13 ⟨rfl, g13⟩
    have r13 := r12.grown_ge (by omega) g13
    have b313 : Below w3.heap.size w3 w13 := b312.trans (below_grown g13 (by omega) (by omega))
    have hs13 : w12.heap.size ≤ w13.heap.size := g13.size
    have hk : decide ((1 : Int) + 3 * (len0 : Int) + (len1 : Int) < 0) = false := by simp; omega
    clear q12 r12 g13 b312
    go_wp2_with fail
    refine (eqIntS_any A6 A3 n6 n3 c6 c3 _ _ _ r13.rd (r3.rd.below b313)).mono ?_
    rintro e w14 ⟨rfl, q14, rfl⟩
    have b314 : Below w3.heap.size w3 (w13.drewN q14) := below_drewN_ b313 q14
    have hs14 : (w13.drewN q14).heap.size = w13.heap.size := rfl
    go_wp2_with fail
    refine (markIntS_any A6 n6 c6 w5.heap.size _ 1 _ (r13.drewN q14) (by omega) (by omega)).mono ?_
    rintro e w15 ⟨rfl, r15, b15', hs15⟩
    have HS15 := Lib.hid hs15
    have b315 : Below w3.heap.size w3 w15 := b314.trans (b15'.mono (by omega))
    clear hs15 r13 b314 b313
    go_wp2_with fail
    refine (heldIntS_any A6 n6 c6 _ 1 _ r15.rd (by omega) (by omega)).mono ?_
    rintro e w16 ⟨rfl, rfl⟩
    go_wp2_with fail
    refine (toRightS_any a0 len0 cap0 rs _ (hr.below (below_step b13 b315)) (by omega)).mono ?_
    rintro e w17 ⟨rfl, r17, b17, _⟩
    have b317 := below_step b315 b17
    go_wp2_with fail
    refine (toIntS_any a1 len1 cap1 op _ (hq.below (below_step b13 b317))).mono ?_
    rintro e w18 ⟨rfl, q18, b18⟩
    go_wp2_with fail
    refine (implMayFloors_any _ _ _ rs _ _ _ op hh _ (r17.rd.below b18) q18.rd).mono ?_
    rintro e w19 ⟨A19, n19, c19, rfl, -, r19, b19⟩
    have b319 := below_step (below_step b317 b18) b19
    go_wp2_with fail
    refine (eqIntS_any A19 A3 n19 n3 c19 c3 _ _ _ r19.rd (r3.rd.below b319)).mono ?_
    rintro e w20 ⟨rfl, q20, rfl⟩
    go_wp2_with fail
    refine (heldIntS_any A6 n6 c6 _ 1 _ ((((r15.rd.below b17).below b18).below b19).drewN q20) (by omega) (by omega)).mono ?_
    rintro e w21 ⟨rfl, rfl⟩
    go_wp2
    go_ret
    exact ⟨rfl, below_drewN_ (below_step b13 b319) q20⟩
end Go.Proofs.Ytkelamkbkkcpjaa

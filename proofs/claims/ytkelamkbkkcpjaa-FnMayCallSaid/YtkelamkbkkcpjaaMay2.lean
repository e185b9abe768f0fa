/-
  MayHours and MayFloors of the program and of the reference; the walks of the laws FnExactMayCall, FnExactMayHours.
-/
import Derived.Test.YtkelamkbkkcpjaaMay
import Derived.Test.YtkelamkbkkcpjaaSame
namespace Go.Proofs.Ytkelamkbkkcpjaa
open Go.RowKit

set_option maxHeartbeats 800000 in
theorem implMayHours_any (A : Option Addr) (n c : Nat) (rs : List Rt) (B : Option Addr) (m d : Nat) (op : List Int) (fl : Int) (w : World) (h : RdR w A n rs) (h' : Rd w B m op) :
    Calls Try.prog 26 #[.slice A n c, .slice B m d, .int .i64 fl] w (Int' (hoursTo rs op fl 24) w) := by
  go_enter Try.func26, Try.ntmps26
  go_wp2_with fail
  go_loopw [7, 9] (fun s i wr => ∃ k x : Nat, k ≤ 24 ∧ i = .int .i64 k ∧ s = .int .i64 (x : Int) ∧ x ≤ k ∧ Below w.heap.size w wr ∧ Hid (x = hoursTo rs op fl k)) (fun _ i _ => 24 - (intOf i).toNat)
  case atStart => exact ⟨0, 0, by omega, rfl, rfl, by omega, Below.refl _ _, rfl⟩
  case round =>
    obtain ⟨k, x, hk, rfl, rfl, hx, hb, H⟩ := hrel
    by_cases hlt : k < 24
    · cases hm : mayB rs op fl (k : Int)
      · have HN : Hid (x = hoursTo rs op fl (k + 1)) := by show _ = _; unfold hoursTo; rw [cnt_no hm]; exact H.out
        go_wp2_with fail
        refine (implMayCall_any A n c rs B m d op fl k _ (h.below hb) (h'.below hb)).mono ?_
        rintro e w2 ⟨rfl, b2⟩
        have hb2 := below_step hb b2
        go_wp2_with fail
        go_roundw
        case rel => exact ⟨k + 1, x, by omega, by go_num, rfl, by omega, hb2, HN⟩
        case measure => simp [intOf]; omega
      · have HN : Hid (x + 1 = hoursTo rs op fl (k + 1)) := by show _ = _; unfold hoursTo; rw [cnt_yes hm, H.out]; rfl
        go_wp2_with fail
        refine (implMayCall_any A n c rs B m d op fl k _ (h.below hb) (h'.below hb)).mono ?_
        rintro e w2 ⟨rfl, b2⟩
        have hb2 := below_step hb b2
        go_wp2_with fail
        go_roundw
        case rel => exact ⟨k + 1, x + 1, by omega, by go_num, by go_num, by omega, hb2, HN⟩
        case measure => simp [intOf]; omega
    · obtain rfl : k = 24 := by omega
      go_wp2_with fail
      go_ret
      exact ⟨ret_int (by rw [H.out]), hb⟩

set_option maxHeartbeats 800000 in
theorem specMayHours_any (A : Option Addr) (n c : Nat) (rs : List Rt) (B : Option Addr) (m d : Nat) (op : List Int) (fl : Int) (w : World) (h : RdR w A n rs) (h' : Rd w B m op) :
    Calls Try.prog 25 #[.slice A n c, .slice B m d, .int .i64 fl] w (Int' (hoursTo rs op fl 24) w) := by
  go_enter Try.func25, Try.ntmps25
  go_wp2_with fail
  go_loopw [7, 8] (fun s i wr => ∃ k x : Nat, k ≤ 24 ∧ i = .int .i64 k ∧ s = .int .i64 (x : Int) ∧ x ≤ k ∧ Below w.heap.size w wr ∧ Hid (x = hoursTo rs op fl k)) (fun _ i _ => 24 - (intOf i).toNat)
  case atStart => exact ⟨0, 0, by omega, rfl, rfl, by omega, Below.refl _ _, rfl⟩
  case round =>
    obtain ⟨k, x, hk, rfl, rfl, hx, hb, H⟩ := hrel
    by_cases hlt : k < 24
    · cases hm : mayB rs op fl (k : Int)
      · have HN : Hid (x = hoursTo rs op fl (k + 1)) := by show _ = _; unfold hoursTo; rw [cnt_no hm]; exact H.out
        go_wp2_with fail
        refine (specMayCall_any A n c rs B m d op fl k _ (h.below hb) (h'.below hb)).mono ?_
        rintro e w2 ⟨rfl, b2⟩
        have hb2 := below_step hb b2
        go_wp2_with fail
        go_roundw
        case rel => exact ⟨k + 1, x, by omega, by go_num, rfl, by omega, hb2, HN⟩
        case measure => simp [intOf]; omega
      · have HN : Hid (x + 1 = hoursTo rs op fl (k + 1)) := by show _ = _; unfold hoursTo; rw [cnt_yes hm, H.out]; rfl
        go_wp2_with fail
        refine (specMayCall_any A n c rs B m d op fl k _ (h.below hb) (h'.below hb)).mono ?_
        rintro e w2 ⟨rfl, b2⟩
        have hb2 := below_step hb b2
        go_wp2_with fail
        go_roundw
        case rel => exact ⟨k + 1, x + 1, by omega, by go_num, by go_num, by omega, hb2, HN⟩
        case measure => simp [intOf]; omega
    · obtain rfl : k = 24 := by omega
      go_wp2_with fail
      go_ret
      exact ⟨ret_int (by rw [H.out]), hb⟩

set_option maxHeartbeats 800000 in
theorem implMayFloors_any (A : Option Addr) (n c : Nat) (rs : List Rt) (B : Option Addr) (m d : Nat) (op : List Int) (hr : Int) (w : World) (h : RdR w A n rs) (h' : Rd w B m op) :
    Calls Try.prog 28 #[.slice A n c, .slice B m d, .int .i64 hr] w (RetRow w (floorsTo rs op hr 8)) := by
  go_enter Try.func28, Try.ntmps28
  go_wp2_with fail
  go_loopw [7, 9] (fun v i wr => ∃ (k n' c' : Nat) (A' : Option Addr), k ≤ 8 ∧ i = .int .i64 k ∧ v = .slice A' n' c' ∧ n' ≤ k ∧ Own wr w.heap.size A' n' c' (floorsTo rs op hr k) ∧ Below w.heap.size w wr) (fun _ i _ => 8 - (intOf i).toNat)
  case atStart => exact ⟨0, 0, 0, none, by omega, rfl, rfl, by omega, Own.nil_ _ _, Below.refl _ _⟩
  case round =>
    obtain ⟨k, n', c', A', hk, rfl, rfl, hn', ho, hb⟩ := hrel
    by_cases hlt : k < 8
    · cases hm : mayB rs op (k : Int) hr
      · have HN := Lib.hid (floorsTo_no hm)
        go_wp2_with fail
        refine (implMayCall_any A n c rs B m d op k hr _ (h.below hb) (h'.below hb)).mono ?_
        rintro e w2 ⟨rfl, b2⟩
        have hb2 := below_step hb b2
        go_wp2_with fail
        go_roundw
        case rel => exact ⟨k + 1, n', c', A', by omega, by go_num, rfl, by omega, by rw [HN.out]; exact ho.below b2, hb2⟩
        case measure => simp [intOf]; omega
      · have HN := Lib.hid (floorsTo_yes hm)
        go_wp2_with fail
        refine (implMayCall_any A n c rs B m d op k hr _ (h.below hb) (h'.below hb)).mono ?_
        rintro e w2 ⟨rfl, b2⟩
        have hb2 := below_step hb b2
        have ho2 := ho.below b2
        have hs2 := hb2.size
        go_wp2_with (at_builtin; refine wpList_append_int _ rfl (.tmp 17) (.tmp 19) rfl w.heap.size A' n' c' (floorsTo rs op hr k) rfl (ho2.alloc _) w2.heap.size (k : Int) rfl (cell_one _ _ rfl _ _) (by omega) (size_one _ _ hs2 _) ?_; intro g cap w3 ho3 hgrow3 hbel3 hlt3)
        have hb3 : Below w.heap.size w w3 := (hb2.alloc hs2 _).trans (hbel3 _ (Nat.le_refl _))
        rw [← HN.out] at ho3
        clear hgrow3 hbel3
        go_wp2_with fail
        go_roundw
        case rel => exact ⟨k + 1, n' + 1, cap, _, by omega, by go_num, rfl, by omega, ho3, hb3⟩
        case measure => simp [intOf]; omega
    · obtain rfl : k = 8 := by omega
      go_wp2_with fail
      go_ret
      exact ⟨A', n', c', rfl, ho.2, ho.row (by omega), hb⟩

set_option maxHeartbeats 800000 in
theorem specMayFloors_any (A : Option Addr) (n c : Nat) (rs : List Rt) (B : Option Addr) (m d : Nat) (op : List Int) (hr : Int) (w : World) (h : RdR w A n rs) (h' : Rd w B m op) :
    Calls Try.prog 27 #[.slice A n c, .slice B m d, .int .i64 hr] w (RetRow w (floorsTo rs op hr 8)) := by
  have hom := Own.made w w.heap.size (Nat.le_refl _)
  have hbm : Below w.heap.size w (w.alloc (.cells #[] 3)) := (Below.refl _ _).alloc (Nat.le_refl _) _
  go_enter Try.func27, Try.ntmps27
  go_wp2_with fail
  go_loopw [7, 8] (fun v i wr => ∃ (k n' c' : Nat) (A' : Option Addr), k ≤ 8 ∧ i = .int .i64 k ∧ v = .slice A' n' c' ∧ n' ≤ k ∧ Own wr w.heap.size A' n' c' (floorsTo rs op hr k) ∧ Below w.heap.size w wr) (fun _ i _ => 8 - (intOf i).toNat)
  case atStart => exact ⟨0, 0, 0, _, by omega, rfl, rfl, by omega, hom, hbm⟩
  case round =>
    obtain ⟨k, n', c', A', hk, rfl, rfl, hn', ho, hb⟩ := hrel
    by_cases hlt : k < 8
    · cases hm : mayB rs op (k : Int) hr
      · have HN := Lib.hid (floorsTo_no hm)
        go_wp2_with fail
        refine (specMayCall_any A n c rs B m d op k hr _ (h.below hb) (h'.below hb)).mono ?_
        rintro e w2 ⟨rfl, b2⟩
        have hb2 := below_step hb b2
        go_wp2_with fail
        go_roundw
        case rel => exact ⟨k + 1, n', c', A', by omega, by go_num, rfl, by omega, by rw [HN.out]; exact ho.below b2, hb2⟩
        case measure => simp [intOf]; omega
      · have HN := Lib.hid (floorsTo_yes hm)
        go_wp2_with fail
        refine (specMayCall_any A n c rs B m d op k hr _ (h.below hb) (h'.below hb)).mono ?_
        rintro e w2 ⟨rfl, b2⟩
        have hb2 := below_step hb b2
        have ho2 := ho.below b2
        have hs2 := hb2.size
        go_wp2_with (at_builtin; refine wpList_append_int _ rfl (.tmp 19) (.tmp 21) rfl w.heap.size A' n' c' (floorsTo rs op hr k) rfl (ho2.alloc _) w2.heap.size (k : Int) rfl (cell_one _ _ rfl _ _) (by omega) (size_one _ _ hs2 _) ?_; intro g cap w3 ho3 hgrow3 hbel3 hlt3)
        have hb3 : Below w.heap.size w w3 := (hb2.alloc hs2 _).trans (hbel3 _ (Nat.le_refl _))
        rw [← HN.out] at ho3
        clear hgrow3 hbel3
        go_wp2_with fail
        go_roundw
        case rel => exact ⟨k + 1, n' + 1, cap, _, by omega, by go_num, rfl, by omega, ho3, hb3⟩
        case measure => simp [intOf]; omega
    · obtain rfl : k = 8 := by omega
      go_wp2_with fail
      go_ret
      exact ⟨A', n', c', rfl, ho.2, ho.row (by omega), hb⟩

set_option maxHeartbeats 1600000 in
theorem walk_FnExactMayCall (a0 : Option Addr) (len0 cap0 : Nat) (rs : List Rt) (a1 : Option Addr) (len1 cap1 : Nat) (z1 : List Int) (fl hh : Int) (w : World) (w0 : IsRights w a0 len0 cap0 rs) (w1 : IsRow .i64 w a1 len1 cap1 z1) (_w2 : (Lit.int .i64 fl).wf = true) (_w3 : (Lit.int .i64 hh).wf = true) :
    Calls Try.prog 5 #[.slice a0 len0 cap0, .slice a1 len1 cap1, .int .i64 fl, .int .i64 hh] w fun e w' => e = .returned (.bool true) ∧ Below w.heap.size w w' := by
  by_cases hlen1 : 1048576 < len1
  · go_enter Try.func5, Try.ntmps5
    go_wp2
    go_ret
    exact ⟨rfl, Below.refl _ _⟩
  have d1 : decide ((1048576 : Int) < (len1 : Int)) = false := by simp; omega
  by_cases hlen : 1048576 < len0
  · have h1 := w0.1
    have h2 := w0.2.1
    unfold maxLen at h2
    go_enter Try.func5, Try.ntmps5
    go_wp2_with fail
    refine (szRightS_no a0 len0 cap0 _ (by omega) hlen).mono ?_
    rintro e w1 ⟨rfl, rfl⟩
    go_wp2_with fail
    go_ret
    exact ⟨rfl, Below.refl _ _⟩
  · have hr := w0.rd (by omega)
    have hq := w1.rd (by omega)
    generalize z1.take len1 = op at hq
    have hs := sameB_refl op
    have hself : (mayB rs op fl hh == mayB rs op fl hh) = true := by simp
    have hd : decide ((1048576 : Int) - (len0 : Int) < 0) = false := by simp; omega
    go_enter Try.func5, Try.ntmps5
    go_wp2_with fail
    refine (szRightS_yes a0 len0 cap0 _ (by omega)).mono ?_
    rintro e w1 ⟨rfl, rfl⟩
    go_wp2_with fail
    refine (toRightS_any a0 len0 cap0 rs _ hr (by omega)).mono ?_
    rintro e w1 ⟨rfl, r1, b1, _⟩
    go_wp2_with fail
    refine (toIntS_any a1 len1 cap1 op _ (hq.below b1)).mono ?_
    rintro e w2 ⟨rfl, q2, b2⟩
    have b12 := below_step b1 b2
    go_wp2_with fail
    refine (specMayCall_any _ _ _ rs _ _ _ op fl hh _ (r1.rd.below b2) q2.rd).mono ?_
    rintro e w3 ⟨rfl, b3⟩
    have b13 := below_step b12 b3
    go_wp2_with fail
    refine (toRightS_any a0 len0 cap0 rs _ (hr.below b13) (by omega)).mono ?_
    rintro e w4 ⟨rfl, r4, b4, _⟩
    have b14 := below_step b13 b4
    go_wp2_with fail
    refine (toIntS_any a1 len1 cap1 op _ (hq.below b14)).mono ?_
    rintro e w5 ⟨rfl, q5, b5⟩
    have b15 := below_step b14 b5
    go_wp2_with fail
    refine (implMayCall_any _ _ _ rs _ _ _ op fl hh _ (r4.rd.below b5) q5.rd).mono ?_
    rintro e w6 ⟨rfl, b6⟩
    have b16 := below_step b15 b6
    go_wp2_with fail
    refine (toRightS_any a0 len0 cap0 rs _ (hr.below b16) (by omega)).mono ?_
    rintro e w7 ⟨rfl, r7, b7, _⟩
    have b17 := below_step b16 b7
    go_wp2_with fail
    refine (eqRightS_same _ _ _ _ _ rs _ (((r4.rd.below b5).below b6).below b7) r7.rd).mono ?_
    rintro e w8 ⟨rfl, b8⟩
    have b18 := below_step b17 b8
    go_wp2_with fail
    refine (toIntS_any a1 len1 cap1 op _ (hq.below b18)).mono ?_
    rintro e w9 ⟨rfl, q9, b9⟩
    go_wp2_with fail
    refine (eqIntS_any _ _ _ _ _ _ op op _ ((((q5.rd.below b6).below b7).below b8).below b9) q9.rd).mono ?_
    rintro e w10 ⟨rfl, q10, rfl⟩
    go_wp2_with fail
    go_ret
    exact ⟨rfl, below_drewN_ (below_step b18 b9) q10⟩

set_option maxHeartbeats 1600000 in
theorem walk_FnExactMayHours (a0 : Option Addr) (len0 cap0 : Nat) (rs : List Rt) (a1 : Option Addr) (len1 cap1 : Nat) (z1 : List Int) (fl : Int) (w : World) (w0 : IsRights w a0 len0 cap0 rs) (w1 : IsRow .i64 w a1 len1 cap1 z1) (_w2 : (Lit.int .i64 fl).wf = true) :
    Calls Try.prog 6 #[.slice a0 len0 cap0, .slice a1 len1 cap1, .int .i64 fl] w fun e w' => e = .returned (.bool true) ∧ Below w.heap.size w w' := by
  by_cases hlen1 : 1048576 < len1
  · go_enter Try.func6, Try.ntmps6
    go_wp2
    go_ret
    exact ⟨rfl, Below.refl _ _⟩
  have d1 : decide ((1048576 : Int) < (len1 : Int)) = false := by simp; omega
  by_cases hlen : 1048576 < len0
  · have h1 := w0.1
    have h2 := w0.2.1
    unfold maxLen at h2
    go_enter Try.func6, Try.ntmps6
    go_wp2_with fail
    refine (szRightS_no a0 len0 cap0 _ (by omega) hlen).mono ?_
    rintro e w1 ⟨rfl, rfl⟩
    go_wp2_with fail
    go_ret
    exact ⟨rfl, Below.refl _ _⟩
  · have hr := w0.rd (by omega)
    have hq := w1.rd (by omega)
    generalize z1.take len1 = op at hq
    have hs := sameB_refl op
    have hself : (((hoursTo rs op fl 24 : Nat) : Int) != ((hoursTo rs op fl 24 : Nat) : Int)) = false := by simp
    have hd : decide ((1048576 : Int) - (len0 : Int) < 0) = false := by simp; omega
    go_enter Try.func6, Try.ntmps6
    go_wp2_with fail
    refine (szRightS_yes a0 len0 cap0 _ (by omega)).mono ?_
    rintro e w1 ⟨rfl, rfl⟩
    go_wp2_with fail
    refine (toRightS_any a0 len0 cap0 rs _ hr (by omega)).mono ?_
    rintro e w1 ⟨rfl, r1, b1, _⟩
    go_wp2_with fail
    refine (toIntS_any a1 len1 cap1 op _ (hq.below b1)).mono ?_
    rintro e w2 ⟨rfl, q2, b2⟩
    have b12 := below_step b1 b2
    go_wp2_with fail
    refine (specMayHours_any _ _ _ rs _ _ _ op fl _ (r1.rd.below b2) q2.rd).mono ?_
    rintro e w3 ⟨rfl, b3⟩
    have b13 := below_step b12 b3
    go_wp2_with fail
    refine (toRightS_any a0 len0 cap0 rs _ (hr.below b13) (by omega)).mono ?_
    rintro e w4 ⟨rfl, r4, b4, _⟩
    have b14 := below_step b13 b4
    go_wp2_with fail
    refine (toIntS_any a1 len1 cap1 op _ (hq.below b14)).mono ?_
    rintro e w5 ⟨rfl, q5, b5⟩
    have b15 := below_step b14 b5
    go_wp2_with fail
    refine (implMayHours_any _ _ _ rs _ _ _ op fl _ (r4.rd.below b5) q5.rd).mono ?_
    rintro e w6 ⟨rfl, b6⟩
    have b16 := below_step b15 b6
    go_wp2_with fail
    refine (toRightS_any a0 len0 cap0 rs _ (hr.below b16) (by omega)).mono ?_
    rintro e w7 ⟨rfl, r7, b7, _⟩
    have b17 := below_step b16 b7
    go_wp2_with fail
    refine (eqRightS_same _ _ _ _ _ rs _ (((r4.rd.below b5).below b6).below b7) r7.rd).mono ?_
    rintro e w8 ⟨rfl, b8⟩
    have b18 := below_step b17 b8
    go_wp2_with fail
    refine (toIntS_any a1 len1 cap1 op _ (hq.below b18)).mono ?_
    rintro e w9 ⟨rfl, q9, b9⟩
    go_wp2_with fail
    refine (eqIntS_any _ _ _ _ _ _ op op _ ((((q5.rd.below b6).below b7).below b8).below b9) q9.rd).mono ?_
    rintro e w10 ⟨rfl, q10, rfl⟩
    go_wp2_with fail
    go_ret
    exact ⟨rfl, below_drewN_ (below_step b18 b9) q10⟩
end Go.Proofs.Ytkelamkbkkcpjaa

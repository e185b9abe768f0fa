/-
  The drawings of the laws of rights.
-/
import Derived.Test.YtkelamkbkkcpjaaDrawRights
namespace Go.Proofs.Ytkelamkbkkcpjaa
open Go.RowKit

theorem tdiv19 (x : Int) (h0 : 0 ≤ x) (h1 : x < 20) : 0 ≤ x.tdiv 19 ∧ x.tdiv 19 ≤ 1 := by
  rw [Int.tdiv_eq_ediv_of_nonneg h0]; omega
def RightsGot (w : World) (e : Ending) (w' : World) : Prop :=
  ∃ (A : Option Addr) (n c : Nat) (rs : List Rt), e = .returned (.slice A n c) ∧ n ≤ c ∧ n ≤ 7 ∧ RdR w' A n rs ∧ Below w.heap.size w w'
def MayGot (w : World) (e : Ending) (w' : World) : Prop :=
  ∃ (A : Option Addr) (n c : Nat) (rs : List Rt) (B : Option Addr) (m d : Nat) (op : List Int) (fl hh : Int), e = .returned (.tuple #[.slice A n c, .slice B m d, .int .i64 fl, .int .i64 hh]) ∧ n ≤ c ∧ n ≤ 7 ∧ RdR w' A n rs ∧ Rd w' B m op ∧ Below w.heap.size w w'
def May1Got (w : World) (e : Ending) (w' : World) : Prop :=
  ∃ (A : Option Addr) (n c : Nat) (rs : List Rt) (B : Option Addr) (m d : Nat) (op : List Int) (fl : Int), e = .returned (.tuple #[.slice A n c, .slice B m d, .int .i64 fl]) ∧ n ≤ c ∧ n ≤ 7 ∧ RdR w' A n rs ∧ Rd w' B m op ∧ Below w.heap.size w w'

set_option maxHeartbeats 800000 in
theorem DrawRightsValid_any (A : Option Addr) (n c : Nat) (zs : List Int) (w : World) (h : IsRow .u8 w A n c zs) :
    Calls Try.prog 34 #[.slice A n c] w (RightsGot w) := by
  go_enter Try.func34, Try.ntmps34
  go_wp2_with fail
  refine (open_any A n c zs _ h).mono ?_
  rintro e w1 ⟨rfl, hr1, hb1⟩
  go_wp2_with fail
  refine (l20Rights_any _ 0 2 _ hr1 (by omega) (by omega) (by omega)).mono ?_
  rintro e w2 ⟨B, m, d, rs, rfl, hmd, hm, hr, -, hb, -⟩
  go_wp2_with fail
  go_ret
  exact ⟨B, m, d, rs, rfl, hmd, hm, hr.rd, hb1.trans hb⟩

set_option maxHeartbeats 800000 in
theorem DrawMayCall_any (A : Option Addr) (n c : Nat) (zs : List Int) (w : World) (h : IsRow .u8 w A n c zs) :
    Calls Try.prog 35 #[.slice A n c] w (MayGot w) := by
  go_enter Try.func35, Try.ntmps35
  go_wp2_with fail
  refine (open_any A n c zs _ h).mono ?_
  rintro e w1 ⟨rfl, hr1, hb1⟩
  have hR := hr1.lt
  generalize hRe : w.heap.size = R at hr1 hR hb1 ⊢
  have HRe := Lib.hid hRe
  clear hRe
  go_wp2_with fail
  refine (l20Rights_any _ 0 9 _ hr1 (by omega) (by omega) (by omega)).mono ?_
  rintro e w2 ⟨B, m, d, rs, rfl, hmd, hm, ro2, hr2, hb2, hs2⟩
  go_wp2_with fail
  refine (l20Hours_any _ _ _ hr2 (by omega)).mono ?_
  rintro e w3 ⟨C, k, l, op, rfl, hk, oo3, hr3, hg3⟩
  have ro3 := ro2.picked hR hg3
  go_wp2_with fail
  refine (pick_any _ _ 6 _ hr3 (by omega) (by omega) (by omega)).mono ?_
  rintro e w4 ⟨x4, rfl, x40, x41, hr4, hg4⟩
  go_wp2_with fail
  refine (pick_any _ _ 20 _ hr4 (by omega) (by omega) (by omega)).mono ?_
  rintro e w5 ⟨x5, rfl, x50, x51, hr5, hg5⟩
  obtain ⟨hq0, hq1⟩ := tdiv19 x5 x50 x51
  go_wp2_with fail
  refine (pick_any _ _ 26 _ hr5 (by omega) (by omega) (by omega)).mono ?_
  rintro e w6 ⟨x6, rfl, x60, x61, hr6, hg6⟩
  have G := grown_trans1 (grown_trans1 hg4 hg5) hg6
  have ro6 := ro3.picked hR G
  have oo6 := oo3.picked (by omega) G
  have G3 := grown_trans1 hg3 G
  have b6 := (hb1.trans hb2).trans (below_of_grown G3 (Nat.le_refl _) (by omega))
  clear G G3 hg3 hg4 hg5 hg6 ro2 ro3 oo3
  go_wp2_with fail
  refine bodyPost_ret (v := .tuple #[.slice B m d, .slice C k l, .int .i64 (x4 + x5.tdiv 19 * 4), .int .i64 (x6 - 1)]) (by simp [results, Try.results35, go_sem]) rfl ⟨_, _, _, _, _, _, _, _, _, _, rfl, hmd, hm, ro6.rd, oo6.rd (by omega), by rw [HRe.out]; exact b6⟩

set_option maxHeartbeats 800000 in
theorem DrawMayHours_any (A : Option Addr) (n c : Nat) (zs : List Int) (w : World) (h : IsRow .u8 w A n c zs) :
    Calls Try.prog 37 #[.slice A n c] w (May1Got w) := by
  go_enter Try.func37, Try.ntmps37
  go_wp2_with fail
  refine (open_any A n c zs _ h).mono ?_
  rintro e w1 ⟨rfl, hr1, hb1⟩
  have hR := hr1.lt
  generalize hRe : w.heap.size = R at hr1 hR hb1 ⊢
  have HRe := Lib.hid hRe
  clear hRe
  go_wp2_with fail
  refine (l20Rights_any _ 0 9 _ hr1 (by omega) (by omega) (by omega)).mono ?_
  rintro e w2 ⟨B, m, d, rs, rfl, hmd, hm, ro2, hr2, hb2, hs2⟩
  go_wp2_with fail
  refine (l20Hours_any _ _ _ hr2 (by omega)).mono ?_
  rintro e w3 ⟨C, k, l, op, rfl, hk, oo3, hr3, hg3⟩
  have ro3 := ro2.picked hR hg3
  go_wp2_with fail
  refine (pick_any _ _ 6 _ hr3 (by omega) (by omega) (by omega)).mono ?_
  rintro e w4 ⟨x4, rfl, x40, x41, hr4, hg4⟩
  go_wp2_with fail
  refine (pick_any _ _ 20 _ hr4 (by omega) (by omega) (by omega)).mono ?_
  rintro e w5 ⟨x5, rfl, x50, x51, hr5, hg5⟩
  obtain ⟨hq0, hq1⟩ := tdiv19 x5 x50 x51
  have G := grown_trans1 hg4 hg5
  have ro6 := ro3.picked hR G
  have oo6 := oo3.picked (by omega) G
  have G3 := grown_trans1 hg3 G
  have b6 := (hb1.trans hb2).trans (below_of_grown G3 (Nat.le_refl _) (by omega))
  clear G G3 hg3 hg4 hg5 ro2 ro3 oo3
  go_wp2_with fail
  refine bodyPost_ret (v := .tuple #[.slice B m d, .slice C k l, .int .i64 (x4 + x5.tdiv 19 * 4)]) (by simp [results, Try.results37, go_sem]) rfl ⟨_, _, _, _, _, _, _, _, _, rfl, hmd, hm, ro6.rd, oo6.rd (by omega), by rw [HRe.out]; exact b6⟩

set_option maxHeartbeats 800000 in
theorem DrawMayFloors_any (A : Option Addr) (n c : Nat) (zs : List Int) (w : World) (h : IsRow .u8 w A n c zs) :
    Calls Try.prog 38 #[.slice A n c] w (May1Got w) := by
  go_enter Try.func38, Try.ntmps38
  go_wp2_with fail
  refine (open_any A n c zs _ h).mono ?_
  rintro e w1 ⟨rfl, hr1, hb1⟩
  have hR := hr1.lt
  generalize hRe : w.heap.size = R at hr1 hR hb1 ⊢
  have HRe := Lib.hid hRe
  clear hRe
  go_wp2_with fail
  refine (l20Rights_any _ 0 9 _ hr1 (by omega) (by omega) (by omega)).mono ?_
  rintro e w2 ⟨B, m, d, rs, rfl, hmd, hm, ro2, hr2, hb2, hs2⟩
  go_wp2_with fail
  refine (l20Hours_any _ _ _ hr2 (by omega)).mono ?_
  rintro e w3 ⟨C, k, l, op, rfl, hk, oo3, hr3, hg3⟩
  have ro3 := ro2.picked hR hg3
  go_wp2_with fail
  refine (pick_any _ _ 26 _ hr3 (by omega) (by omega) (by omega)).mono ?_
  rintro e w6 ⟨x6, rfl, x60, x61, hr6, hg6⟩
  have G := hg6
  have ro6 := ro3.picked hR G
  have oo6 := oo3.picked (by omega) G
  have G3 := grown_trans1 hg3 G
  have b6 := (hb1.trans hb2).trans (below_of_grown G3 (Nat.le_refl _) (by omega))
  clear G G3 hg3 hg6 ro2 ro3 oo3
  go_wp2_with fail
  refine bodyPost_ret (v := .tuple #[.slice B m d, .slice C k l, .int .i64 (x6 - 1)]) (by simp [results, Try.results38, go_sem]) rfl ⟨_, _, _, _, _, _, _, _, _, rfl, hmd, hm, ro6.rd, oo6.rd (by omega), by rw [HRe.out]; exact b6⟩
end Go.Proofs.Ytkelamkbkkcpjaa

/-
  Words for slices of rights in memory; RightsValid of the program and of the reference.
-/
import Derived.Test.YtkelamkbkkcpjaaMayPlain
import Derived.Test.YtkelamkbkkcpjaaMark2
namespace Go.Proofs.Ytkelamkbkkcpjaa
open Go.RowKit

/-- the three cells of the right at j of a slice that begins at ⟨g, off⟩ -/
def Cells3 (w : World) (g off j : Nat) (r : Rt) : Prop :=
  w.cell? ⟨g, off + j * 3, none⟩ = some (.int .i64 r.f) ∧ w.cell? ⟨g, off + j * 3 + 1, none⟩ = some (.int .i64 r.a) ∧ w.cell? ⟨g, off + j * 3 + 2, none⟩ = some (.int .i64 r.b)
/-- THE SLICE VALUE '.slice A n c' READS AS rs. -/
def RdR (w : World) (A : Option Addr) (n : Nat) (rs : List Rt) : Prop :=
  rs.length = n ∧ n ≤ lenMax ∧ (0 < n → ∃ g off, A = some ⟨g, off, none⟩ ∧ g < w.heap.size ∧ ∀ j, j < n → Cells3 w g off j (rnth rs j))
/-- IT READS AS rs, lies from block lo on, and may be written. -/
def RowR (w : World) (lo : Nat) (A : Option Addr) (n : Nat) (rs : List Rt) : Prop :=
  rs.length = n ∧ n ≤ lenMax ∧ (0 < n → ∃ g off, A = some ⟨g, off, none⟩ ∧ lo ≤ g ∧ g < w.heap.size ∧ ∀ j, j < n → Cells3 w g off j (rnth rs j) ∧ ∀ i, i < 3 → w.frozen? ⟨g, off + j * 3 + i, none⟩ = false)
section
variable {w w' : World} {A : Option Addr} {n lo lo' : Nat} {rs : List Rt}
theorem Cells3.keep {g off j : Nat} {r : Rt} (h : Cells3 w g off j r) (hk : ∀ o, w'.cell? ⟨g, o, none⟩ = w.cell? ⟨g, o, none⟩) : Cells3 w' g off j r :=
  ⟨(hk _).trans h.1, (hk _).trans h.2.1, (hk _).trans h.2.2⟩
theorem RdR.len (h : RdR w A n rs) : rs.length = n := h.1
theorem RdR.le (h : RdR w A n rs) : n ≤ 4194304 := h.2.1
theorem RdR.nil_ : RdR w A 0 [] := ⟨rfl, by simp [lenMax], fun h => absurd h (by omega)⟩
theorem RdR.at_ {k : Nat} (h : RdR w A n rs) (hk : k < n) : ∃ g off, A = some ⟨g, off, none⟩ ∧ g < w.heap.size ∧ Cells3 w g off k (rnth rs k) := by
  obtain ⟨g, off, e, hg, hc⟩ := h.2.2 (by omega)
  exact ⟨g, off, e, hg, hc k hk⟩
theorem RdR.below (h : RdR w A n rs) (hb : Below w.heap.size w w') : RdR w' A n rs :=
  ⟨h.1, h.2.1, fun hn => by
    obtain ⟨g, off, e, hg, hc⟩ := h.2.2 hn
    exact ⟨g, off, e, Nat.lt_of_lt_of_le hg hb.size, fun j hj => (hc j hj).keep fun o => hb.cell (p := ⟨g, o, none⟩) hg⟩⟩
theorem RdR.drew (h : RdR w A n rs) : RdR w.drew A n rs := h
theorem RdR.drewN (h : RdR w A n rs) (k : Nat) : RdR (w.drewN k) A n rs := h
theorem RdR.alloc (h : RdR w A n rs) (o : Obj) : RdR (w.alloc o) A n rs := h.below ((Below.refl _ _).alloc (Nat.le_refl _) o)
theorem RowR.rd (h : RowR w lo A n rs) : RdR w A n rs :=
  ⟨h.1, h.2.1, fun hn => by
    obtain ⟨g, off, e, _, hg, hc⟩ := h.2.2 hn
    exact ⟨g, off, e, hg, fun j hj => (hc j hj).1⟩⟩
theorem RowR.len (h : RowR w lo A n rs) : rs.length = n := h.1
theorem RowR.le (h : RowR w lo A n rs) : n ≤ 4194304 := h.2.1
theorem RowR.below (h : RowR w lo A n rs) (hb : Below w.heap.size w w') : RowR w' lo A n rs :=
  ⟨h.1, h.2.1, fun hn => by
    obtain ⟨g, off, e, hl, hg, hc⟩ := h.2.2 hn
    exact ⟨g, off, e, hl, Nat.lt_of_lt_of_le hg hb.size, fun j hj => ⟨(hc j hj).1.keep fun o => hb.cell (p := ⟨g, o, none⟩) hg, fun i hi => (hb.frozen (p := ⟨g, off + j * 3 + i, none⟩) hg).trans ((hc j hj).2 i hi)⟩⟩⟩
theorem RowR.drewN (h : RowR w lo A n rs) (k : Nat) : RowR (w.drewN k) lo A n rs := h
theorem RowR.alloc (h : RowR w lo A n rs) (o : Obj) : RowR (w.alloc o) lo A n rs := h.below ((Below.refl _ _).alloc (Nat.le_refl _) o)
end

theorem isFloor_any (x : Int) (w : World) : Calls Try.prog 43 #[.int .i64 x, .int .i64 8] w fun e w' => e = .returned (.bool (inB x 0 7)) ∧ w = w' := by
  by_cases h1 : 0 ≤ x
  · by_cases h2 : x < 8
    · go_enter Try.func43, Try.ntmps43
      go_wp2
      go_ret
      exact ⟨ret_bool (inB_yes (by omega)).symm, rfl⟩
    · go_enter Try.func43, Try.ntmps43
      go_wp2
      go_ret
      exact ⟨ret_bool (inB_no (by omega)).symm, rfl⟩
  · have hd : decide (0 ≤ x) = false := by simp; omega
    go_enter Try.func43, Try.ntmps43
    go_wp2
    go_ret
    exact ⟨ret_bool (inB_no (by omega)).symm, rfl⟩

set_option maxHeartbeats 800000 in
theorem specRightsValid_any (A : Option Addr) (n c : Nat) (rs : List Rt) (w : World) (h : RdR w A n rs) :
    Calls Try.prog 17 #[.slice A n c] w fun e w' => e = .returned (.bool (rightsB rs)) ∧ w = w' := by
  have hn := h.le
  have HL := Lib.hid h.len
  go_enter Try.func17, Try.ntmps17
  go_wp2_with fail
  go_loop [3] (fun i => ∃ k : Nat, k ≤ n ∧ i = .int .i64 k ∧ Hid (∀ j, j < k → rightB (rnth rs j) = true)) (fun i => n - (intOf i).toNat)
  case atStart => exact ⟨0, Nat.zero_le _, rfl, fun j hj => absurd hj (by omega)⟩
  case round =>
    obtain ⟨k, hk, rfl, H⟩ := hrel
    by_cases hlt : k < n
    · obtain ⟨g, off, rfl, hg, hc0, hc1, hc2⟩ := h.at_ hlt
      cases h1 : inB (rnth rs k).f 0 7
      · have HF := Lib.hid (rightsB_bad k (by rw [HL.out]; exact hlt) (rightB_no (.inl h1)))
        generalize (rnth rs k).f = x at hc0 h1
        go_wp2_with fail
        refine (l1In_any _ _ _ _).mono ?_
        rintro e w' ⟨rfl, rfl⟩
        go_wp2_with fail
        go_ret
        exact ⟨ret_bool HF.out.symm, rfl⟩
      · cases h2 : inB (rnth rs k).a 0 23
        · have HF := Lib.hid (rightsB_bad k (by rw [HL.out]; exact hlt) (rightB_no (.inr (.inl h2))))
          go_wp2_with fail
          refine (l1In_any _ _ _ _).mono ?_
          rintro e w' ⟨rfl, rfl⟩
          go_wp2_with fail
          refine (l1In_any _ _ _ _).mono ?_
          rintro e w' ⟨rfl, rfl⟩
          go_wp2_with fail
          go_ret
          exact ⟨ret_bool HF.out.symm, rfl⟩
        · cases h3 : inB (rnth rs k).b 0 23
          · have HF := Lib.hid (rightsB_bad k (by rw [HL.out]; exact hlt) (rightB_no (.inr (.inr h3))))
            go_wp2_with fail
            refine (l1In_any _ _ _ _).mono ?_
            rintro e w' ⟨rfl, rfl⟩
            go_wp2_with fail
            refine (l1In_any _ _ _ _).mono ?_
            rintro e w' ⟨rfl, rfl⟩
            go_wp2_with fail
            refine (l1In_any _ _ _ _).mono ?_
            rintro e w' ⟨rfl, rfl⟩
            go_wp2_with fail
            go_ret
            exact ⟨ret_bool HF.out.symm, rfl⟩
          · have HX := Lib.hid (rightB_true.2 ⟨h1, h2, h3⟩)
            go_wp2_with fail
            refine (l1In_any _ _ _ _).mono ?_
            rintro e w' ⟨rfl, rfl⟩
            go_wp2_with fail
            refine (l1In_any _ _ _ _).mono ?_
            rintro e w' ⟨rfl, rfl⟩
            go_wp2_with fail
            refine (l1In_any _ _ _ _).mono ?_
            rintro e w' ⟨rfl, rfl⟩
            go_wp2_with fail
            go_round
            case rel => exact ⟨k + 1, by omega, by go_num, fun j hj => by
              rcases Nat.lt_or_ge j k with hh | hh
              · exact H.out j hh
              · obtain rfl : j = k := by omega
                exact HX.out⟩
            case measure => simp [intOf]; omega
    · by_cases h6 : (n : Int) ≤ 6
      · have HF := Lib.hid (rightsB_yes (rs := rs) (by rw [HL.out]; omega) (fun j hj => H.out j (by rw [HL.out] at hj; omega)))
        go_wp2_with fail
        go_ret
        exact ⟨ret_bool HF.out.symm, rfl⟩
      · have HF := Lib.hid (rightsB_long (rs := rs) (by rw [HL.out]; omega))
        have d6 : decide ((n : Int) ≤ 6) = false := by simp; omega
        go_wp2_with fail
        go_ret
        exact ⟨ret_bool HF.out.symm, rfl⟩
end Go.Proofs.Ytkelamkbkkcpjaa

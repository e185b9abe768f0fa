/-
  MayCall, MayHours and MayFloors of the program and of the reference.
-/
import Derived.Test.YtkelamkbkkcpjaaRights3
import Derived.Test.YtkelamkbkkcpjaaAppend
namespace Go.Proofs.Ytkelamkbkkcpjaa
open Go.RowKit

def Int' (x : Int) (w : World) (e : Ending) (w' : World) : Prop := e = .returned (.int .i64 x) ∧ Below w.heap.size w w'

set_option maxHeartbeats 1600000 in
theorem implMayCall_any (A : Option Addr) (n c : Nat) (rs : List Rt) (B : Option Addr) (m d : Nat) (op : List Int) (fl hr : Int) (w : World) (h : RdR w A n rs) (h' : Rd w B m op) :
    Calls Try.prog 23 #[.slice A n c, .slice B m d, .int .i64 fl, .int .i64 hr] w (Bool' (mayB rs op fl hr) w) := by
  have hn := h.le
  have HL := Lib.hid h.len
  cases h1 : rightsB rs
  · have HF := Lib.hid (mayB_no (op := op) (fl := fl) (h := hr) (.inl h1))
    go_enter Try.func23, Try.ntmps23
    go_wp2_with fail
    refine (implRightsValid_any A n c rs _ h).mono ?_
    rintro e w1 ⟨rfl, b1⟩
    go_wp2_with fail
    go_ret
    exact ⟨ret_bool HF.out.symm, b1⟩
  cases h2 : inB fl 0 7
  · have HF := Lib.hid (mayB_no (rs := rs) (op := op) (h := hr) (.inr (.inl h2)))
    go_enter Try.func23, Try.ntmps23
    go_wp2_with fail
    refine (implRightsValid_any A n c rs _ h).mono ?_
    rintro e w1 ⟨rfl, b1⟩
    go_wp2_with fail
    refine (isFloor_any _ _).mono ?_
    rintro e w' ⟨rfl, rfl⟩
    go_wp2_with fail
    go_ret
    exact ⟨ret_bool HF.out.symm, b1⟩
  cases h3 : inB hr 0 23
  · have HF := Lib.hid (mayB_no (rs := rs) (op := op) (fl := fl) (.inr (.inr h3)))
    go_enter Try.func23, Try.ntmps23
    go_wp2_with fail
    refine (implRightsValid_any A n c rs _ h).mono ?_
    rintro e w1 ⟨rfl, b1⟩
    go_wp2_with fail
    refine (isFloor_any _ _).mono ?_
    rintro e w' ⟨rfl, rfl⟩
    go_wp2_with fail
    refine (hourValid_any _ _).mono ?_
    rintro e w' ⟨rfl, rfl⟩
    go_wp2_with fail
    go_ret
    exact ⟨ret_bool HF.out.symm, b1⟩
  have HE := Lib.hid (mayB_yes (op := op) h1 h2 h3)
  cases h4 : hasB op fl
  · go_enter Try.func23, Try.ntmps23
    go_wp2_with fail
    refine (implRightsValid_any A n c rs _ h).mono ?_
    rintro e w1 ⟨rfl, b1⟩
    go_wp2_with fail
    refine (isFloor_any _ _).mono ?_
    rintro e w' ⟨rfl, rfl⟩
    go_wp2_with fail
    refine (hourValid_any _ _).mono ?_
    rintro e w' ⟨rfl, rfl⟩
    go_wp2_with fail
    refine (contains_any B m d op fl _ (h'.below b1)).mono ?_
    rintro e w' ⟨rfl, rfl⟩
    go_wp2_with fail
    have H1 := Lib.hid h1
    have H2 := Lib.hid h2
    have H3 := Lib.hid h3
    have H4 := Lib.hid h4
    clear h1 h2 h3 h4
    go_loopw [29] (fun i wr => ∃ k : Nat, k ≤ n ∧ i = .int .i64 k ∧ Below w.heap.size w wr ∧ Hid (∀ j, j < k → forB fl hr (rnth rs j) = false)) (fun i _ => n - (intOf i).toNat)
    case atStart => exact ⟨0, Nat.zero_le _, rfl, b1, fun j hj => absurd hj (by omega)⟩
    case round =>
      obtain ⟨k, hk, rfl, hb, H⟩ := hrel
      by_cases hlt : k < n
      · obtain ⟨g, off, rfl, hg, hc0, hc1, hc2⟩ := (h.below hb).at_ hlt
        have hb1 : Below w.heap.size w (wr.alloc (rightBox (rnth rs k))) := hb.alloc hb.size _
        cases e1 : ((rnth rs k).f == fl)
        · have HN : Hid (forB fl hr (rnth rs k) = false) := by show _ = _; unfold forB; rw [e1]; rfl
          go_wp2_with fail
          go_roundw
          case rel => exact ⟨k + 1, by omega, by go_num, hb1, fun j hj => by
            rcases Nat.lt_or_ge j k with hh | hh
            · exact H.out j hh
            · obtain rfl : j = k := by omega
              exact HN.out⟩
          case measure => simp [intOf]; omega
        · cases e2 : holdsB (rnth rs k).a (rnth rs k).b hr
          · have HN : Hid (forB fl hr (rnth rs k) = false) := by show _ = _; unfold forB; rw [e1, e2]; rfl
            go_wp2_with fail
            refine (implRightHolds_any _ _ _ _ _).mono ?_
            rintro e w3 ⟨rfl, b3⟩
            have hb3 := below_step hb1 b3
            go_wp2_with fail
            go_roundw
            case rel => exact ⟨k + 1, by omega, by go_num, hb3, fun j hj => by
              rcases Nat.lt_or_ge j k with hh | hh
              · exact H.out j hh
              · obtain rfl : j = k := by omega
                exact HN.out⟩
            case measure => simp [intOf]; omega
          · have HF : Hid (mayB rs op fl hr = true) := by show _ = _; rw [HE.out, H4.out, anyB_at k (by rw [HL.out]; exact hlt) (by unfold forB; rw [e1, e2]; rfl)]; rfl
            go_wp2_with fail
            refine (implRightHolds_any _ _ _ _ _).mono ?_
            rintro e w3 ⟨rfl, b3⟩
            have hb3 := below_step hb1 b3
            go_wp2_with fail
            go_ret
            exact ⟨ret_bool HF.out.symm, hb3⟩
      · have HF : Hid (mayB rs op fl hr = false) := by show _ = _; rw [HE.out, H4.out, anyB_no (fun j hj => H.out j (by rw [HL.out] at hj; omega))]; rfl
        go_wp2_with fail
        go_ret
        exact ⟨ret_bool HF.out.symm, hb⟩
  · have HF : Hid (mayB rs op fl hr = true) := by show _ = _; rw [HE.out, h4]; rfl
    go_enter Try.func23, Try.ntmps23
    go_wp2_with fail
    refine (implRightsValid_any A n c rs _ h).mono ?_
    rintro e w1 ⟨rfl, b1⟩
    go_wp2_with fail
    refine (isFloor_any _ _).mono ?_
    rintro e w' ⟨rfl, rfl⟩
    go_wp2_with fail
    refine (hourValid_any _ _).mono ?_
    rintro e w' ⟨rfl, rfl⟩
    go_wp2_with fail
    refine (contains_any B m d op fl _ (h'.below b1)).mono ?_
    rintro e w' ⟨rfl, rfl⟩
    go_wp2_with fail
    go_ret
    exact ⟨ret_bool HF.out.symm, b1⟩

set_option maxHeartbeats 1600000 in
theorem specMayCall_any (A : Option Addr) (n c : Nat) (rs : List Rt) (B : Option Addr) (m d : Nat) (op : List Int) (fl hr : Int) (w : World) (h : RdR w A n rs) (h' : Rd w B m op) :
    Calls Try.prog 21 #[.slice A n c, .slice B m d, .int .i64 fl, .int .i64 hr] w (Bool' (mayB rs op fl hr) w) := by
  have hn := h.le
  have HL := Lib.hid h.len
  cases h1 : rightsB rs
  · have HF := Lib.hid (mayB_no (op := op) (fl := fl) (h := hr) (.inl h1))
    go_enter Try.func21, Try.ntmps21
    go_wp2_with fail
    refine (specRightsValid_any A n c rs _ h).mono ?_
    rintro e w1 ⟨rfl, rfl⟩
    go_wp2_with fail
    go_ret
    exact ⟨ret_bool HF.out.symm, Below.refl _ _⟩
  cases h2 : inB fl 0 7
  · have HF := Lib.hid (mayB_no (rs := rs) (op := op) (h := hr) (.inr (.inl h2)))
    go_enter Try.func21, Try.ntmps21
    go_wp2_with fail
    refine (specRightsValid_any A n c rs _ h).mono ?_
    rintro e w1 ⟨rfl, rfl⟩
    go_wp2_with fail
    refine (l1In_any _ _ _ _).mono ?_
    rintro e w' ⟨rfl, rfl⟩
    go_wp2_with fail
    go_ret
    exact ⟨ret_bool HF.out.symm, Below.refl _ _⟩
  cases h3 : inB hr 0 23
  · have HF := Lib.hid (mayB_no (rs := rs) (op := op) (fl := fl) (.inr (.inr h3)))
    go_enter Try.func21, Try.ntmps21
    go_wp2_with fail
    refine (specRightsValid_any A n c rs _ h).mono ?_
    rintro e w1 ⟨rfl, rfl⟩
    go_wp2_with fail
    refine (l1In_any _ _ _ _).mono ?_
    rintro e w' ⟨rfl, rfl⟩
    go_wp2_with fail
    refine (l1In_any _ _ _ _).mono ?_
    rintro e w' ⟨rfl, rfl⟩
    go_wp2_with fail
    go_ret
    exact ⟨ret_bool HF.out.symm, Below.refl _ _⟩
  have HE := Lib.hid (mayB_yes (op := op) h1 h2 h3)
  go_enter Try.func21, Try.ntmps21
  go_wp2_with fail
  refine (specRightsValid_any A n c rs _ h).mono ?_
  rintro e w1 ⟨rfl, rfl⟩
  go_wp2_with fail
  refine (l1In_any _ _ _ _).mono ?_
  rintro e w' ⟨rfl, rfl⟩
  go_wp2_with fail
  refine (l1In_any _ _ _ _).mono ?_
  rintro e w' ⟨rfl, rfl⟩
  go_wp2_with fail
  refine (l1Has_any B m d op fl _ h').mono ?_
  rintro e w' ⟨rfl, rfl⟩
  have H1 := Lib.hid h1
  have H2 := Lib.hid h2
  have H3 := Lib.hid h3
  go_wp2_with fail
  clear h1 h2 h3
  go_loopw [9, 10] (fun o i wr => ∃ (k : Nat) (b : Bool), k ≤ n ∧ i = .int .i64 k ∧ o = .bool b ∧ Below w.heap.size w wr ∧ Hid (b = (hasB op fl || anyB (rs.take k) fl hr))) (fun _ i _ => n - (intOf i).toNat)
  case atStart => exact ⟨0, hasB op fl, Nat.zero_le _, rfl, rfl, Below.refl _ _, by show _ = _; simp [anyB]⟩
  case round =>
    obtain ⟨k, b, hk, rfl, rfl, hb, H⟩ := hrel
    by_cases hlt : k < n
    · obtain ⟨g, off, rfl, hg, hc0, hc1, hc2⟩ := (h.below hb).at_ hlt
      have HS := Lib.hid (anyB_snoc rs fl hr k (by rw [HL.out]; exact hlt))
      cases b
      · cases e1 : ((rnth rs k).f == fl)
        · have HN : Hid (false = (hasB op fl || anyB (rs.take (k + 1)) fl hr)) := by
            have h0 := H.out
            show _ = _
            rw [HS.out]
            unfold forB
            rw [e1, ← Bool.or_assoc, ← h0]; rfl
          go_wp2_with fail
          go_roundw
          case rel => exact ⟨k + 1, false, by omega, by go_num, rfl, hb, HN⟩
          case measure => simp [intOf]; omega
        · have HN : Hid (holdsB (rnth rs k).a (rnth rs k).b hr = (hasB op fl || anyB (rs.take (k + 1)) fl hr)) := by
            have h0 := H.out
            show _ = _
            rw [HS.out]
            unfold forB
            rw [e1, ← Bool.or_assoc, ← h0]; rfl
          go_wp2_with fail
          refine (specRightHolds_any _ _ _ _ _).mono ?_
          rintro e w3 ⟨rfl, b3⟩
          have hb3 := below_step hb b3
          generalize holdsB (rnth rs k).a (rnth rs k).b hr = bb at *
          go_wp2_with fail
          go_roundw
          case rel => exact ⟨k + 1, bb, by omega, by go_num, rfl, hb3, HN⟩
          case measure => simp [intOf]; omega
      · have HN : Hid (true = (hasB op fl || anyB (rs.take (k + 1)) fl hr)) := by
          have h0 := H.out
          show _ = _
          rw [HS.out, ← Bool.or_assoc, ← h0]; rfl
        go_wp2_with fail
        go_roundw
        case rel => exact ⟨k + 1, true, by omega, by go_num, rfl, hb, HN⟩
        case measure => simp [intOf]; omega
    · have HF : Hid (b = mayB rs op fl hr) := by show _ = _; rw [H.out, HE.out, List.take_of_length_le (by rw [HL.out]; omega)]
      go_wp2_with fail
      go_ret
      exact ⟨ret_bool HF.out, hb⟩
end Go.Proofs.Ytkelamkbkkcpjaa

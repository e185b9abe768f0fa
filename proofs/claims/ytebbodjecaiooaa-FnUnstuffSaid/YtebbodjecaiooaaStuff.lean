/-
  Texts and rows of bytes; Stuff of the program.
-/
import Derived.Test.YtebbodjecaiooaaStuffPlain
import Derived.Test.YtebbodjecaiooaaAppendB
import Derived.Test.YtebbodjecaiooaaRun
import Derived.Laws.IdiomStrings
import Derived.Lib.BufferRead
namespace Go.Proofs.Ytebbodjecaiooaa
open Go.RowKit Runs

theorem bl_inj {a b : ByteArray} (h : bl a = bl b) : a = b := by
  have h1 : a.data.toList = b.data.toList := by
    unfold bl at h
    exact List.map_inj_right (f := fun c : UInt8 => (c.toNat : Int)) (fun x y hxy => UInt8.toNat_inj.1 (Int.ofNat.inj hxy)) |>.1 h
  have h2 : a.data = b.data := Array.toList_inj.1 h1
  cases a; cases b; simp_all
theorem bl_append (a b : ByteArray) : bl (a ++ b) = bl a ++ bl b := by unfold bl; simp
theorem bl_empty : bl ⟨#[]⟩ = [] := rfl
theorem bl_piece (s : ByteArray) (k : Nat) (hk : k < s.size) : bl (s.extract k (k + 1)) = [nth (bl s) k] := by
  have hl : (bl s).length = s.size := bl_len s
  have : bl (s.extract k (k + 1)) = ((bl s).take (k + 1)).drop k := by
    unfold bl
    rw [← List.map_take, ← List.map_drop]
    congr 1
    simp [ByteArray.data_extract, List.drop_take]
  rw [this, take_succ_nth (bl s) k (by omega), List.drop_append_of_le_length (by simp; omega), List.drop_of_length_le (by simp; omega)]
  rfl
/-- the text of bytes -/
def mk (l : List Int) : ByteArray := ⟨(l.map fun c : Int => UInt8.ofNat c.toNat).toArray⟩
theorem bl_mk (l : List Int) (h : ∀ x ∈ l, 0 ≤ x ∧ x ≤ 255) : bl (mk l) = l := by
  unfold bl mk
  simp only [List.map_map]
  conv => rhs; rw [← List.map_id l]
  apply List.map_congr_left
  intro x hx
  have := h x hx
  show (((UInt8.ofNat x.toNat).toNat : Nat) : Int) = x
  rw [UInt8.toNat_ofNat']
  omega
theorem bytes_ok (l : List Int) (h : l.all bitB = true) : ∀ x ∈ l, 0 ≤ x ∧ x ≤ 255 := fun x hx => by
  have := List.all_eq_true.1 h x hx
  unfold bitB at this
  simp at this
  omega
/-- a row's cell -/
theorem OwnB.at_ {w : World} {base n c k : Nat} {A : Option Addr} {xs : List Int} (h : OwnB w base A n c xs) (hk : k < n) : ∃ g, A = some ⟨g, 0, none⟩ ∧ w.cell? ⟨g, k, none⟩ = some (.int .u8 (nth xs k)) := by
  obtain ⟨g, cap, hv, hb, hg⟩ := h.1.form (by omega)
  have hA : A = some ⟨g, 0, none⟩ := by injection hv
  subst hA
  refine ⟨g, rfl, ?_⟩
  have hl := h.len
  have hc := h.1.cells (g := g) rfl k (.int .u8 (nth xs k)) (by rw [List.getElem?_map, nth_get xs k (by omega), List.getElem?_eq_getElem (by omega)]; rfl)
  have hadd : (⟨g, 0, none⟩ : Addr).add k = ⟨g, k, none⟩ := by unfold Addr.add; split <;> simp_all
  rwa [hadd] at hc
/-- a row turned into a text -/
theorem conv_own {w : World} {base n c : Nat} {A : Option Addr} {xs : List Int} (h : OwnB w base A n c xs) (hx : ∀ x ∈ xs, 0 ≤ x ∧ x ≤ 255) :
    (convert 27 9 (.slice A n c)).run Try.prog w = .ok (.string (mk xs)) w := by
  have hl := h.len
  rcases Nat.eq_zero_or_pos n with h0 | h0
  · subst h0
    have hx0 : xs = [] := List.eq_nil_of_length_eq_zero hl
    subst hx0
    rcases h.1.2 with ⟨hv, _⟩ | ⟨g, cap, cur, hv, _⟩
    · injection hv with h1 h2 h3
      subst h1 h3
      exact Lib.run_convert_nil_bytes w _ _ _ 0 Try.underlying27 Try.underlying5 Try.underlying9
    · injection hv with h1 h2 h3
      subst h1 h3
      exact run_convert_bytes_back w 27 9 5 ⟨g, 0, none⟩ c [] Try.underlying27 Try.underlying5 Try.underlying9 (fun j hj => absurd hj (by simp))
  · obtain ⟨g, rfl, _⟩ := h.at_ h0
    have hn : (xs.map fun c : Int => UInt8.ofNat c.toNat).length = n := by simp [hl]
    have hr := run_convert_bytes_back (P := Try.prog) w 27 9 5 ⟨g, 0, none⟩ c (xs.map fun c : Int => UInt8.ofNat c.toNat) Try.underlying27 Try.underlying5 Try.underlying9 (fun j hj => by
      have hj' : j < n := by omega
      obtain ⟨g', e, hc⟩ := h.at_ hj'
      injection e with e
      injection e with e1 _
      subst e1
      have hadd : (⟨g, 0, none⟩ : Addr).add j = ⟨g, j, none⟩ := by unfold Addr.add; split <;> simp_all
      rw [hadd, hc, nth_get xs j (by omega)]
      have hb := hx xs[j] (List.getElem_mem _)
      simp [UInt8.toNat_ofNat']
      omega)
    rw [hn] at hr
    exact hr

/-- the bits of a message on the wire; nothing for other texts -/
def stuffZ (l : List Int) : List Int := if bitsB l = true then stuffL l else []
theorem stuffZ_yes {l : List Int} (h : bitsB l = true) : stuffZ l = stuffL l := by unfold stuffZ; rw [if_pos h]
theorem stuffZ_no {l : List Int} (h : bitsB l = false) : stuffZ l = [] := by unfold stuffZ; rw [h]; rfl
/-- what Stuff leaves -/
def Stuffed (l : List Int) (w : World) (e : Ending) (w' : World) : Prop := ∃ o : ByteArray, e = .returned (.string o) ∧ bl o = stuffZ l ∧ Below w.heap.size w w'

theorem otherBit_any (c : Int) (w : World) : Calls Try.prog 26 #[.int .u8 c] w fun e w' => e = .returned (.int .u8 (otherZ c)) ∧ w = w' := by
  by_cases h : c = 48
  · subst h
    go_enter Try.func26, Try.ntmps26
    go_wp2
    go_ret
    exact ⟨ret_int rfl, rfl⟩
  · have hb : (c == 48) = false := by simp [h]
    have HE : Hid (otherZ c = 48) := by show _ = _; unfold otherZ; rw [if_neg h]
    clear h
    go_enter Try.func26, Try.ntmps26
    go_wp2
    go_ret
    exact ⟨ret_int HE.out.symm, rfl⟩

theorem stuff_bits (l : List Int) (h : l.all bitB = true) : (stuffL l).all bitB = true := by
  induction l using snoc_ind with
  | h0 => rfl
  | hs l c ih =>
    rw [List.all_append, Bool.and_eq_true] at h
    have hc : bitB c = true := by simpa using h.2
    have ho : bitB (otherZ c) = true := by unfold otherZ; split <;> rfl
    rw [stuffL_snoc]
    unfold stuffStep
    split <;> simp [List.all_append, ih h.1, hc, ho]
theorem stuff_take_succ (l : List Int) (k : Nat) (hk : k < l.length) : stuffL (l.take (k + 1)) = stuffStep (stuffL (l.take k)) (nth l k) := by rw [take_succ_nth l k hk, stuffL_snoc]
theorem endRun_zero {l : List Int} (h : endRun l = 0) : l = [] := by
  rcases List.eq_nil_or_concat l with h1 | ⟨m, c, h1⟩
  · exact h1
  · rw [List.concat_eq_append] at h1
    have := endRun_pos m c
    rw [← h1] at this; omega
theorem last_split (l : List Int) (p : Nat) (h : l.length = p + 1) : l = l.take p ++ [nth l p] := by
  have := take_succ_nth l p (by omega)
  rw [← this, List.take_of_length_le (by omega)]
theorem endRun_same {l : List Int} {p : Nat} (h : l.length = p + 1) {c : Int} (hc : nth l p = c) : endRun (l ++ [c]) = endRun l + 1 := by
  have e := last_split l p h
  rw [hc] at e
  rw [e, endRun_snoc, if_pos rfl]
theorem endRun_diff {l : List Int} {p : Nat} (h : l.length = p + 1) {c : Int} (hc : nth l p ≠ c) : endRun (l ++ [c]) = 1 := by
  have e := last_split l p h
  rw [e, endRun_snoc, if_neg (Ne.symm hc)]

set_option maxHeartbeats 3200000 in
theorem implStuff_in (s : ByteArray) (w : World) (hv : bitsB (bl s) = true) :
    Calls Try.prog 16 #[.string s] w (Stuffed (bl s) w) := by
  have HL := Lib.hid (bl_len s)
  have h40 : s.size ≤ 40 := by rw [← HL.out]; exact (bitsB_true.1 hv).1
  have HA := Lib.hid (bitsB_true.1 hv).2
  have HZ := Lib.hid (stuffZ_yes hv)
  have hg := bl_get s
  go_enter Try.func16, Try.ntmps16
  go_wp2_with fail
  refine (implBitsValid_any s _ (by omega)).mono ?_
  rintro e w' ⟨rfl, rfl⟩
  go_wp2_with fail
  have HV := Lib.hid hv
  clear hv
  go_loopw [3, 4, 5] (fun v r i wr => ∃ (k n c x : Nat) (A : Option Addr), k ≤ s.size ∧ i = .int .i64 k ∧ r = .int .i64 (x : Int) ∧ v = .slice A n c ∧ n ≤ 2 * k ∧ x ≤ 3 ∧ OwnB wr w.heap.size A n c (stuffL ((bl s).take k)) ∧ Below w.heap.size w wr ∧ Hid (x = endRun (stuffL ((bl s).take k)))) (fun _ _ i _ => s.size - (intOf i).toNat)
  case atStart => exact ⟨0, 0, 0, 0, none, Nat.zero_le _, rfl, rfl, rfl, by omega, by omega, OwnB.nil_ _ _, Below.refl _ _, rfl⟩
  case round =>
    obtain ⟨k, n, c, x, A, hk, rfl, rfl, rfl, hn, hx3, hown, hb, HX⟩ := hrel
    have hbs := hb.size
    by_cases hlt : k < s.size
    · have hkl : k < (bl s).length := by rw [HL.out]; exact hlt
      have HS := Lib.hid (stuff_take_succ (bl s) k hkl)
      have hlen2 := (stuff_share ((bl s).take (k + 1))).2.2
      rw [List.length_take, HL.out] at hlen2
      have HLEN2 : Hid ((stuffL ((bl s).take (k + 1))).length ≤ 2 * (k + 1)) := by show _ ≤ _; omega
      have i1 : (0 : Int) ≤ (k : Int) := by omega
      have i2 : (k : Int) < (s.size : Int) := by omega
      clear hkl hlen2
      have HLX := Lib.hid hown.len
      generalize stuffL ((bl s).take k) = xs at hown HX HS HLX
      have hcase : (x = 0 ∧ n = 0 ∧ xs = [] ∧ endRun (xs ++ [nth (bl s) k]) = 1) ∨ (0 < x ∧ ∃ p, n = p + 1 ∧ ((nth xs p = nth (bl s) k ∧ endRun (xs ++ [nth (bl s) k]) = x + 1) ∨ (nth xs p ≠ nth (bl s) k ∧ endRun (xs ++ [nth (bl s) k]) = 1))) := by
        rcases Nat.eq_zero_or_pos x with h0 | h0
        · have hxs := endRun_zero (HX.out.symm.trans h0)
          subst hxs
          exact .inl ⟨h0, by have := HLX.out; simpa using this.symm, rfl, rfl⟩
        · right
          have hne : 0 < n := by
            rcases Nat.eq_zero_or_pos n with hn0 | hn0
            · have : xs = [] := List.eq_nil_of_length_eq_zero (HLX.out.trans hn0)
              have h1 := HX.out
              rw [this] at h1
              have : endRun [] = 0 := rfl
              omega
            · exact hn0
          refine ⟨h0, n - 1, by omega, ?_⟩
          have hl : xs.length = (n - 1) + 1 := by rw [HLX.out]; omega
          by_cases he : nth xs (n - 1) = nth (bl s) k
          · exact .inl ⟨he, by rw [endRun_same hl he, HX.out]⟩
          · exact .inr ⟨he, endRun_diff hl he⟩
      have HCASE := Lib.hid hcase
      clear hcase
      rcases HCASE.out with ⟨hx0, hn0, hxs, her⟩ | ⟨hx0, p, hnp, hh⟩
      · have dx : decide ((0 : Int) < (x : Int)) = false := by simp; omega
        have dx' : decide (0 < x) = false := by simp; omega
        have h4 : ((x : Int) + 1 == 4) = false := by simp; omega
        have HR : Hid (x + 1 = endRun (stuffL ((bl s).take (k + 1)))) := by show _ = _; rw [HS.out, step_no (by omega), her]; omega
        have HN : Hid (stuffL ((bl s).take (k + 1)) = xs ++ [nth (bl s) k]) := by show _ = _; rw [HS.out, step_no (by omega)]
        have hx31 : x + 1 ≤ 3 := by omega
        clear hx0 hn0 hxs her
        go_wp2_with fail
        go_quiet (fail)
        go_wp2_with (at_builtin; refine wpList_append_byte _ rfl (.tmp 29) (.tmp 33) rfl w.heap.size A n c xs rfl ((hown.drewN nq).alloc _) wr.heap.size _ rfl (cell_oneB _ _ rfl _ _) (by omega) (size_oneB _ _ hbs _) ?_; intro g1 cap w1 ho1 hgrow1 hbel1 hlt1)
        have hb1 : Below w.heap.size w w1 := ((below_drewN_ hb nq).alloc hbs _).trans (hbel1 _ (Nat.le_refl _))
        rw [← HN.out] at ho1
        have hn2 : n + 1 ≤ 2 * (k + 1) := by omega
        clear hgrow1 hbel1
        go_wp2
        go_roundw
        case rel => exact ⟨k + 1, n + 1, cap, x + 1, _, by omega, by go_num, by go_num, rfl, hn2, hx31, ho1, hb1, HR⟩
        case measure => simp [intOf]; omega
      · subst hnp
        obtain ⟨g, rfl, hcell⟩ := hown.at_ (show p < p + 1 by omega)
        have dx : decide ((0 : Int) < (x : Int)) = true := by simp; omega
        have e2 : IntKind.i64.wrap ((p : Int) + 1 - 1) = (p : Int) := by rw [IntWalk.i64_in _ (by omega)]; omega
        have i3 : (0 : Int) ≤ (p : Int) := by omega
        have i4 : (p : Int) < (p : Int) + 1 := by omega
        rcases hh with ⟨he, her⟩ | ⟨he, her⟩
        · have hne : (nth xs p != nth (bl s) k) = false := by simp [he]
          clear he
          by_cases hx4 : x + 1 = 4
          · have h4 : ((x : Int) + 1 == 4) = true := by simp; omega
            have HR : Hid (1 = endRun (stuffL ((bl s).take (k + 1)))) := by show _ = _; rw [HS.out, step_yes (by omega), endRun_other _ _ _ (other_ne _)]
            have HN : Hid (stuffL ((bl s).take (k + 1)) = xs ++ [nth (bl s) k] ++ [otherZ (nth (bl s) k)]) := by show _ = _; rw [HS.out, step_yes (by omega)]
            have hn2 : p + 1 + 1 + 1 ≤ 2 * (k + 1) := by have := HLEN2.out; rw [HN.out] at this; simp at this; have := HLX.out; omega
            clear hx4 her
            go_wp2_with fail
            go_quiet (fail)
            clear e2
            go_wp2_with (at_builtin; refine wpList_append_byte _ rfl (.tmp 29) (.tmp 33) rfl w.heap.size _ (p + 1) c xs rfl ((hown.drewN nq).alloc _) wr.heap.size _ rfl (cell_oneB _ _ rfl _ _) (by omega) (size_oneB _ _ hbs _) ?_; intro g1 cap w1 ho1 hgrow1 hbel1 hlt1)
            have hb1 : Below w.heap.size w w1 := ((below_drewN_ hb nq).alloc hbs _).trans (hbel1 _ (Nat.le_refl _))
            have hbs1 := hb1.size
            clear hgrow1 hbel1
            refine (otherBit_any _ _).mono ?_
            rintro e w' ⟨rfl, rfl⟩
            go_wp2_with (at_builtin; refine wpList_append_byte _ rfl (.tmp 39) (.tmp 44) rfl w.heap.size _ (p + 1 + 1) cap (xs ++ [nth (bl s) k]) rfl (ho1.alloc _) w1.heap.size _ rfl (cell_oneB _ _ rfl _ _) (by omega) (size_oneB _ _ hbs1 _) ?_; intro g2 cap2 w2 ho2 hgrow2 hbel2 hlt2)
            have hb2 : Below w.heap.size w w2 := (hb1.alloc hbs1 _).trans (hbel2 _ (Nat.le_refl _))
            rw [← HN.out] at ho2
            clear hgrow2 hbel2
            go_wp2
            go_roundw
            case rel => exact ⟨k + 1, p + 1 + 1 + 1, cap2, 1, _, by omega, by go_num, rfl, rfl, hn2, by omega, ho2, hb2, HR⟩
            case measure => simp [intOf]; omega
          · have h4 : ((x : Int) + 1 == 4) = false := by simp; omega
            have HR : Hid (x + 1 = endRun (stuffL ((bl s).take (k + 1)))) := by show _ = _; rw [HS.out, step_no (by omega), her]
            have HN : Hid (stuffL ((bl s).take (k + 1)) = xs ++ [nth (bl s) k]) := by show _ = _; rw [HS.out, step_no (by omega)]
            have hx3' : x + 1 ≤ 3 := by omega
            clear hx4 her
            go_wp2_with fail
            go_quiet (fail)
            clear e2
            go_wp2_with (at_builtin; refine wpList_append_byte _ rfl (.tmp 29) (.tmp 33) rfl w.heap.size _ (p + 1) c xs rfl ((hown.drewN nq).alloc _) wr.heap.size _ rfl (cell_oneB _ _ rfl _ _) (by omega) (size_oneB _ _ hbs _) ?_; intro g1 cap w1 ho1 hgrow1 hbel1 hlt1)
            have hb1 : Below w.heap.size w w1 := ((below_drewN_ hb nq).alloc hbs _).trans (hbel1 _ (Nat.le_refl _))
            rw [← HN.out] at ho1
            clear hgrow1 hbel1
            go_wp2
            go_roundw
            case rel => exact ⟨k + 1, p + 1 + 1, cap, x + 1, _, by omega, by go_num, by go_num, rfl, by omega, hx3', ho1, hb1, HR⟩
            case measure => simp [intOf]; omega
        · have hne : (nth xs p != nth (bl s) k) = true := by simp [he]
          have HR : Hid (1 = endRun (stuffL ((bl s).take (k + 1)))) := by show _ = _; rw [HS.out, step_no (by omega), her]
          have HN : Hid (stuffL ((bl s).take (k + 1)) = xs ++ [nth (bl s) k]) := by show _ = _; rw [HS.out, step_no (by omega)]
          clear he her
          go_wp2_with fail
          go_quiet (fail)
          clear e2
          go_wp2_with (at_builtin; refine wpList_append_byte _ rfl (.tmp 29) (.tmp 33) rfl w.heap.size _ (p + 1) c xs rfl ((hown.drewN nq).alloc _) wr.heap.size _ rfl (cell_oneB _ _ rfl _ _) (by omega) (size_oneB _ _ hbs _) ?_; intro g1 cap w1 ho1 hgrow1 hbel1 hlt1)
          have hb1 : Below w.heap.size w w1 := ((below_drewN_ hb nq).alloc hbs _).trans (hbel1 _ (Nat.le_refl _))
          rw [← HN.out] at ho1
          clear hgrow1 hbel1
          go_wp2
          go_roundw
          case rel => exact ⟨k + 1, p + 1 + 1, cap, 1, _, by omega, by go_num, rfl, rfl, by omega, by omega, ho1, hb1, HR⟩
          case measure => simp [intOf]; omega
    · obtain rfl : k = s.size := by omega
      have hfull : (bl s).take s.size = bl s := List.take_of_length_le (by rw [HL.out]; omega)
      rw [hfull] at hown
      have hby := bytes_ok _ (stuff_bits (bl s) HA.out)
      have hcv := conv_own hown hby
      have HBM := Lib.hid (bl_mk _ hby)
      clear hfull hby
      go_wp2
      go_ret
      exact ⟨_, rfl, by rw [HBM.out, HZ.out], hb⟩
theorem implStuff_any (s : ByteArray) (w : World) (hs : s.size ≤ 4194304) : Calls Try.prog 16 #[.string s] w (Stuffed (bl s) w) := by
  cases hv : bitsB (bl s)
  · have HZ := Lib.hid (stuffZ_no hv)
    go_enter Try.func16, Try.ntmps16
    go_wp2_with fail
    refine (implBitsValid_any s _ hs).mono ?_
    rintro e w' ⟨rfl, rfl⟩
    go_wp2_with fail
    go_ret
    exact ⟨_, rfl, by rw [HZ.out]; rfl, Below.refl _ _⟩
  · exact implStuff_in s w hv
end Go.Proofs.Ytebbodjecaiooaa

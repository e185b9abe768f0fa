/-
  RingRead of the program and of the reference.
-/
import Derived.Test.YtjhnpnmpnmmpbaaRingLaws1
import Derived.Test.YtjhnpnmpnmmpbaaClone
namespace Go.Proofs.Ytjhnpnmpnmmpbaa
open Go.RowKit

/-- a list and a number -/
def ReadGot (w : World) (ys : List Int) (z : Int) (e : Ending) (w' : World) : Prop :=
  ∃ (A : Option Addr) (n c : Nat), e = .returned (.tuple #[.slice A n c, .int .i64 z]) ∧ n ≤ c ∧ Row w' w.heap.size A n ys ∧ Below w.heap.size w w'

theorem ret2_int {v : Value} {a b : Int} (h : a = b) : Ending.returned (.tuple #[v, .int .i64 a]) = .returned (.tuple #[v, .int .i64 b]) := by rw [h]
/-- a list without its first k elements -/
theorem Rd.drop {w : World} {g off n k : Nat} {xs : List Int} (h : Rd w (some ⟨g, off, none⟩) n xs) (hk : k ≤ n) : Rd w (some ⟨g, off + k, none⟩) (n - k) (xs.drop k) := by
  refine ⟨by rw [List.length_drop, h.len], by have := h.2.1; omega, fun h0 => ?_⟩
  obtain ⟨g', off', e, hg, hc⟩ := h.2.2 (by omega)
  injection e with e
  injection e with e1 e2
  subst e1 e2
  refine ⟨g, off + k, rfl, hg, fun j hj => ?_⟩
  have := hc (k + j) (by omega)
  rw [Nat.add_assoc, this]
  congr 2
  unfold nth
  rw [List.getD, List.getD, List.getElem?_drop]

theorem Rd.cut {w : World} {A : Option Addr} {n k : Nat} {xs : List Int} (h : Rd w A n xs) (hk : k ≤ n) : Rd w (A.map fun x => x.add k) (n - k) (xs.drop k) := by
  rcases Nat.eq_or_lt_of_le hk with he | hlt
  · subst he
    rw [Nat.sub_self, List.drop_of_length_le (by rw [h.len]; exact Nat.le_refl _)]; exact Rd.nil_
  · obtain ⟨g, off, rfl, _, _⟩ := h.2.2 (by omega)
    have hadd : (⟨g, off, none⟩ : Addr).add k = ⟨g, off + k, none⟩ := by unfold Addr.add; split <;> simp_all
    have := h.drop hk
    rw [Option.map_some, hadd]; exact this

theorem Rd.cutIf {w : World} {A : Option Addr} {n k c : Nat} {xs : List Int} (h : Rd w A n xs) (hk : k ≤ n) (hnc : n ≤ c) : Rd w (if c = k then A else A.map fun x => x.add k) (n - k) (xs.drop k) := by
  by_cases hc : c = k
  · rw [show n - k = 0 by omega, List.drop_of_length_le (by rw [h.len]; omega)]; exact Rd.nil_
  · rw [if_neg hc]; exact h.cut hk

set_option maxHeartbeats 1600000 in
theorem implRingRead_any (f : Int) (A : Option Addr) (n c : Nat) (xs : List Int) (m : Int) (w : World) (h : Rd w A n xs) (hnc : n ≤ c) (hA : A = none → c = 0) (hm : -9223372036854775808 ≤ m) (hm' : m ≤ 9223372036854775807) :
    Calls Try.prog 21 #[.agg #[.int .i64 f, .slice A n c], .int .i64 m] w (ReadGot w (readL f xs m) (readZ f xs m)) := by
  have hn := h.le
  have HL := Lib.hid h.len
  have hb0 := below_box w (ringBox f A n c)
  have hr := h.alloc (ringBox f A n c)
  have hx0 := Bx.new w 27 f A n c
  cases hv : ringB f xs
  · have HF := Lib.hid (read_no (readB_no (f := f) (m := m) (xs := xs) (by rw [hv]; simp)))
    go_enter Try.func21, Try.ntmps21
    go_wp2_with fail
    refine (implRingValid_any f A n c xs _ hr).mono ?_
    rintro e w1 ⟨rfl, b1⟩
    go_wp2_with fail
    go_ret2
    exact ⟨none, 0, 0, ret2_int HF.out.2.symm, Nat.le_refl _, by rw [HF.out.1]; exact Row.nil_, below_step hb0 b1⟩
  obtain ⟨v1, v2, v3, _, _⟩ := ringB_true.1 hv
  rw [HL.out] at v3
  by_cases hm0 : m < 0
  · have HF := Lib.hid (read_no (readB_no (f := f) (m := m) (xs := xs) (by omega)))
    go_enter Try.func21, Try.ntmps21
    go_wp2_with fail
    refine (implRingValid_any f A n c xs _ hr).mono ?_
    rintro e w1 ⟨rfl, b1⟩
    go_wp2_with fail
    go_ret2
    exact ⟨none, 0, 0, ret2_int HF.out.2.symm, Nat.le_refl _, by rw [HF.out.1]; exact Row.nil_, below_step hb0 b1⟩
  have d0 : decide (m < 0) = false := by simp; omega
  have HNX := Lib.hid (nextZ_yes hv)
  by_cases hmn : f + n < m
  · have HF := Lib.hid (read_no (readB_no (f := f) (m := m) (xs := xs) (by rw [HL.out]; omega)))
    go_enter Try.func21, Try.ntmps21
    go_wp2_with fail
    refine (implRingValid_any f A n c xs _ hr).mono ?_
    rintro e w1 ⟨rfl, b1⟩
    have hx1 := hx0.below b1
    have hc0 := hx1.c0
    have hc1 := hx1.c1
    go_wp2_with fail
    refine (implRingNext_any f A n c xs _ (hr.below b1)).mono ?_
    rintro e w2 ⟨rfl, b2⟩
    rw [HNX.out, HL.out]
    go_wp2_with fail
    go_ret2
    exact ⟨none, 0, 0, ret2_int HF.out.2.symm, Nat.le_refl _, by rw [HF.out.1]; exact Row.nil_, below_step (below_step hb0 b1) b2⟩
  have dn : decide (f + (n : Int) < m) = false := by simp; omega
  have hrb : readB f xs m = true := readB_true.2 ⟨hv, by omega, by rw [HL.out]; omega⟩
  by_cases hmf : m < f
  · have HF := Lib.hid (read_old hrb hmf)
    clear hrb
    go_enter Try.func21, Try.ntmps21
    go_wp2_with fail
    refine (implRingValid_any f A n c xs _ hr).mono ?_
    rintro e w1 ⟨rfl, b1⟩
    have hx1 := hx0.below b1
    have hc0 := hx1.c0
    have hc1 := hx1.c1
    go_wp2_with fail
    refine (implRingNext_any f A n c xs _ (hr.below b1)).mono ?_
    rintro e w2 ⟨rfl, b2⟩
    rw [HNX.out, HL.out]
    have b02 := below_step (below_step hb0 b1) b2
    have hx2 := hx1.below b2
    clear hc0 hc1
    have hc0 := hx2.c0
    have hc1 := hx2.c1
    have hr2 := (hr.below b1).below b2
    have hw1 : IntKind.i64.wrap (f - m) = f - m := IntWalk.i64_in _ (by omega)
    go_wp2_with fail
    go_region_with (go_at_call 43; (refine (clone_any A n c xs _ hr2.drew).mono ?_; rintro e w3 ⟨A3, c3, rfl, ho3, b3⟩; have hx3 := hx2.drew.below b3; have hd0 := hx3.c0; have hd1 := hx3.c1))
    all_goals go_wp2_with fail
    all_goals go_ret2
    all_goals exact ⟨A3, n, c3, ret2_int HF.out.2.symm, ho3.2, by rw [HF.out.1]; exact (ho3.row hn).more (by have := b02.size; simpa using this), below_step b02.drew b3⟩
  · have HF := Lib.hid (read_new hrb hmf)
    have df : decide (m < f) = false := by simp; omega
    obtain ⟨k, rfl⟩ : ∃ k : Nat, m = f + (k : Int) := ⟨(m - f).toNat, by omega⟩
    have hkn : k ≤ n := by omega
    have hks : (f + (k : Int) - f).toNat = k := by omega
    have HKS := Lib.hid hks
    clear hrb hks
    by_cases hkc : k = c
    · have HKN : Hid (k = n) := by show _ = _; omega
      have HZ0 : Hid (n - k = 0) := by show _ = _; omega
      have HDR : Hid (xs.drop k = []) := List.drop_of_length_le (by rw [HL.out]; omega)
      subst hkc
      go_enter Try.func21, Try.ntmps21
      go_wp2_with fail
      refine (implRingValid_any f A n k xs _ hr).mono ?_
      rintro e w1 ⟨rfl, b1⟩
      have hx1 := hx0.below b1
      have hc0 := hx1.c0
      have hc1 := hx1.c1
      go_wp2_with fail
      refine (implRingNext_any f A n k xs _ (hr.below b1)).mono ?_
      rintro e w2 ⟨rfl, b2⟩
      rw [HNX.out, HL.out]
      have b02 := below_step (below_step hb0 b1) b2
      have hx2 := hx1.below b2
      clear hc0 hc1
      have hc0 := hx2.c0
      have hc1 := hx2.c1
      have hr2 := (hr.below b1).below b2
      go_wp2_with fail
      rw [HKS.out, HZ0.out]
      refine (clone_any A 0 (k - k) [] _ Rd.nil_).mono ?_
      rintro e w3 ⟨A3, c3, rfl, ho3, b3⟩
      go_wp2_with fail
      go_ret2
      exact ⟨A3, 0, c3, ret2_int HF.out.2.symm, ho3.2, by rw [HF.out.1, HKS.out, HDR.out]; exact Row.nil_, below_step b02 b3⟩
    · go_enter Try.func21, Try.ntmps21
      go_wp2_with fail
      refine (implRingValid_any f A n c xs _ hr).mono ?_
      rintro e w1 ⟨rfl, b1⟩
      have hx1 := hx0.below b1
      have hc0 := hx1.c0
      have hc1 := hx1.c1
      go_wp2_with fail
      refine (implRingNext_any f A n c xs _ (hr.below b1)).mono ?_
      rintro e w2 ⟨rfl, b2⟩
      rw [HNX.out, HL.out]
      have b02 := below_step (below_step hb0 b1) b2
      have hx2 := hx1.below b2
      clear hc0 hc1
      have hc0 := hx2.c0
      have hc1 := hx2.c1
      have hr2 := (hr.below b1).below b2
      go_wp2_with fail
      rw [HKS.out]
      refine (clone_any (A.map (fun x => x.add k)) (n - k) (c - k) (xs.drop k) _ (hr2.cut hkn)).mono ?_
      rintro e w3 ⟨A3, c3, rfl, ho3, b3⟩
      go_wp2_with fail
      go_ret2
      exact ⟨A3, n - k, c3, ret2_int HF.out.2.symm, ho3.2, by rw [HF.out.1, HKS.out]; exact (ho3.row (by omega)).more (by have := b02.size; simpa using this), below_step b02 b3⟩

set_option maxHeartbeats 1600000 in
theorem specRingRead_any (f : Int) (A : Option Addr) (n c : Nat) (xs : List Int) (m : Int) (w : World) (h : Rd w A n xs) (hnc : n ≤ c) :
    Calls Try.prog 20 #[.agg #[.int .i64 f, .slice A n c], .int .i64 m] w (ReadGot w (readL f xs m) (readZ f xs m)) := by
  have hn := h.le
  have HL := Lib.hid h.len
  have hb0 := below_box w (ringBox f A n c)
  have hr := h.alloc (ringBox f A n c)
  have hx0 := Bx.new w 27 f A n c
  cases hrb : readB f xs m
  · have HF := Lib.hid (read_no hrb)
    have hi : inB m 0 (nextZ f xs) = false := by
      refine inB_no fun hh => ?_
      cases hv : ringB f xs
      · rw [nextZ_no hv] at hh; omega
      · rw [nextZ_yes hv] at hh
        rw [readB_true.2 ⟨hv, hh.1, hh.2⟩] at hrb; cases hrb
    go_enter Try.func20, Try.ntmps20
    go_wp2_with fail
    refine (specRingNext_any f A n c xs _ hr).mono ?_
    rintro e w1 ⟨rfl, b1⟩
    go_wp2_with fail
    refine (l1In_any _ _ _ _).mono ?_
    rintro e w2 ⟨rfl, rfl⟩
    have b02 := below_step hb0 b1
    go_wp2_with fail
    go_ret2
    exact ⟨_, 0, 0, ret2_int HF.out.2.symm, Nat.le_refl _, by rw [HF.out.1]; exact Row.nil_, b02.alloc b02.size _⟩
  · obtain ⟨hv, hm0, hmn⟩ := readB_true.1 hrb
    rw [HL.out] at hmn
    obtain ⟨v1, v2, v3, _, _⟩ := ringB_true.1 hv
    rw [HL.out] at v3
    have hi : inB m 0 (nextZ f xs) = true := inB_yes (by rw [nextZ_yes hv, HL.out]; omega)
    have HOLD := Lib.hid (fun hmf => read_old (f := f) (m := m) (xs := xs) hrb hmf)
    have HNEW := Lib.hid (fun hmf => read_new (f := f) (m := m) (xs := xs) hrb hmf)
    clear hrb hv
    go_enter Try.func20, Try.ntmps20
    go_wp2_with fail
    refine (specRingNext_any f A n c xs _ hr).mono ?_
    rintro e w1 ⟨rfl, b1⟩
    have hx1 := hx0.below b1
    have hc0 := hx1.c0
    have hc1 := hx1.c1
    have b01 := below_step hb0 b1
    have hr1 := hr.below b1
    go_wp2_with fail
    refine (l1In_any _ _ _ _).mono ?_
    rintro e w2 ⟨rfl, rfl⟩
    have hy1 := hx1.alloc (.cells #[] 3)
    have he0 := hy1.c0
    have he1 := hy1.c1
    have ho1 := Own.made w1 w1.heap.size (Nat.le_refl _)
    have hr1' := hr1.alloc (.cells #[] 3)
    have hb1' := below_new w1 (.cells #[] 3)
    have hs1 := b01.size
    by_cases hmf : m < f
    · have HF := Lib.hid (HOLD.out hmf)
      go_wp2_with (at_builtin; refine wpList_append_rd _ rfl (.tmp 17) (.tmp 24) rfl w1.heap.size _ 0 0 [] rfl ho1 A n c xs rfl hr1' (by omega) (size_one _ _ (Nat.le_refl _) _) ?_; intro A3 c3 w3 ho3 hgrow3 hbel3; have hb3 := hb1'.trans (hbel3 _ (Nat.le_refl _)); rw [List.nil_append, Nat.zero_add] at ho3; rw [Nat.zero_add])
      go_ret2
      exact ⟨A3, n, c3, ret2_int HF.out.2.symm, ho3.2, by rw [HF.out.1]; exact (ho3.row (by omega)).more hs1, below_step b01 hb3⟩
    · have HF := Lib.hid (HNEW.out (by omega))
      have hkn : (m - f).toNat ≤ n := by omega
      have hcut := hr1'.cutIf (k := (m - f).toNat) hkn hnc
      go_wp2_with (at_builtin; refine wpList_append_rd _ rfl (.tmp 17) (.tmp 24) rfl w1.heap.size _ 0 0 [] rfl ho1 _ (n - (m - f).toNat) (c - (m - f).toNat) (xs.drop (m - f).toNat) rfl hcut (by omega) (size_one _ _ (Nat.le_refl _) _) ?_; intro A3 c3 w3 ho3 hgrow3 hbel3; have hb3 := hb1'.trans (hbel3 _ (Nat.le_refl _)); rw [List.nil_append, Nat.zero_add] at ho3; rw [Nat.zero_add])
      all_goals go_ret2
      all_goals exact ⟨A3, n - (m - f).toNat, c3, ret2_int HF.out.2.symm, ho3.2, by rw [HF.out.1]; exact (ho3.row (by omega)).more hs1, below_step b01 hb3⟩
end Go.Proofs.Ytjhnpnmpnmmpbaa

/-
  The walks of the laws FnArbitrate and FnWireBit.
-/
import Derived.Test.YtjfninibloakgaaArbS
import Derived.Test.YtjfninibloakgaaDrawIds
import Derived.Test.YtjfninibloakgaaAlive
namespace Go.Proofs.Ytjfninibloakgaa
open Go.RowKit

set_option maxHeartbeats 1600000 in
theorem walk_FnArbitrate (a0 : Option Addr) (len0 cap0 : Nat) (z0 : List Int) (w : World) (w0 : IsRow .u8 w a0 len0 cap0 z0) :
    Calls Try.prog 9 #[.slice a0 len0 cap0] w fun e w' => e = .returned (.bool true) ∧ Below w.heap.size w w' := by
  by_cases hlen : 1048576 < len0
  · go_enter Try.func9, Try.ntmps9
    go_wp2
    go_ret
    exact ⟨rfl, Below.refl _ _⟩
  · go_enter Try.func9, Try.ntmps9
    go_wp2_with fail
    refine (DrawArbitrate_any a0 len0 cap0 z0 _ w0).mono ?_
    rintro e w1 ⟨A, n, c, xs, rfl, hnc, hn8, rd1, b1⟩
    go_wp2_with fail
    refine (implArbitrate_any A n c xs _ rd1 hnc).mono ?_
    rintro e w2 ⟨rfl, b2⟩
    go_wp2_with fail
    refine (specArbitrate_any A n c xs _ (rd1.below b2) hnc).mono ?_
    rintro e w3 ⟨rfl, b3⟩
    have rd3 := (rd1.below b2).below b3
    have b13 := below_step (below_step b1 b2) b3
    clear b1 b2 b3 rd1
    have HL := Lib.hid rd3.len
    rcases Nat.eq_zero_or_pos n with h0 | h0
    · subst h0
      obtain rfl : xs = [] := List.eq_nil_of_length_eq_zero rd3.len
      rw [arb_nil]
      go_wp2_with fail
      refine (alive_any _).mono ?_
      rintro e w4 ⟨rfl, b4⟩
      go_wp2_with fail
      go_ret
      exact ⟨rfl, below_step b13 b4⟩
    · have hne : ((n : Int) == 0) = false := by simp; omega
      cases hv : idsB xs
      · rw [arb_no hv]
        go_wp2_with fail
        refine (implIdsValid_any A n c xs _ rd3 hnc).mono ?_
        rintro e w4 ⟨rfl, rfl⟩
        go_wp2_with fail
        refine (alive_any _).mono ?_
        rintro e w4 ⟨rfl, b4⟩
        go_wp2_with fail
        go_ret
        exact ⟨rfl, below_step b13 b4⟩
      · obtain ⟨x, hx, hxl, hlt⟩ := arb_least hv (by rw [HL.out]; exact h0)
        rw [hx]
        have hxn : x < n := by rw [← HL.out]; exact hxl
        have HLT := Lib.hid hlt
        clear hx hxl hlt hv
        go_wp2_with fail
        go_loopw [5] (fun i wr => ∃ k q : Nat, k ≤ n ∧ i = .int .i64 k ∧ wr = w3.drewN q) (fun i _ => n - (intOf i).toNat)
        case atStart => exact ⟨0, 0, Nat.zero_le _, rfl, rfl⟩
        case round =>
          obtain ⟨k, q, hk, rfl, rfl⟩ := hrel
          by_cases hkn : k < n
          · by_cases hkx : k = x
            · subst hkx
              have hb : ((k : Int) != (k : Int)) = false := by simp
              go_wp2_with fail
              go_quiet (fail)
              go_wp2
              go_roundw
              case rel => exact ⟨k + 1, _, by omega, by go_num, rfl⟩
              case measure => simp [intOf]; omega
            · have hb : ((k : Int) != (x : Int)) = true := by rw [bne_iff_ne]; omega
              obtain ⟨g, off, rfl, hg, hc⟩ := rd3.2.2 h0
              have hc0 := hc k hkn
              have hc1 := hc x hxn
              have hl := HLT.out k (by rw [HL.out]; exact hkn) hkx
              clear hc hkx
              generalize nth xs k = y at *
              generalize nth xs x = z at *
              have hd : decide (y ≤ z) = false := by simp; omega
              have i1 : (0 : Int) ≤ (k : Int) := by omega
              have i2 : (k : Int) < (n : Int) := by omega
              have i3 : (0 : Int) ≤ (x : Int) := by omega
              have i4 : (x : Int) < (n : Int) := by omega
              go_wp2_with fail
              go_quiet (fail)
              go_wp2
              go_roundw
              case rel => exact ⟨k + 1, _, by omega, by go_num, rfl⟩
              case measure => simp [intOf]; omega
          · go_wp2
            go_ret
            exact ⟨rfl, below_drewN_ b13 q⟩

/-- the elements from j on, turned round -/
def turnTo (xs : List Int) (j : Nat) : List Int := (xs.drop j).reverse
theorem turnTo_end (xs : List Int) : turnTo xs xs.length = [] := by unfold turnTo; simp
theorem turnTo_all (xs : List Int) : turnTo xs 0 = xs.reverse := rfl
theorem turnTo_succ (xs : List Int) (j : Nat) (hj : j < xs.length) : turnTo xs j = turnTo xs (j + 1) ++ [nth xs j] := by
  unfold turnTo; rw [List.drop_eq_getElem_cons hj, List.reverse_cons, nth_get xs j hj]
theorem turnTo_len (xs : List Int) (j : Nat) : (turnTo xs j).length = xs.length - j := by unfold turnTo; simp
theorem wireZ_congr {xs ys : List Int} (h : ∀ x, x ∈ xs ↔ x ∈ ys) : wireZ xs = wireZ ys := by
  have : hasB xs 0 = hasB ys 0 := by rw [Bool.eq_iff_iff, hasB_true, hasB_true]; exact h 0
  unfold wireZ; rw [this]
theorem wireZ_zero (xs : List Int) : wireZ (xs ++ [0]) = 0 := wireZ_yes (hasB_true.2 (by simp))
theorem wireZ_one (xs : List Int) : wireZ (xs ++ [1]) = wireZ xs := by
  have : hasB (xs ++ [1]) 0 = hasB xs 0 := by rw [Bool.eq_iff_iff, hasB_true, hasB_true]; simp
  unfold wireZ; rw [this]
theorem wireZ_turned (xs : List Int) : wireZ xs.reverse = wireZ xs := wireZ_congr (by simp)

set_option maxHeartbeats 1600000 in
theorem walk_FnWireBit (a0 : Option Addr) (len0 cap0 : Nat) (z0 : List Int) (w : World) (w0 : IsRow .u8 w a0 len0 cap0 z0) :
    Calls Try.prog 8 #[.slice a0 len0 cap0] w fun e w' => e = .returned (.bool true) ∧ Below w.heap.size w w' := by
  by_cases hlen : 1048576 < len0
  · go_enter Try.func8, Try.ntmps8
    go_wp2
    go_ret
    exact ⟨rfl, Below.refl _ _⟩
  · go_enter Try.func8, Try.ntmps8
    go_wp2_with fail
    refine (DrawWireBit_any a0 len0 cap0 z0 _ w0).mono ?_
    rintro e w1 ⟨A, n, c, xs, rfl, hnc, hn8, rd1, b1⟩
    go_wp2_with fail
    refine (implWireBit_any A n c xs _ rd1).mono ?_
    rintro e w2 ⟨rfl, rfl⟩
    go_wp2_with fail
    refine (specWireBit_any A n c xs _ rd1).mono ?_
    rintro e w2 ⟨rfl, rfl⟩
    have HL := Lib.hid rd1.len
    have HZ := Lib.hid (wireZ_zero xs)
    have HO := Lib.hid (wireZ_one xs)
    have HT := Lib.hid (wireZ_turned xs)
    have hs1 := b1.size
    have hx : ∃ x : Int, wireZ xs = x ∧ (x == 0) = hasB xs 0 ∧ (x != x) = false ∧ (x == x) = true := ⟨_, rfl, by
      cases hh : hasB xs 0
      · rw [wireZ_no hh]; rfl
      · rw [wireZ_yes hh]; rfl, by simp, by simp⟩
    obtain ⟨x, hx, hx0, hx1, hx2⟩ := hx
    rw [hx]
    rw [hx] at HO HT
    clear hx
    have hom := Own.made w1 w1.heap.size (Nat.le_refl _)
    have hbm : Below w1.heap.size w1 (w1.alloc (.cells #[] 3)) := (Below.refl _ _).alloc (Nat.le_refl _) _
    go_wp2_with fail
    go_loopw [5, 6] (fun v i wr => ∃ (j m c' : Nat) (A' : Option Addr), j ≤ n ∧ i = .int .i64 ((j : Int) - 1) ∧ v = .slice A' m c' ∧ m ≤ n ∧ Own wr w1.heap.size A' m c' (turnTo xs j) ∧ Below w1.heap.size w1 wr) (fun _ i _ => (intOf i + 1).toNat)
    case atStart => exact ⟨n, 0, 0, _, Nat.le_refl _, rfl, rfl, by omega, by rw [← HL.out, turnTo_end]; exact hom, hbm⟩
    case round =>
      obtain ⟨j, m, c', A', hj, rfl, rfl, hmn, ho, hb⟩ := hrel
      clear hom hbm
      have hbs := hb.size
      rcases Nat.eq_zero_or_pos j with h0 | h0
      · subst h0
        rw [turnTo_all] at ho
        have rdt := ho.rd (by omega)
        have rd2 := rd1.below hb
        have b2 := below_step b1 hb
        have bs2 := b2.size
        clear ho rd1 hb
        obtain ⟨wa, rfl⟩ : ∃ wa : World, wa = wr := ⟨_, rfl⟩
        have ho1 := Own.made wa wa.heap.size (Nat.le_refl _)
        have rd2' := rd2.alloc (.cells #[] 3)
        have hb3 : Below wa.heap.size wa (wa.alloc (.cells #[] 3)) := (Below.refl _ _).alloc (Nat.le_refl _) _
        go_wp2_with (first
          | (at_builtin; refine wpList_append_rd _ rfl (.tmp 33) (.tmp 34) rfl wa.heap.size _ 0 0 [] rfl ho1 A n c xs rfl rd2' (by omega) (size_one _ _ (Nat.le_refl _) _) ?_; intro A3 c3 w3 ho3 hgrow3 hbel3; have hb3' := hb3.trans (hbel3 _ (Nat.le_refl _)); have hs3 := hb3'.size; rw [List.nil_append, Nat.zero_add] at ho3; rw [Nat.zero_add])
          | (at_builtin; refine wpList_append_rd _ rfl (.tmp 35) (.tmp 36) rfl wa.heap.size A3 n c3 xs rfl (ho3.alloc _) _ 1 1 [0] rfl (rd_built w3 [0] (by simp)) (by omega) (size_one _ _ hs3 _) ?_; intro A4 c4 w4 ho4 hgrow4 hbel4))
        have hb4 : Below wa.heap.size wa w4 := (hb3'.alloc hs3 _).trans (hbel4 _ (Nat.le_refl _))
        have hs4 := hb4.size
        refine (implWireBit_any A4 (n + 1) c4 (xs ++ [0]) _ (ho4.rd (by omega))).mono ?_
        rintro e w5 ⟨rfl, rfl⟩
        rw [HZ.out]
        clear hgrow3 hbel3 hgrow4 hbel4 ho1 rd2' hb3 ho3 ho4 hb3'
        have ho5 := Own.made w4 w4.heap.size (Nat.le_refl _)
        have rd5 := (rd2.below hb4).alloc (.cells #[] 3)
        have hb5 : Below w4.heap.size w4 (w4.alloc (.cells #[] 3)) := (Below.refl _ _).alloc (Nat.le_refl _) _
        go_wp2_with (first
          | (at_builtin; refine wpList_append_rd _ rfl (.tmp 41) (.tmp 42) rfl w4.heap.size _ 0 0 [] rfl ho5 A n c xs rfl rd5 (by omega) (size_one _ _ (Nat.le_refl _) _) ?_; intro A6 c6 w6 ho6 hgrow6 hbel6; have hb6 := hb5.trans (hbel6 _ (Nat.le_refl _)); have hs6 := hb6.size; rw [List.nil_append, Nat.zero_add] at ho6; rw [Nat.zero_add])
          | (at_builtin; refine wpList_append_rd _ rfl (.tmp 43) (.tmp 44) rfl w4.heap.size A6 n c6 xs rfl (ho6.alloc _) _ 1 1 [1] rfl (rd_built w6 [1] (by simp)) (by omega) (size_one _ _ hs6 _) ?_; intro A7 c7 w7 ho7 hgrow7 hbel7))
        have hb7 : Below w4.heap.size w4 w7 := (hb6.alloc hs6 _).trans (hbel7 _ (Nat.le_refl _))
        refine (implWireBit_any A7 (n + 1) c7 (xs ++ [1]) _ (ho7.rd (by omega))).mono ?_
        rintro e w8 ⟨rfl, rfl⟩
        rw [HO.out]
        clear hgrow6 hbel6 hgrow7 hbel7 ho5 rd5 hb5 ho6 ho7 hb6
        have hb8 : Below wa.heap.size wa w7 := below_next hb4 hs4 hb7
        go_wp2_with fail
        refine (implWireBit_any A' m c' xs.reverse _ (rdt.below hb8)).mono ?_
        rintro e w8 ⟨rfl, rfl⟩
        rw [HT.out]
        go_wp2_with fail
        refine (hasInt_any A n c xs 0 _ (rd2.below hb8)).mono ?_
        rintro e w8 ⟨rfl, rfl⟩
        have hbb : ((x == 0) == hasB xs 0) = true := by rw [hx0]; simp
        clear hx0
        go_wp2_with fail
        refine (alive_any _).mono ?_
        rintro e w9 ⟨rfl, b9⟩
        go_wp2_with fail
        go_ret
        exact ⟨rfl, below_step (below_step b2 hb8) b9⟩
      · obtain ⟨d, rfl⟩ : ∃ d, j = d + 1 := ⟨j - 1, by omega⟩
        have e1 : ((d + 1 : Nat) : Int) - 1 = (d : Int) := by omega
        rw [e1]
        clear e1 h0
        obtain ⟨g, off, rfl, hg, hcell⟩ := (rd1.below hb).at_ (show d < n by omega)
        have HS := Lib.hid (turnTo_succ xs d (by rw [HL.out]; omega))
        have hml := turnTo_len xs (d + 1)
        rw [ho.len, HL.out] at hml
        have hml' : m + 1 ≤ n := by omega
        clear hml
        go_wp2_with (at_builtin; refine wpList_append_int _ rfl (.tmp 26) (.tmp 31) rfl w1.heap.size A' m c' (turnTo xs (d + 1)) rfl (ho.alloc _) wr.heap.size _ rfl (cell_one _ _ rfl _ _) (by omega) (size_one _ _ hbs _) ?_; intro g1 cap w3 ho3 hgrow1 hbel1 hlt1)
        have hb4 : Below w1.heap.size w1 w3 := (hb.alloc hbs _).trans (hbel1 _ (Nat.le_refl _))
        rw [← HS.out] at ho3
        clear hgrow1 hbel1
        go_wp2
        go_roundw
        case rel => exact ⟨d, m + 1, cap, _, by omega, by go_num, rfl, by omega, ho3, hb4⟩
        case measure => simp [intOf]
end Go.Proofs.Ytjfninibloakgaa

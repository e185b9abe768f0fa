/-
  The walk of the law FnIdsValid.
-/
import Derived.Test.YtjfninibloakgaaSend
import Derived.Test.YtjfninibloakgaaLawsArb
namespace Go.Proofs.Ytjfninibloakgaa
open Go.RowKit
attribute [local go_sem ↓] Go.wp_at_zero Go.wp_at_succ

theorem ids_drop {xs : List Int} (h : idsB xs = true) : idsB (xs.drop 1) = true := idsB_sub h (List.drop_sublist 1 xs)
theorem ids_twice {xs : List Int} (h0 : 0 < xs.length) : idsB (xs ++ [nth xs 0]) = false := by
  cases hb : idsB (xs ++ [nth xs 0])
  · rfl
  · have h := nod_iff.1 (idsB_true.1 hb).2.2
    have := (List.nodup_append.1 h).2.2 (nth xs 0) (nth_mem xs 0 h0) (nth xs 0) (by simp)
    exact absurd rfl this

set_option maxHeartbeats 6400000 in
set_option maxRecDepth 100000 in
theorem walk_FnIdsValid (a0 : Option Addr) (len0 cap0 : Nat) (z0 : List Int) (w : World) (w0 : IsRow .u8 w a0 len0 cap0 z0) :
    Calls Try.prog 7 #[.slice a0 len0 cap0] w fun e w' => e = .returned (.bool true) ∧ Below w.heap.size w w' := by
  by_cases hlen : 1048576 < len0
  · go_enter Try.func7, Try.ntmps7
    go_wp2
    go_ret
    exact ⟨rfl, Below.refl _ _⟩
  · go_enter Try.func7, Try.ntmps7
    go_wp2_with fail
    refine (DrawIdsValid_any a0 len0 cap0 z0 _ w0).mono ?_
    rintro e w1 ⟨A, n, c, xs, rfl, hnc, hn8, rd1, b1⟩
    have HL := Lib.hid rd1.len
    go_wp2_with fail
    refine (implIdsValid_any A n c xs _ rd1 hnc).mono ?_
    rintro e w2 ⟨rfl, rfl⟩
    go_wp2_with fail
    refine (specIdsValid_any A n c xs _ rd1 hnc).mono ?_
    rintro e w3 ⟨rfl, q3, rfl⟩
    have rd3 := rd1.drewN q3
    have b3 : Below w.heap.size w (w1.drewN q3) := below_drewN_ b1 q3
    generalize w1.drewN q3 = wa at *
    clear rd1 b1
    have HNIL := Lib.hid (show idsB [] = true by decide)
    cases hv : idsB xs
    · go_wp2_with fail
      refine (implIdsValid_any none 0 0 [] _ Rd.nil_ (Nat.le_refl _)).mono ?_
      rintro e w4 ⟨rfl, rfl⟩
      rw [HNIL.out]
      go_wp2_with fail
      refine (alive_any _).mono ?_
      rintro e w5 ⟨rfl, b5⟩
      go_wp2_with fail
      go_ret
      exact ⟨rfl, below_step b3 b5⟩
    · have HD := Lib.hid (ids_drop hv)
      clear hv
      rcases Nat.eq_zero_or_pos n with h0 | h0
      · subst h0
        go_wp2_with fail
        refine (implIdsValid_any none 0 0 [] _ Rd.nil_ (Nat.le_refl _)).mono ?_
        rintro e w4 ⟨rfl, rfl⟩
        rw [HNIL.out]
        go_wp2_with fail
        refine (alive_any _).mono ?_
        rintro e w5 ⟨rfl, b5⟩
        go_wp2_with fail
        go_ret
        exact ⟨rfl, below_step b3 b5⟩
      · have hne : ((n : Int) == 0) = false := by simp; omega
        have HT := Lib.hid (ids_twice (xs := xs) (by rw [HL.out]; exact h0))
        obtain ⟨g, off, rfl, hg, hcell⟩ := rd3.at_ h0
        have rdd0 := rd3.drop_ (k := 1) (by omega)
        have hS : ∀ w', Below wa.heap.size wa w' → w'.cell? ⟨g, off, none⟩ = some (.int .i64 (nth xs 0)) := fun w' hb => (hb.cell (p := ⟨g, off, none⟩) hg).trans hcell
        have HS := Lib.hid hS
        clear hS
        have i1 : (1 : Int) ≤ (n : Int) := by omega
        have i2 : (1 : Int) ≤ (c : Int) := by omega
        have i3 : (0 : Int) < (n : Int) := by omega
        have i4 : (n : Int) ≤ (c : Int) := by omega
        by_cases hc1 : c = 1
        · obtain rfl : n = 1 := by omega
          have rdd : Rd wa (some ⟨g, off, none⟩) 0 (xs.drop 1) := by
            rw [List.drop_of_length_le (by rw [HL.out]; exact Nat.le_refl _)]; exact Rd.nil_
          clear rdd0
          subst hc1
          go_upto_region 9 with fail
          go_region_held3 (fun w' => w'.cell? ⟨g, off, none⟩ = some (.int .i64 (nth xs 0)))
            ((refine HS.out _ ?_; (repeat (first | with_reducible exact hb4 | with_reducible exact hb3 | with_reducible exact Below.refl _ _ | with_reducible refine below_drew_ ?_ | (with_reducible refine Below.alloc ?_ ?_ _; (rotate_left; (first | omega | (simp <;> omega))))))))
            ((first
              | (go_at_call 13
                 with_reducible refine (implIdsValid_any _ 0 _ (xs.drop 1) _ (by (repeat (first | with_reducible exact rdd | with_reducible refine Rd.drew ?_))) (by omega)).mono ?_
                 rintro e w2 ⟨rfl, rfl⟩
                 rw [HD.out])
              | (go_at_call 13
                 with_reducible refine (implIdsValid_any A4 2 c4 (xs ++ [nth xs 0]) _ (by (repeat (first | with_reducible exact hrd4 | with_reducible refine Rd.drew ?_))) hcap4).mono ?_
                 rintro e w5 ⟨rfl, rfl⟩
                 rw [HT.out])
              | (refine step_append_rd _ (by rfl) (.tmp 31) (.tmp 32) (by rfl) wa.heap.size _ 0 0 [] (by rfl) (by (repeat (first | ((with_reducible refine Own.made_ ?_ ?_) <;> (first | with_reducible rfl | omega | (simp; done) | (simp; omega))) | with_reducible refine Own.drew ?_ | with_reducible refine Own.alloc ?_ _))) _ 1 _ xs (by rfl) (by (repeat (first | with_reducible exact rd3 | with_reducible refine Rd.drew ?_ | with_reducible refine Rd.alloc ?_ _))) (by omega) (by first | omega | (simp; done) | (simp; omega)) 1 (by omega) ?_
                 intro A3 c3 w3 ho3 hgrow3 hbel3
                 have hb3 : Below wa.heap.size wa w3 := Below.trans (by (repeat (first | with_reducible exact Below.refl _ _ | with_reducible refine below_drew_ ?_ | (with_reducible refine Below.alloc ?_ ?_ _; (rotate_left; (first | omega | (simp <;> omega))))))) (hbel3 _ (Nat.le_refl _))
                 have hs3 := hb3.size
                 rw [own_block_some] at hgrow3
                 rw [List.nil_append] at ho3
                 (first
                   | (refine have_of (p := One w3 wa.heap.size (nth xs 0)) ?_ ?_; (focus (refine One.grow ?_ hgrow3 (ne_some ?_); (rotate_left; omega); (repeat (first | (with_reducible refine One.new_ _ ?_; (first | with_reducible rfl | (simp; done))) | with_reducible refine One.drew ?_ | with_reducible refine One.alloc ?_ _)); done)); intro hV3)
                   | (refine have_of (p := One w3 (wa.heap.size + 1) (nth xs 0)) ?_ ?_; (focus (refine One.grow ?_ hgrow3 (ne_some ?_); (rotate_left; omega); (repeat (first | (with_reducible refine One.new_ _ ?_; (first | with_reducible rfl | (simp; done))) | with_reducible refine One.drew ?_ | with_reducible refine One.alloc ?_ _)); done)); intro hV3)
                   | skip)
                 clear hgrow3 hbel3)
              | (refine step_append_rd _ (by rfl) (.tmp 33) (.tmp 37) (by rfl) wa.heap.size A3 1 c3 xs (by rfl) (by (repeat (first | with_reducible exact ho3 | with_reducible refine Own.drew ?_ | with_reducible refine Own.alloc ?_ _))) _ 1 1 [nth xs 0] (by rfl) (One.rd (by (repeat (first | with_reducible exact hV3 | (with_reducible refine One.new_ _ ?_; (first | with_reducible rfl | (simp; done))) | with_reducible refine One.drew ?_ | with_reducible refine One.alloc ?_ _)))) (by omega) (by first | omega | (simp; done) | (simp; omega)) 2 rfl ?_
                 intro A4 c4 w4 ho4 hgrow4 hbel4
                 have hb4 : Below wa.heap.size wa w4 := Below.trans (by (repeat (first | with_reducible exact hb3 | with_reducible refine below_drew_ ?_ | (with_reducible refine Below.alloc ?_ ?_ _; (rotate_left; (first | omega | (simp <;> omega))))))) (hbel4 _ (Nat.le_refl _))
                 have hcap4 := ho4.2
                 have hrd4 := ho4.rd (by omega)
                 clear hgrow4 hbel4)
              | fail))
          all_goals
            have hbel := below_step b3 hb4
            clear ho3 ho4 hb3 hb4 hcap4 hrd4
            go_wp2_with fail
            go_ret
            exact ⟨rfl, by first | exact hbel | exact below_drew_ hbel⟩
        · have rdd := rdd0
          clear rdd0
          go_upto_region 9 with fail
          go_region_held3 (fun w' => w'.cell? ⟨g, off, none⟩ = some (.int .i64 (nth xs 0)))
            ((refine HS.out _ ?_; (repeat (first | with_reducible exact hb4 | with_reducible exact hb3 | with_reducible exact Below.refl _ _ | with_reducible refine below_drew_ ?_ | (with_reducible refine Below.alloc ?_ ?_ _; (rotate_left; (first | omega | (simp <;> omega))))))))
            ((first
              | (go_at_call 13
                 with_reducible refine (implIdsValid_any _ (n - 1) _ (xs.drop 1) _ (by (repeat (first | with_reducible exact rdd | with_reducible refine Rd.drew ?_))) (by omega)).mono ?_
                 rintro e w2 ⟨rfl, rfl⟩
                 rw [HD.out])
              | (go_at_call 13
                 with_reducible refine (implIdsValid_any A4 (n + 1) c4 (xs ++ [nth xs 0]) _ (by (repeat (first | with_reducible exact hrd4 | with_reducible refine Rd.drew ?_))) hcap4).mono ?_
                 rintro e w5 ⟨rfl, rfl⟩
                 rw [HT.out])
              | (refine step_append_rd _ (by rfl) (.tmp 31) (.tmp 32) (by rfl) wa.heap.size _ 0 0 [] (by rfl) (by (repeat (first | ((with_reducible refine Own.made_ ?_ ?_) <;> (first | with_reducible rfl | omega | (simp; done) | (simp; omega))) | with_reducible refine Own.drew ?_ | with_reducible refine Own.alloc ?_ _))) _ n _ xs (by rfl) (by (repeat (first | with_reducible exact rd3 | with_reducible refine Rd.drew ?_ | with_reducible refine Rd.alloc ?_ _))) (by omega) (by first | omega | (simp; done) | (simp; omega)) n (by omega) ?_
                 intro A3 c3 w3 ho3 hgrow3 hbel3
                 have hb3 : Below wa.heap.size wa w3 := Below.trans (by (repeat (first | with_reducible exact Below.refl _ _ | with_reducible refine below_drew_ ?_ | (with_reducible refine Below.alloc ?_ ?_ _; (rotate_left; (first | omega | (simp <;> omega))))))) (hbel3 _ (Nat.le_refl _))
                 have hs3 := hb3.size
                 rw [own_block_some] at hgrow3
                 rw [List.nil_append] at ho3
                 (first
                   | (refine have_of (p := One w3 wa.heap.size (nth xs 0)) ?_ ?_; (focus (refine One.grow ?_ hgrow3 (ne_some ?_); (rotate_left; omega); (repeat (first | (with_reducible refine One.new_ _ ?_; (first | with_reducible rfl | (simp; done))) | with_reducible refine One.drew ?_ | with_reducible refine One.alloc ?_ _)); done)); intro hV3)
                   | (refine have_of (p := One w3 (wa.heap.size + 1) (nth xs 0)) ?_ ?_; (focus (refine One.grow ?_ hgrow3 (ne_some ?_); (rotate_left; omega); (repeat (first | (with_reducible refine One.new_ _ ?_; (first | with_reducible rfl | (simp; done))) | with_reducible refine One.drew ?_ | with_reducible refine One.alloc ?_ _)); done)); intro hV3)
                   | skip)
                 clear hgrow3 hbel3)
              | (refine step_append_rd _ (by rfl) (.tmp 33) (.tmp 37) (by rfl) wa.heap.size A3 n c3 xs (by rfl) (by (repeat (first | with_reducible exact ho3 | with_reducible refine Own.drew ?_ | with_reducible refine Own.alloc ?_ _))) _ 1 1 [nth xs 0] (by rfl) (One.rd (by (repeat (first | with_reducible exact hV3 | (with_reducible refine One.new_ _ ?_; (first | with_reducible rfl | (simp; done))) | with_reducible refine One.drew ?_ | with_reducible refine One.alloc ?_ _)))) (by omega) (by first | omega | (simp; done) | (simp; omega)) (n + 1) rfl ?_
                 intro A4 c4 w4 ho4 hgrow4 hbel4
                 have hb4 : Below wa.heap.size wa w4 := Below.trans (by (repeat (first | with_reducible exact hb3 | with_reducible refine below_drew_ ?_ | (with_reducible refine Below.alloc ?_ ?_ _; (rotate_left; (first | omega | (simp <;> omega))))))) (hbel4 _ (Nat.le_refl _))
                 have hcap4 := ho4.2
                 have hrd4 := ho4.rd (by omega)
                 clear hgrow4 hbel4)
              | fail))
          all_goals
            have hbel := below_step b3 hb4
            clear ho3 ho4 hb3 hb4 hcap4 hrd4
            go_wp2_with fail
            go_ret
            exact ⟨rfl, by first | exact hbel | exact below_drew_ hbel⟩
end Go.Proofs.Ytjfninibloakgaa

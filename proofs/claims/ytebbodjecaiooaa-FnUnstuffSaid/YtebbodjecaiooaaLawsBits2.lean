/-
  The drawing for Unstuff; the walk of the law FnUnstuff.
-/
import Derived.Test.YtebbodjecaiooaaLawsBits
namespace Go.Proofs.Ytebbodjecaiooaa
open Go.RowKit Runs

theorem one_of_four (z : Nat) (hz : z < 4) : ∃ b : ByteArray, b.size ≤ 1 ∧ (#[Value.string ⟨#[]⟩, Value.string ⟨#[48]⟩, Value.string ⟨#[49]⟩, Value.string ⟨#[120]⟩] : Array Value)[z]? = some (.string b) := by
  have : z = 0 ∨ z = 1 ∨ z = 2 ∨ z = 3 := by omega
  rcases this with rfl | rfl | rfl | rfl
  · exact ⟨⟨#[]⟩, by decide, rfl⟩
  · exact ⟨⟨#[48]⟩, by decide, rfl⟩
  · exact ⟨⟨#[49]⟩, by decide, rfl⟩
  · exact ⟨⟨#[120]⟩, by decide, rfl⟩
theorem stuffZ_len (l : List Int) : (stuffZ l).length ≤ 80 := by
  cases h : bitsB l
  · rw [stuffZ_no h]; simp
  · rw [stuffZ_yes h]
    have h1 := (stuff_share l).2.2
    have h2 := (bitsB_true.1 h).1
    omega

set_option maxHeartbeats 1600000 in
theorem DrawUnstuff_any (A : Option Addr) (n c : Nat) (zs : List Int) (w : World) (h : IsRow .u8 w A n c zs) :
    Calls Try.prog 23 #[.slice A n c] w (TextGot w) := by
  go_enter Try.func23, Try.ntmps23
  go_wp2_with fail
  refine (open_any A n c zs _ h).mono ?_
  rintro e w1 ⟨rfl, hr1, hb1⟩
  go_wp2_with fail
  refine (l20Bits_any _ 0 0 _ hr1 (by omega) (by omega) (by omega)).mono ?_
  rintro e w2 ⟨o, rfl, ho, hr2, hb2, hs2⟩
  have hR := hr1.lt
  generalize hRe : w.heap.size = R at hr1 hb1 hr2 hb2 hR ⊢
  have HRe := Lib.hid hRe
  clear hRe
  have hb12 : Below R w w2 := hb1.trans hb2
  go_wp2_with fail
  refine (specStuff_any o _ (by omega)).mono ?_
  rintro e w3 ⟨s, rfl, hbs, b3⟩
  have hlt2 := hr2.lt
  have hr3 : Rdr w3 R 40 := hr2.below (b3.mono (by omega))
  have hb3 : Below R w w3 := hb12.trans (b3.mono (by omega))
  have hs3 := b3.size
  have hsz : s.size ≤ 80 := by rw [← bl_len, hbs]; exact stuffZ_len _
  clear hbs b3 hr1 hb1 hr2 hb2 hb12
  rcases Nat.eq_zero_or_pos s.size with h0 | h0
  · obtain rfl := size_zero h0
    clear h0
    go_wp2_with fail
    go_ret
    exact ⟨_, rfl, by decide, by rw [HRe.out]; exact hb3⟩
  · go_wp2_with fail
    refine (pick_any R 40 3 _ hr3 (by omega) (by omega) (by omega)).mono ?_
    rintro e w4 ⟨y, rfl, hy0, hy1, hr4, hg4⟩
    have hs4 := hg4.size
    have hb4 : Below R w w4 := hb3.trans (below_of_grown hg4 (Nat.le_refl _) (by omega))
    clear hg4 hr3 hb3
    by_cases hy : y = 0
    · subst hy
      go_wp2_with fail
      refine (pick_any R 41 (s.size : Int) _ hr4 (by omega) (by omega) (by omega)).mono ?_
      rintro e w5 ⟨k, rfl, hk0, hk1, hr5, hg5⟩
      have hs5 := hg5.size
      have hb5 : Below R w w5 := hb4.trans (below_of_grown hg5 (Nat.le_refl _) (by omega))
      clear hg5 hr4 hb4
      obtain ⟨kn, rfl⟩ := Int.eq_ofNat_of_zero_le hk0
      have hw1 : IntKind.i64.wrap ((kn : Int) + 1) = (kn : Int) + 1 := IntWalk.i64_in _ (by omega)
      have i1 : (kn : Int) ≤ (s.size : Int) := by omega
      have i2 : (kn : Int) + 1 ≤ (s.size : Int) := by omega
      have i3 : (0 : Int) ≤ (kn : Int) + 1 := by omega
      have i4 : ((kn : Int) + 1).toNat = kn + 1 := by omega
      have hl1 : (s.extract 0 kn).size ≤ 80 := by rw [← bl_len, bl_extract, List.length_take, bl_len]; omega
      have hl2 : (s.extract (kn + 1) s.size).size ≤ 80 := by simp; omega
      go_wp2_with fail
      go_region_with (go_at_call 30; (refine (pick_any _ 42 4 _ (by first | exact (hr5.drew).alloc _ | exact (hr5.alloc _).drew | exact hr5.drew | exact hr5.alloc _) (by omega) (by omega) (by omega)).mono ?_; rintro e w6 ⟨z, rfl, hz0, hz1, hr6, hg6⟩; obtain ⟨zn, rfl⟩ := Int.eq_ofNat_of_zero_le hz0; obtain ⟨b, hb1, hbz⟩ := one_of_four zn (by omega); have hnew := (fun W : World => (cells_new W #[Value.string ⟨#[]⟩, Value.string ⟨#[48]⟩, Value.string ⟨#[49]⟩, Value.string ⟨#[120]⟩] 9 zn).trans hbz); (try (have hold : w6.cell? ⟨w5.heap.size, zn, none⟩ = some (.string b) := (hg6.cell_far ⟨w5.heap.size, zn, none⟩ (by simp) (by first | (simp; omega) | (intro e; injection e with e; omega))).trans (by first | exact hnew w5 | exact hnew w5.drew)))))
      all_goals (have hfin : (s.extract 0 kn ++ b ++ s.extract (kn + 1) s.size).size ≤ 200 := by rw [ByteArray.size_append, ByteArray.size_append]; omega)
      all_goals go_wp2
      all_goals go_ret
      all_goals (refine ⟨_, rfl, hfin, ?_⟩; rw [HRe.out])
      all_goals (first
        | exact ((hb5.alloc (by omega) _).drew).trans (below_of_grown hg6 (Nat.le_refl _) (by simp; omega))
        | exact (hb5.drew.trans (below_of_grown hg6 (Nat.le_refl _) (by simp; omega))).alloc (by have := hg6.size; simp at this; omega) _)
    · have hyn : (y == 0) = false := by simp [hy]
      clear hy
      go_wp2_with fail
      go_ret
      exact ⟨s, rfl, by omega, by rw [HRe.out]; exact hb4⟩

theorem five_run (l : List Int) : unst ([49, 49, 49, 49, 49] ++ l) = none := unst_long [49, 49, 49, 49, 49] l rfl (by decide)

set_option maxHeartbeats 1600000 in
theorem walk_FnUnstuff (a0 : Option Addr) (len0 cap0 : Nat) (z0 : List Int) (w : World) (w0 : IsRow .u8 w a0 len0 cap0 z0) :
    Calls Try.prog 10 #[.slice a0 len0 cap0] w fun e w' => e = .returned (.bool true) ∧ Below w.heap.size w w' := by
  by_cases hlen : 1048576 < len0
  · go_enter Try.func10, Try.ntmps10
    go_wp2
    go_ret
    exact ⟨rfl, Below.refl _ _⟩
  · go_enter Try.func10, Try.ntmps10
    go_wp2_with fail
    refine (DrawUnstuff_any a0 len0 cap0 z0 _ w0).mono ?_
    rintro e w1 ⟨s, rfl, hs, b1⟩
    go_wp2_with fail
    refine (implUnstuff_any s _ (by omega)).mono ?_
    rintro e w2 ⟨o, rfl, h2, hsz2, b2⟩
    go_wp2_with fail
    refine (specUnstuff_any s _ (by omega)).mono ?_
    rintro e w3 ⟨o3, rfl, h3, _, b3⟩
    obtain rfl : o3 = o := bl_inj (h3.trans h2.symm)
    have b13 := below_step (below_step b1 b2) b3
    clear h3 b1 b2 b3
    by_cases hu : bitsB (msg (bl s)) = true ∧ stuffL (msg (bl s)) = bl s
    · obtain ⟨hv, hst⟩ := hu
      have hun := unst_yes hv hst
      rw [hun] at h2 ⊢
      have hom : bl o3 = msg (bl s) := h2
      have HOM := Lib.hid hom
      have hbt : bitsB (bl o3) = true := by rw [hom]; exact hv
      have HZ : Hid (stuffZ (bl o3) = bl s) := by show _ = _; rw [hom, stuffZ_yes hv, hst]
      have hlo : longest (bl s) ≤ 4 := by rw [← hst]; exact longest_le (stuff_runs _)
      have HF : Hid (unst (bl ((⟨#[49, 49, 49, 49, 49]⟩ : ByteArray) ++ s)) = none) := by show _ = _; rw [bl_append]; exact five_run (bl s)
      have hs5 : ((⟨#[49, 49, 49, 49, 49]⟩ : ByteArray) ++ s).size ≤ 300 := by have h1 : (⟨#[49, 49, 49, 49, 49]⟩ : ByteArray).size = 5 := rfl; rw [ByteArray.size_append]; omega
      clear h2 hom hst hun
      go_wp2_with fail
      refine (implUnstuff_any _ _ (by omega)).mono ?_
      rintro e w4 ⟨o4, rfl, _, _, b4⟩
      rw [HF.out]
      go_wp2_with fail
      refine (implStuff_any o3 _ (by omega)).mono ?_
      rintro e w5 ⟨o5, rfl, h5, b5⟩
      rw [HZ.out] at h5
      obtain rfl : o5 = s := bl_inj h5
      clear h5
      go_wp2_with fail
      refine (implBitsValid_any o3 _ (by omega)).mono ?_
      rintro e w6 ⟨rfl, rfl⟩
      go_wp2_with fail
      refine (implLongestRun_any o5 _ (by omega)).mono ?_
      rintro e w6 ⟨rfl, q6, rfl⟩
      generalize longest (bl o5) = lo at *
      go_wp2_with fail
      go_ret
      exact ⟨rfl, below_drewN_ (below_step (below_step b13 b4) b5) q6⟩
    · have hun := unst_no hu
      rw [hun] at h2 ⊢
      obtain rfl : o3 = ⟨#[]⟩ := bl_inj h2
      clear h2 hun hu
      go_wp2_with fail
      refine (alive_any _).mono ?_
      rintro e w4 ⟨rfl, b4⟩
      go_wp2_with fail
      go_ret
      exact ⟨rfl, below_step b13 b4⟩
end Go.Proofs.Ytebbodjecaiooaa

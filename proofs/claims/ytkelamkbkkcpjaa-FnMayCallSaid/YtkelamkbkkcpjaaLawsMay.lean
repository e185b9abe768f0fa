/-
  The walks of the laws FnRightsValid and FnMayCall.
-/
import Derived.Test.YtkelamkbkkcpjaaDrawMay
import Derived.Test.YtkelamkbkkcpjaaAlive
namespace Go.Proofs.Ytkelamkbkkcpjaa
open Go.RowKit

/-- the rights behind the first -/
def restR (rs : List Rt) : List Rt := rs.drop 1
theorem rightsB_drop {rs : List Rt} (h : rightsB rs = true) : rightsB (restR rs) = true := by
  unfold restR
  rw [rightsB_true] at h ⊢
  exact ⟨by simp; omega, fun r hr => h.2 r (List.mem_of_mem_drop hr)⟩
theorem rightsB_app (rs : List Rt) : rightsB (rs ++ [⟨-1, 0, 0⟩]) = false := by
  cases hb : rightsB (rs ++ [⟨-1, 0, 0⟩]) with
  | false => rfl
  | true => exact absurd ((rightsB_true.1 hb).2 ⟨-1, 0, 0⟩ (by simp)) (by decide)
theorem rightsB_nil : rightsB [] = true := rfl
theorem RdR.cut {w : World} {A : Option Addr} {n : Nat} {rs : List Rt} (h : RdR w A n rs) (h0 : 0 < n) : RdR w (A.map fun x => { block := x.block, off := x.off + 3 }) (n - 1) (restR rs) := by
  unfold restR
  refine ⟨by simp [h.len], by have := h.2.1; omega, fun h1 => ?_⟩
  obtain ⟨g, off, e, hg, hc⟩ := h.2.2 h0
  subst e
  refine ⟨g, off + 3, rfl, hg, fun j hj => ?_⟩
  have hr : rnth (rs.drop 1) j = rnth rs (j + 1) := by unfold rnth; rw [List.getD_eq_getElem?_getD, List.getD_eq_getElem?_getD, List.getElem?_drop, Nat.add_comm]
  rw [hr]
  obtain ⟨c0, c1, c2⟩ := hc (j + 1) (by omega)
  refine ⟨?_, ?_, ?_⟩
  · rw [← c0]; congr 2; omega
  · rw [← c1]; congr 2; omega
  · rw [← c2]; congr 2; omega

set_option maxHeartbeats 1600000 in
theorem walk_FnRightsValid (a0 : Option Addr) (len0 cap0 : Nat) (z0 : List Int) (w : World) (w0 : IsRow .u8 w a0 len0 cap0 z0) :
    Calls Try.prog 9 #[.slice a0 len0 cap0] w fun e w' => e = .returned (.bool true) ∧ Below w.heap.size w w' := by
  by_cases hlen : 1048576 < len0
  · go_enter Try.func9, Try.ntmps9
    go_wp2
    go_ret
    exact ⟨rfl, Below.refl _ _⟩
  · go_enter Try.func9, Try.ntmps9
    go_wp2_with fail
    refine (DrawRightsValid_any a0 len0 cap0 z0 _ w0).mono ?_
    rintro e w1 ⟨A, n, c, rs, rfl, hnc, hn7, rd1, b1⟩
    have hap := rightsB_app rs
    cases hv : rightsB rs
    · go_wp2_with fail
      refine (implRightsValid_any A n c rs _ rd1).mono ?_
      rintro e w2 ⟨rfl, b2⟩
      go_wp2_with fail
      refine (specRightsValid_any A n c rs _ (rd1.below b2)).mono ?_
      rintro e w3 ⟨rfl, rfl⟩
      have rd3 := rd1.below b2
      have b13 := below_step b1 b2
      obtain ⟨w3, rfl⟩ : ∃ w3 : World, w3 = w2 := ⟨_, rfl⟩
      have ho3 := OwnR.made w3 w3.heap.size (Nat.le_refl _)
      have rd3' := rd3.alloc (.cells #[] 25)
      go_wp2_with (first
        | (at_builtin; refine wpList_append_rdR _ rfl (.tmp 29) (.tmp 30) rfl w3.heap.size _ 0 0 [] rfl ho3 A n c rs rfl rd3' (by omega) (size_one _ _ (Nat.le_refl _) _) ?_; intro A4 c4 w4 ho4 hgrow4 hbel4; have hb4 := ((Below.refl w3.heap.size w3).alloc (Nat.le_refl _) (.cells #[] 25)).trans (hbel4 _ (Nat.le_refl _)); have hs4 := hb4.size; rw [List.nil_append, Nat.zero_add] at ho4; rw [Nat.zero_add])
        | (at_builtin; refine wpList_append_rdR _ rfl (.tmp 31) (.tmp 33) rfl w3.heap.size A4 n c4 rs rfl (ho4.alloc _) _ 1 1 [⟨-1, 0, 0⟩] rfl (rdR_built w4 ⟨-1, 0, 0⟩) (by omega) (size_one _ _ hs4 _) ?_; intro A5 c5 w5 ho5 hgrow5 hbel5))
      have hb5 : Below w3.heap.size w3 w5 := (hb4.alloc hs4 _).trans (hbel5 _ (Nat.le_refl _))
      refine (implRightsValid_any A5 _ c5 _ _ (ho5.rd (by omega))).mono ?_
      rintro e w6 ⟨rfl, b6⟩
      go_wp2_with fail
      refine (implRightsValid_any none 0 0 [] _ RdR.nil_).mono ?_
      rintro e w7 ⟨rfl, b7⟩
      go_wp2_with fail
      refine (alive_any _).mono ?_
      rintro e w8 ⟨rfl, b8⟩
      go_wp2_with fail
      go_ret
      exact ⟨rfl, below_step (below_step (below_step (below_step b13 hb5) b6) b7) b8⟩
    · rcases Nat.eq_zero_or_pos n with h0 | h0
      · subst h0
        go_wp2_with fail
        refine (implRightsValid_any A 0 c rs _ rd1).mono ?_
        rintro e w2 ⟨rfl, b2⟩
        go_wp2_with fail
        refine (specRightsValid_any A 0 c rs _ (rd1.below b2)).mono ?_
        rintro e w3 ⟨rfl, rfl⟩
        have rd3 := rd1.below b2
        have b13 := below_step b1 b2
        obtain ⟨w3, rfl⟩ : ∃ w3 : World, w3 = w2 := ⟨_, rfl⟩
        have ho3 := OwnR.made w3 w3.heap.size (Nat.le_refl _)
        have rd3' := rd3.alloc (.cells #[] 25)
        go_wp2_with (first
          | (at_builtin; refine wpList_append_rdR _ rfl (.tmp 29) (.tmp 30) rfl w3.heap.size _ 0 0 [] rfl ho3 A 0 c rs rfl rd3' (by omega) (size_one _ _ (Nat.le_refl _) _) ?_; intro A4 c4 w4 ho4 hgrow4 hbel4; have hb4 := ((Below.refl w3.heap.size w3).alloc (Nat.le_refl _) (.cells #[] 25)).trans (hbel4 _ (Nat.le_refl _)); have hs4 := hb4.size; rw [List.nil_append, Nat.zero_add] at ho4; rw [Nat.zero_add])
          | (at_builtin; refine wpList_append_rdR _ rfl (.tmp 31) (.tmp 33) rfl w3.heap.size A4 0 c4 rs rfl (ho4.alloc _) _ 1 1 [⟨-1, 0, 0⟩] rfl (rdR_built w4 ⟨-1, 0, 0⟩) (by omega) (size_one _ _ hs4 _) ?_; intro A5 c5 w5 ho5 hgrow5 hbel5))
        have hb5 : Below w3.heap.size w3 w5 := (hb4.alloc hs4 _).trans (hbel5 _ (Nat.le_refl _))
        refine (implRightsValid_any A5 _ c5 _ _ (ho5.rd (by omega))).mono ?_
        rintro e w6 ⟨rfl, b6⟩
        go_wp2_with fail
        refine (implRightsValid_any none 0 0 [] _ RdR.nil_).mono ?_
        rintro e w7 ⟨rfl, b7⟩
        go_wp2_with fail
        refine (alive_any _).mono ?_
        rintro e w8 ⟨rfl, b8⟩
        go_wp2_with fail
        go_ret
        exact ⟨rfl, below_step (below_step (below_step (below_step b13 hb5) b6) b7) b8⟩
      · by_cases hc1 : c = 1
        · subst hc1
          obtain rfl : n = 1 := by omega
          have hne : (((1 : Nat) : Int) == 0) = false := rfl
          have hdr := rightsB_drop hv
          go_wp2_with fail
          refine (implRightsValid_any A 1 1 rs _ rd1).mono ?_
          rintro e w2 ⟨rfl, b2⟩
          go_wp2_with fail
          refine (specRightsValid_any A 1 1 rs _ (rd1.below b2)).mono ?_
          rintro e w3 ⟨rfl, rfl⟩
          have rd3 := rd1.below b2
          have b13 := below_step b1 b2
          obtain ⟨w3, rfl⟩ : ∃ w3 : World, w3 = w2 := ⟨_, rfl⟩
          have rdc : RdR w3 A 0 (restR rs) := by have := rd3.len; unfold restR; rw [List.drop_of_length_le (by omega)]; exact RdR.nil_
          go_wp2_with fail
          refine (implRightsValid_any A 0 0 _ _ rdc).mono ?_
          rintro e w9 ⟨rfl, b9⟩
          have rd3 := rd3.below b9
          have b13 := below_step b13 b9
          obtain ⟨w3, rfl⟩ : ∃ w3 : World, w3 = w9 := ⟨_, rfl⟩
          have ho3 := OwnR.made w3 w3.heap.size (Nat.le_refl _)
          have rd3' := rd3.alloc (.cells #[] 25)
          go_wp2_with (first
            | (at_builtin; refine wpList_append_rdR _ rfl (.tmp 29) (.tmp 30) rfl w3.heap.size _ 0 0 [] rfl ho3 A 1 1 rs rfl rd3' (by omega) (size_one _ _ (Nat.le_refl _) _) ?_; intro A4 c4 w4 ho4 hgrow4 hbel4; have hb4 := ((Below.refl w3.heap.size w3).alloc (Nat.le_refl _) (.cells #[] 25)).trans (hbel4 _ (Nat.le_refl _)); have hs4 := hb4.size; rw [List.nil_append, Nat.zero_add] at ho4; rw [Nat.zero_add])
            | (at_builtin; refine wpList_append_rdR _ rfl (.tmp 31) (.tmp 33) rfl w3.heap.size A4 1 c4 rs rfl (ho4.alloc _) _ 1 1 [⟨-1, 0, 0⟩] rfl (rdR_built w4 ⟨-1, 0, 0⟩) (by omega) (size_one _ _ hs4 _) ?_; intro A5 c5 w5 ho5 hgrow5 hbel5))
          have hb5 : Below w3.heap.size w3 w5 := (hb4.alloc hs4 _).trans (hbel5 _ (Nat.le_refl _))
          refine (implRightsValid_any A5 _ c5 _ _ (ho5.rd (by omega))).mono ?_
          rintro e w6 ⟨rfl, b6⟩
          go_wp2_with fail
          refine (implRightsValid_any none 0 0 [] _ RdR.nil_).mono ?_
          rintro e w7 ⟨rfl, b7⟩
          go_wp2_with fail
          refine (alive_any _).mono ?_
          rintro e w8 ⟨rfl, b8⟩
          go_wp2_with fail
          go_ret
          exact ⟨rfl, below_step (below_step (below_step (below_step b13 hb5) b6) b7) b8⟩
        · have hne : ((n : Int) == 0) = false := by simp; omega
          have hdr := rightsB_drop hv
          go_wp2_with fail
          refine (implRightsValid_any A n c rs _ rd1).mono ?_
          rintro e w2 ⟨rfl, b2⟩
          go_wp2_with fail
          refine (specRightsValid_any A n c rs _ (rd1.below b2)).mono ?_
          rintro e w3 ⟨rfl, rfl⟩
          have rd3 := rd1.below b2
          have b13 := below_step b1 b2
          obtain ⟨w3, rfl⟩ : ∃ w3 : World, w3 = w2 := ⟨_, rfl⟩
          have rdc := rd3.cut h0
          go_wp2_with fail
          refine (implRightsValid_any _ _ _ _ _ rdc).mono ?_
          rintro e w9 ⟨rfl, b9⟩
          have rd3 := rd3.below b9
          have b13 := below_step b13 b9
          obtain ⟨w3, rfl⟩ : ∃ w3 : World, w3 = w9 := ⟨_, rfl⟩
          have ho3 := OwnR.made w3 w3.heap.size (Nat.le_refl _)
          have rd3' := rd3.alloc (.cells #[] 25)
          go_wp2_with (first
            | (at_builtin; refine wpList_append_rdR _ rfl (.tmp 29) (.tmp 30) rfl w3.heap.size _ 0 0 [] rfl ho3 A n c rs rfl rd3' (by omega) (size_one _ _ (Nat.le_refl _) _) ?_; intro A4 c4 w4 ho4 hgrow4 hbel4; have hb4 := ((Below.refl w3.heap.size w3).alloc (Nat.le_refl _) (.cells #[] 25)).trans (hbel4 _ (Nat.le_refl _)); have hs4 := hb4.size; rw [List.nil_append, Nat.zero_add] at ho4; rw [Nat.zero_add])
            | (at_builtin; refine wpList_append_rdR _ rfl (.tmp 31) (.tmp 33) rfl w3.heap.size A4 n c4 rs rfl (ho4.alloc _) _ 1 1 [⟨-1, 0, 0⟩] rfl (rdR_built w4 ⟨-1, 0, 0⟩) (by omega) (size_one _ _ hs4 _) ?_; intro A5 c5 w5 ho5 hgrow5 hbel5))
          have hb5 : Below w3.heap.size w3 w5 := (hb4.alloc hs4 _).trans (hbel5 _ (Nat.le_refl _))
          refine (implRightsValid_any A5 _ c5 _ _ (ho5.rd (by omega))).mono ?_
          rintro e w6 ⟨rfl, b6⟩
          go_wp2_with fail
          refine (implRightsValid_any none 0 0 [] _ RdR.nil_).mono ?_
          rintro e w7 ⟨rfl, b7⟩
          go_wp2_with fail
          refine (alive_any _).mono ?_
          rintro e w8 ⟨rfl, b8⟩
          go_wp2_with fail
          go_ret
          exact ⟨rfl, below_step (below_step (below_step (below_step b13 hb5) b6) b7) b8⟩
end Go.Proofs.Ytkelamkbkkcpjaa

/-
  A slice of rights that came in; the walk of the law FnExactRightsValid.
-/
import Derived.Test.YtkelamkbkkcpjaaRights2
import Derived.Deep.Slices
import Derived.Deep.Fields
import Derived.ChangeSame
namespace Go.Proofs.Ytkelamkbkkcpjaa
open Go.RowKit Go.ChangeShapes Go.WideShapes Go.Deep

/-- a slice of rights that came in -/
def IsRights (w : World) (a : Option Addr) (len cap : Nat) (zs : List Rt) : Prop :=
  len ≤ cap ∧ cap ≤ maxLen ∧ zs.length = len ∧ (0 < len → ∃ g off, a = some ⟨g, off, none⟩ ∧ g < w.heap.size ∧ ∀ j, j < len → Cells3 w g off j (rnth zs j))
theorem IsRights.rd {w : World} {a : Option Addr} {len cap : Nat} {zs : List Rt} (h : IsRights w a len cap zs) (hn : len ≤ 4194304) : RdR w a len zs := ⟨h.2.2.1, hn, h.2.2.2⟩

theorem open_rights {H : Type} {enc : TypeId × Value → H} {w : World} {base : Nat} {spare : Nat → Bool} {held : Bool} {fuel : Nat} {a : Option Addr} {len cap : Nat} {x : DataW H × List MemPlace}
    (h : DataW.trod enc Try.prog w base spare held fuel 28 [.slice a len cap] = some x) : ∃ zs, IsRights w a len cap zs := by
  rcases open_slice Try.underlying28 h with ⟨hcs, _⟩ | ⟨ad, l, c, m, n, D, Pl, hcs, _, hl, hm, hmm, _, hi⟩
  · simp at hcs
    obtain ⟨rfl, rfl, rfl⟩ := hcs
    exact ⟨[], Nat.le_refl _, by unfold maxLen; omega, rfl, fun h0 => absurd h0 (by omega)⟩
  · simp at hcs
    obtain ⟨rfl, rfl, rfl⟩ := hcs
    have hC : Try.prog.cellsOf 23 = 3 := by kernel_rfl
    have hm' : len ≤ m := by rw [hmm]; split <;> omega
    have key : ∀ i, i < len → ∃ r : Rt, w.cell? ((ad.add (i * 3)).add 0) = some (.int .i64 r.f) ∧ w.cell? ((ad.add (i * 3)).add 1) = some (.int .i64 r.a) ∧ w.cell? ((ad.add (i * 3)).add 2) = some (.int .i64 r.b) := by
      intro i hil
      obtain ⟨cs', hcell, htr⟩ := hi i (by omega)
      rw [hC] at hcell
      obtain ⟨ys, k, _, _, hlen, hyl, hfield⟩ := DataW.trod_struct Try.underlying23 htr
      obtain ⟨_, hcl, hat⟩ := World.cells?_some hcell
      match cs', hcl with
      | [c0, c1, c2], _ =>
        have hy3 : ys.length = 3 := hyl
        have one : ∀ (j : Nat) (hj : j < 3), ∃ z : Int, [c0, c1, c2][j]? = some (.int .i64 z) := by
          intro j hj
          have hyj : ys[j]? = some (ys[j]'(by omega)) := List.getElem?_eq_getElem (by omega)
          have h3 : j = 0 ∨ j = 1 ∨ j = 2 := by omega
          rcases h3 with rfl | rfl | rfl
          · have hf := hfield 0 _ rfl
            rw [hyj] at hf
            obtain ⟨z, ez, _, _⟩ := DataW.trod_int Try.underlying3 hf
            have ez' : [c0] = [.int .i64 z] := ez
            exact ⟨z, by simp at ez' ⊢; exact ez'⟩
          · have hf := hfield 1 _ rfl
            rw [hyj] at hf
            obtain ⟨z, ez, _, _⟩ := DataW.trod_int Try.underlying3 hf
            have ez' : [c1] = [.int .i64 z] := ez
            exact ⟨z, by simp at ez' ⊢; exact ez'⟩
          · have hf := hfield 2 _ rfl
            rw [hyj] at hf
            obtain ⟨z, ez, _, _⟩ := DataW.trod_int Try.underlying3 hf
            have ez' : [c2] = [.int .i64 z] := ez
            exact ⟨z, by simp at ez' ⊢; exact ez'⟩
        obtain ⟨z0, e0⟩ := one 0 (by omega)
        obtain ⟨z1, e1⟩ := one 1 (by omega)
        obtain ⟨z2, e2⟩ := one 2 (by omega)
        exact ⟨⟨z0, z1, z2⟩, (hat 0 (by omega)).trans e0, (hat 1 (by omega)).trans e1, (hat 2 (by omega)).trans e2⟩
    refine ⟨(List.range len).map fun i => if hil : i < len then Classical.choose (key i hil) else ⟨0, 0, 0⟩, hl, hm, by simp, fun h0 => ?_⟩
    obtain ⟨r0, hr0, _, _⟩ := key 0 h0
    obtain ⟨b, off, spot⟩ := ad
    have hspot : spot = none := by simpa [Addr.add] using World.cell?_spot hr0
    subst hspot
    have hadd : ∀ (o k : Nat), (⟨b, o, none⟩ : Addr).add k = ⟨b, o + k, none⟩ := by intro o k; unfold Addr.add; split <;> simp_all
    refine ⟨b, off, rfl, ?_, fun j hj => ?_⟩
    · have := World.block_lt_of_cell? w _ hr0
      simpa [hadd] using this
    · have hspec := Classical.choose_spec (key j hj)
      have hn : rnth ((List.range len).map fun i => if hil : i < len then Classical.choose (key i hil) else ⟨0, 0, 0⟩) j = Classical.choose (key j hj) := by
        rw [rnth_get _ j (by simpa using hj)]
        simp [hj]
      rw [hn]
      clear hn
      generalize Classical.choose (key j hj) = r at hspec ⊢
      simp only [hadd, Nat.add_zero] at hspec
      exact hspec

set_option maxHeartbeats 1600000 in
theorem walk_FnExactRightsValid (a0 : Option Addr) (len0 cap0 : Nat) (rs : List Rt) (w : World) (w0 : IsRights w a0 len0 cap0 rs) :
    Calls Try.prog 4 #[.slice a0 len0 cap0] w fun e w' => e = .returned (.bool true) ∧ Below w.heap.size w w' := by
  by_cases hlen : 1048576 < len0
  · have h1 := w0.1
    have h2 := w0.2.1
    unfold maxLen at h2
    go_enter Try.func4, Try.ntmps4
    go_wp2_with fail
    refine (szRightS_no a0 len0 cap0 _ (by omega) hlen).mono ?_
    rintro e w1 ⟨rfl, rfl⟩
    go_wp2_with fail
    go_ret
    exact ⟨rfl, Below.refl _ _⟩
  · have hr := w0.rd (by omega)
    have hself : (rightsB rs == rightsB rs) = true := by simp
    have hd : decide ((1048576 : Int) - (len0 : Int) < 0) = false := by simp; omega
    go_enter Try.func4, Try.ntmps4
    go_wp2_with fail
    refine (szRightS_yes a0 len0 cap0 _ (by omega)).mono ?_
    rintro e w1 ⟨rfl, rfl⟩
    go_wp2_with fail
    refine (toRightS_any a0 len0 cap0 rs _ hr (by omega)).mono ?_
    rintro e w1 ⟨rfl, r1, b1, _⟩
    go_wp2_with fail
    refine (specRightsValid_any _ _ _ rs _ r1.rd).mono ?_
    rintro e w2 ⟨rfl, rfl⟩
    go_wp2_with fail
    refine (toRightS_any a0 len0 cap0 rs _ (hr.below b1) (by omega)).mono ?_
    rintro e w2 ⟨rfl, r2, b2, _⟩
    have b12 := below_step b1 b2
    go_wp2_with fail
    refine (implRightsValid_any _ _ _ rs _ r2.rd).mono ?_
    rintro e w3 ⟨rfl, b3⟩
    have b13 := below_step b12 b3
    go_wp2_with fail
    refine (toRightS_any a0 len0 cap0 rs _ (hr.below b13) (by omega)).mono ?_
    rintro e w4 ⟨rfl, r4, b4, _⟩
    go_wp2_with fail
    refine (eqRightS_same _ _ _ _ _ rs _ ((r2.rd.below b3).below b4) r4.rd).mono ?_
    rintro e w5 ⟨rfl, b5⟩
    go_wp2_with fail
    go_ret
    exact ⟨rfl, below_step (below_step b13 b4) b5⟩
end Go.Proofs.Ytkelamkbkkcpjaa

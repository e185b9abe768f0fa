/-
  The drawing of rings.
-/
import Derived.Test.YtjhnpnmpnmmpbaaAppendW
namespace Go.Proofs.Ytjhnpnmpnmmpbaa
open Go.RowKit
attribute [local go_sem ↓] Go.wp_at_zero Go.wp_at_succ

/-- a ring is drawn -/
def RingDrawn (w : World) (R P : Nat) (e : Ending) (w' : World) : Prop :=
  ∃ (f : Int) (A : Option Addr) (n c : Nat) (xs : List Int), e = .returned (.agg #[.int .i64 f, .slice A n c]) ∧ -1 ≤ f ∧ f ≤ 10000 ∧ n ≤ 7 ∧ n ≤ c ∧ (A = none → c = 0) ∧ Row w' (R + 1) A n xs ∧ Rdr w' R (P + 40) ∧ Below R w w'

/-- what stands at the head of the loop -/
structure RingSt (w wr : World) (R p : Nat) (f : Int) (A : Option Addr) (n c : Nat) (xs : List Int) : Prop where
  hx : Bx wr (w.heap.size + 1) 27 f A n c
  hy : Bx wr w.heap.size 27 0 none 0 0
  row : RowS wr (w.heap.size + 2) A n c xs
  rdr : Rdr wr R p
  bel : Below R w wr
  hR : R < w.heap.size
section
variable {w wr w2 : World} {R p p' : Nat} {f f' : Int} {A A' : Option Addr} {n c n' c' g : Nat} {xs ys : List Int}
theorem RingSt.size (h : RingSt w wr R p f A n c xs) : w.heap.size + 2 ≤ wr.heap.size := h.hx.lt
theorem RingSt.picked (h : RingSt w wr R p f A n c xs) (hr : Rdr w2 R p') (hg : wr.grownBy w2 (some R)) : RingSt w w2 R p' f A n c xs :=
  ⟨h.hx.grown hg (by have := h.hR; omega), h.hy.grown hg (by have := h.hR; omega), h.row.grown_ge (by have := h.hR; omega) hg, hr, h.bel.trans (below_of_grown hg (Nat.le_refl _) (by have := h.size; have := h.hR; omega)), h.hR⟩
theorem RingSt.below (h : RingSt w wr R p f A n c xs) (hb : Below wr.heap.size wr w2) : RingSt w w2 R p f A n c xs :=
  ⟨h.hx.below hb, h.hy.below hb, h.row.below hb, h.rdr.below (hb.mono h.rdr.lt), h.bel.trans (hb.mono (by have := h.size; have := h.hR; omega)), h.hR⟩
theorem RingSt.alloc (h : RingSt w wr R p f A n c xs) (o : Obj) : RingSt w (wr.alloc o) R p f A n c xs := h.below (below_new wr o)
theorem RingSt.drew (h : RingSt w wr R p f A n c xs) : RingSt w wr.drew R p f A n c xs := ⟨h.hx.drew, h.hy.drew, h.row.drew, h.rdr.drew, below_drew_ h.bel, h.hR⟩
theorem RingSt.cells (h : RingSt w wr R p f A n c xs) : wr.cell? ⟨w.heap.size + 1, 0, none⟩ = some (.int .i64 f) ∧ wr.cell? ⟨w.heap.size + 1, 1, none⟩ = some (.slice A n c) := ⟨h.hx.c0, h.hx.c1⟩
theorem Bx.cells {b : Nat} {t : TypeId} (h : Bx wr b t f A n c) : wr.cell? ⟨b, 0, none⟩ = some (.int .i64 f) ∧ wr.cell? ⟨b, 1, none⟩ = some (.slice A n c) := ⟨h.c0, h.c1⟩
theorem RingSt.put_ (hx : Bx w2 (w.heap.size + 1) 27 f A n c) (hy : Bx w2 w.heap.size 27 0 none 0 0) (hd : Rdr w2 R p) (hb : Below R w w2) (hR : R < w.heap.size) (hr : RowS w2 (w.heap.size + 2) A' n' c' ys) :
    RingSt w ((w2.setCell ⟨w.heap.size + 1, 0, none⟩ (.int .i64 f')).setCell ⟨w.heap.size + 1, 1, none⟩ (.slice A' n' c')) R p f' A' n' c' ys :=
  ⟨(hx.set0 f').set1 A' n' c', (hy.far (by omega) _).far (by omega) _, (hr.grown_ge (by omega) (grown_set1 _ _ _ _)).grown_ge (by omega) (grown_set1 _ _ _ _),
    hd.below (((Below.refl _ _).setCell (by show R + 1 ≤ w.heap.size + 1; omega) _).setCell (by show R + 1 ≤ w.heap.size + 1; omega) _), (hb.setCell (by show R ≤ w.heap.size + 1; omega) _).setCell (by show R ≤ w.heap.size + 1; omega) _, hR⟩
theorem RingSt.put (h : RingSt w w2 R p f A n c xs) (hr : RowS w2 (w.heap.size + 2) A' n' c' ys) : RingSt w ((w2.setCell ⟨w.heap.size + 1, 0, none⟩ (.int .i64 f')).setCell ⟨w.heap.size + 1, 1, none⟩ (.slice A' n' c')) R p f' A' n' c' ys :=
  RingSt.put_ h.hx h.hy h.rdr h.bel h.hR hr
theorem RingSt.put_set (h : RingSt w w2 R p f A n c xs) (hg : w.heap.size + 2 ≤ g) (hr : RowS w2 (g + 1) A' n' c' ys) :
    RingSt w ((((w2.setCell ⟨g, 0, none⟩ (.int .i64 f')).setCell ⟨g, 1, none⟩ (.slice A' n' c')).setCell ⟨w.heap.size + 1, 0, none⟩ (.int .i64 f')).setCell ⟨w.heap.size + 1, 1, none⟩ (.slice A' n' c')) R p f' A' n' c' ys := by
  have hR := h.hR
  refine RingSt.put_ ((h.hx.far (by omega) _).far (by omega) _) ((h.hy.far (by omega) _).far (by omega) _) ?_ ?_ hR (((hr.grown_ge (by omega) (grown_set1 _ _ _ _)).grown_ge (by omega) (grown_set1 _ _ _ _)).more (by omega))
  · exact h.rdr.below (((Below.refl _ _).setCell (by show R + 1 ≤ g; omega) _).setCell (by show R + 1 ≤ g; omega) _)
  · exact (h.bel.setCell (by show R ≤ g; omega) _).setCell (by show R ≤ g; omega) _
theorem RingSt.start (w : World) (R p : Nat) (h : Rdr w R p) : RingSt w ((w.alloc (ringBox 0 none 0 0)).alloc (ringBox 0 none 0 0)) R p 0 none 0 0 [] := by
  refine ⟨?_, (Bx.new w _ 0 none 0 0).alloc _, RowS.nil_, (h.alloc _).alloc _, ((Below.refl _ _).alloc (by have := h.lt; omega) _).alloc (by have := h.lt; simp; omega) _, h.lt⟩
  have := Bx.new (w.alloc (ringBox 0 none 0 0)) 27 0 none 0 0
  simpa using this
theorem RingSt.set0 (h : RingSt w w2 R p f A n c xs) : RingSt w (w2.setCell ⟨w.heap.size + 1, 0, none⟩ (.int .i64 f')) R p f' A n c xs := by
  have hR := h.hR
  exact ⟨h.hx.set0 f', h.hy.far (by omega) _, h.row.grown_ge (by omega) (grown_set1 _ _ _ _), h.rdr.below ((Below.refl _ _).setCell (by show R + 1 ≤ w.heap.size + 1; omega) _), h.bel.setCell (by show R ≤ w.heap.size + 1; omega) _, hR⟩
theorem RingSt.out (h : RingSt w w2 R p f A n c xs) (u v : Value) : Row ((w2.setCell ⟨w.heap.size, 0, none⟩ u).setCell ⟨w.heap.size, 1, none⟩ v) (R + 1) A n xs ∧ Rdr ((w2.setCell ⟨w.heap.size, 0, none⟩ u).setCell ⟨w.heap.size, 1, none⟩ v) R p ∧ Below R w ((w2.setCell ⟨w.heap.size, 0, none⟩ u).setCell ⟨w.heap.size, 1, none⟩ v) := by
  have hR := h.hR
  exact ⟨((h.row.row.grown_ge (by omega) (grown_set1 _ _ _ _)).grown_ge (by omega) (grown_set1 _ _ _ _)).more (by omega),
    h.rdr.below (((Below.refl _ _).setCell (by show R + 1 ≤ w.heap.size; omega) _).setCell (by show R + 1 ≤ w.heap.size; omega) _),
    (h.bel.setCell (by show R ≤ w.heap.size; omega) _).setCell (by show R ≤ w.heap.size; omega) _⟩
theorem RingSt.out_ (h : RingSt w w2 R p f A n c xs) {m : Nat} (hr : Row w2 (w.heap.size + 2) A' m ys) (u v : Value) : Row ((w2.setCell ⟨w.heap.size, 0, none⟩ u).setCell ⟨w.heap.size, 1, none⟩ v) (R + 1) A' m ys ∧ Rdr ((w2.setCell ⟨w.heap.size, 0, none⟩ u).setCell ⟨w.heap.size, 1, none⟩ v) R p ∧ Below R w ((w2.setCell ⟨w.heap.size, 0, none⟩ u).setCell ⟨w.heap.size, 1, none⟩ v) :=
  ⟨((hr.grown_ge (by omega) (grown_set1 _ _ _ _)).grown_ge (by omega) (grown_set1 _ _ _ _)).more (by have := h.hR; omega), (h.out u v).2⟩
theorem RingSt.low (h : RingSt w wr R p f A n c xs) {m : Nat} (hr : Row w2 (w.heap.size + 2) A' m ys) (hb : Below (w.heap.size + 2) wr w2) :
    Bx w2 (w.heap.size + 1) 27 f A n c ∧ Bx w2 w.heap.size 27 0 none 0 0 ∧
    ∀ t u v, Row (((w2.setCell ⟨w.heap.size + 1, 1, none⟩ t).setCell ⟨w.heap.size, 0, none⟩ u).setCell ⟨w.heap.size, 1, none⟩ v) (R + 1) A' m ys ∧ Rdr (((w2.setCell ⟨w.heap.size + 1, 1, none⟩ t).setCell ⟨w.heap.size, 0, none⟩ u).setCell ⟨w.heap.size, 1, none⟩ v) R p ∧ Below R w (((w2.setCell ⟨w.heap.size + 1, 1, none⟩ t).setCell ⟨w.heap.size, 0, none⟩ u).setCell ⟨w.heap.size, 1, none⟩ v) := by
  have hR := h.hR
  refine ⟨(hb.block _ (by omega)).trans h.hx, (hb.block _ (by omega)).trans h.hy, fun t u v => ⟨?_, ?_, ?_⟩⟩
  · exact (((hr.grown_ge (by omega) (grown_set1 _ _ _ _)).grown_ge (by omega) (grown_set1 _ _ _ _)).grown_ge (by omega) (grown_set1 _ _ _ _)).more (by omega)
  · exact (h.rdr.below (hb.mono (by omega))).below ((((Below.refl _ _).setCell (by show R + 1 ≤ w.heap.size + 1; omega) _).setCell (by show R + 1 ≤ w.heap.size; omega) _).setCell (by show R + 1 ≤ w.heap.size; omega) _)
  · exact (((h.bel.trans (hb.mono (by omega))).setCell (by show R ≤ w.heap.size + 1; omega) _).setCell (by show R ≤ w.heap.size; omega) _).setCell (by show R ≤ w.heap.size; omega) _
theorem RingSt.more_ (h : RingSt w wr R p f A n c xs) (hp : p ≤ p') : RingSt w wr R p' f A n c xs := ⟨h.hx, h.hy, h.row, h.rdr.more hp, h.bel, h.hR⟩
theorem RowS.none_ {lo : Nat} (h : RowS w lo none n c xs) : c = 0 := by
  have hn : n = 0 := by
    rcases Nat.eq_zero_or_pos n with h0 | h0
    · exact h0
    · obtain ⟨_, _, e, _⟩ := h.row.2.2 h0
      cases e
  rcases Nat.eq_zero_or_pos c with h0 | h0
  · exact h0
  · obtain ⟨_, _, e, _⟩ := h.spare (by omega)
    cases e
theorem RowS.noneA {lo : Nat} (h : RowS w lo A n c xs) : A = none → c = 0 := by
  rintro rfl
  exact h.none_
theorem Own.built1 (w : World) (base : Nat) (hb : base ≤ w.heap.size) (y : Int) : Own (w.alloc (.cells #[.int .i64 y] 3)) base (some ⟨w.heap.size, 0, none⟩) 1 1 [y] :=
  ⟨⟨rfl, .inr ⟨w.heap.size, 1, _, rfl, hb, heap_alloc_new w _, Nat.le_refl _, by unfold maxLen; omega, rfl, rfl⟩⟩, Nat.le_refl _⟩
end

set_option maxHeartbeats 6400000 in
set_option maxRecDepth 100000 in
theorem l20Ring_any (R P : Nat) (m : Int) (w : World) (h : Rdr w R P) (hP : P ≤ 90000) (hm : 0 ≤ m) (hm' : m ≤ 100000) :
    Calls Try.prog 44 #[.pointer (some ⟨R, 0, none⟩), .int .i64 m] w (RingDrawn w R P) := by
  have hst := RingSt.start w R P h
  have hR := h.lt
  have hr0 := hst.rdr
  go_enter Try.func44, Try.ntmps44
  go_wp2_with fail
  refine (pick_any R P 14 _ hr0 (by omega) (by omega) (by omega)).mono ?_
  rintro e w1 ⟨x, rfl, hx0, hx1, hr1, hg1⟩
  have hst1 := hst.picked hr1 hg1
  clear hst hr0 hr1 hg1
  obtain ⟨k, rfl⟩ := Int.eq_ofNat_of_zero_le hx0
  have hv0 : Hid (ringB 0 [] = true) := by show _ = _; decide
  go_wp2_with fail
  go_loopw [6] (fun i wr => ∃ (j p n c : Nat) (f : Int) (A : Option Addr) (xs : List Int), i = .int .i64 j ∧ j ≤ 14 ∧ p + j ≤ P + 15 ∧ Hid (ringB f xs = true) ∧ RingSt w wr R p f A n c xs) (fun i _ => (intOf i).toNat)
  case atStart => exact ⟨k, P + 1, 0, 0, 0, none, [], rfl, by omega, by omega, hv0, hst1⟩
  case round =>
    obtain ⟨j, p, n, c, f, A, xs, rfl, hj, hpj, HV, hs⟩ := hrel
    clear hst1 hv0
    rcases Nat.eq_zero_or_pos j with h0 | h0
    · subst h0
      obtain ⟨v1, v2, v3, _⟩ := ringB_true.1 HV.out
      rw [hs.row.row.len] at v3
      go_wp2_with fail
      refine (odd_any R p 12 _ hs.rdr (by omega) (by omega) (by omega)).mono ?_
      rintro e w2 ⟨b, rfl, hr2, hg2⟩
      have hs2 := hs.picked hr2 hg2
      clear hr2 hg2 hs
      have hc1 := hs2.hx.c1
      have case6 : (b = true ∧ n = 6) ∨ (b = true ∧ ¬ n = 6) ∨ b = false := by
        cases b
        · exact .inr (.inr rfl)
        · exact (Classical.em (n = 6)).elim (fun h => .inl ⟨rfl, h⟩) (fun h => .inr (.inl ⟨rfl, h⟩))
      rcases case6 with ⟨rfl, h6⟩ | ⟨rfl, h6⟩ | rfl
      focus
        have e6 : ((n : Int) == 6) = true := by simp; omega
        clear h6
        go_wp2_with fail
        refine (pick_any R (p + 1) 2 _ hs2.rdr (by omega) (by omega) (by omega)).mono ?_
        rintro e w3 ⟨z, rfl, hz0, hz1, hr3, hg3⟩
        have hs3 := hs2.picked hr3 hg3
        clear hr3 hg3 hs2 hc1 e6
        have hc0 := hs3.hx.c0
        have hf0 := hs3.hx.f0
        have hsa : RingSt w _ R (p + 2) (9999 - z) A n c xs := hs3.set0
        clear hs3
        go_wp2_with fail
        clear hc0 hf0
        have v1' : -1 ≤ 9999 - z := by omega
        have v2' : 9999 - z ≤ 10000 := by omega
        clear HV v1 v2 hz0 hz1
        generalize 9999 - z = fa at *
        generalize w3.setCell ⟨w.heap.size + 1, 0, none⟩ (.int .i64 fa) = wa at *
      rotate_left
      focus
        have e6 : ((n : Int) == 6) = false := by simp; omega
        clear h6
        go_wp2_with fail
        clear hc1 e6
        have hsa : RingSt w w2 R (p + 2) f A n c xs := hs2.more_ (by omega)
        have v1' : -1 ≤ f := by omega
        have v2' : f ≤ 10000 := by omega
        clear HV v1 v2 hs2
        generalize f = fa at *
        generalize w2 = wa at *
      rotate_left
      focus
        go_wp2_with fail
        clear hc1
        have hsa : RingSt w w2 R (p + 2) f A n c xs := hs2.more_ (by omega)
        have v1' : -1 ≤ f := by omega
        have v2' : f ≤ 10000 := by omega
        clear HV v1 v2 hs2
        generalize f = fa at *
        generalize w2 = wa at *
      all_goals
        refine (odd_any R (p + 2) m _ hsa.rdr (by omega) hm hm').mono ?_
        rintro e wb ⟨b2, rfl, hrb, hgb⟩
        have hsb := hsa.picked hrb hgb
        clear hsa hrb hgb
        cases b2
        · have hx0 := hsb.hx.c0
          have hx1 := hsb.hx.c1
          have hy0 := hsb.hy.c0
          have hy1 := hsb.hy.c1
          have hf0 := hsb.hy.f0
          have hf1 := hsb.hy.f1
          have hv := (hsb.hy.set0 fa).set1 A n c
          have k0 := hv.c0
          have k1 := hv.c1
          have HO := Lib.hid (hsb.out (.int .i64 fa) (.slice A n c))
          have HN := Lib.hid hsb.row.noneA
          have hcap := hsb.row.cap
          clear hsb hv
          go_wp2_with fail
          exact bodyPost_ret (v := .agg #[.int .i64 fa, .slice A n c]) (by simp [results, Try.results44, go_sem, k0, k1]) rfl ⟨fa, A, n, c, xs, rfl, v1', v2', by omega, hcap, HN.out, HO.out.1, HO.out.2.1.more (by omega), HO.out.2.2⟩
        · go_wp2_with fail
          refine (pick_any R (p + 2 + 1) 3 _ hsb.rdr (by omega) (by omega) (by omega)).mono ?_
          rintro e wd ⟨y, rfl, hyy0, hyy1, hrd, hgd⟩
          have hsd := hsb.picked hrd hgd
          clear hsb hrd hgd
          have hzd := hsd.size
          by_cases hy : y = 0
          · subst hy
            have hse := hsd.alloc (.cells #[.int .i64 (-1), .int .i64 10000] 3)
            go_wp2_with fail
            refine (pick_any R (p + 2 + 1 + 1) 2 _ hse.rdr (by omega) (by omega) (by omega)).mono ?_
            rintro e we ⟨z, rfl, hz0, hz1, hre, hge⟩
            have hsf := hse.picked hre hge
            have hc : ∀ i : Nat, we.cell? ⟨wd.heap.size, i, none⟩ = (wd.alloc (.cells #[.int .i64 (-1), .int .i64 10000] 3)).cell? ⟨wd.heap.size, i, none⟩ := fun i =>
              hge.cell_far ⟨wd.heap.size, i, none⟩ (by simp) (by simp; omega)
            have hc0 : we.cell? ⟨wd.heap.size, 0, none⟩ = some (.int .i64 (-1)) := by rw [hc 0]; simp
            have hc1 : we.cell? ⟨wd.heap.size, 1, none⟩ = some (.int .i64 10000) := by rw [hc 1]; simp
            clear hc hse hsd hge hre
            have hx0 := hsf.hx.c0
            have hx1 := hsf.hx.c1
            have hxf0 := hsf.hx.f0
            have HN := Lib.hid hsf.row.noneA
            have hcap := hsf.row.cap
            have hz01 : z = 0 ∨ z = 1 := by omega
            rcases hz01 with rfl | rfl
            · have hsg := hsf.set0 (f' := -1)
              have hu0 := hsg.hx.c0
              have hu1 := hsg.hx.c1
              have hy0 := hsg.hy.c0
              have hy1 := hsg.hy.c1
              have hf0 := hsg.hy.f0
              have hf1 := hsg.hy.f1
              have hv := (hsg.hy.set0 (-1)).set1 A n c
              have k0 := hv.c0
              have k1 := hv.c1
              have HO := Lib.hid (hsg.out (.int .i64 (-1)) (.slice A n c))
              clear hsf hsg hv hz0 hz1
              go_wp2_with fail
              exact bodyPost_ret (v := .agg #[.int .i64 (-1), .slice A n c]) (by simp [results, Try.results44, go_sem, k0, k1]) rfl ⟨-1, A, n, c, xs, rfl, by omega, by omega, by omega, hcap, HN.out, HO.out.1, HO.out.2.1.more (by omega), HO.out.2.2⟩
            · have hsg := hsf.set0 (f' := 10000)
              have hu0 := hsg.hx.c0
              have hu1 := hsg.hx.c1
              have hy0 := hsg.hy.c0
              have hy1 := hsg.hy.c1
              have hf0 := hsg.hy.f0
              have hf1 := hsg.hy.f1
              have hv := (hsg.hy.set0 10000).set1 A n c
              have k0 := hv.c0
              have k1 := hv.c1
              have HO := Lib.hid (hsg.out (.int .i64 10000) (.slice A n c))
              clear hsf hsg hv hz0 hz1
              go_wp2_with fail
              exact bodyPost_ret (v := .agg #[.int .i64 10000, .slice A n c]) (by simp [results, Try.results44, go_sem, k0, k1]) rfl ⟨10000, A, n, c, xs, rfl, by omega, by omega, by omega, hcap, HN.out, HO.out.1, HO.out.2.1.more (by omega), HO.out.2.2⟩
          · have d0 : (y == 0) = false := by simp [hy]
            by_cases hy1' : y = 1
            · subst hy1'
              have hx0 := hsd.hx.c0
              have hx1 := hsd.hx.c1
              clear hy d0
              go_wp2_with (at_builtin; refine wpList_append_rowS _ rfl (.tmp 54) (.tmp 55) rfl (w.heap.size + 2) A n c xs rfl (hsd.row.alloc _) wd.heap.size 100 rfl (cell_one _ _ rfl _ _) (by simp; omega) (by omega) ?_; intro A' c' w3 hrow3 hcap3 hb3; have hsg := (hsd.alloc (.cells #[.int .i64 100] 3)).low hrow3 hb3; have hu0 := hsg.1.c0; have hu1 := hsg.1.c1; have huf1 := hsg.1.f1; have hsh := hsg.1.set1 (some A') (n + 1) c'; have hv0 := hsh.c0; have hv1 := hsh.c1; have hy2 := hsg.2.1.far (g := w.heap.size + 1) (i := 1) (by omega) (.slice (some A') (n + 1) c'); have hy0 := hy2.c0; have hy1 := hy2.c1; have hf0 := hy2.f0; have hf1 := hy2.f1; have hv := (hy2.set0 fa).set1 (some A') (n + 1) c'; have k0 := hv.c0; have k1 := hv.c1)
              have HO := hsg.2.2 (.slice (some A') (n + 1) c') (.int .i64 fa) (.slice (some A') (n + 1) c')
              exact bodyPost_ret (v := .agg #[.int .i64 fa, .slice (some A') (n + 1) c']) (by simp [results, Try.results44, go_sem, k0, k1]) rfl ⟨fa, some A', n + 1, c', xs ++ [100], rfl, v1', v2', by omega, hcap3, (fun h => by cases h), HO.1, HO.2.1.more (by omega), HO.2.2⟩
            · have d1 : (y == 1) = false := by simp [hy1']
              have hse := hsd.alloc (.cells #[.int .i64 1] 3)
              have hy0 := hse.hy.c0
              have hy1 := hse.hy.c1
              have hf0 := hse.hy.f0
              have hf1 := hse.hy.f1
              have hv := (hse.hy.set0 3).set1 (some ⟨wd.heap.size, 0, none⟩) 1 1
              have k0 := hv.c0
              have k1 := hv.c1
              have hone := (Own.built1 wd (w.heap.size + 2) hzd 1).row (by omega)
              have HO := Lib.hid (hse.out_ hone (.int .i64 3) (.slice (some ⟨wd.heap.size, 0, none⟩) 1 1))
              clear hsd hse hv hone hy hy1'
              go_wp2_with fail
              exact bodyPost_ret (v := .agg #[.int .i64 3, .slice (some ⟨wd.heap.size, 0, none⟩) 1 1]) (by simp [results, Try.results44, go_sem, k0, k1]) rfl ⟨3, some ⟨wd.heap.size, 0, none⟩, 1, 1, [1], rfl, by omega, by omega, by omega, Nat.le_refl _, (fun h => by cases h), HO.out.1, HO.out.2.1.more (by omega), HO.out.2.2⟩
    · have hd : decide ((0 : Int) < (j : Int)) = true := by simp; omega
      have hc0 := hs.hx.c0
      have hc1 := hs.hx.c1
      have hz := hs.size
      go_upto_region 5 with fail
      go_region_held3 (fun w' => w'.cell? ⟨w.heap.size + 1, 0, none⟩ = some (.int .i64 f) ∧ w'.cell? ⟨w.heap.size + 1, 1, none⟩ = some (.slice A n c))
        ((refine Bx.cells (t := 27) ?_; (repeat (first | with_reducible exact hs3.hx | with_reducible exact hs2.hx | with_reducible exact hs.hx | with_reducible refine Bx.drew ?_ | with_reducible refine Bx.alloc ?_ _ | (with_reducible refine Bx.far ?_ ?_ _; (rotate_left; omega))))))
        ((first
          | (go_at_call 47
             refine (pick_any R p 100 _ (by (repeat (first | with_reducible exact hs.rdr | with_reducible refine Rdr.drew ?_ | with_reducible refine Rdr.alloc ?_ _))) (by omega) (by omega) (by omega)).mono ?_
             rintro e w2 ⟨y, rfl, hy0, hy1, hr2, hg2⟩
             have hs2 : RingSt w w2 R (p + 1) f A n c xs := RingSt.picked (p := p) (by (repeat (first | with_reducible exact hs | with_reducible refine RingSt.drew ?_ | with_reducible refine RingSt.alloc ?_ _))) hr2 hg2
             have hz2 := hs2.size
             have hgz := hg2.size
             (first
               | (refine have_of (p := Bx w2 wr.heap.size 27 0 none 0 0) ?_ ?_; (focus (refine Bx.grown ?_ hg2 (by omega); (repeat (first | (with_reducible refine Bx.new_ _ _ _ _ _ ?_; (first | with_reducible rfl | (simp; done))) | with_reducible refine Bx.drew ?_ | with_reducible refine Bx.alloc ?_ _)); done)); intro hR2)
               | skip)
             clear hr2 hg2)
          | (go_at_call 30
             refine (specRingPutW_any f A n c xs y _ (by (repeat (first | with_reducible exact hs2.row.rd | with_reducible refine Rd.drew ?_ | with_reducible refine Rd.alloc ?_ _)))).mono ?_
             rintro e w3 ⟨A', n', c', rfl, hr', b'⟩
             have hs3 : RingSt w w3 R (p + 1) f A n c xs := RingSt.below (p := p + 1) (by (repeat (first | with_reducible exact hs2 | with_reducible refine RingSt.drew ?_ | with_reducible refine RingSt.alloc ?_ _))) b'
             (first
               | (refine have_of (p := Bx w3 wr.heap.size 27 0 none 0 0) ?_ ?_; (focus (refine Bx.below ?_ b'; (repeat (first | with_reducible exact hR2 | with_reducible refine Bx.drew ?_ | with_reducible refine Bx.alloc ?_ _)); done)); intro hR3; have r30 := hR3.c0; have r31 := hR3.c1; have rf30 := hR3.f0; have rf31 := hR3.f1)
               | (refine have_of (p := Bx w3 w2.heap.size 27 0 none 0 0) ?_ ?_; (focus (refine Bx.below ?_ b'; (repeat (first | (with_reducible refine Bx.new_ _ _ _ _ _ ?_; (first | with_reducible rfl | (simp; done))) | with_reducible refine Bx.drew ?_ | with_reducible refine Bx.alloc ?_ _)); done)); intro hR3; have r30 := hR3.c0; have r31 := hR3.c1; have rf30 := hR3.f0; have rf31 := hR3.f1)
               | skip))))
      · have hs4 := hs3.below (below_new w3 (ringBox (putF f xs y) A' n' c'))
        have hq := Bx.new w3 27 (putF f xs y) A' n' c'
        have q0 := hq.c0
        have q1 := hq.c1
        have y0 := hs4.hx.c0
        have y1 := hs4.hx.c1
        have z0 := hs4.hx.f0
        have z1 := hs4.hx.f1
        have HS := Lib.hid (hs4.put (f' := putF f xs y) ((hr'.alloc (ringBox (putF f xs y) A' n' c')).more hz2))
        clear hs hs2 hs3 hs4 hc0 hc1 hq hr' b'
        go_wp2_with fail
        go_roundw
        case rel => exact ⟨j - 1, p + 1, n', c', _, A', _, by rw [show ((j - 1 : Nat) : Int) = (j : Int) - 1 by omega], by omega, by omega, put_valid HV.out, HS.out⟩
        case measure => simp [intOf]; omega
      · have hq := (hR3.set0 (putF f xs y)).set1 A' n' c'
        have q0 := hq.c0
        have q1 := hq.c1
        simp at hgz
        have hx4 := (hs3.hx.far (g := w2.heap.size) (i := 0) (by omega) (.int .i64 (putF f xs y))).far (g := w2.heap.size) (i := 1) (by omega) (.slice A' n' c')
        have y0 := hx4.c0
        have y1 := hx4.c1
        have z0 := hx4.f0
        have z1 := hx4.f1
        have HS := Lib.hid (RingSt.put_set (g := w2.heap.size) (f' := putF f xs y) hs3 (by omega) (hr'.more (by first | omega | (simp; done) | (simp; omega))))
        clear hs hs2 hs3 hx4 hc0 hc1 hq hr' b' hR3 r30 r31 rf30 rf31 hgz
        go_wp2_with fail
        go_roundw
        case rel => exact ⟨j - 1, p + 1, n', c', _, A', _, by rw [show ((j - 1 : Nat) : Int) = (j : Int) - 1 by omega], by omega, by omega, put_valid HV.out, HS.out⟩
        case measure => simp [intOf]; omega
      · have hq := (hR3.set0 (putF f xs y)).set1 A' n' c'
        have q0 := hq.c0
        have q1 := hq.c1
        simp at hgz
        have hx4 := (hs3.hx.far (g := wr.heap.size) (i := 0) (by omega) (.int .i64 (putF f xs y))).far (g := wr.heap.size) (i := 1) (by omega) (.slice A' n' c')
        have y0 := hx4.c0
        have y1 := hx4.c1
        have z0 := hx4.f0
        have z1 := hx4.f1
        have HS := Lib.hid (RingSt.put_set (g := wr.heap.size) (f' := putF f xs y) hs3 (by omega) (hr'.more (by first | omega | (simp; done) | (simp; omega))))
        clear hs hs2 hs3 hx4 hc0 hc1 hq hr' b' hR3 r30 r31 rf30 rf31 hgz
        go_wp2_with fail
        go_roundw
        case rel => exact ⟨j - 1, p + 1, n', c', _, A', _, by rw [show ((j - 1 : Nat) : Int) = (j : Int) - 1 by omega], by omega, by omega, put_valid HV.out, HS.out⟩
        case measure => simp [intOf]; omega
end Go.Proofs.Ytjhnpnmpnmmpbaa

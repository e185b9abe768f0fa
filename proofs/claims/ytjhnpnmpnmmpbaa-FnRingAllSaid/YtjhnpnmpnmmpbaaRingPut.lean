/-
  RingPut of the program.
-/
import Derived.Test.YtjhnpnmpnmmpbaaRingLaws2
import Derived.Test.YtjhnpnmpnmmpbaaDraw
import Derived.Deep.DeepCutAuto
namespace Go.Proofs.Ytjhnpnmpnmmpbaa
open Go.RowKit

/-- a ring and a bool -/
def PutGot (w : World) (f : Int) (ys : List Int) (b : Bool) (e : Ending) (w' : World) : Prop :=
  ∃ (A : Option Addr) (n c : Nat), e = .returned (.tuple #[.agg #[.int .i64 f, .slice A n c], .bool b]) ∧ n ≤ c ∧ Row w' w.heap.size A n ys ∧ Below w.heap.size w w'

section
variable {w w' : World} {B : Nat} {t : TypeId} {f : Int} {A : Option Addr} {n c : Nat}
theorem Bx.f0 (h : Bx w B t f A n c) : w.frozen? ⟨B, 0, none⟩ = false := by unfold Bx at h; simp [World.frozen?, h]
theorem Bx.f1 (h : Bx w B t f A n c) : w.frozen? ⟨B, 1, none⟩ = false := by unfold Bx at h; simp [World.frozen?, h]
theorem Bx.grow (h : Bx w B t f A n c) {row : Option Nat} (hb : w.grownBy w' row) (hg : row ≠ some B) : Bx w' B t f A n c := (hb.block B h.lt (fun e => hg e.symm)).trans h
theorem Bx.far (h : Bx w B t f A n c) {g i : Nat} (hg : B ≠ g) (u : Value) : Bx (w.setCell ⟨g, i, none⟩ u) B t f A n c := h.grown (grown_set1 w g i u) hg
theorem Bx.set1 (h : Bx w B t f A n c) (A' : Option Addr) (n' c' : Nat) : Bx (w.setCell ⟨B, 1, none⟩ (.slice A' n' c')) B t f A' n' c' := by
  unfold Bx at h ⊢
  simp [World.setCell, Array.getElem?_modify, h]
theorem Bx.set0 (h : Bx w B t f A n c) (f' : Int) : Bx (w.setCell ⟨B, 0, none⟩ (.int .i64 f')) B t f' A n c := by
  unfold Bx at h ⊢
  simp [World.setCell, Array.getElem?_modify, h]
/-- a row of ints and a box never share a block -/
theorem Own.ne_box {base m d : Nat} {A' : Option Addr} {xs : List Int} (h : Own w base A' m d xs) (hx : Bx w B t f A n c) (ht : 3 ≠ t) : (Value.slice A' m d).ownBlock ≠ some B := by
  rcases h.1.2 with ⟨e, _⟩ | ⟨g, cap, cur, e, _, hh, _⟩
  · injection e with e1 _ _
    subst e1
    simp [Value.ownBlock]
  · injection e with e1 _ _
    subst e1
    intro he
    have : g = B := by simpa [Value.ownBlock] using he
    subst this
    unfold Bx at hx
    rw [hx] at hh
    injection hh with hh
    injection hh with _ h2
    exact ht h2.symm
theorem Own.box_set {base m d : Nat} {A' : Option Addr} {xs : List Int} (h : Own w base A' m d xs) (hx : Bx w B t f A n c) (ht : 3 ≠ t) (i : Nat) (u : Value) : Own (w.setCell ⟨B, i, none⟩ u) base A' m d xs :=
  h.kept (grown_set1 w B i u) (.inr (h.ne_box hx ht))
end
theorem ty_ne : (3 : TypeId) ≠ 27 := by decide

theorem ret_put {f f' : Int} {A : Option Addr} {n c : Nat} {b b' : Bool} (h : f' = f) (hb : b' = b) : Ending.returned (.tuple #[.agg #[.int .i64 f, .slice A n c], .bool b]) = .returned (.tuple #[.agg #[.int .i64 f', .slice A n c], .bool b']) := by rw [h, hb]
/-- what stands behind the copy: box B6 holds the ring with a row of its own -/
def AfterClone (w : World) (f : Int) (A : Option Addr) (n c : Nat) (xs : List Int) (v : Value) (wx : World) : Prop :=
  ∃ (B : Nat) (A2 : Option Addr) (c2 : Nat), v = .pointer (some ⟨B, 0, none⟩) ∧ w.heap.size + 2 ≤ B ∧ Bx wx B 27 f A2 n c2 ∧ Own wx (w.heap.size + 2) A2 n c2 xs ∧
    Bx wx w.heap.size 27 f A n c ∧ Bx wx (w.heap.size + 1) 27 0 none 0 0 ∧ Below w.heap.size w wx

set_option maxHeartbeats 3200000 in
set_option maxRecDepth 100000 in
theorem implRingPut_in (f : Int) (A : Option Addr) (n c : Nat) (xs : List Int) (ev : Int) (w : World) (h : Rd w A n xs) (hv : ringB f xs = true) :
    Calls Try.prog 31 #[.agg #[.int .i64 f, .slice A n c], .int .i64 ev] w (PutGot w (putF f xs ev) (putL f xs ev) (putB f xs ev)) := by
  have hn := h.le
  have HL := Lib.hid h.len
  have hb0 : Below w.heap.size w ((w.alloc (ringBox f A n c)).alloc (ringBox 0 none 0 0)) := (below_box w _).alloc (by simp) _
  have hr := (h.alloc (ringBox f A n c)).alloc (ringBox 0 none 0 0)
  have hx0 := (Bx.new w 27 f A n c).alloc (ringBox 0 none 0 0)
  have hy0 : Bx ((w.alloc (ringBox f A n c)).alloc (ringBox 0 none 0 0)) (w.heap.size + 1) 27 0 none 0 0 := by
    have := Bx.new (w.alloc (ringBox f A n c)) 27 0 none 0 0
    simpa using this
  have hsz0 : w.heap.size + 2 = ((w.alloc (ringBox f A n c)).alloc (ringBox 0 none 0 0)).heap.size := by simp
  have HSZ0 := Lib.hid hsz0
  clear hsz0
  go_enter Try.func31, Try.ntmps31
  go_wp2_with fail
  refine (implRingValid_any f A n c xs _ hr).mono ?_
  rintro e w1 ⟨rfl, b1⟩
  have hx1 := hx0.below b1
  have hy1 := hy0.below b1
  have hs1 : w.heap.size + 2 ≤ w1.heap.size := by rw [HSZ0.out]; exact b1.size
  have b01 := below_step hb0 b1
  have hr1 := hr.below b1
  clear hx0 hy0 hr hb0 b1 HSZ0
  go_upto_region 3 with fail
  go_cut [6] (fun s6 wx => AfterClone w f A n c xs s6 wx)
  case first =>
    have hc0 := hx1.c0
    have hc1 := hx1.c1
    have hp := hx1.drew.alloc (ringBox 0 none 0 0)
    have hp0 := hp.c0
    have hp1 := hp.c1
    have hpp := (hx1.alloc (ringBox 0 none 0 0)).drew
    have hpp0 := hpp.c0
    have hpp1 := hpp.c1
    have hlt1 := hx1.lt
    go_region_with (go_at_call 43; (refine (clone_any A n c xs _ (by first | exact hr1.drew | exact hr1.drew.alloc _ | exact (hr1.alloc _).drew)).mono ?_; rintro e w2 ⟨A2, c2, rfl, ho2, b2⟩; have hx2 := (by first | exact hx1.drew.below b2 | exact (hx1.drew.alloc _).below b2 | exact (hx1.alloc _).drew.below b2 : Bx w2 w.heap.size 27 f A n c); have hd0 := hx2.c0; have hd1 := hx2.c1; have hq := hx2.alloc (ringBox 0 none 0 0); have hq0 := hq.c0; have hq1 := hq.c1; (try (have hz2 := (by first | exact (Bx.new w1.drew 27 0 none 0 0).below b2 | exact (Bx.new w1 27 0 none 0 0).drew.below b2 : Bx w2 w1.heap.size 27 0 none 0 0); have hz0 := hz2.c0; have hz1 := hz2.c1; have hzf0 := hz2.f0; have hzf1 := hz2.f1))))
    all_goals (go_wp2_with fail; go_meet)
    all_goals (first
      | exact ⟨w2.heap.size, A2, c2, rfl, Nat.le_trans hs1 b2.size, Bx.new w2 _ f A2 n c2, (ho2.alloc _).more hs1, hx2.alloc _, (hy1.drew.below b2).alloc _, (below_step b01.drew b2).alloc (below_step b01.drew b2).size _⟩
      | exact ⟨w1.heap.size, A2, c2, rfl, hs1, (hz2.set0 f).set1 A2 n c2, ((ho2.box_set hz2 ty_ne 0 _).box_set (hz2.set0 f) ty_ne 1 _).more (by simp; omega), (hx2.far (by omega) _).far (by omega) _, (((hy1.drew.alloc _).below b2).far (by omega) _).far (by omega) _, ((below_step (b01.drew.alloc (by simp; omega) _) b2).setCell (by show w.heap.size ≤ w1.heap.size; omega) _).setCell (by show w.heap.size ≤ w1.heap.size; omega) _⟩
      | exact ⟨w1.heap.size, A2, c2, rfl, hs1, (hz2.set0 f).set1 A2 n c2, ((ho2.box_set hz2 ty_ne 0 _).box_set (hz2.set0 f) ty_ne 1 _).more (by simp; omega), (hx2.far (by omega) _).far (by omega) _, (((hy1.alloc _).drew.below b2).far (by omega) _).far (by omega) _, ((below_step ((b01.alloc (by omega) _).drew) b2).setCell (by show w.heap.size ≤ w1.heap.size; omega) _).setCell (by show w.heap.size ≤ w1.heap.size; omega) _⟩)
  case rest =>
    obtain ⟨B, A2, c2, rfl, hB, hbx, hown, hxx, hyy, hbel⟩ := hcut
    have hc0 := hxx.c0
    have hc1 := hxx.c1
    have hb0 := hbx.c0
    have hb1 := hbx.c1
    have hyc0 := hyy.c0
    have hyc1 := hyy.c1
    have hyf0 := hyy.f0
    have hyf1 := hyy.f1
    have hs := hbel.size
    have hlt := hbx.lt
    obtain ⟨v1, v2, v3, _, v5⟩ := ringB_true.1 hv
    rw [HL.out] at v3
    have HFIN : Hid (Row ((wc.setCell ⟨w.heap.size + 1, 0, none⟩ (.int .i64 f)).setCell ⟨w.heap.size + 1, 1, none⟩ (.slice A2 n c2)) w.heap.size A2 n xs ∧ Below w.heap.size w ((wc.setCell ⟨w.heap.size + 1, 0, none⟩ (.int .i64 f)).setCell ⟨w.heap.size + 1, 1, none⟩ (.slice A2 n c2))) :=
      ⟨(((hown.row hn).grown_ge (by omega) (grown_set1 _ _ _ _)).grown_ge (by omega) (grown_set1 _ _ _ _)).more (by omega), (hbel.setCell (by show w.heap.size ≤ w.heap.size + 1; omega) _).setCell (by show w.heap.size ≤ w.heap.size + 1; omega) _⟩
    have HV := Lib.hid hv
    clear hx1 hy1 hr1 b01
    by_cases h6 : n = 6
    · have e6 : ((n : Int) == 6) = true := by simp; omega
      by_cases k1 : ev < 0
      · have HB := Lib.hid (putB_no (f := f) (xs := xs) (e := ev) (by omega))
        have HP := Lib.hid (put_not HV.out HB.out)
        clear h6
        go_wp2_with fail
        exact bodyPost_ret (v := .tuple #[.agg #[.int .i64 f, .slice A2 n c2], .bool false]) (by simp [results, Try.results31, go_sem, hyc0, hyc1]) rfl ⟨A2, n, c2, ret_put HP.out.1 HB.out, hown.2, by rw [HP.out.2]; exact HFIN.out.1, HFIN.out.2⟩
      have d1 : decide (ev < 0) = false := by simp; omega
      by_cases k2 : 99 < ev
      · have HB := Lib.hid (putB_no (f := f) (xs := xs) (e := ev) (by omega))
        have HP := Lib.hid (put_not HV.out HB.out)
        clear h6
        go_wp2_with fail
        exact bodyPost_ret (v := .tuple #[.agg #[.int .i64 f, .slice A2 n c2], .bool false]) (by simp [results, Try.results31, go_sem, hyc0, hyc1]) rfl ⟨A2, n, c2, ret_put HP.out.1 HB.out, hown.2, by rw [HP.out.2]; exact HFIN.out.1, HFIN.out.2⟩
      have d2 : decide (99 < ev) = false := by simp; omega
      by_cases k3 : f = 9999
      · have e9 : (f == 9999) = true := by simp [k3]
        have HB := Lib.hid (putB_no (f := f) (xs := xs) (e := ev) (by rw [HL.out]; omega))
        have HP := Lib.hid (put_not HV.out HB.out)
        clear h6 k3
        go_wp2_with fail
        exact bodyPost_ret (v := .tuple #[.agg #[.int .i64 f, .slice A2 n c2], .bool false]) (by simp [results, Try.results31, go_sem, hyc0, hyc1]) rfl ⟨A2, n, c2, ret_put HP.out.1 HB.out, hown.2, by rw [HP.out.2]; exact HFIN.out.1, HFIN.out.2⟩
      · have e9 : (f == 9999) = false := by simp [k3]
        have HB := Lib.hid (putB_true (f := f) (xs := xs) (e := ev) |>.2 ⟨HV.out, by omega, by omega, by omega⟩)
        have HP := Lib.hid (put_full HV.out HB.out (by rw [HL.out]; exact h6))
        clear k3 v5
        subst h6
        clear e6
        go_wp2_with (at_builtin; refine wpList_append_int _ rfl (.tmp 38) (.tmp 40) rfl (w.heap.size + 2) A2 6 c2 xs rfl (hown.alloc _) wc.heap.size ev rfl (cell_one _ _ rfl _ _) (by omega) (size_one _ _ (by omega) _) ?_; intro g cap w3 ho3 hgrow3 hbel3 hlt3; have hbx3 := (hbx.alloc (.cells #[.int .i64 ev] 3)).grow hgrow3 ((hown.alloc (.cells #[.int .i64 ev] 3)).ne_box (hbx.alloc (.cells #[.int .i64 ev] 3)) ty_ne); have hyy3 := (hyy.alloc (.cells #[.int .i64 ev] 3)).grow hgrow3 ((hown.alloc (.cells #[.int .i64 ev] 3)).ne_box (hyy.alloc (.cells #[.int .i64 ev] 3)) ty_ne); have hk0 := hbx3.c0; have hk1 := hbx3.c1; have hkf1 := hbx3.f1; have hcap : ¬ cap = 1 := (by have := ho3.2; omega); have hcap1 : 7 ≤ cap := (by have := ho3.2; omega); have hbs := hbx3.set1 (some ⟨g, 0, none⟩) 7 cap; have hl1 := hbs.c1)
        have hb3 : Below w.heap.size w w3 := (hbel.alloc hs _).trans (hbel3 _ (by omega))
        have hb4 : Below w.heap.size w (w3.setCell ⟨B, 1, none⟩ (.slice (some ⟨g, 0, none⟩) 7 cap)) := hb3.setCell (by show w.heap.size ≤ B; omega) _
        have hs3 : wc.heap.size ≤ (w3.setCell ⟨B, 1, none⟩ (.slice (some ⟨g, 0, none⟩) 7 cap)).heap.size := by have := hgrow3.size; simp at this; simp [World.setCell]; omega
        have ho4 := ho3.box_set hbx3 ty_ne 1 (.slice (some ⟨g, 0, none⟩) 7 cap)
        have rd4 := (ho4.rd (by omega)).drop (k := 1) (by omega)
        have hys := hyy3.far (i := 1) (show w.heap.size + 1 ≠ B by omega) (.slice (some ⟨g, 0, none⟩) 7 cap)
        clear hk0 hk1 hkf1 hl1 hgrow3 hbel3
        refine (clone_any _ 6 (cap - 1) ((xs ++ [ev]).drop 1) _ rd4).mono ?_
        rintro e w5 ⟨A5, c5, rfl, ho5, b5⟩
        have hbx5 := hbs.below b5
        have hyy5 := hys.below b5
        have p0 := hbx5.c0
        have p1 := hbx5.c1
        have pf0 := hbx5.f0
        have pf1 := hbx5.f1
        have hbs5 := hbx5.set1 A5 6 c5
        have q0 := hbs5.c0
        have q1 := hbs5.c1
        have qf0 := hbs5.f0
        have hbs6 := hbs5.set0 (f + 1)
        have r0 := hbs6.c0
        have r1 := hbs6.c1
        have hyy6 := (hyy5.far (i := 1) (show w.heap.size + 1 ≠ B by omega) (.slice A5 6 c5)).far (i := 0) (show w.heap.size + 1 ≠ B by omega) (.int .i64 (f + 1))
        have t0 := hyy6.c0
        have t1 := hyy6.c1
        have tf0 := hyy6.f0
        have tf1 := hyy6.f1
        go_wp2_with fail
        refine bodyPost_ret (v := .tuple #[.agg #[.int .i64 (f + 1), .slice A5 6 c5], .bool true]) (by simp [results, Try.results31, go_sem, t0, t1]) rfl ⟨_, 6, c5, ret_put HP.out.1 HB.out, ho5.2, ?_, ?_⟩
        · rw [HP.out.2]
          exact (((((ho5.box_set hbx5 ty_ne 1 _).box_set hbs5 ty_ne 0 _).row (by omega)).grown_ge (by omega) (grown_set1 _ (w.heap.size + 1) _ _)).grown_ge (by omega) (grown_set1 _ _ _ _)).more (by omega)
        · exact ((((below_step hb4 b5).setCell (by show w.heap.size ≤ B; omega) _).setCell (by show w.heap.size ≤ B; omega) _).setCell (by show w.heap.size ≤ w.heap.size + 1; omega) _).setCell (by show w.heap.size ≤ w.heap.size + 1; omega) _
    · have e6 : ((n : Int) == 6) = false := by simp; omega
      by_cases k1 : ev < 0
      · have HB := Lib.hid (putB_no (f := f) (xs := xs) (e := ev) (by omega))
        have HP := Lib.hid (put_not HV.out HB.out)
        go_wp2_with fail
        exact bodyPost_ret (v := .tuple #[.agg #[.int .i64 f, .slice A2 n c2], .bool false]) (by simp [results, Try.results31, go_sem, hyc0, hyc1]) rfl ⟨A2, n, c2, ret_put HP.out.1 HB.out, hown.2, by rw [HP.out.2]; exact HFIN.out.1, HFIN.out.2⟩
      have d1 : decide (ev < 0) = false := by simp; omega
      by_cases k2 : 99 < ev
      · have HB := Lib.hid (putB_no (f := f) (xs := xs) (e := ev) (by omega))
        have HP := Lib.hid (put_not HV.out HB.out)
        go_wp2_with fail
        exact bodyPost_ret (v := .tuple #[.agg #[.int .i64 f, .slice A2 n c2], .bool false]) (by simp [results, Try.results31, go_sem, hyc0, hyc1]) rfl ⟨A2, n, c2, ret_put HP.out.1 HB.out, hown.2, by rw [HP.out.2]; exact HFIN.out.1, HFIN.out.2⟩
      have d2 : decide (99 < ev) = false := by simp; omega
      have HB := Lib.hid (putB_true (f := f) (xs := xs) (e := ev) |>.2 ⟨HV.out, by omega, by omega, by rw [HL.out]; omega⟩)
      have HP := Lib.hid (put_more HV.out HB.out (by rw [HL.out]; exact h6))
      go_wp2_with (at_builtin; refine wpList_append_int _ rfl (.tmp 38) (.tmp 40) rfl (w.heap.size + 2) A2 n c2 xs rfl (hown.alloc _) wc.heap.size ev rfl (cell_one _ _ rfl _ _) (by omega) (size_one _ _ (by omega) _) ?_; intro g cap w3 ho3 hgrow3 hbel3 hlt3; have hbx3 := (hbx.alloc (.cells #[.int .i64 ev] 3)).grow hgrow3 ((hown.alloc (.cells #[.int .i64 ev] 3)).ne_box (hbx.alloc (.cells #[.int .i64 ev] 3)) ty_ne); have hyy3 := (hyy.alloc (.cells #[.int .i64 ev] 3)).grow hgrow3 ((hown.alloc (.cells #[.int .i64 ev] 3)).ne_box (hyy.alloc (.cells #[.int .i64 ev] 3)) ty_ne); have hk0 := hbx3.c0; have hk1 := hbx3.c1; have hkf1 := hbx3.f1; have hbs := hbx3.set1 (some ⟨g, 0, none⟩) (n + 1) cap; have hl0 := hbs.c0; have hl1 := hbs.c1; have hys := hyy3.far (i := 1) (show w.heap.size + 1 ≠ B from (by omega)) (.slice (some ⟨g, 0, none⟩) (n + 1) cap); have hm0 := hys.c0; have hm1 := hys.c1; have hmf0 := hys.f0; have hmf1 := hys.f1)
      have hb3 : Below w.heap.size w w3 := (hbel.alloc hs _).trans (hbel3 _ (by omega))
      have ho4 := ho3.box_set hbx3 ty_ne 1 (.slice (some ⟨g, 0, none⟩) (n + 1) cap)
      refine bodyPost_ret (v := .tuple #[.agg #[.int .i64 f, .slice (some ⟨g, 0, none⟩) (n + 1) cap], .bool true]) (by simp [results, Try.results31, go_sem, hm0, hm1]) rfl ⟨_, n + 1, cap, ret_put HP.out.1 HB.out, ho3.2, ?_, ?_⟩
      · rw [HP.out.2]
        exact ((((ho4.row (by omega)).grown_ge (by omega) (grown_set1 _ (w.heap.size + 1) _ _)).grown_ge (by omega) (grown_set1 _ _ _ _)).more (by omega))
      · exact ((hb3.setCell (by show w.heap.size ≤ B; omega) _).setCell (by show w.heap.size ≤ w.heap.size + 1; omega) _).setCell (by show w.heap.size ≤ w.heap.size + 1; omega) _

theorem implRingPut_any (f : Int) (A : Option Addr) (n c : Nat) (xs : List Int) (ev : Int) (w : World) (h : Rd w A n xs) :
    Calls Try.prog 31 #[.agg #[.int .i64 f, .slice A n c], .int .i64 ev] w (PutGot w (putF f xs ev) (putL f xs ev) (putB f xs ev)) := by
  cases hv : ringB f xs
  · obtain ⟨p1, p2, p3⟩ := put_none (e := ev) hv
    rw [p1, p2, p3]
    have hb0 : Below w.heap.size w ((w.alloc (ringBox f A n c)).alloc (ringBox 0 none 0 0)) := (below_box w _).alloc (by simp) _
    have hr := (h.alloc (ringBox f A n c)).alloc (ringBox 0 none 0 0)
    have hy0 : Bx ((w.alloc (ringBox f A n c)).alloc (ringBox 0 none 0 0)) (w.heap.size + 1) 27 0 none 0 0 := by
      have := Bx.new (w.alloc (ringBox f A n c)) 27 0 none 0 0
      simpa using this
    clear p1 p2 p3
    go_enter Try.func31, Try.ntmps31
    go_wp2_with fail
    refine (implRingValid_any f A n c xs _ hr).mono ?_
    rintro e w1 ⟨rfl, b1⟩
    have hy1 := hy0.below b1
    have c0 := hy1.c0
    have c1 := hy1.c1
    have f0 := hy1.f0
    have f1 := hy1.f1
    go_wp2_with fail
    refine bodyPost_ret (v := .tuple #[.agg #[.int .i64 0, .slice none 0 0], .bool false]) (by simp [results, Try.results31, go_sem, c0, c1]) rfl ⟨none, 0, 0, rfl, Nat.le_refl _, Row.nil_, ?_⟩
    exact ((below_step hb0 b1).setCell (by show w.heap.size ≤ w.heap.size + 1; omega) _).setCell (by show w.heap.size ≤ w.heap.size + 1; omega) _
  · exact implRingPut_in f A n c xs ev w h hv
end Go.Proofs.Ytjhnpnmpnmmpbaa

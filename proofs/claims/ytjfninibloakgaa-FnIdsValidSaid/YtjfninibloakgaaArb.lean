/-
  Arbitrate of the program: the index of the node that is left.
-/
import Derived.Test.YtjfninibloakgaaArbPlain
import Derived.Test.YtjfninibloakgaaAppend
import Derived.Laws.BitsAllLaws
import Derived.Laws.BitsLemmas
namespace Go.Proofs.Ytjfninibloakgaa
open Go.RowKit

theorem and_bit (y : Int) (b : Nat) (h0 : 0 ≤ y) (h1 : y < 128) (hb : b < 7) : bits .and .i64 (y / 2 ^ b) 1 = bitAt y b := by
  have h : ((List.range 128).all fun y => (List.range 7).all fun b => bits .and .i64 ((y : Int) / 2 ^ b) 1 == bitAt (y : Int) b) = true := by decide +kernel
  have h2 := List.all_eq_true.1 h y.toNat (List.mem_range.2 (by omega))
  have h3 := List.all_eq_true.1 h2 b (List.mem_range.2 hb)
  have h4 : ((y.toNat : Nat) : Int) = y := by omega
  rw [h4] at h3
  simpa using h3
theorem mod_bit (y : Int) (b : Nat) (h0 : 0 ≤ y) (h1 : y < 128) (hb : b < 7) : (y / 2 ^ b).tmod 2 = bitAt y b := by
  have h : ((List.range 128).all fun y => (List.range 7).all fun b => (((y : Int) / 2 ^ b).tmod 2) == bitAt (y : Int) b) = true := by decide +kernel
  have h2 := List.all_eq_true.1 h y.toNat (List.mem_range.2 (by omega))
  have h3 := List.all_eq_true.1 h2 b (List.mem_range.2 hb)
  have h4 : ((y.toNat : Nat) : Int) = y := by omega
  rw [h4] at h3
  simpa using h3
theorem arbDown_mem {ids : List Int} {j : Nat} {x : Int} (h : x ∈ arbDown ids j) : 0 ≤ x ∧ x < ids.length := by
  induction j with
  | zero => exact mem_nodes0.1 h
  | succ j ih => exact ih (List.mem_filter.1 h).1
theorem arbDown_len (ids : List Int) (j : Nat) : (arbDown ids j).length ≤ ids.length := by
  induction j with
  | zero => simp [arbDown, nodes0]
  | succ j ih => exact Nat.le_trans (List.length_filter_le _ _) ih
theorem arbDown_nth {ids : List Int} {j k : Nat} (hk : k < (arbDown ids j).length) : ∃ m : Nat, nth (arbDown ids j) k = (m : Int) ∧ m < ids.length := by
  have := arbDown_mem (nth_mem _ k hk)
  exact ⟨(nth (arbDown ids j) k).toNat, by omega, by omega⟩
theorem nodes0_succ (k : Nat) : nodes0 (k + 1) = nodes0 k ++ [(k : Int)] := by unfold nodes0; rw [List.range_succ]; simp
/-- the bits that the first k nodes send -/
def bitsTo (ids : List Int) (b : Nat) (nodes : List Int) (k : Nat) : List Int := bitsOf ids b (nodes.take k)
theorem bitsTo_succ {ids nodes : List Int} {b k m : Nat} (hk : k < nodes.length) (hm : nth nodes k = (m : Int)) : bitsTo ids b nodes (k + 1) = bitsTo ids b nodes k ++ [bitAt (nth ids m) b] := by
  unfold bitsTo bitsOf; rw [take_succ_nth nodes k hk, hm]; simp
theorem bitsTo_all (ids : List Int) (b : Nat) (nodes : List Int) : bitsTo ids b nodes nodes.length = bitsOf ids b nodes := by unfold bitsTo; rw [List.take_length]
theorem bitsOf_len (ids : List Int) (b : Nat) (nodes : List Int) : (bitsOf ids b nodes).length = nodes.length := by unfold bitsOf; simp
theorem bitsOf_nth {ids nodes : List Int} {b k m : Nat} (hk : k < nodes.length) (hm : nth nodes k = (m : Int)) : nth (bitsOf ids b nodes) k = bitAt (nth ids m) b := by
  rw [nth_get nodes k hk] at hm
  rw [nth_get _ k (by rw [bitsOf_len]; exact hk)]
  unfold bitsOf
  simp [hm]
/-- those of the first k nodes that go on -/
def leftTo (ids : List Int) (b : Nat) (nodes : List Int) (k : Nat) : List Int := (nodes.take k).filter fun k => bitAt (nth ids k.toNat) b == wireZ (bitsOf ids b nodes)
theorem leftTo_yes {ids nodes : List Int} {b k m : Nat} (hk : k < nodes.length) (hm : nth nodes k = (m : Int)) (h : (bitAt (nth ids m) b == wireZ (bitsOf ids b nodes)) = true) : leftTo ids b nodes (k + 1) = leftTo ids b nodes k ++ [(m : Int)] := by
  unfold leftTo; rw [take_succ_nth nodes k hk, hm, List.filter_append]; simp only [List.filter_cons, Int.toNat_natCast, h]; rfl
theorem leftTo_no {ids nodes : List Int} {b k m : Nat} (hk : k < nodes.length) (hm : nth nodes k = (m : Int)) (h : (bitAt (nth ids m) b == wireZ (bitsOf ids b nodes)) = false) : leftTo ids b nodes (k + 1) = leftTo ids b nodes k := by
  unfold leftTo; rw [take_succ_nth nodes k hk, hm, List.filter_append]; simp only [List.filter_cons, Int.toNat_natCast, h]; simp
theorem leftTo_all (ids : List Int) (b : Nat) (nodes : List Int) : leftTo ids b nodes nodes.length = arbStep ids b nodes := by unfold leftTo; rw [List.take_length]; rfl
theorem leftTo_len (ids : List Int) (b : Nat) (nodes : List Int) (k : Nat) : (leftTo ids b nodes k).length ≤ k := by
  unfold leftTo
  refine Nat.le_trans (List.length_filter_le _ _) ?_
  simp; omega

theorem headD_nth (l : List Int) (h : 0 < l.length) : l.headD (-1) = nth l 0 := by
  cases l with
  | nil => simp at h
  | cons a t => rfl
/-- what Arbitrate leaves -/
def Arbed (ids : List Int) (w : World) (e : Ending) (w' : World) : Prop := e = .returned (.int .i64 (arb ids)) ∧ Below w.heap.size w w'

set_option maxHeartbeats 1600000 in
set_option maxRecDepth 100000 in
theorem implArbitrate_in (A : Option Addr) (n c : Nat) (ids : List Int) (w : World) (h : Rd w A n ids) (hnc : n ≤ c) (hv : idsB ids = true) (h0 : 0 < n) :
    Calls Try.prog 18 #[.slice A n c] w (Arbed ids w) := by
  have HL := Lib.hid h.len
  have h6 : n ≤ 6 := by rw [← HL.out]; exact (idsB_true.1 hv).1
  have HW := Lib.hid (idsB_true.1 hv).2.1
  have HE := Lib.hid (arb_yes hv)
  have HX := Lib.hid (arb_least hv (by rw [HL.out]; exact h0))
  have hne : ((n : Int) == 0) = false := by simp; omega
  go_enter Try.func18, Try.ntmps18
  go_wp2_with fail
  refine (implIdsValid_any A n c ids _ h hnc).mono ?_
  rintro e w' ⟨rfl, rfl⟩
  go_wp2_with fail
  have HV := Lib.hid hv
  clear hv
  go_loopw [3, 23] (fun v i wr => ∃ (k c' : Nat) (A' : Option Addr), k ≤ n ∧ i = .int .i64 k ∧ v = .slice A' k c' ∧ Own wr w.heap.size A' k c' (nodes0 k) ∧ Below w.heap.size w wr) (fun _ i _ => n - (intOf i).toNat)
  case atStart => exact ⟨0, 0, none, by omega, rfl, rfl, Own.nil_ _ _, Below.refl _ _⟩
  case round =>
    obtain ⟨k, c', A', hk, rfl, rfl, hown, hb⟩ := hrel
    by_cases hlt : k < n
    · have hbs := hb.size
      go_wp2_with (at_builtin; refine wpList_append_int _ rfl (.tmp 26) (.tmp 28) rfl w.heap.size A' k c' (nodes0 k) rfl (hown.alloc _) wr.heap.size (k : Int) rfl (cell_one _ _ rfl _ _) (by omega) (size_one _ _ hbs _) ?_; intro g cap w1 hown1 hgrow1 hbel1 hlt1)
      have hb1 : Below w.heap.size w w1 := (hb.alloc hbs _).trans (hbel1 _ (Nat.le_refl _))
      rw [← nodes0_succ] at hown1
      clear hgrow1 hbel1
      go_wp2
      go_roundw
      case rel => exact ⟨k + 1, cap, _, by omega, by go_num, rfl, hown1, hb1⟩
      case measure => simp [intOf]; omega
    · obtain rfl : k = n := by omega
      have hrd := hown.rd (by omega)
      clear hown
      obtain ⟨wa, rfl⟩ : ∃ wa : World, wa = wr := ⟨_, rfl⟩
      go_wp2_with fail
      go_loopw [3, 5] (fun v i wr => ∃ (b m c'' : Nat) (A'' : Option Addr), b ≤ 7 ∧ i = .int .i64 ((b : Int) - 1) ∧ v = .slice A'' m c'' ∧ m ≤ k ∧ Rd wr A'' m (arbDown ids (7 - b)) ∧ Below w.heap.size w wr) (fun _ i _ => (intOf i + 1).toNat)
      case atStart => exact ⟨7, k, c', A', by omega, rfl, rfl, by omega, by have := HL.out; rw [← this] at hrd ⊢; exact hrd, hb⟩
      case round =>
        obtain ⟨b, m, c'', A'', hb7, rfl, rfl, hmk, hrd2, hb2⟩ := hrel
        clear hrd hb
        rcases Nat.eq_zero_or_pos b with hb0 | hb0
        · subst hb0
          obtain ⟨x, hx, hxl, _⟩ := HX.out
          have hne : 0 < (arbDown ids 7).length := by
            cases hd : arbDown ids 7 with
            | nil => have := HE.out; rw [hd, hx] at this; simp at this
            | cons a t => simp
          have hm0 : 0 < m := by rw [← hrd2.len]; exact hne
          obtain ⟨g, off, rfl, hg, hcell⟩ := hrd2.at_ hm0
          have HF : Hid (arb ids = nth (arbDown ids 7) 0) := by
            show _ = _
            rw [HE.out, headD_nth _ hne]
          have hc0 : wr.cell? ⟨g, off, none⟩ = some (.int .i64 (nth (arbDown ids 7) 0)) := hcell
          clear hx hxl HX HE hcell hrd2 hne
          generalize nth (arbDown ids 7) 0 = z at *
          go_wp2
          go_ret
          exact ⟨ret_int HF.out.symm, hb2⟩
        · obtain ⟨d, rfl⟩ : ∃ d, b = d + 1 := ⟨b - 1, by omega⟩
          have e1 : ((d + 1 : Nat) : Int) - 1 = (d : Int) := by omega
          rw [e1]
          clear e1 hb0
          have hd7 : d < 7 := by omega
          have HN : Hid (arbDown ids (7 - d) = arbStep ids d (arbDown ids (7 - (d + 1)))) := by
            show _ = _
            rw [show 7 - d = (7 - (d + 1)) + 1 by omega, arbDown]
            congr 1
            omega
          have HM := Lib.hid (fun (k : Nat) (hk : k < (arbDown ids (7 - (d + 1))).length) => arbDown_nth hk)
          generalize arbDown ids (7 - (d + 1)) = nodes at hrd2 HN HM
          have HNL := Lib.hid hrd2.len
          obtain ⟨wb, rfl⟩ : ∃ wb : World, wb = wr := ⟨_, rfl⟩
          have hbs2 := hb2.size
          go_wp2_with fail
          go_loopw [6, 37] (fun v i wr => ∃ (j c1 : Nat) (A1 : Option Addr), j ≤ m ∧ i = .int .i64 j ∧ v = .slice A1 j c1 ∧ Own wr wb.heap.size A1 j c1 (bitsTo ids d nodes j) ∧ Below wb.heap.size wb wr) (fun _ i _ => m - (intOf i).toNat)
          case atStart => exact ⟨0, 0, none, by omega, rfl, rfl, Own.nil_ _ _, Below.refl _ _⟩
          case round =>
            obtain ⟨j, c1, A1, hj, rfl, rfl, hown1, hb3⟩ := hrel
            have hbs3 := hb3.size
            by_cases hjl : j < m
            · obtain ⟨g, off, rfl, hg, hcell⟩ := (hrd2.below hb3).at_ hjl
              obtain ⟨x, hx, hxl⟩ := HM.out j (by rw [HNL.out]; exact hjl)
              have hxn : x < k := by rw [← HL.out]; exact hxl
              obtain ⟨g', off', rfl, hg', hcell'⟩ := ((h.below hb2).below hb3).at_ hxn
              have hy := withinB_nth HW.out x hxl
              have HS := Lib.hid (bitsTo_succ (ids := ids) (b := d) (by rw [HNL.out]; exact hjl) hx)
              have HA := Lib.hid (and_bit (nth ids x) d hy.1 hy.2 hd7)
              rw [hx] at hcell
              generalize nth ids x = y at *
              obtain ⟨hy0, hy1⟩ := hy
              clear hx hxl
              go_wp2_with (at_builtin; refine wpList_append_int _ rfl (.tmp 41) (.tmp 49) rfl wb.heap.size A1 j c1 (bitsTo ids d nodes j) rfl (hown1.alloc _) wr.heap.size _ rfl (cell_one _ _ rfl _ _) (by omega) (size_one _ _ hbs3 _) ?_; intro g1 cap w1 hown2 hgrow1 hbel1 hlt1)
              have hb4 : Below wb.heap.size wb w1 := (hb3.alloc hbs3 _).trans (hbel1 _ (Nat.le_refl _))
              rw [HA.out, ← HS.out] at hown2
              clear hgrow1 hbel1
              go_wp2
              go_roundw
              case rel => exact ⟨j + 1, cap, _, by omega, by go_num, rfl, hown2, hb4⟩
              case measure => simp [intOf]; omega
            · obtain rfl : j = m := by omega
              have hsent := hown1.rd (by omega)
              have hall : bitsTo ids d nodes j = bitsOf ids d nodes := by rw [← bitsTo_all, HNL.out]
              rw [hall] at hsent
              clear hown1 hall
              have hrd3 := hrd2.below hb3
              have hb5 : Below w.heap.size w wr := below_next hb2 hbs2 hb3
              obtain ⟨wc, rfl⟩ : ∃ wc : World, wc = wr := ⟨_, rfl⟩
              have hbs5 := hb5.size
              go_wp2_with fail
              refine (implWireBit_any A1 j c1 _ _ hsent).mono ?_
              rintro e w' ⟨rfl, rfl⟩
              go_wp2_with fail
              go_loopw [10, 56] (fun v i wr => ∃ (t m2 c2 : Nat) (A2 : Option Addr), t ≤ j ∧ i = .int .i64 t ∧ v = .slice A2 m2 c2 ∧ m2 ≤ t ∧ Own wr wc.heap.size A2 m2 c2 (leftTo ids d nodes t) ∧ Below wc.heap.size wc wr) (fun _ i _ => j - (intOf i).toNat)
              case atStart => exact ⟨0, 0, 0, none, by omega, rfl, rfl, by omega, Own.nil_ _ _, Below.refl _ _⟩
              case round =>
                obtain ⟨t, m2, c2, A2, ht, rfl, rfl, hm2, hown3, hb6⟩ := hrel
                have hbs6 := hb6.size
                by_cases htl : t < j
                · obtain ⟨g, off, rfl, hg, hcell⟩ := (hrd3.below hb6).at_ htl
                  obtain ⟨g', off', rfl, hg', hcell'⟩ := (hsent.below hb6).at_ htl
                  obtain ⟨x, hx, hxl⟩ := HM.out t (by rw [HNL.out]; exact htl)
                  rw [hx] at hcell
                  rw [bitsOf_nth (by rw [HNL.out]; exact htl) hx] at hcell'
                  have htn : t < nodes.length := by rw [HNL.out]; exact htl
                  cases hw : (bitAt (nth ids x) d == wireZ (bitsOf ids d nodes))
                  · have HS := Lib.hid (leftTo_no htn hx hw)
                    clear hx htn
                    go_wp2
                    go_roundw
                    case rel => exact ⟨t + 1, m2, c2, A2, by omega, by go_num, rfl, by omega, by rw [HS.out]; exact hown3, hb6⟩
                    case measure => simp [intOf]; omega
                  · have HS := Lib.hid (leftTo_yes htn hx hw)
                    clear hx htn
                    go_wp2_with (at_builtin; refine wpList_append_int _ rfl (.tmp 67) (.tmp 69) rfl wc.heap.size A2 m2 c2 (leftTo ids d nodes t) rfl (hown3.alloc _) wr.heap.size (x : Int) rfl (cell_one _ _ rfl _ _) (by omega) (size_one _ _ hbs6 _) ?_; intro g1 cap w1 hown4 hgrow1 hbel1 hlt1)
                    have hb7' : Below wc.heap.size wc w1 := (hb6.alloc hbs6 _).trans (hbel1 _ (Nat.le_refl _))
                    rw [← HS.out] at hown4
                    clear hgrow1 hbel1
                    go_wp2
                    go_roundw
                    case rel => exact ⟨t + 1, m2 + 1, cap, _, by omega, by go_num, rfl, by omega, hown4, hb7'⟩
                    case measure => simp [intOf]; omega
                · obtain rfl : t = j := by omega
                  have hrd4 := hown3.rd (by omega)
                  have hall : leftTo ids d nodes t = arbDown ids (7 - d) := by rw [HN.out, ← leftTo_all, HNL.out]
                  rw [hall] at hrd4
                  clear hall hown3
                  go_wp2
                  go_roundw
                  case rel => exact ⟨d, m2, c2, A2, by omega, by go_num, rfl, by omega, hrd4, below_next hb5 hbs5 hb6⟩
                  case measure => simp [intOf]

theorem implArbitrate_any (A : Option Addr) (n c : Nat) (ids : List Int) (w : World) (h : Rd w A n ids) (hnc : n ≤ c) :
    Calls Try.prog 18 #[.slice A n c] w (Arbed ids w) := by
  cases hv : idsB ids
  · have HF := Lib.hid (arb_no hv)
    go_enter Try.func18, Try.ntmps18
    go_wp2_with fail
    refine (implIdsValid_any A n c ids _ h hnc).mono ?_
    rintro e w' ⟨rfl, rfl⟩
    go_wp2_with fail
    go_ret
    exact ⟨ret_int HF.out.symm, Below.refl _ _⟩
  · rcases Nat.eq_zero_or_pos n with h0 | h0
    · subst h0
      obtain rfl : ids = [] := List.eq_nil_of_length_eq_zero h.len
      go_enter Try.func18, Try.ntmps18
      go_wp2_with fail
      refine (implIdsValid_any A 0 c [] _ h hnc).mono ?_
      rintro e w' ⟨rfl, rfl⟩
      go_wp2_with fail
      go_ret
      exact ⟨ret_int arb_nil.symm, Below.refl _ _⟩
    · exact implArbitrate_in A n c ids w h hnc hv h0
end Go.Proofs.Ytjfninibloakgaa

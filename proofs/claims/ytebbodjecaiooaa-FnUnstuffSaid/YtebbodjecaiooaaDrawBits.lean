/-
  The drawings of texts of bits.
-/
import Derived.Test.YtebbodjecaiooaaReader
import Derived.Test.YtebbodjecaiooaaStuffS
import Derived.Deep.RegionWith
namespace Go.Proofs.Ytebbodjecaiooaa
open Go.RowKit

theorem below_of_grown {B : Nat} {w w' : World} {R : Nat} (h : w.grownBy w' (some R)) (hB : B ≤ R) (hs : B ≤ w.heap.size) : Below B w w' :=
  (Below.refl _ _).grown h hs (fun k hk => by cases hk; exact hB)
/-- the length of a text -/
def lenV : Value → Nat
  | .string s => s.size
  | _ => 0
theorem cells_new (W : World) (C : Array Value) (t : TypeId) (z : Nat) : (W.alloc (.cells C t)).cell? ⟨W.heap.size, z, none⟩ = C[z]? := cell_of_row _ W.heap.size z _ _ _ (heap_alloc_new W _)

/-- a text is drawn -/
def TextDrawn (w : World) (R P : Nat) (e : Ending) (w' : World) : Prop :=
  ∃ o : ByteArray, e = .returned (.string o) ∧ o.size ≤ 50 ∧ Rdr w' R (P + 40) ∧ Below R w w' ∧ w.heap.size ≤ w'.heap.size
def TextGot (w : World) (e : Ending) (w' : World) : Prop := ∃ o : ByteArray, e = .returned (.string o) ∧ o.size ≤ 200 ∧ Below w.heap.size w w'

theorem one_of_two (z : Nat) (hz : z < 2) : ∃ b : ByteArray, b.size ≤ 1 ∧ (#[Value.string ⟨#[48]⟩, Value.string ⟨#[49]⟩] : Array Value)[z]? = some (.string b) := by
  have : z = 0 ∨ z = 1 := by omega
  rcases this with rfl | rfl
  · exact ⟨⟨#[48]⟩, by decide, rfl⟩
  · exact ⟨⟨#[49]⟩, by decide, rfl⟩
theorem one_of_three (z : Nat) (hz : z < 3) : ∃ b : ByteArray, b.size ≤ 1 ∧ (#[Value.string ⟨#[50]⟩, Value.string ⟨#[32]⟩, Value.string ⟨#[120]⟩] : Array Value)[z]? = some (.string b) := by
  have : z = 0 ∨ z = 1 ∨ z = 2 := by omega
  rcases this with rfl | rfl | rfl
  · exact ⟨⟨#[50]⟩, by decide, rfl⟩
  · exact ⟨⟨#[32]⟩, by decide, rfl⟩
  · exact ⟨⟨#[120]⟩, by decide, rfl⟩

set_option maxHeartbeats 1600000 in
theorem l20Bits_any (R P : Nat) (m : Int) (w : World) (h : Rdr w R P) (hP : P ≤ 90000) (hm : 0 ≤ m) (hm' : m ≤ 100000) :
    Calls Try.prog 27 #[.pointer (some ⟨R, 0, none⟩), .int .i64 m] w (TextDrawn w R P) := by
  have hR := h.lt
  go_enter Try.func27, Try.ntmps27
  go_wp2_with fail
  refine (pick_any R P 10 _ h (by omega) (by omega) (by omega)).mono ?_
  rintro e w1 ⟨x, rfl, hx0, hx1, hr1, hg1⟩
  have hs1 := hg1.size
  have hb1 : Below R w w1 := below_of_grown hg1 (Nat.le_refl _) (by omega)
  clear hg1
  obtain ⟨k, rfl⟩ := Int.eq_ofNat_of_zero_le hx0
  go_wp2_with fail
  go_loopw [5, 6] (fun v i wr => ∃ (j p : Nat) (o : ByteArray), i = .int .i64 j ∧ v = .string o ∧ j ≤ 10 ∧ o.size ≤ 40 ∧ p + 2 * j ≤ P + 25 ∧ Rdr wr R p ∧ Below R w wr ∧ w.heap.size ≤ wr.heap.size) (fun _ i _ => (intOf i).toNat)
  case atStart => exact ⟨k, P + 1, ⟨#[]⟩, rfl, rfl, by omega, by decide, by omega, hr1, hb1, hs1⟩
  case round =>
    obtain ⟨j, p, o, rfl, rfl, hj, ho, hpj, hr, hb, hs⟩ := hrel
    clear hr1 hb1 hs1
    rcases Nat.eq_zero_or_pos j with h0 | h0
    · subst h0
      obtain ⟨wa, rfl⟩ : ∃ wa : World, wa = wr := ⟨_, rfl⟩
      go_wp2_with fail
      refine (odd_any R p m _ hr (by omega) hm hm').mono ?_
      rintro e w2 ⟨b, rfl, hr2, hg2⟩
      have hs2 := hg2.size
      have hb2 : Below R w w2 := hb.trans (below_of_grown hg2 (Nat.le_refl _) (by omega))
      cases b
      · go_wp2
        go_ret
        exact ⟨o, rfl, by omega, hr2.more (by omega), hb2, by omega⟩
      · go_wp2_with fail
        refine (pick_any R (p + 1) 2 _ hr2 (by omega) (by omega) (by omega)).mono ?_
        rintro e w3 ⟨y, rfl, hy0, hy1, hr3, hg3⟩
        have hs3 := hg3.size
        have hb3 : Below R w w3 := hb2.trans (below_of_grown hg3 (Nat.le_refl _) (by omega))
        clear hg2 hg3
        by_cases hy : y = 0
        · subst hy
          go_wp2_with fail
          refine (pick_any R (p + 2) 3 _ (hr3.alloc _) (by omega) (by omega) (by omega)).mono ?_
          rintro e w4 ⟨z, rfl, hz0, hz1, hr4, hg4⟩
          obtain ⟨zn, rfl⟩ := Int.eq_ofNat_of_zero_le hz0
          obtain ⟨b, hb1, hbz⟩ := one_of_three zn (by omega)
          have hcell : w4.cell? ⟨w3.heap.size, zn, none⟩ = some (.string b) := (hg4.cell_far ⟨w3.heap.size, zn, none⟩ (by simp) (by simp; omega)).trans ((cells_new w3 _ _ zn).trans hbz)
          have hs4 : w3.heap.size + 1 ≤ w4.heap.size := by have := hg4.size; simpa using this
          have hb4 : Below R w w4 := (hb3.alloc (by omega) _).trans (below_of_grown hg4 (Nat.le_refl _) (by simp; omega))
          have hsz : (o ++ b).size ≤ 41 := by simp; omega
          clear hg4 hbz
          go_wp2
          go_ret
          exact ⟨_, rfl, by omega, hr4.more (by omega), hb4, by omega⟩
        · have hyn : (y == 0) = false := by simp [hy]
          clear hy
          go_wp2_with fail
          go_loop [5] (fun v => ∃ o : ByteArray, v = .string o ∧ o.size ≤ 41) (fun v => 41 - lenV v)
          case atStart => exact ⟨o, rfl, by omega⟩
          case round =>
            obtain ⟨o', rfl, ho'⟩ := hrel
            by_cases hlt : o'.size ≤ 40
            · have hsz : (o' ++ (⟨#[49]⟩ : ByteArray)).size = o'.size + 1 := by simp; rfl
              have HSZ := Lib.hid hsz
              clear hsz
              go_wp2
              go_round
              case rel => exact ⟨_, rfl, by rw [HSZ.out]; omega⟩
              case measure => (have h1 : (⟨#[49]⟩ : ByteArray).size = 1 := rfl; simp [lenV]; omega)
            · go_wp2
              go_ret
              exact ⟨o', rfl, by omega, hr3.more (by omega), hb3, by omega⟩
    · have hd : decide ((0 : Int) < (j : Int)) = true := by simp; omega
      go_wp2_with fail
      refine (pick_any R p 2 _ (hr.alloc _) (by omega) (by omega) (by omega)).mono ?_
      rintro e w2 ⟨z, rfl, hz0, hz1, hr2, hg2⟩
      obtain ⟨zn, rfl⟩ := Int.eq_ofNat_of_zero_le hz0
      obtain ⟨b, hb1, hbz⟩ := one_of_two zn (by omega)
      have hcell : w2.cell? ⟨wr.heap.size, zn, none⟩ = some (.string b) := (hg2.cell_far ⟨wr.heap.size, zn, none⟩ (by simp) (by simp; omega)).trans ((cells_new wr _ _ zn).trans hbz)
      have hs2 : wr.heap.size + 1 ≤ w2.heap.size := by have := hg2.size; simpa using this
      have hb2 : Below R w w2 := (hb.alloc (by omega) _).trans (below_of_grown hg2 (Nat.le_refl _) (by simp; omega))
      clear hg2 hr hb hbz
      go_wp2_with fail
      refine (pick_any R (p + 1) 6 _ hr2 (by omega) (by omega) (by omega)).mono ?_
      rintro e w3 ⟨y, rfl, hy0, hy1, hr3, hg3⟩
      have hs3 := hg3.size
      have hb3 : Below R w w3 := hb2.trans (below_of_grown hg3 (Nat.le_refl _) (by omega))
      obtain ⟨yn, rfl⟩ := Int.eq_ofNat_of_zero_le hy0
      clear hg3 hr2 hb2 hcell
      go_wp2_with fail
      go_loop [5, 8] (fun v i => ∃ (t : Nat) (o : ByteArray), v = .string o ∧ i = .int .i64 t ∧ t ≤ 6 ∧ o.size ≤ 40) (fun _ i => (intOf i).toNat)
      case atStart => exact ⟨yn + 1, o, rfl, by go_num, by omega, ho⟩
      case round =>
        obtain ⟨t, o', rfl, rfl, ht, ho'⟩ := hrel
        by_cases hgo : 0 < t ∧ o'.size < 40
        · obtain ⟨ht0, hlt⟩ := hgo
          have hsz : (o' ++ b).size ≤ 40 := by simp; omega
          go_wp2
          go_round
          case rel => exact ⟨t - 1, _, rfl, by rw [show ((t - 1 : Nat) : Int) = (t : Int) - 1 by omega], by omega, hsz⟩
          case measure => simp [intOf]; omega
        · rcases Nat.eq_zero_or_pos t with ht0 | ht0
          · subst ht0
            go_wp2
            go_roundw
            case rel => exact ⟨j - 1, p + 2, o', by rw [show ((j - 1 : Nat) : Int) = (j : Int) - 1 by omega], rfl, by omega, ho', by omega, hr3, hb3, by omega⟩
            case measure => simp [intOf]; omega
          · have hge : ¬ o'.size < 40 := fun hh => hgo ⟨ht0, hh⟩
            have hge' : decide ((o'.size : Int) < 40) = false := by simp; omega
            clear hgo
            go_wp2
            go_roundw
            case rel => exact ⟨j - 1, p + 2, o', by rw [show ((j - 1 : Nat) : Int) = (j : Int) - 1 by omega], rfl, by omega, ho', by omega, hr3, hb3, by omega⟩
            case measure => simp [intOf]; omega

theorem DrawBitsValid_any (A : Option Addr) (n c : Nat) (zs : List Int) (w : World) (h : IsRow .u8 w A n c zs) :
    Calls Try.prog 19 #[.slice A n c] w (TextGot w) := by
  go_enter Try.func19, Try.ntmps19
  go_wp2_with fail
  refine (open_any A n c zs _ h).mono ?_
  rintro e w1 ⟨rfl, hr1, hb1⟩
  go_wp2_with fail
  refine (l20Bits_any _ 0 _ _ hr1 (by omega) (by omega) (by omega)).mono ?_
  rintro e w2 ⟨o, rfl, ho, hr2, hb2, _⟩
  go_wp2
  go_ret
  exact ⟨o, rfl, by omega, hb1.trans hb2⟩
theorem DrawLongestRun_any (A : Option Addr) (n c : Nat) (zs : List Int) (w : World) (h : IsRow .u8 w A n c zs) :
    Calls Try.prog 21 #[.slice A n c] w (TextGot w) := by
  go_enter Try.func21, Try.ntmps21
  go_wp2_with fail
  refine (open_any A n c zs _ h).mono ?_
  rintro e w1 ⟨rfl, hr1, hb1⟩
  go_wp2_with fail
  refine (l20Bits_any _ 0 _ _ hr1 (by omega) (by omega) (by omega)).mono ?_
  rintro e w2 ⟨o, rfl, ho, hr2, hb2, _⟩
  go_wp2
  go_ret
  exact ⟨o, rfl, by omega, hb1.trans hb2⟩
theorem DrawStuff_any (A : Option Addr) (n c : Nat) (zs : List Int) (w : World) (h : IsRow .u8 w A n c zs) :
    Calls Try.prog 22 #[.slice A n c] w (TextGot w) := by
  go_enter Try.func22, Try.ntmps22
  go_wp2_with fail
  refine (open_any A n c zs _ h).mono ?_
  rintro e w1 ⟨rfl, hr1, hb1⟩
  go_wp2_with fail
  refine (l20Bits_any _ 0 _ _ hr1 (by omega) (by omega) (by omega)).mono ?_
  rintro e w2 ⟨o, rfl, ho, hr2, hb2, _⟩
  go_wp2
  go_ret
  exact ⟨o, rfl, by omega, hb1.trans hb2⟩
end Go.Proofs.Ytebbodjecaiooaa

/-
  The reader that the reference's drawings read: pick, odd, l20Open. Only bounds of what is picked are told; that is all that the laws need.
-/
import Derived.Test.YtjfninibloakgaaBase
import Derived.Laws.BitsAllLaws
import Derived.Laws.BitsLemmas
namespace Go.Proofs.Ytjfninibloakgaa
open Go.RowKit

/-- the reader lies in block R, has picked at most P times, and its bytes lie below R -/
def Rdr (w : World) (R P : Nat) : Prop :=
  ∃ (A : Option Addr) (n c p : Nat), w.heap[R]? = some (.cells #[.slice A n c, .int .i64 p] 41 (0, 0)) ∧ p ≤ P ∧ n ≤ 2000 ∧
    (0 < n → ∃ (g off : Nat) (zs : List Int), A = some ⟨g, off, none⟩ ∧ g < R ∧ ∀ j, j < n → w.cell? ⟨g, off + j, none⟩ = some (.int .u8 (nth zs j)) ∧ 0 ≤ nth zs j ∧ nth zs j ≤ 255)

theorem Rdr.lt {w : World} {R P : Nat} (h : Rdr w R P) : R < w.heap.size := by
  obtain ⟨A, n, c, p, h, _⟩ := h
  exact (Array.getElem?_eq_some_iff.1 h).1
theorem Rdr.more {w : World} {R P P' : Nat} (h : Rdr w R P) (hP : P ≤ P') : Rdr w R P' := by
  obtain ⟨A, n, c, p, h1, h2, h3⟩ := h
  exact ⟨A, n, c, p, h1, by omega, h3⟩
theorem Rdr.below {w w' : World} {R P : Nat} (h : Rdr w R P) (hb : Below (R + 1) w w') : Rdr w' R P := by
  obtain ⟨A, n, c, p, h1, h2, h3, h4⟩ := h
  refine ⟨A, n, c, p, (hb.block R (by omega)).trans h1, h2, h3, fun hn => ?_⟩
  obtain ⟨g, off, zs, e, hg, hc⟩ := h4 hn
  refine ⟨g, off, zs, e, hg, fun j hj => ⟨?_, (hc j hj).2⟩⟩
  have := (hc j hj).1
  rw [← this]
  exact hb.cell (p := ⟨g, off + j, none⟩) (by show g < R + 1; omega)
theorem Rdr.alloc {w : World} {R P : Nat} (h : Rdr w R P) (o : Obj) : Rdr (w.alloc o) R P := h.below ((Below.refl _ _).alloc h.lt o)
theorem Rdr.drewN {w : World} {R P : Nat} (h : Rdr w R P) (q : Nat) : Rdr (w.drewN q) R P := h
theorem Rdr.drew {w : World} {R P : Nat} (h : Rdr w R P) : Rdr w.drew R P := h

/-- what pick leaves -/
def Picked (w : World) (R P : Nat) (m : Int) (e : Ending) (w' : World) : Prop :=
  ∃ x : Int, e = .returned (.int .i64 x) ∧ 0 ≤ x ∧ x < m ∧ Rdr w' R (P + 1) ∧ w.grownBy w' (some R)

theorem ofInt_i64' (a : Nat) (ha : a < 9223372036854775808) : (BitVec.ofInt 64 (a : Int)).toNat = a := by
  rw [BitVec.ofInt_natCast, BitVec.toNat_ofNat]; exact Nat.mod_eq_of_lt (by omega)
theorem xor_bd (a b : Int) (ha : 0 ≤ a) (hb : 0 ≤ b) (ha' : a < 4611686018427387904) (hb' : b < 4611686018427387904) : 0 ≤ bits .xor .i64 a b ∧ bits .xor .i64 a b < 9223372036854775808 := by
  obtain ⟨a, rfl⟩ := Int.eq_ofNat_of_zero_le ha
  obtain ⟨b, rfl⟩ := Int.eq_ofNat_of_zero_le hb
  have hx : a ^^^ b < 2 ^ 63 := Nat.xor_lt_two_pow (by omega) (by omega)
  have e : bits .xor .i64 (a : Int) (b : Int) = ((a ^^^ b : Nat) : Int) := by
    show IntKind.i64.wrap ((BitVec.ofInt 64 (a : Int) ^^^ BitVec.ofInt 64 (b : Int)).toNat : Int) = _
    rw [BitVec.toNat_xor, ofInt_i64' a (by omega), ofInt_i64' b (by omega), IntKind.wrap_i64]
    omega
  rw [e]
  omega

/-- the world behind 'r.p = r.p + 1' -/
theorem picked_world {w : World} {R : Nat} {A : Option Addr} {n c p : Nat} {P : Nat} (h1 : w.heap[R]? = some (.cells #[.slice A n c, .int .i64 p] 41 (0, 0))) (h2 : p ≤ P) (h3 : n ≤ 2000)
    (h4 : 0 < n → ∃ (g off : Nat) (zs : List Int), A = some ⟨g, off, none⟩ ∧ g < R ∧ ∀ j, j < n → w.cell? ⟨g, off + j, none⟩ = some (.int .u8 (nth zs j)) ∧ 0 ≤ nth zs j ∧ nth zs j ≤ 255) (q : Nat) :
    Rdr ((w.setCell ⟨R, 1, none⟩ (.int .i64 ((p : Int) + 1))).drewN q) R (P + 1) ∧ w.grownBy ((w.setCell ⟨R, 1, none⟩ (.int .i64 ((p : Int) + 1))).drewN q) (some R) := by
  refine ⟨⟨A, n, c, p + 1, ?_, by omega, h3, fun hn => ?_⟩, ⟨rfl, rfl, rfl, by simp [World.setCell], fun k hk hne => ?_⟩⟩
  · simp [World.setCell, Array.getElem?_modify, h1]
  · obtain ⟨g, off, zs, e, hg, hc⟩ := h4 hn
    refine ⟨g, off, zs, e, hg, fun j hj => ⟨?_, (hc j hj).2⟩⟩
    rw [← (hc j hj).1]
    exact World.cell?_setCell_other _ _ _ _ (by intro e; injection e; omega)
  · exact Below.heap_setCell _ _ _ _ (by intro e; exact hne (by rw [e]))

set_option maxHeartbeats 800000 in
theorem pick_any (R P : Nat) (m : Int) (w : World) (h : Rdr w R P) (hP : P ≤ 100000) (hm : 1 ≤ m) (hm' : m ≤ 100000) :
    Calls Try.prog 40 #[.pointer (some ⟨R, 0, none⟩), .int .i64 m] w (Picked w R P m) := by
  obtain ⟨A, n, c, p, h1, h2, h3, h4⟩ := h
  have hw := picked_world h1 h2 h3 h4
  have HW := Lib.hid hw
  clear hw
  have hc0 : w.cell? ⟨R, 0, none⟩ = some (.slice A n c) := by rw [cell_of_row w R 0 _ _ _ h1]; rfl
  have hc1 : w.cell? ⟨R, 1, none⟩ = some (.int .i64 p) := by rw [cell_of_row w R 1 _ _ _ h1]; rfl
  have hf1 : w.frozen? ⟨R, 1, none⟩ = false := by simp [World.frozen?, h1]
  have H1 := Lib.hid h1
  clear h1
  by_cases hn : n = 0
  · subst hn
    clear h4
    go_enter Try.func40, Try.ntmps40
    go_wp2
    go_ret
    exact ⟨0, rfl, by omega, by omega, (HW.out 0).1, (HW.out 0).2⟩
  · have hne : ((n : Int) == 0) = false := by simp; omega
    have hnp : 0 < n := by omega
    obtain ⟨g, off, zs, rfl, hg, hz⟩ := h4 hnp
    clear h4
    by_cases hlt : p < n
    · obtain ⟨hz0, hz1, hz2⟩ := hz p hlt
      have hz0' : (w.setCell ⟨R, 1, none⟩ (.int .i64 ((p : Int) + 1))).cell? ⟨g, off + p, none⟩ = some (.int .u8 (nth zs p)) := by
        rw [← hz0]; exact World.cell?_setCell_other _ _ _ _ (by intro e; injection e; omega)
      clear hz hn
      go_enter Try.func40, Try.ntmps40
      go_wp2
      go_ret
      refine ⟨nth zs p % m, ?_, Int.emod_nonneg _ (by omega), Int.emod_lt_of_pos _ (by omega), (HW.out 0).1, (HW.out 0).2⟩
      exact ret_int (by first | rfl | go_num)
    · have hk1 : p % n < n := Nat.mod_lt _ hnp
      have hk2 : (p * 7 + 3) % n < n := Nat.mod_lt _ hnp
      obtain ⟨hz0, hz1, hz2⟩ := hz (p % n) hk1
      obtain ⟨hy0, hy1, hy2⟩ := hz ((p * 7 + 3) % n) hk2
      have q1 : (p : Int).tmod n = ((p % n : Nat) : Int) := by
        rw [Int.tmod_eq_emod_of_nonneg (by omega), ← Int.natCast_emod]
      have q4 : ((p : Int) * 7 + 3).tmod n = (((p * 7 + 3) % n : Nat) : Int) := by
        rw [Int.tmod_eq_emod_of_nonneg (by omega), show (p : Int) * 7 + 3 = ((p * 7 + 3 : Nat) : Int) by omega, ← Int.natCast_emod]
      have q10 : (p : Int).tdiv n = ((p / n : Nat) : Int) := by
        rw [Int.tdiv_eq_ediv_of_nonneg (by omega), ← Int.natCast_ediv]
      have hd : p / n ≤ p := Nat.div_le_self _ _
      generalize p % n = k1 at *
      generalize (p * 7 + 3) % n = k2 at *
      generalize p / n = d at *
      generalize nth zs k1 = z1 at *
      generalize nth zs k2 = z2 at *
      have hz0' : (w.setCell ⟨R, 1, none⟩ (.int .i64 ((p : Int) + 1))).cell? ⟨g, off + k1, none⟩ = some (.int .u8 z1) := by
        rw [← hz0]; exact World.cell?_setCell_other _ _ _ _ (by intro e; injection e; omega)
      have hy0' : (w.setCell ⟨R, 1, none⟩ (.int .i64 ((p : Int) + 1))).cell? ⟨g, off + k2, none⟩ = some (.int .u8 z2) := by
        rw [← hy0]; exact World.cell?_setCell_other _ _ _ _ (by intro e; injection e; omega)
      have i1 : (0 : Int) ≤ (k1 : Int) := by omega
      have i2 : (k1 : Int) < (n : Int) := by omega
      have i3 : (0 : Int) ≤ (k2 : Int) := by omega
      have i4 : (k2 : Int) < (n : Int) := by omega
      have hxb := xor_bd (z1 * 131 + z2 * 1117 + (p : Int) * 29 + (d : Int) * 53) ((z1 * 131 + z2 * 1117 + (p : Int) * 29 + (d : Int) * 53) / 64) (by omega) (by omega) (by omega) (by omega)
      have HXB := Lib.hid hxb
      clear hz hz0 hy0 hxb
      have c1 : IntKind.i64.wrap z1 = z1 := IntWalk.i64_in _ (by omega)
      have c2 : IntKind.i64.wrap z2 = z2 := IntWalk.i64_in _ (by omega)
      have q2 : IntKind.i64.wrap ((p : Int) * 7) = (p : Int) * 7 := IntWalk.i64_in _ (by omega)
      have q3 : IntKind.i64.wrap ((p : Int) * 7 + 3) = (p : Int) * 7 + 3 := IntWalk.i64_in _ (by omega)
      have q5 : IntKind.i64.wrap (z1 * 131) = z1 * 131 := IntWalk.i64_in _ (by omega)
      have q6 : IntKind.i64.wrap (z2 * 1117) = z2 * 1117 := IntWalk.i64_in _ (by omega)
      have q7 : IntKind.i64.wrap (z1 * 131 + z2 * 1117) = z1 * 131 + z2 * 1117 := IntWalk.i64_in _ (by omega)
      have q8 : IntKind.i64.wrap ((p : Int) * 29) = (p : Int) * 29 := IntWalk.i64_in _ (by omega)
      have q9 : IntKind.i64.wrap (z1 * 131 + z2 * 1117 + (p : Int) * 29) = z1 * 131 + z2 * 1117 + (p : Int) * 29 := IntWalk.i64_in _ (by omega)
      have q11 : IntKind.i64.wrap ((d : Int) * 53) = (d : Int) * 53 := IntWalk.i64_in _ (by omega)
      have q12 : IntKind.i64.wrap (z1 * 131 + z2 * 1117 + (p : Int) * 29 + (d : Int) * 53) = z1 * 131 + z2 * 1117 + (p : Int) * 29 + (d : Int) * 53 := IntWalk.i64_in _ (by omega)
      have q13 : IntKind.i64.wrap (d : Int) = (d : Int) := IntWalk.i64_in _ (by omega)
      go_enter Try.func40, Try.ntmps40
      go_wp2
      go_quiet (fail)
      clear q1 q2 q3 q4 q5 q6 q7 q8 q9 q10 q11 q12 q13 c1 c2
      go_wp2
      go_ret
      exact ⟨_, rfl, Int.tmod_nonneg _ HXB.out.1, Int.tmod_lt_of_pos _ (by omega), (HW.out nq).1, (HW.out nq).2⟩

/-- what odd leaves -/
def Odd (w : World) (R P : Nat) (e : Ending) (w' : World) : Prop :=
  ∃ b : Bool, e = .returned (.bool b) ∧ Rdr w' R (P + 1) ∧ w.grownBy w' (some R)

theorem odd_any (R P : Nat) (m : Int) (w : World) (h : Rdr w R P) (hP : P ≤ 100000) (hm : 0 ≤ m) (hm' : m ≤ 100000) :
    Calls Try.prog 42 #[.pointer (some ⟨R, 0, none⟩), .int .i64 m] w (Odd w R P) := by
  by_cases h0 : 0 < m
  · go_enter Try.func42, Try.ntmps42
    go_wp2_with fail
    refine (pick_any R P m _ h hP (by omega) hm').mono ?_
    rintro e w1 ⟨x, rfl, hx0, hx1, hr, hg⟩
    go_wp2
    go_ret
    exact ⟨_, rfl, hr, hg⟩
  · have hd : decide (0 < m) = false := by simp; omega
    go_enter Try.func42, Try.ntmps42
    go_wp2_with fail
    go_ret
    exact ⟨_, rfl, h.more (by omega), World.grownBy.refl _ _⟩

/-- a new reader -/
def Opened (w : World) (e : Ending) (w' : World) : Prop :=
  e = .returned (.pointer (some ⟨w.heap.size, 0, none⟩)) ∧ Rdr w' w.heap.size 0 ∧ Below w.heap.size w w'

theorem opened_world (w : World) (A : Option Addr) (n c len cap : Nat) (zs : List Int) (h : IsRow .u8 w A len cap zs) (hn : n ≤ len) (hn' : n ≤ 2000) :
    Rdr (w.alloc (.cells #[.slice A n c, .int .i64 0] 41)) w.heap.size 0 := by
  refine ⟨A, n, c, 0, heap_alloc_new w _, by omega, hn', fun h0 => ?_⟩
  obtain ⟨g, off, e, hg, hc⟩ := h.cell (by omega)
  refine ⟨g, off, zs.take len, e, hg, fun j hj => ⟨?_, ?_⟩⟩
  · rw [← hc j (by omega)]
    exact World.cell?_alloc_lt w _ ⟨g, off + j, none⟩ hg
  · have := h.wf _ (nth_mem (zs.take len) j (by rw [h.len_le.1]; omega))
    simpa [Lit.wf, IntKind.min, IntKind.max, IntKind.signed, IntKind.bits] using this

theorem open_any (A : Option Addr) (n c : Nat) (zs : List Int) (w : World) (h : IsRow .u8 w A n c zs) :
    Calls Try.prog 38 #[.slice A n c] w (Opened w) := by
  have hl := h.len_le
  by_cases h0 : 2000 < n
  · have hw := opened_world w A 2000 c n c zs h (by omega) (Nat.le_refl _)
    have HL := Lib.hid hl.1
    obtain ⟨_, hl1, hl2⟩ := hl
    go_enter Try.func38, Try.ntmps38
    go_wp2
    go_ret
    exact ⟨rfl, hw, (Below.refl _ _).alloc (Nat.le_refl _) _⟩
  · have hw := opened_world w A n c n c zs h (by omega) (by omega)
    have HL := Lib.hid hl.1
    obtain ⟨_, hl1, hl2⟩ := hl
    go_enter Try.func38, Try.ntmps38
    go_wp2
    go_ret
    exact ⟨rfl, hw, (Below.refl _ _).alloc (Nat.le_refl _) _⟩
end Go.Proofs.Ytjfninibloakgaa

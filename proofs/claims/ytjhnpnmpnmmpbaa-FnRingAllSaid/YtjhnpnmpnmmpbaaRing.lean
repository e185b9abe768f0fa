/-
  RingValid and RingNext of the program and of the reference; the laws' helpers on rings; the walks of the laws FnExactRingValid and FnExactRingNext.
-/
import Derived.Test.YtjhnpnmpnmmpbaaRingPlain
import Derived.Test.YtjhnpnmpnmmpbaaIn
import Derived.Test.YtjhnpnmpnmmpbaaSame
import Derived.Test.YtjhnpnmpnmmpbaaMark2
namespace Go.Proofs.Ytjhnpnmpnmmpbaa
open Go.RowKit

/-- the box of a ring -/
abbrev ringBox (f : Int) (A : Option Addr) (n c : Nat) : Obj := .cells #[.int .i64 f, .slice A n c] 27
theorem below_box (w : World) (o : Obj) : Below w.heap.size w (w.alloc o) := (Below.refl _ _).alloc (Nat.le_refl _) _
/-- a bool, and only new memory -/
def Bool' (b : Bool) (w : World) (e : Ending) (w' : World) : Prop := e = .returned (.bool b) ∧ Below w.heap.size w w'
def Int' (x : Int) (w : World) (e : Ending) (w' : World) : Prop := e = .returned (.int .i64 x) ∧ Below w.heap.size w w'

set_option maxHeartbeats 800000 in
theorem implRingValid_any (f : Int) (A : Option Addr) (n c : Nat) (xs : List Int) (w : World) (h : Rd w A n xs) :
    Calls Try.prog 16 #[.agg #[.int .i64 f, .slice A n c]] w (Bool' (ringB f xs) w) := by
  have hn := h.le
  have HL := Lib.hid h.len
  have hb0 := below_box w (ringBox f A n c)
  have hr := h.alloc (ringBox f A n c)
  by_cases h1 : f < 0
  · have HF := Lib.hid (ringB_no (f := f) (xs := xs) (by omega))
    go_enter Try.func16, Try.ntmps16
    go_wp2_with fail
    go_ret
    exact ⟨ret_bool HF.out.symm, hb0⟩
  have d1 : decide (f < 0) = false := by simp; omega
  by_cases h2 : 9999 < f
  · have HF := Lib.hid (ringB_no (f := f) (xs := xs) (by omega))
    go_enter Try.func16, Try.ntmps16
    go_wp2_with fail
    go_ret
    exact ⟨ret_bool HF.out.symm, hb0⟩
  have d2 : decide (9999 < f) = false := by simp; omega
  by_cases h3 : 6 < n
  · have HF := Lib.hid (ringB_no (f := f) (xs := xs) (by rw [HL.out]; omega))
    go_enter Try.func16, Try.ntmps16
    go_wp2_with fail
    go_ret
    exact ⟨ret_bool HF.out.symm, hb0⟩
  have d3 : decide ((6 : Int) < (n : Int)) = false := by simp; omega
  cases hw : withinB xs 100
  · have HF := Lib.hid (ringB_no (f := f) (xs := xs) (by rw [hw]; simp))
    go_enter Try.func16, Try.ntmps16
    go_wp2_with fail
    refine (allWithin_any A n c xs _ _ hr).mono ?_
    rintro e w' ⟨rfl, rfl⟩
    go_wp2_with fail
    go_ret
    exact ⟨ret_bool HF.out.symm, hb0⟩
  · by_cases h4 : f = 0
    · subst h4
      have HF := Lib.hid (ringB_true (f := 0) (xs := xs) |>.2 ⟨by omega, by omega, by rw [HL.out]; omega, hw, .inl rfl⟩)
      go_enter Try.func16, Try.ntmps16
      go_wp2_with fail
      refine (allWithin_any A n c xs _ _ hr).mono ?_
      rintro e w' ⟨rfl, rfl⟩
      go_wp2_with fail
      go_ret
      exact ⟨ret_bool HF.out.symm, hb0⟩
    · have n4 : (f == 0) = false := by simp [h4]
      by_cases h5 : n = 6
      · have e5 : ((n : Int) == 6) = true := by simp; omega
        have HF := Lib.hid (ringB_true (f := f) (xs := xs) |>.2 ⟨by omega, by omega, by rw [HL.out]; omega, hw, .inr (by rw [HL.out]; exact h5)⟩)
        clear h5 h4
        go_enter Try.func16, Try.ntmps16
        go_wp2_with fail
        refine (allWithin_any A n c xs _ _ hr).mono ?_
        rintro e w' ⟨rfl, rfl⟩
        go_wp2_with fail
        go_ret
        exact ⟨ret_bool HF.out.symm, hb0⟩
      · have e5 : ((n : Int) == 6) = false := by simp; omega
        have HF := Lib.hid (ringB_no (f := f) (xs := xs) (by rw [HL.out]; omega))
        clear h5 h4
        go_enter Try.func16, Try.ntmps16
        go_wp2_with fail
        refine (allWithin_any A n c xs _ _ hr).mono ?_
        rintro e w' ⟨rfl, rfl⟩
        go_wp2_with fail
        go_ret
        exact ⟨ret_bool HF.out.symm, hb0⟩

set_option maxHeartbeats 800000 in
theorem specRingValid_any (f : Int) (A : Option Addr) (n c : Nat) (xs : List Int) (w : World) (h : Rd w A n xs) :
    Calls Try.prog 14 #[.agg #[.int .i64 f, .slice A n c]] w (Bool' (ringB f xs) w) := by
  have hn := h.le
  have HL := Lib.hid h.len
  have hb0 := below_box w (ringBox f A n c)
  have hr := h.alloc (ringBox f A n c)
  go_enter Try.func14, Try.ntmps14
  go_wp2_with fail
  go_loop [3] (fun i => ∃ k : Nat, k ≤ n ∧ i = .int .i64 k ∧ Hid (∀ j, j < k → 0 ≤ nth xs j ∧ nth xs j < 100)) (fun i => n - (intOf i).toNat)
  case atStart => exact ⟨0, Nat.zero_le _, rfl, fun j hj => absurd hj (by omega)⟩
  case round =>
    obtain ⟨k, hk, rfl, H⟩ := hrel
    by_cases hlt : k < n
    · obtain ⟨g, off, rfl, hg, hcell⟩ := hr.at_ hlt
      by_cases hx : 0 ≤ nth xs k ∧ nth xs k ≤ 99
      · have hi := inB_yes hx
        have HX := Lib.hid hx
        clear hx
        go_wp2_with fail
        refine (l1In_any _ _ _ _).mono ?_
        rintro e w' ⟨rfl, rfl⟩
        go_wp2_with fail
        go_round
        case rel => exact ⟨k + 1, by omega, by go_num, fun j hj => by
          rcases Nat.lt_or_ge j k with h1 | h1
          · exact H.out j h1
          · obtain rfl : j = k := by omega
            have := HX.out
            omega⟩
        case measure => simp [intOf]; omega
      · have hi := inB_no hx
        have HF := Lib.hid (ringB_no (f := f) (xs := xs) (by rw [withinB_no k (by rw [HL.out]; exact hlt) (by omega)]; simp))
        clear hx
        go_wp2_with fail
        refine (l1In_any _ _ _ _).mono ?_
        rintro e w' ⟨rfl, rfl⟩
        go_wp2_with fail
        go_ret
        exact ⟨ret_bool HF.out.symm, hb0⟩
    · have HW : Hid (withinB xs 100 = true) := withinB_yes (fun j hj => H.out j (by rw [HL.out] at hj; omega))
      by_cases h1 : 0 ≤ f ∧ f ≤ 9999
      · have hi := inB_yes h1
        by_cases h3 : n ≤ 6
        · have d3 : decide ((n : Int) ≤ 6) = true := by simp; omega
          by_cases h4 : f = 0
          · have e4 : (f == 0) = true := by simp [h4]
            have HF := Lib.hid (ringB_true (f := f) (xs := xs) |>.2 ⟨by omega, by omega, by rw [HL.out]; omega, HW.out, .inl h4⟩)
            clear h4 h1
            go_wp2_with fail
            refine (l1In_any _ _ _ _).mono ?_
            rintro e w' ⟨rfl, rfl⟩
            go_wp2_with fail
            go_ret
            exact ⟨ret_bool HF.out.symm, hb0⟩
          · have n4 : (f == 0) = false := by simp [h4]
            by_cases h5 : n = 6
            · have e5 : ((n : Int) == 6) = true := by simp; omega
              have HF := Lib.hid (ringB_true (f := f) (xs := xs) |>.2 ⟨by omega, by omega, by rw [HL.out]; omega, HW.out, .inr (by rw [HL.out]; exact h5)⟩)
              clear h5 h4 h1
              go_wp2_with fail
              refine (l1In_any _ _ _ _).mono ?_
              rintro e w' ⟨rfl, rfl⟩
              go_wp2_with fail
              go_ret
              exact ⟨ret_bool HF.out.symm, hb0⟩
            · have e5 : ((n : Int) == 6) = false := by simp; omega
              have HF := Lib.hid (ringB_no (f := f) (xs := xs) (by rw [HL.out]; omega))
              clear h5 h4 h1
              go_wp2_with fail
              refine (l1In_any _ _ _ _).mono ?_
              rintro e w' ⟨rfl, rfl⟩
              go_wp2_with fail
              go_ret
              exact ⟨ret_bool HF.out.symm, hb0⟩
        · have d3 : decide ((n : Int) ≤ 6) = false := by simp; omega
          have HF := Lib.hid (ringB_no (f := f) (xs := xs) (by rw [HL.out]; omega))
          clear h1
          go_wp2_with fail
          refine (l1In_any _ _ _ _).mono ?_
          rintro e w' ⟨rfl, rfl⟩
          go_wp2_with fail
          go_ret
          exact ⟨ret_bool HF.out.symm, hb0⟩
      · have hi := inB_no h1
        have HF := Lib.hid (ringB_no (f := f) (xs := xs) (by omega))
        clear h1
        go_wp2_with fail
        refine (l1In_any _ _ _ _).mono ?_
        rintro e w' ⟨rfl, rfl⟩
        go_wp2_with fail
        go_ret
        exact ⟨ret_bool HF.out.symm, hb0⟩

/-- the cells of a box in a later world -/
theorem box_cells {w w' : World} {f : Int} {A : Option Addr} {n c : Nat} (hb : Below (w.heap.size + 1) (w.alloc (ringBox f A n c)) w') :
    w'.cell? ⟨w.heap.size, 0, none⟩ = some (.int .i64 f) ∧ w'.cell? ⟨w.heap.size, 1, none⟩ = some (.slice A n c) := by
  refine ⟨?_, ?_⟩
  · rw [hb.cell (p := ⟨w.heap.size, 0, none⟩) (by show w.heap.size < _; omega)]; simp
  · rw [hb.cell (p := ⟨w.heap.size, 1, none⟩) (by show w.heap.size < _; omega)]; simp
theorem below_alloc1 {w w' : World} {o : Obj} (hb : Below (w.alloc o).heap.size (w.alloc o) w') : Below (w.heap.size + 1) (w.alloc o) w' := by
  have : (w.alloc o).heap.size = w.heap.size + 1 := by simp
  rwa [this] at hb

set_option maxHeartbeats 400000 in
theorem implRingNext_any (f : Int) (A : Option Addr) (n c : Nat) (xs : List Int) (w : World) (h : Rd w A n xs) :
    Calls Try.prog 19 #[.agg #[.int .i64 f, .slice A n c]] w (Int' (nextZ f xs) w) := by
  have hn := h.le
  have HL := Lib.hid h.len
  have hb0 := below_box w (ringBox f A n c)
  have hr := h.alloc (ringBox f A n c)
  cases hv : ringB f xs
  · have HF := Lib.hid (nextZ_no hv)
    go_enter Try.func19, Try.ntmps19
    go_wp2_with fail
    refine (implRingValid_any f A n c xs _ hr).mono ?_
    rintro e w1 ⟨rfl, b1⟩
    go_wp2_with fail
    go_ret
    exact ⟨ret_int HF.out.symm, below_step hb0 b1⟩
  · have HF := Lib.hid (nextZ_yes hv)
    obtain ⟨v1, v2, _⟩ := ringB_true.1 hv
    go_enter Try.func19, Try.ntmps19
    go_wp2_with fail
    refine (implRingValid_any f A n c xs _ hr).mono ?_
    rintro e w1 ⟨rfl, b1⟩
    obtain ⟨hc0, hc1⟩ := box_cells (below_alloc1 b1)
    go_wp2_with fail
    go_ret
    exact ⟨ret_int (by rw [HF.out, HL.out]), below_step hb0 b1⟩
set_option maxHeartbeats 400000 in
theorem specRingNext_any (f : Int) (A : Option Addr) (n c : Nat) (xs : List Int) (w : World) (h : Rd w A n xs) :
    Calls Try.prog 18 #[.agg #[.int .i64 f, .slice A n c]] w (Int' (nextZ f xs) w) := by
  have hn := h.le
  have HL := Lib.hid h.len
  have hb0 := below_box w (ringBox f A n c)
  have hr := h.alloc (ringBox f A n c)
  cases hv : ringB f xs
  · have HF := Lib.hid (nextZ_no hv)
    go_enter Try.func18, Try.ntmps18
    go_wp2_with fail
    refine (specRingValid_any f A n c xs _ hr).mono ?_
    rintro e w1 ⟨rfl, b1⟩
    go_wp2_with fail
    go_ret
    exact ⟨ret_int HF.out.symm, below_step hb0 b1⟩
  · have HF := Lib.hid (nextZ_yes hv)
    obtain ⟨v1, v2, _⟩ := ringB_true.1 hv
    go_enter Try.func18, Try.ntmps18
    go_wp2_with fail
    refine (specRingValid_any f A n c xs _ hr).mono ?_
    rintro e w1 ⟨rfl, b1⟩
    obtain ⟨hc0, hc1⟩ := box_cells (below_alloc1 b1)
    go_wp2_with fail
    go_ret
    exact ⟨ret_int (by rw [HF.out, HL.out]), below_step hb0 b1⟩

theorem szIntS_yes (A : Option Addr) (n c : Nat) (k : Int) (w : World) (hk : k ≤ 1048576) (h : (n : Int) ≤ k) :
    Calls Try.prog 40 #[.slice A n c, .int .i64 k] w fun e w' => e = .returned (.int .i64 (k - n)) ∧ w = w' := by
  have hd : decide (k - (n : Int) < 0) = false := by simp; omega
  go_enter Try.func40, Try.ntmps40
  go_wp2_with fail
  go_ret
  exact ⟨rfl, rfl⟩
theorem szIntS_no (A : Option Addr) (n c : Nat) (k : Int) (w : World) (hn : n ≤ 9223372036854775807) (hk0 : 0 ≤ k) (h : k < (n : Int)) :
    Calls Try.prog 40 #[.slice A n c, .int .i64 k] w fun e w' => e = .returned (.int .i64 (-1)) ∧ w = w' := by
  have hd : decide (k - (n : Int) < 0) = true := by simp; omega
  go_enter Try.func40, Try.ntmps40
  go_wp2_with fail
  go_ret
  exact ⟨rfl, rfl⟩
theorem szRing_yes (f : Int) (A : Option Addr) (n c : Nat) (w : World) (h : n ≤ 1048576) :
    Calls Try.prog 13 #[.agg #[.int .i64 f, .slice A n c], .int .i64 1048576] w (Int' (1048576 - n) w) := by
  have hb0 := below_box w (.cells #[.int .i64 f, .slice A n c] 24)
  have hd : decide ((1048576 : Int) - (n : Int) < 0) = false := by simp; omega
  go_enter Try.func13, Try.ntmps13
  go_wp2_with fail
  refine (szIntS_yes A n c _ _ (by omega) (by omega)).mono ?_
  rintro e w1 ⟨rfl, rfl⟩
  go_wp2_with fail
  go_ret
  exact ⟨rfl, hb0⟩
theorem szRing_no (f : Int) (A : Option Addr) (n c : Nat) (w : World) (hn : n ≤ 9223372036854775807) (h : 1048576 < n) :
    Calls Try.prog 13 #[.agg #[.int .i64 f, .slice A n c], .int .i64 1048576] w (Int' (-1) w) := by
  have hb0 := below_box w (.cells #[.int .i64 f, .slice A n c] 24)
  go_enter Try.func13, Try.ntmps13
  go_wp2_with fail
  refine (szIntS_no A n c _ _ hn (by omega) (by omega)).mono ?_
  rintro e w1 ⟨rfl, rfl⟩
  go_wp2_with fail
  go_ret
  exact ⟨rfl, hb0⟩

/-- a ring copied into new memory -/
def RingCopied (w : World) (f : Int) (n : Nat) (xs : List Int) (e : Ending) (w' : World) : Prop :=
  ∃ g, e = .returned (.agg #[.int .i64 f, .slice (some ⟨g, 0, none⟩) n n]) ∧ w.heap.size ≤ g ∧ g < w'.heap.size ∧ Row w' g (some ⟨g, 0, none⟩) n xs ∧ Below w.heap.size w w'

/-- three blocks that were just made, each of two cells -/
theorem three_cells (w : World) (a b c d e f : Value) (t t' : TypeId) (w1 : World) (hb : Below (((w.alloc (.cells #[a, b] t)).alloc (.cells #[c, d] t')).alloc (.cells #[e, f] t')).heap.size (((w.alloc (.cells #[a, b] t)).alloc (.cells #[c, d] t')).alloc (.cells #[e, f] t')) w1) :
    (w1.cell? ⟨w.heap.size + 1, 0, none⟩ = some c ∧ w1.cell? ⟨w.heap.size + 1, 1, none⟩ = some d ∧ w1.cell? ⟨w.heap.size + 2, 0, none⟩ = some e ∧ w1.cell? ⟨w.heap.size + 2, 1, none⟩ = some f) ∧
    (w1.frozen? ⟨w.heap.size + 1, 0, none⟩ = false ∧ w1.frozen? ⟨w.heap.size + 1, 1, none⟩ = false ∧ w1.frozen? ⟨w.heap.size + 2, 0, none⟩ = false ∧ w1.frozen? ⟨w.heap.size + 2, 1, none⟩ = false) := by
  have hz : (((w.alloc (.cells #[a, b] t)).alloc (.cells #[c, d] t')).alloc (.cells #[e, f] t')).heap.size = w.heap.size + 3 := by simp
  rw [hz] at hb
  have h2 : (((w.alloc (.cells #[a, b] t)).alloc (.cells #[c, d] t')).alloc (.cells #[e, f] t')).heap[w.heap.size + 2]? = some (.cells #[e, f] t' (0, 0)) := by
    have := heap_alloc_new ((w.alloc (.cells #[a, b] t)).alloc (.cells #[c, d] t')) (.cells #[e, f] t')
    simpa using this
  have h1 : (((w.alloc (.cells #[a, b] t)).alloc (.cells #[c, d] t')).alloc (.cells #[e, f] t')).heap[w.heap.size + 1]? = some (.cells #[c, d] t' (0, 0)) := by
    rw [Below.heap_alloc _ _ _ (by simp)]
    have := heap_alloc_new (w.alloc (.cells #[a, b] t)) (.cells #[c, d] t')
    simpa using this
  have k2 := (hb.block (w.heap.size + 2) (by omega)).trans h2
  have k1 := (hb.block (w.heap.size + 1) (by omega)).trans h1
  refine ⟨⟨?_, ?_, ?_, ?_⟩, ?_, ?_, ?_, ?_⟩
  · rw [cell_of_row _ _ 0 _ _ _ k1]; rfl
  · rw [cell_of_row _ _ 1 _ _ _ k1]; rfl
  · rw [cell_of_row _ _ 0 _ _ _ k2]; rfl
  · rw [cell_of_row _ _ 1 _ _ _ k2]; rfl
  · simp [World.frozen?, k1]
  · simp [World.frozen?, k1]
  · simp [World.frozen?, k2]
  · simp [World.frozen?, k2]

set_option maxHeartbeats 800000 in
theorem toRing_any (f : Int) (A : Option Addr) (n c : Nat) (xs : List Int) (w : World) (h : Rd w A n xs) :
    Calls Try.prog 15 #[.agg #[.int .i64 f, .slice A n c]] w (RingCopied w f n xs) := by
  have hn := h.le
  have b0 : Below w.heap.size w (((w.alloc (.cells #[.int .i64 f, .slice A n c] 24)).alloc (.cells #[.int .i64 0, .slice none 0 0] 27)).alloc (.cells #[.int .i64 f, .slice none 0 0] 27)) :=
    ((below_box w _).alloc (by simp) _).alloc (by simp; omega) _
  have hsz : (((w.alloc (.cells #[.int .i64 f, .slice A n c] 24)).alloc (.cells #[.int .i64 0, .slice none 0 0] 27)).alloc (.cells #[.int .i64 f, .slice none 0 0] 27)).heap.size = w.heap.size + 3 := by simp
  have HSZ := Lib.hid hsz
  clear hsz
  go_enter Try.func15, Try.ntmps15
  go_wp2_with fail
  refine (toIntS_new A n c xs _ (h.below b0)).mono ?_
  rintro e w1 ⟨rfl, r1, b1, z1⟩
  obtain ⟨⟨hc0, hc1, hd0, hd1⟩, hf0, hf1, hg0, hg1⟩ := three_cells w _ _ _ _ _ _ _ _ w1 b1
  have hb : Below w.heap.size w w1 := below_step b0 b1
  rw [HSZ.out] at r1 b1 z1 ⊢
  clear b0 b1
  have hrow : Row (((w1.setCell ⟨w.heap.size + 2, 1, none⟩ (.slice (some ⟨w.heap.size + 3, 0, none⟩) n n)).setCell ⟨w.heap.size + 1, 0, none⟩ (.int .i64 f)).setCell ⟨w.heap.size + 1, 1, none⟩ (.slice (some ⟨w.heap.size + 3, 0, none⟩) n n)) (w.heap.size + 3) (some ⟨w.heap.size + 3, 0, none⟩) n xs := by
    refine ((r1.grown_ge (g := w.heap.size + 2) (by omega) (grown_set1 _ _ _ _)).grown_ge (g := w.heap.size + 1) (by omega) (grown_set1 _ _ _ _)).grown_ge (g := w.heap.size + 1) (by omega) (grown_set1 _ _ _ _)
  have hbel : Below w.heap.size w (((w1.setCell ⟨w.heap.size + 2, 1, none⟩ (.slice (some ⟨w.heap.size + 3, 0, none⟩) n n)).setCell ⟨w.heap.size + 1, 0, none⟩ (.int .i64 f)).setCell ⟨w.heap.size + 1, 1, none⟩ (.slice (some ⟨w.heap.size + 3, 0, none⟩) n n)) :=
    ((hb.setCell (by show w.heap.size ≤ w.heap.size + 2; omega) _).setCell (by show w.heap.size ≤ w.heap.size + 1; omega) _).setCell (by show w.heap.size ≤ w.heap.size + 1; omega) _
  clear r1 hb
  go_wp2
  refine bodyPost_ret (v := .agg #[.int .i64 f, .slice (some ⟨w.heap.size + 3, 0, none⟩) n n]) (by simp [results, Try.results15, go_sem, hc0, hc1]) rfl ⟨_, rfl, by omega, by simpa [World.setCell] using z1, hrow, hbel⟩

/-- the equality of two rings -/
theorem eqRing_any (f f' : Int) (A B : Option Addr) (n m c d : Nat) (xs ys : List Int) (w : World) (h : Rd w A n xs) (h' : Rd w B m ys) (he : f = f') (hx : sameB xs ys = true) :
    Calls Try.prog 17 #[.agg #[.int .i64 f, .slice A n c], .agg #[.int .i64 f', .slice B m d]] w (Bool' true w) := by
  subst he
  have b0 : Below w.heap.size w ((w.alloc (ringBox f A n c)).alloc (ringBox f B m d)) := (below_box w _).alloc (by simp) _
  have hself : (f != f) = false := by simp
  go_enter Try.func17, Try.ntmps17
  go_wp2_with fail
  refine (eqIntS_any A B n m c d xs ys _ (h.below b0) (h'.below b0)).mono ?_
  rintro e w1 ⟨rfl, q, rfl⟩
  go_wp2_with fail
  go_ret
  exact ⟨rfl, below_drewN_ b0 q⟩
end Go.Proofs.Ytjhnpnmpnmmpbaa

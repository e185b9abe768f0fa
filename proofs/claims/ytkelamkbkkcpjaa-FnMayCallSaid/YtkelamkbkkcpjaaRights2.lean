/-
  RightsValid of the program; the laws' helpers on slices of rights: toRightS, eqRightS, szRightS.
-/
import Derived.Test.YtkelamkbkkcpjaaRights
import Derived.Laws.MakeOwn
import Derived.Deep.RegionWith
namespace Go.Proofs.Ytkelamkbkkcpjaa
open Go.RowKit

/-- a bool, and only new memory -/
def Bool' (b : Bool) (w : World) (e : Ending) (w' : World) : Prop := e = .returned (.bool b) ∧ Below w.heap.size w w'
abbrev rightBox (r : Rt) : Obj := .cells #[.int .i64 r.f, .int .i64 r.a, .int .i64 r.b] 25

set_option maxHeartbeats 1600000 in
theorem implRightsValid_any (A : Option Addr) (n c : Nat) (rs : List Rt) (w : World) (h : RdR w A n rs) :
    Calls Try.prog 19 #[.slice A n c] w (Bool' (rightsB rs) w) := by
  have hn := h.le
  have HL := Lib.hid h.len
  by_cases h6 : 6 < n
  · have HF := Lib.hid (rightsB_long (rs := rs) (by rw [HL.out]; omega))
    go_enter Try.func19, Try.ntmps19
    go_wp2_with fail
    go_ret
    exact ⟨ret_bool HF.out.symm, Below.refl _ _⟩
  have d6 : decide ((6 : Int) < (n : Int)) = false := by simp; omega
  go_enter Try.func19, Try.ntmps19
  go_wp2_with fail
  go_loopw [10] (fun i wr => ∃ k : Nat, k ≤ n ∧ i = .int .i64 k ∧ Below w.heap.size w wr ∧ Hid (∀ j, j < k → rightB (rnth rs j) = true)) (fun i _ => n - (intOf i).toNat)
  case atStart => exact ⟨0, Nat.zero_le _, rfl, Below.refl _ _, fun j hj => absurd hj (by omega)⟩
  case round =>
    obtain ⟨k, hk, rfl, hb, H⟩ := hrel
    by_cases hlt : k < n
    · obtain ⟨g, off, rfl, hg, hc0, hc1, hc2⟩ := (h.below hb).at_ hlt
      have hb1 : Below w.heap.size w (wr.alloc (rightBox (rnth rs k))) := hb.alloc hb.size _
      cases h1 : inB (rnth rs k).f 0 7
      · have HF := Lib.hid (rightsB_bad k (by rw [HL.out]; exact hlt) (rightB_no (.inl h1)))
        go_wp2_with fail
        refine (isFloor_any _ _).mono ?_
        rintro e w' ⟨rfl, rfl⟩
        go_wp2_with fail
        go_ret
        exact ⟨ret_bool HF.out.symm, hb1⟩
      · cases h2 : inB (rnth rs k).a 0 23
        · have HF := Lib.hid (rightsB_bad k (by rw [HL.out]; exact hlt) (rightB_no (.inr (.inl h2))))
          go_wp2_with fail
          refine (isFloor_any _ _).mono ?_
          rintro e w' ⟨rfl, rfl⟩
          go_wp2_with fail
          refine (hourValid_any _ _).mono ?_
          rintro e w' ⟨rfl, rfl⟩
          go_wp2_with fail
          go_ret
          exact ⟨ret_bool HF.out.symm, hb1⟩
        · cases h3 : inB (rnth rs k).b 0 23
          · have HF := Lib.hid (rightsB_bad k (by rw [HL.out]; exact hlt) (rightB_no (.inr (.inr h3))))
            go_wp2_with fail
            refine (isFloor_any _ _).mono ?_
            rintro e w' ⟨rfl, rfl⟩
            go_wp2_with fail
            refine (hourValid_any _ _).mono ?_
            rintro e w' ⟨rfl, rfl⟩
            go_wp2_with fail
            refine (hourValid_any _ _).mono ?_
            rintro e w' ⟨rfl, rfl⟩
            go_wp2_with fail
            go_ret
            exact ⟨ret_bool HF.out.symm, hb1⟩
          · have HX := Lib.hid (rightB_true.2 ⟨h1, h2, h3⟩)
            go_wp2_with fail
            refine (isFloor_any _ _).mono ?_
            rintro e w' ⟨rfl, rfl⟩
            go_wp2_with fail
            refine (hourValid_any _ _).mono ?_
            rintro e w' ⟨rfl, rfl⟩
            go_wp2_with fail
            refine (hourValid_any _ _).mono ?_
            rintro e w' ⟨rfl, rfl⟩
            go_wp2_with fail
            go_roundw
            case rel => exact ⟨k + 1, by omega, by go_num, hb1, fun j hj => by
              rcases Nat.lt_or_ge j k with hh | hh
              · exact H.out j hh
              · obtain rfl : j = k := by omega
                exact HX.out⟩
            case measure => simp [intOf]; omega
    · have HF := Lib.hid (rightsB_yes (rs := rs) (by rw [HL.out]; omega) (fun j hj => H.out j (by rw [HL.out] at hj; omega)))
      go_wp2_with fail
      go_ret
      exact ⟨ret_bool HF.out.symm, hb⟩

theorem szRightS_yes (A : Option Addr) (n c : Nat) (w : World) (h : n ≤ 1048576) :
    Calls Try.prog 16 #[.slice A n c, .int .i64 1048576] w fun e w' => e = .returned (.int .i64 (1048576 - n)) ∧ w = w' := by
  have hd : decide ((1048576 : Int) - (n : Int) < 0) = false := by simp; omega
  go_enter Try.func16, Try.ntmps16
  go_wp2_with fail
  go_ret
  exact ⟨rfl, rfl⟩
theorem szRightS_no (A : Option Addr) (n c : Nat) (w : World) (hn : n ≤ 9223372036854775807) (h : 1048576 < n) :
    Calls Try.prog 16 #[.slice A n c, .int .i64 1048576] w fun e w' => e = .returned (.int .i64 (-1)) ∧ w = w' := by
  have hd : decide ((1048576 : Int) - (n : Int) < 0) = true := by simp; omega
  go_enter Try.func16, Try.ntmps16
  go_wp2_with fail
  go_ret
  exact ⟨rfl, rfl⟩

theorem eqRight_same (r : Rt) (w : World) :
    Calls Try.prog 44 #[.agg #[.int .i64 r.f, .int .i64 r.a, .int .i64 r.b], .agg #[.int .i64 r.f, .int .i64 r.a, .int .i64 r.b]] w (Bool' true w) := by
  have h1 : (r.f != r.f) = false := by simp
  have h2 : (r.a != r.a) = false := by simp
  have h3 : (r.b != r.b) = false := by simp
  have hb : Below w.heap.size w ((w.alloc (rightBox r)).alloc (rightBox r)) := ((Below.refl _ _).alloc (Nat.le_refl _) _).alloc (by simp) _
  go_enter Try.func44, Try.ntmps44
  go_wp2_with fail
  go_ret
  exact ⟨rfl, hb⟩

set_option maxHeartbeats 1600000 in
theorem eqRightS_same (A B : Option Addr) (n c d : Nat) (rs : List Rt) (w : World) (h : RdR w A n rs) (h' : RdR w B n rs) :
    Calls Try.prog 20 #[.slice A n c, .slice B n d] w (Bool' true w) := by
  have hn := h.le
  go_enter Try.func20, Try.ntmps20
  go_wp2_with fail
  go_loopw [5] (fun i wr => ∃ k : Nat, k ≤ n ∧ i = .int .i64 k ∧ Below w.heap.size w wr) (fun i _ => n - (intOf i).toNat)
  case atStart => exact ⟨0, Nat.zero_le _, rfl, Below.refl _ _⟩
  case round =>
    obtain ⟨k, hk, rfl, hb⟩ := hrel
    by_cases hlt : k < n
    · obtain ⟨g, off, rfl, hg, hc0, hc1, hc2⟩ := (h.below hb).at_ hlt
      obtain ⟨g', off', rfl, hg', hd0, hd1, hd2⟩ := (h'.below hb).at_ hlt
      have i1 : (0 : Int) ≤ (k : Int) := by omega
      have i2 : (k : Int) < (n : Int) := by omega
      go_wp2_with fail
      go_region_with (go_at_call 44; (refine (eqRight_same (rnth rs k) _).mono ?_; rintro e w2 ⟨rfl, b2⟩))
      all_goals
        go_wp2_with fail
        go_roundw
        case rel => exact ⟨k + 1, by omega, by go_num, below_step hb.drew b2⟩
        case measure => simp [intOf]; omega
    · go_wp2_with fail
      go_ret
      exact ⟨rfl, hb⟩

theorem info_right : (Try.prog.info? 25).map (fun i => (i.zero, i.size, i.bytes)) = some (some (.agg #[.int .i64 0, .int .i64 0, .int .i64 0]), 3, 24) := by kernel_rfl
/-- the cells that make lays for n rights -/
def zeros3 (n : Nat) : Array Value := madeCells #[.int .i64 0, .int .i64 0, .int .i64 0] (n * 3)
theorem zeros3_get (n j : Nat) (h : j < n * 3) : (zeros3 n)[j]? = some (.int .i64 0) := by
  unfold zeros3 madeCells
  rw [Array.getElem?_map, Array.getElem?_eq_getElem (by simpa using h)]
  have : j % 3 = 0 ∨ j % 3 = 1 ∨ j % 3 = 2 := by omega
  rcases this with h | h | h <;> simp [h]
theorem run_make_rights (n : Nat) (hn : n ≤ 1048576) (w : World) :
    (Instr.makeSlice 31 (.int .i64 (n : Int)) (.int .i64 (n : Int))).run Try.prog w = .ok (.slice (some ⟨w.heap.size, 0, none⟩) n n) (w.alloc (.cells (zeros3 n) 25)) := by
  obtain ⟨i0, hi, hz0, hz1, hz2⟩ := info_parts info_right
  have hr := run_make (P := Try.prog) w 31 25 i0 _ Try.underlying31 hi hz0 .i64 .i64 (n : Int) (n : Int) (by omega) (by omega) (by rw [hz2]; omega) (by omega)
  rw [hr, hz1]
  simp [zeros3, Value.cells]

/-- the first k rights are laid, the others are there and may be written -/
def Laid (w : World) (B n : Nat) (rs : List Rt) (k : Nat) : Prop :=
  B < w.heap.size ∧ ∀ j, j < n → (∃ r : Rt, (j < k → r = rnth rs j) ∧ Cells3 w B 0 j r) ∧ ∀ i, i < 3 → w.frozen? ⟨B, j * 3 + i, none⟩ = false
theorem Laid.below {w w' : World} {B n k : Nat} {rs : List Rt} (h : Laid w B n rs k) (hb : Below w.heap.size w w') : Laid w' B n rs k :=
  ⟨Nat.lt_of_lt_of_le h.1 hb.size, fun j hj => by
    obtain ⟨⟨r, hr, hc⟩, hf⟩ := h.2 j hj
    exact ⟨⟨r, hr, hc.keep fun o => hb.cell (p := ⟨B, o, none⟩) h.1⟩, fun i hi => (hb.frozen (p := ⟨B, j * 3 + i, none⟩) h.1).trans (hf i hi)⟩⟩
theorem Laid.set_ {w : World} {B n k : Nat} {rs : List Rt} (h : Laid w B n rs k) (hk : k < n) :
    Laid (((w.setCell ⟨B, k * 3, none⟩ (.int .i64 (rnth rs k).f)).setCell ⟨B, k * 3 + 1, none⟩ (.int .i64 (rnth rs k).a)).setCell ⟨B, k * 3 + 2, none⟩ (.int .i64 (rnth rs k).b)) B n rs (k + 1) := by
  refine ⟨by simpa [World.setCell] using h.1, fun j hj => ?_⟩
  obtain ⟨⟨r, hr, hc0, hc1, hc2⟩, hf⟩ := h.2 j hj
  refine ⟨?_, fun i hi => by simpa using hf i hi⟩
  simp only [Nat.zero_add] at hc0 hc1 hc2
  by_cases hjk : j = k
  · subst hjk
    refine ⟨rnth rs j, fun _ => rfl, ?_, ?_, ?_⟩ <;> simp only [Nat.zero_add]
    · rw [World.cell?_setCell_other _ _ _ _ (by intro e; injection e; omega), World.cell?_setCell_other _ _ _ _ (by intro e; injection e; omega), World.cell?_setCell_same _ _ _ hc0]
    · rw [World.cell?_setCell_other _ _ _ _ (by intro e; injection e; omega), World.cell?_setCell_same _ _ _ (by rw [World.cell?_setCell_other _ _ _ _ (by intro e; injection e; omega)]; exact hc1)]
    · rw [World.cell?_setCell_same _ _ _ (by rw [World.cell?_setCell_other _ _ _ _ (by intro e; injection e; omega), World.cell?_setCell_other _ _ _ _ (by intro e; injection e; omega)]; exact hc2)]
  · refine ⟨r, fun hlt => hr (by omega), ?_, ?_, ?_⟩ <;> simp only [Nat.zero_add] <;>
      rw [World.cell?_setCell_other _ _ _ _ (by intro e; injection e; omega), World.cell?_setCell_other _ _ _ _ (by intro e; injection e; omega), World.cell?_setCell_other _ _ _ _ (by intro e; injection e; omega)] <;> assumption
theorem laid_made (w : World) (n : Nat) (rs : List Rt) : Laid (w.alloc (.cells (zeros3 n) 25)) w.heap.size n rs 0 := by
  refine ⟨by simp, fun j hj => ⟨⟨⟨0, 0, 0⟩, fun h => absurd h (by omega), ?_, ?_, ?_⟩, fun i _ => World.frozen?_alloc_at _ _ _ _ rfl⟩⟩
  · rw [cell_of_row _ w.heap.size _ _ _ _ (heap_alloc_new w _), Nat.zero_add, zeros3_get n _ (by omega)]
  · rw [cell_of_row _ w.heap.size _ _ _ _ (heap_alloc_new w _), Nat.zero_add, zeros3_get n _ (by omega)]
  · rw [cell_of_row _ w.heap.size _ _ _ _ (heap_alloc_new w _), Nat.zero_add, zeros3_get n _ (by omega)]
theorem Laid.row {w : World} {B n : Nat} {rs : List Rt} (h : Laid w B n rs n) (hl : rs.length = n) (hn : n ≤ 4194304) : RowR w B (some ⟨B, 0, none⟩) n rs :=
  ⟨hl, hn, fun _ => ⟨B, 0, rfl, Nat.le_refl _, h.1, fun j hj => by
    obtain ⟨⟨r, hr, hc⟩, hf⟩ := h.2 j hj
    rw [← hr hj]
    exact ⟨hc, fun i hi => by rw [Nat.zero_add]; exact hf i hi⟩⟩⟩

/-- rights copied into new memory -/
def RightsCopied (w : World) (n : Nat) (rs : List Rt) (e : Ending) (w' : World) : Prop :=
  e = .returned (.slice (some ⟨w.heap.size, 0, none⟩) n n) ∧ RowR w' w.heap.size (some ⟨w.heap.size, 0, none⟩) n rs ∧ Below w.heap.size w w' ∧ w.heap.size < w'.heap.size

set_option maxHeartbeats 1600000 in
theorem toRightS_any (A : Option Addr) (n c : Nat) (rs : List Rt) (w : World) (h : RdR w A n rs) (hn : n ≤ 1048576) :
    Calls Try.prog 18 #[.slice A n c] w (RightsCopied w n rs) := by
  have hmk := run_make_rights n hn
  have hlaid := laid_made w n rs
  have HL := Lib.hid h.len
  have hb0 : Below w.heap.size w (w.alloc (.cells (zeros3 n) 25)) := (Below.refl _ _).alloc (Nat.le_refl _) _
  go_enter Try.func18, Try.ntmps18
  go_wp2
  clear hmk
  go_loopw [4] (fun i wr => ∃ k : Nat, k ≤ n ∧ i = .int .i64 k ∧ Laid wr w.heap.size n rs k ∧ Below w.heap.size w wr) (fun i _ => n - (intOf i).toNat)
  case atStart => exact ⟨0, Nat.zero_le _, rfl, hlaid, hb0⟩
  case round =>
    obtain ⟨k, hk, rfl, hl, hb⟩ := hrel
    clear hlaid hb0
    by_cases hlt : k < n
    · obtain ⟨g, off, rfl, hg, hc0, hc1, hc2⟩ := (h.below hb).at_ hlt
      go_wp2_with fail
      refine (toRight_any _ _ _ _).mono ?_
      rintro e w2 ⟨rfl, b2⟩
      have hl2 := hl.below b2
      have hs := hl2.set_ hlt
      obtain ⟨⟨r, _, hd0, hd1, hd2⟩, hf⟩ := hl2.2 k hlt
      rw [Nat.zero_add] at hd0 hd1 hd2
      have hf0 := hf 0 (by omega)
      have hf1 := hf 1 (by omega)
      have hf2 := hf 2 (by omega)
      rw [Nat.add_zero] at hf0
      have hb2 : Below w.heap.size w w2 := below_step hb b2
      have hb3 := ((hb2.setCell (p := ⟨w.heap.size, k * 3, none⟩) (Nat.le_refl _) (.int .i64 (rnth rs k).f)).setCell (p := ⟨w.heap.size, k * 3 + 1, none⟩) (Nat.le_refl _) (.int .i64 (rnth rs k).a)).setCell (p := ⟨w.heap.size, k * 3 + 2, none⟩) (Nat.le_refl _) (.int .i64 (rnth rs k).b)
      clear hl hb hl2 hf hc0 hc1 hc2
      go_wp2_with fail
      go_roundw
      case rel => exact ⟨k + 1, by omega, by go_num, hs, hb3⟩
      case measure => simp [intOf]; omega
    · obtain rfl : k = n := by omega
      go_wp2
      go_ret
      exact ⟨rfl, hl.row HL.out (by omega), hb, hl.1⟩
end Go.Proofs.Ytkelamkbkkcpjaa

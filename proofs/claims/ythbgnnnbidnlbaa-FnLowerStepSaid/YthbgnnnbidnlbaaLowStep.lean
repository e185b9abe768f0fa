/-
  LowerStep of the program.
-/
import Derived.Test.YthbgnnnbidnlbaaClone
import Derived.Test.YthbgnnnbidnlbaaLowerPlain
import Derived.Test.YthbgnnnbidnlbaaLowerOk
namespace Go.Proofs.Ythbgnnnbidnlbaa
open Go.RowKit

/-- numbers of Nat as ints -/
def toZ (l : List Nat) : List Int := l.map fun n : Nat => (n : Int)
theorem toZ_len (l : List Nat) : (toZ l).length = l.length := by unfold toZ; simp
theorem toZ_nth (l : List Nat) (k : Nat) : nth (toZ l) k = (nn l k : Int) := by
  unfold nth toZ nn
  rw [List.getD, List.getD, List.getElem?_map]
  cases l[k]? <;> rfl
theorem toZ_set (l : List Nat) (k x : Nat) : toZ (l.set k x) = (toZ l).set k (x : Int) := by unfold toZ; rw [List.map_set]
theorem nn_set_ne (l : List Nat) (k j x : Nat) (h : k ≠ j) : nn (l.set k x) j = nn l j := by unfold nn; rw [List.getD, List.getD, List.getElem?_set_ne h]

theorem impRow_no {cars r : List Nat} {s f m k : Nat} {st : List Nat × Nat} (h : (r, m) = impRow cars s f st k) (hc : ¬ (nn cars k = f ∧ m < s)) : (r, m) = impRow cars s f st (k + 1) := by
  rw [impRow, ← h]
  have : (Nat.beq (nn cars k) f && Nat.blt m s) = false := by
    cases hb : (Nat.beq (nn cars k) f && Nat.blt m s)
    · rfl
    · rw [Bool.and_eq_true] at hb
      exact absurd ⟨Nat.eq_of_beq_eq_true hb.1, by simpa [Nat.blt_eq] using hb.2⟩ hc
  simp only [this, cond_false]
theorem impRow_yes {cars r : List Nat} {s f m k : Nat} {st : List Nat × Nat} (h : (r, m) = impRow cars s f st k) (h1 : nn cars k = f) (h2 : m < s) : (r.set k (nn r k - 1), m + 1) = impRow cars s f st (k + 1) := by
  rw [impRow, ← h]
  have : (Nat.beq (nn cars k) f && Nat.blt m s) = true := by
    rw [Bool.and_eq_true]; exact ⟨by rw [h1]; exact Nat.beq_refl f, by simpa [Nat.blt_eq] using h2⟩
  simp only [this, cond_true]
/-- cars whose turn has not come are where they were -/
theorem impRow_keep {cars : List Nat} {s f : Nat} {st : List Nat × Nat} (hs : ∀ j, f ≤ nn cars j → nn st.1 j = nn cars j) :
    ∀ k j, (f < nn cars j ∨ (nn cars j = f ∧ k ≤ j)) → nn (impRow cars s f st k).1 j = nn cars j := by
  intro k
  induction k with
  | zero => intro j hj; exact hs j (by omega)
  | succ k ih =>
    intro j hj
    obtain ⟨r, m, h⟩ : ∃ r m, (r, m) = impRow cars s f st k := ⟨_, _, rfl⟩
    have ihj := ih j (by omega)
    rw [← h] at ihj
    by_cases hc : nn cars k = f ∧ m < s
    · rw [← impRow_yes h hc.1 hc.2]
      show nn (r.set k _) j = _
      rw [nn_set_ne _ _ _ _ (by rintro rfl; omega)]
      exact ihj
    · rw [← impRow_no h hc]; exact ihj
theorem impTo_keep {cars : List Nat} {s : Nat} : ∀ f j, f < nn cars j → nn (impTo cars s f).1 j = nn cars j := by
  intro f
  induction f with
  | zero => intro j _; rfl
  | succ f ih => intro j hj; exact impRow_keep (fun j hj => ih j (by omega)) _ j (.inl hj)
theorem rd_toZ_len {w : World} {A : Option Addr} {n : Nat} {l : List Nat} (h : Rd w A n (toZ l)) : l.length = n := by rw [← toZ_len]; exact h.len

set_option maxHeartbeats 1600000 in
theorem implLowerStep_in (A : Option Addr) (n c : Nat) (cars : List Nat) (s : Nat) (w : World) (h : Rd w A n (toZ cars)) (hv : lowerB (toZ cars) (s : Int) = true) :
    Calls Try.prog 16 #[.slice A n c, .int .i64 (s : Int)] w (RetRow w (toZ (lowStep cars s))) := by
  have HL := Lib.hid (rd_toZ_len h)
  have hv' := lowerB_true.1 hv
  have hs4 : s ≤ 4 := by omega
  have hn1 : 1 ≤ n ∧ n ≤ 4 := by have := hv'.1; rw [toZ_len, HL.out] at this; exact this
  obtain ⟨hn1, hn4⟩ := hn1
  clear hv'
  go_enter Try.func16, Try.ntmps16
  go_wp2_with fail
  refine (implLowerOk_any A n c (toZ cars) s _ h).mono ?_
  rintro e w' ⟨rfl, rfl⟩
  go_wp2_with fail
  refine (clone_any A n c (toZ cars) _ h).mono ?_
  rintro e w1 ⟨A1, c1, rfl, ho1, hb1⟩
  have hnc1 := ho1.2
  have hr1 := ho1.row (by omega)
  have HV := Lib.hid hv
  clear hv ho1
  go_wp2_with fail
  go_loopw [6, 7] (fun mv fl wr => ∃ (f m : Nat) (r : List Nat), f ≤ 7 ∧ m ≤ 100 ∧ fl = .int .i64 ((f + 1 : Nat) : Int) ∧ mv = .int .i64 (m : Int) ∧ Row wr w.heap.size A1 n (toZ r) ∧ Below w.heap.size w wr ∧ m ≤ 4 ∧ Hid ((r, m) = impTo cars s f)) (fun _ fl _ => 8 - (intOf fl).toNat)
  case atStart => exact ⟨0, 0, cars, by omega, by omega, rfl, rfl, hr1, hb1, by omega, rfl⟩
  case round =>
    obtain ⟨f, m, r, hf, hm, rfl, rfl, hrow, hb, hm4, HT⟩ := hrel
    clear hr1 hb1
    have e1 : ((f + 1 : Nat) : Int) = (f : Int) + 1 := by omega
    rw [e1]
    clear e1
    by_cases hf7 : f < 7
    · have HK : Hid (∀ k j, (f + 1 < nn cars j ∨ (nn cars j = f + 1 ∧ k ≤ j)) → nn (impRow cars s (f + 1) (r, m) k).1 j = nn cars j) := impRow_keep (fun j hj => by
        have := impTo_keep (cars := cars) (s := s) f j (by omega)
        rw [← HT.out] at this
        exact this)
      obtain ⟨wa, rfl⟩ : ∃ wa : World, wa = wr := ⟨_, rfl⟩
      go_wp2_with fail
      go_loopw [6, 22] (fun mv i wr => ∃ (k m' : Nat) (r' : List Nat), k ≤ n ∧ i = .int .i64 k ∧ mv = .int .i64 (m' : Int) ∧ Row wr w.heap.size A1 n (toZ r') ∧ Below w.heap.size w wr ∧ m' ≤ 4 ∧ Hid ((r', m') = impRow cars s (f + 1) (r, m) k)) (fun _ i _ => n - (intOf i).toNat)
      case atStart => exact ⟨0, m, r, Nat.zero_le _, rfl, rfl, hrow, hb, hm4, rfl⟩
      case round =>
        obtain ⟨k, m', r', hk, rfl, rfl, hrow', hb', hm4', HR⟩ := hrel
        clear hrow hb
        by_cases hlt : k < n
        · obtain ⟨g, off, rfl, hg, hcell⟩ := (h.below hb').at_ hlt
          rw [toZ_nth] at hcell
          by_cases hx : nn cars k = f + 1
          · rw [hx] at hcell
            have hcell2 : wr.cell? ⟨g, off + k, none⟩ = some (.int .i64 ((f : Int) + 1)) := hcell
            clear hcell
            have hbt : ((f : Int) + 1 == (f : Int) + 1) = true := by simp
            by_cases hms : m' < s
            · obtain ⟨g', off', rfl, hlo', hg', hcell', hfr'⟩ := hrow'.at_ hlt
              have hkeep := HK.out k k (.inr ⟨hx, Nat.le_refl _⟩)
              rw [← HR.out] at hkeep
              have hrk : nn r' k = f + 1 := by rw [← hx]; exact hkeep
              rw [toZ_nth, hrk] at hcell'
              have hcell3 : wr.cell? ⟨g', off' + k, none⟩ = some (.int .i64 ((f : Int) + 1)) := hcell'
              clear hcell' hkeep
              have HN := Lib.hid (impRow_yes HR.out hx hms)
              have hset := hrow'.set_ k hlt ((f : Int) + 1 - 1)
              have ez : (toZ r').set k ((f : Int) + 1 - 1) = toZ (r'.set k (nn r' k - 1)) := by
                rw [toZ_set, hrk]; congr 1; omega
              rw [ez] at hset
              have hbel : Below w.heap.size w (wr.setCell ⟨g', off' + k, none⟩ (.int .i64 ((f : Int) + 1 - 1))) := hb'.setCell hlo' _
              rw [show (f : Int) + 1 - 1 = (f : Int) by omega] at hset hbel
              clear ez hx hrk hrow' hb'
              go_wp2
              go_roundw
              case rel => exact ⟨k + 1, m' + 1, _, by omega, by go_num, by go_num, hset, hbel, by omega, HN.out⟩
              case measure => simp [intOf]; omega
            · have HN := Lib.hid (impRow_no HR.out (by omega : ¬ (nn cars k = f + 1 ∧ m' < s)))
              clear hx
              go_wp2
              go_roundw
              case rel => exact ⟨k + 1, m', r', by omega, by go_num, rfl, hrow', hb', by omega, HN.out⟩
              case measure => simp [intOf]; omega
          · have HN := Lib.hid (impRow_no HR.out (by omega : ¬ (nn cars k = f + 1 ∧ m' < s)))
            generalize hz : ((nn cars k : Nat) : Int) = z at hcell
            have hbf : (z == (f : Int) + 1) = false := by simp; omega
            clear hz hx
            go_wp2
            go_roundw
            case rel => exact ⟨k + 1, m', r', by omega, by go_num, rfl, hrow', hb', by omega, HN.out⟩
            case measure => simp [intOf]; omega
        · obtain rfl : k = n := by omega
          have HN : Hid ((r', m') = impTo cars s (f + 1)) := by
            show _ = _
            rw [impTo, HL.out, ← HT.out]; exact HR.out
          go_wp2
          go_roundw
          case rel => exact ⟨f + 1, m', r', by omega, by omega, by go_num, rfl, hrow', hb', by omega, HN⟩
          case measure => simp [intOf]; omega
    · obtain rfl : f = 7 := by omega
      have HE : Hid (r = lowStep cars s) := by
        show _ = _
        unfold lowStep
        rw [← HT.out]
      go_wp2
      go_ret
      exact ⟨A1, n, c1, rfl, hnc1, by rw [← HE.out]; exact hrow, hb⟩
end Go.Proofs.Ythbgnnnbidnlbaa

/-
  The walk of the law FnCodeBetween.
-/
import Derived.Test.YtkjjdpooahdicaaLawsCodes
import Derived.Test.YtkjjdpooahdicaaCodes5
import Derived.Test.YtkjjdpooahdicaaHas
import Derived.Test.YtkjjdpooahdicaaAscend
namespace Go.Proofs.Ytkjjdpooahdicaa
open Go.RowKit CodesPlain

theorem pow_wrap (p : Nat) (h : p ≤ 6) (n : Nat) (e : n = 2 ^ p) : ((n : Int) == wrap64 (2 ^ p)) = true := by
  subst e
  have : p = 0 ∨ p = 1 ∨ p = 2 ∨ p = 3 ∨ p = 4 ∨ p = 5 ∨ p = 6 := by omega
  rcases this with rfl | rfl | rfl | rfl | rfl | rfl | rfl <;> decide +kernel
theorem btw_pairwise (a b : Nat) : (btwTo a b 64).Pairwise (· < ·) := by
  unfold btwTo
  rw [List.pairwise_map]
  have h : (List.range 64).Pairwise (· < ·) := List.pairwise_lt_range
  exact (h.filter _).imp (fun {x y} hxy => by omega)
theorem between_facts (a b : Nat) (ha : a < 64) (hb : b < 64) :
    (between (a : Int) (b : Int)).length = 2 ^ popN (a ^^^ b) ∧ hasB (between a b) (codeRead a) = true ∧ hasB (between a b) (codeRead b) = true ∧ Asc (between a b) := by
  obtain ⟨h1, h2, h3⟩ := btw_all a b ha hb
  have e : between (a : Int) (b : Int) = (btwN a b).map (fun n : Nat => (n : Int)) := by
    unfold between
    rw [if_pos ⟨cvB_true.2 (by omega), cvB_true.2 (by omega)⟩]; rfl
  refine ⟨by rw [e, List.length_map, h1], ?_, ?_, ?_⟩
  · rw [hasB_true, e, codeRead_nat a ha]; exact List.mem_map.2 ⟨_, h2, rfl⟩
  · rw [hasB_true, e, codeRead_nat b hb]; exact List.mem_map.2 ⟨_, h3, rfl⟩
  · rw [← btwTo_all a b ha hb]; exact asc_of_pairwise (btw_pairwise a b)

set_option maxHeartbeats 1600000 in
theorem walk_FnCodeBetween (a0 : Option Addr) (len0 cap0 : Nat) (z0 : List Int) (w : World) (w0 : IsRow .u8 w a0 len0 cap0 z0) :
    Calls Try.prog 10 #[.slice a0 len0 cap0] w fun e w' => e = .returned (.bool true) ∧ Below w.heap.size w w' := by
  by_cases hlen : 1048576 < len0
  · go_enter Try.func10, Try.ntmps10
    go_wp2
    go_ret
    exact ⟨rfl, Below.refl _ _⟩
  · go_enter Try.func10, Try.ntmps10
    go_wp2_with fail
    refine (DrawCodeBetween_any a0 len0 cap0 z0 _ w0).mono ?_
    rintro e w1 ⟨x, y, rfl, hb1⟩
    have hs := sameB_refl (between x y)
    go_wp2_with fail
    refine (implCodeBetween_any x y _).mono ?_
    rintro e w2 ⟨A2, n2, c2, rfl, _, r2, b2⟩
    go_wp2_with fail
    refine (specCodeBetween_any x y _).mono ?_
    rintro e w3 ⟨A3, n3, c3, rfl, _, r3, b3⟩
    have rd2 := r2.rd.below b3
    go_wp2_with fail
    refine (sameInts_any A2 A3 n2 n3 c2 c3 _ _ _ rd2 r3.rd).mono ?_
    rintro e w4 ⟨rfl, q4, rfl⟩
    have rd4 := rd2.drewN q4
    have hb3 : Below w.heap.size w w3 := below_step (below_step hb1 b2) b3
    have hb4 : Below w.heap.size w (w3.drewN q4) := below_drewN_ hb3 q4
    have hl := rd4.len
    clear r2 r3 rd2 b2 b3 hb1
    by_cases hv : cvB x = true ∧ cvB y = true
    · have hx := cvB_true.1 hv.1
      have hy := cvB_true.1 hv.2
      obtain ⟨a, rfl⟩ := Int.eq_ofNat_of_zero_le hx.1
      obtain ⟨b, rfl⟩ := Int.eq_ofNat_of_zero_le hy.1
      have ha : a < 64 := by omega
      have hb : b < 64 := by omega
      obtain ⟨f1, f2, f3, f4⟩ := between_facts a b ha hb
      have hp := bitsApart_nat a b ha hb
      have hp6 := pop_le (a ^^^ b)
      rw [hl] at f1
      generalize popN (a ^^^ b) = p at *
      have hsz := pow_wrap p hp6 n2 f1
      have HP := Lib.hid f1
      clear f1 hv hx hy hl
      go_wp2_with fail
      refine (implBitsApart_any _ _ _).mono ?_
      rintro e w5 ⟨rfl, rfl⟩
      go_wp2_with fail
      refine (implCodeRead_any _ _).mono ?_
      rintro e w5 ⟨rfl, rfl⟩
      go_wp2_with fail
      refine (hasInt_any A2 n2 c2 _ _ _ rd4).mono ?_
      rintro e w5 ⟨rfl, rfl⟩
      go_wp2_with fail
      refine (implCodeRead_any _ _).mono ?_
      rintro e w5 ⟨rfl, rfl⟩
      go_wp2_with fail
      refine (hasInt_any A2 n2 c2 _ _ _ rd4).mono ?_
      rintro e w5 ⟨rfl, rfl⟩
      go_wp2_with fail
      refine (ascend_any A2 n2 c2 _ _ rd4 f4).mono ?_
      rintro e w5 ⟨rfl, q5, rfl⟩
      go_wp2_with fail
      go_ret
      exact ⟨rfl, below_drewN_ hb3 _⟩
    · have hc := bitsApart_no x y hv
      have h0 := between_no x y hv
      rw [h0] at hl
      obtain rfl : n2 = 0 := by simpa using hl.symm
      clear h0 hl
      go_wp2_with fail
      refine (implBitsApart_any _ _ _).mono ?_
      rintro e w5 ⟨rfl, rfl⟩
      go_wp2_with fail
      refine (alive_any _).mono ?_
      rintro e w6 ⟨rfl, hb6⟩
      go_wp2_with fail
      go_ret
      exact ⟨rfl, below_step hb4 hb6⟩
end Go.Proofs.Ytkjjdpooahdicaa

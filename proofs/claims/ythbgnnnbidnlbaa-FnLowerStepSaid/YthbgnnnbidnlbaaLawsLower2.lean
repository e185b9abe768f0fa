/-
  The walk of the law FnLowerStep.
-/
import Derived.Test.YthbgnnnbidnlbaaLowerAll
import Derived.Test.YthbgnnnbidnlbaaTicks
import Derived.Test.YthbgnnnbidnlbaaDrawLower
import Derived.Test.YthbgnnnbidnlbaaAlive
namespace Go.Proofs.Ythbgnnnbidnlbaa
open Go.RowKit

theorem eachB_at : ∀ {l t : List Nat} {L T : List Nat}, eachB L T l t = true → ∀ k, k < l.length → k < t.length → (nn t k = nn l k ∨ nn t k + 1 = nn l k) ∧ pairB (nn l k) (nn t k) L T = true
  | [], _, _, _, _, k, hk, _ => by simp at hk
  | _ :: _, [], _, _, _, k, _, hk => by simp at hk
  | c :: cs, d :: ds, L, T, h, k, hk, hk' => by
    simp only [eachB, Bool.and_eq_true, Bool.or_eq_true] at h
    obtain ⟨h1, h2, h3⟩ := h
    match k with
    | 0 =>
      refine ⟨?_, h2⟩
      rcases h1 with h1 | h1
      · exact .inl (Nat.eq_of_beq_eq_true h1)
      · exact .inr (Nat.eq_of_beq_eq_true h1)
    | k + 1 => exact eachB_at h3 k (by simpa using hk) (by simpa using hk')
theorem pairB_at {x y : Nat} : ∀ {L T : List Nat}, pairB x y L T = true → ∀ j, j < L.length → j < T.length → ¬ (y < x ∧ nn T j = nn L j ∧ 0 < nn L j ∧ nn L j < x)
  | [], _, _, j, hj, _ => by simp at hj
  | _ :: _, [], _, j, _, hj => by simp at hj
  | c :: cs, d :: ds, h, j, hj, hj' => by
    simp only [pairB, Bool.and_eq_true, Bool.not_eq_true'] at h
    obtain ⟨h1, h2⟩ := h
    match j with
    | 0 =>
      rintro ⟨a1, a2, a3, a4⟩
      have e2 : d = c := a2
      have e3 : 0 < c := a3
      have e4 : c < x := a4
      subst e2
      rw [blt_iff.2 a1, blt_iff.2 e3, blt_iff.2 e4, Nat.beq_refl] at h1
      cases h1
    | j + 1 => exact pairB_at h2 j (by simpa using hj) (by simpa using hj')
theorem movN_snoc : ∀ (l t : List Nat) (a b : Nat), l.length = t.length → movN (l ++ [a]) (t ++ [b]) = movN l t + (if b < a then 1 else 0)
  | [], [], a, b, _ => by
    simp only [List.nil_append, movN]
    by_cases h : b < a
    · rw [blt_iff.2 h, if_pos h]; rfl
    · have : Nat.blt b a = false := by
        cases hb : Nat.blt b a
        · rfl
        · exact absurd (blt_iff.1 hb) h
      rw [this, if_neg h]; rfl
  | [], _ :: _, _, _, h => by simp at h
  | _ :: _, [], _, _, h => by simp at h
  | c :: cs, d :: ds, a, b, h => by
    simp only [List.cons_append, movN, movN_snoc cs ds a b (by simpa using h)]
    cases Nat.blt d c <;> simp <;> omega

set_option maxHeartbeats 3200000 in
set_option maxRecDepth 100000 in
theorem walk_FnLowerStep (a0 : Option Addr) (len0 cap0 : Nat) (z0 : List Int) (w : World) (w0 : IsRow .u8 w a0 len0 cap0 z0) :
    Calls Try.prog 8 #[.slice a0 len0 cap0] w fun e w' => e = .returned (.bool true) ∧ Below w.heap.size w w' := by
  by_cases hlen : 1048576 < len0
  · go_enter Try.func8, Try.ntmps8
    go_wp2
    go_ret
    exact ⟨rfl, Below.refl _ _⟩
  · go_enter Try.func8, Try.ntmps8
    go_wp2_with fail
    refine (DrawLowerStep_any a0 len0 cap0 z0 _ w0).mono ?_
    rintro e w1 ⟨A, n, c, xs, s, rfl, hnc, hn4, hs0, hs5, rd1, b1⟩
    have hself := sameB_refl (lowS xs s)
    go_wp2_with fail
    refine (implLowerStep_any A n c xs s _ rd1).mono ?_
    rintro e w2 ⟨A2, n2, c2, rfl, _, r2, b2⟩
    go_wp2_with fail
    refine (specLowerStep_any A n c xs s _ (rd1.below b2)).mono ?_
    rintro e w3 ⟨A3, n3, c3, rfl, _, r3, b3⟩
    go_wp2_with fail
    refine (sameInts_any A2 A3 n2 n3 c2 c3 _ _ _ (r2.rd.below b3) r3.rd).mono ?_
    rintro e w4 ⟨rfl, q4, rfl⟩
    have rdc := ((rd1.below b2).below b3).drewN q4
    have rdx := (r2.rd.below b3).drewN q4
    have b14 : Below w.heap.size w (w3.drewN q4) := below_drewN_ (below_step (below_step b1 b2) b3) q4
    obtain ⟨wb, hwb⟩ : ∃ wb : World, wb = w3.drewN q4 := ⟨_, rfl⟩
    rw [← hwb] at rdc rdx b14
    rw [← hwb]
    clear hwb b1 b2 b3 rd1 r2 r3 
    cases hv : lowerB xs s
    · have hl := rdx.len
      rw [lowS_no hv] at hl
      obtain rfl : n2 = 0 := by simpa using hl.symm
      clear hl
      go_wp2_with fail
      refine (specLowerOk_any A n c xs s _ rdc).mono ?_
      rintro e w5 ⟨rfl, rfl⟩
      go_wp2_with fail
      refine (alive_any _).mono ?_
      rintro e w5 ⟨rfl, b5⟩
      go_wp2_with fail
      go_ret
      exact ⟨rfl, below_step b14 b5⟩
    · obtain ⟨l, s, rfl, rfl⟩ := lower_nat hv
      have ho := lowOk_iff.1 hv
      rw [lowS_yes ho] at rdx
      obtain ⟨-, p2, p3, p4, p5, -⟩ := ho.parts
      have HL := Lib.hid (rd_toZ_len rdc)
      have HLX := Lib.hid (rd_toZ_len rdx)
      have hnn : n2 = n := by rw [← HL.out, ← HLX.out]; exact p5
      subst hnn
      have H8 := Lib.hid (fun k (hk : k < l.length) => ho.2.2.1 (nn l k) (by rw [nn_get l k hk]; exact List.getElem_mem hk))
      generalize lowStep l s = t at *
      have HE := Lib.hid (fun k hk hk' => eachB_at p3 k hk hk')
      have hpos : 0 < n2 := by rw [← HL.out]; exact ho.1
      obtain ⟨gc, oc, rfl, hgc, hc⟩ := rdc.2.2 hpos
      obtain ⟨gx, ox, rfl, hgx, hx⟩ := rdx.2.2 hpos
      have HC : Hid (∀ j, j < n2 → wb.cell? ⟨gc, oc + j, none⟩ = some (.int .i64 ((nn l j : Nat) : Int))) := fun j hj => by have := hc j hj; rwa [toZ_nth] at this
      have HX : Hid (∀ j, j < n2 → wb.cell? ⟨gx, ox + j, none⟩ = some (.int .i64 ((nn t j : Nat) : Int))) := fun j hj => by have := hx j hj; rwa [toZ_nth] at this
      have HM := Lib.hid p4
      clear p2 p3 p5 hc hx ho p4
      go_wp2_with fail
      refine (specLowerOk_any _ n2 c (toZ l) s _ rdc).mono ?_
      rintro e w5 ⟨rfl, rfl⟩
      go_wp2_with fail
      have HV := Lib.hid hv
      clear hv
      go_loopw [6, 7] (fun m i wr => ∃ k x q : Nat, k ≤ n2 ∧ i = .int .i64 k ∧ m = .int .i64 (x : Int) ∧ x ≤ k ∧ wr = wb.drewN q ∧ Hid (x = movN (l.take k) (t.take k))) (fun _ i _ => n2 - (intOf i).toNat)
      case atStart => exact ⟨0, 0, 0, Nat.zero_le _, rfl, rfl, by omega, rfl, rfl⟩
      case round =>
        obtain ⟨k, x, q, hk, rfl, rfl, hxk, rfl, H⟩ := hrel
        by_cases hlt : k < n2
        · have hkl : k < l.length := by rw [HL.out]; exact hlt
          have hkt : k < t.length := by rw [HLX.out]; exact hlt
          obtain ⟨e1, e2⟩ := HE.out k hkl hkt
          have HP := Lib.hid (fun j hj hj' => pairB_at e2 j hj hj')
          have h8 := H8.out k hkl
          have hck := HC.out k hlt
          have hxk' := HX.out k hlt
          have HS : Hid (movN (l.take (k + 1)) (t.take (k + 1)) = x + (if nn t k < nn l k then 1 else 0)) := by
            show _ = _
            rw [take_succ_nn l k hkl, take_succ_nn t k hkt, movN_snoc _ _ _ _ (by simp; omega), ← H.out]
          have i1 : (0 : Int) ≤ (k : Int) := by omega
          have i2 : (k : Int) < (n2 : Int) := by omega
          clear e2 hkl hkt
          generalize ha : nn l k = a at *
          generalize hb : nn t k = b at *
          clear ha hb
          rcases e1 with e1 | e1
          · obtain rfl : b = a := e1
            have hbne : ((b : Int) != (b : Int)) = false := by simp
            have hblt : decide ((b : Int) < (b : Int)) = false := by simp
            have HN : Hid (x = movN (l.take (k + 1)) (t.take (k + 1))) := by have := HS.out; rw [if_neg (by omega)] at this; exact this.symm
            go_wp2_with fail
            go_quiet (fail)
            go_wp2_with fail
            go_quiet (fail)
            go_wp2_with fail
            go_loopw [8] (fun i wr => ∃ j q : Nat, j ≤ n2 ∧ i = .int .i64 j ∧ wr = wb.drewN q) (fun i _ => n2 - (intOf i).toNat)
            case atStart => exact ⟨0, _, Nat.zero_le _, rfl, (by first | rfl | rw [World.drewN_drewN, World.drewN_drewN])⟩
            case round =>
              obtain ⟨j, q', hj, rfl, rfl⟩ := hrel
              by_cases hjl : j < n2
              · go_wp2_with fail
                go_quiet (fail)
                go_wp2_with fail
                go_roundw
                case rel => exact ⟨j + 1, _, by omega, by go_num, rfl⟩
                case measure => simp [intOf]; omega
              · go_wp2_with fail
                go_roundw
                case rel => exact ⟨k + 1, x, _, by omega, by go_num, rfl, by omega, rfl, HN⟩
                case measure => simp [intOf]; omega
          · subst e1
            have e3 : ((b + 1 : Nat) : Int) = (b : Int) + 1 := by omega
            rw [e3] at hck
            have hbne : ((b : Int) != (b : Int) + 1) = true := by rw [bne_iff_ne]; omega
            have hw1 : IntKind.i64.wrap ((b : Int) + 1 - 1) = (b : Int) := by rw [IntWalk.i64_in _ (by omega)]; omega
            have hbeq : ((b : Int) != (b : Int)) = false := by simp
            have hblt : decide ((b : Int) < (b : Int) + 1) = true := by simp; omega
            have HN : Hid (x + 1 = movN (l.take (k + 1)) (t.take (k + 1))) := by have := HS.out; rw [if_pos (by omega)] at this; exact this.symm
            clear e3
            go_wp2_with fail
            go_quiet (fail)
            go_wp2_with fail
            go_quiet (fail)
            clear hw1
            go_wp2_with fail
            go_loopw [8] (fun i wr => ∃ j q : Nat, j ≤ n2 ∧ i = .int .i64 j ∧ wr = wb.drewN q) (fun i _ => n2 - (intOf i).toNat)
            case atStart => exact ⟨0, _, Nat.zero_le _, rfl, (by first | rfl | rw [World.drewN_drewN, World.drewN_drewN])⟩
            case round =>
              obtain ⟨j, q', hj, rfl, rfl⟩ := hrel
              by_cases hjl : j < n2
              · have hcj := HC.out j hjl
                have hxj := HX.out j hjl
                have hp := HP.out j (by rw [HL.out]; exact hjl) (by rw [HLX.out]; exact hjl)
                have i3 : (0 : Int) ≤ (j : Int) := by omega
                have i4 : (j : Int) < (n2 : Int) := by omega
                generalize nn l j = u at *
                generalize nn t j = v at *
                by_cases f1 : v = u
                · subst f1
                  have g1 : ((v : Int) == (v : Int)) = true := by simp
                  by_cases f2 : 0 < v
                  · have g2 : decide ((0 : Int) < (v : Int)) = true := by simp; omega
                    have g3 : decide ((v : Int) < (b : Int) + 1) = false := by simp; omega
                    clear hp
                    go_wp2_with fail
                    go_quiet (fail)
                    go_wp2_with fail
                    go_roundw
                    case rel => exact ⟨j + 1, _, by omega, by go_num, rfl⟩
                    case measure => simp [intOf]; omega
                  · have g2 : decide ((0 : Int) < (v : Int)) = false := by simp; omega
                    clear hp
                    go_wp2_with fail
                    go_quiet (fail)
                    go_wp2_with fail
                    go_roundw
                    case rel => exact ⟨j + 1, _, by omega, by go_num, rfl⟩
                    case measure => simp [intOf]; omega
                · have g1 : ((v : Int) == (u : Int)) = false := by simp; omega
                  clear hp f1
                  go_wp2_with fail
                  go_quiet (fail)
                  go_wp2_with fail
                  go_roundw
                  case rel => exact ⟨j + 1, _, by omega, by go_num, rfl⟩
                  case measure => simp [intOf]; omega
              · go_wp2_with fail
                go_roundw
                case rel => exact ⟨k + 1, x + 1, _, by omega, by go_num, by go_num, by omega, rfl, HN⟩
                case measure => simp [intOf]; omega
        · obtain rfl : k = n2 := by omega
          have hxs : x ≤ s := by
            have h1 := H.out
            rw [List.take_of_length_le (by rw [HL.out]; omega), List.take_of_length_le (by rw [HLX.out]; omega)] at h1
            rw [h1]; exact HM.out
          go_wp2_with fail
          go_ret
          exact ⟨rfl, below_drewN_ b14 q⟩
end Go.Proofs.Ythbgnnnbidnlbaa

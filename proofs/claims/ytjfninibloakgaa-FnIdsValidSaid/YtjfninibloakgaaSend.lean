/-
  SendOrder of the program and of the reference.
-/
import Derived.Test.YtjfninibloakgaaDelete
import Derived.Test.YtjfninibloakgaaArbS
import Derived.Test.YtjfninibloakgaaClone
import Derived.Test.YtjfninibloakgaaStep
namespace Go.Proofs.Ytjfninibloakgaa
open Go.RowKit
attribute [local go_sem ↓] Go.wp_at_zero Go.wp_at_succ

theorem send_step {l : List Int} (h : idsB l = true) (hne : 0 < l.length) : ∃ x : Nat, arb l = x ∧ x < l.length ∧ send l = nth l x :: send (cutAt l x) ∧ idsB (cutAt l x) = true := by
  obtain ⟨x, hx, hxl, _⟩ := arb_least h hne
  have hcut : idsB (cutAt l x) = true := idsB_sub h (cutAt_sub l x)
  refine ⟨x, hx, hxl, ?_, hcut⟩
  rw [send_yes h, send_yes hcut, cutAt_len l x hxl]
  obtain ⟨k, hk⟩ : ∃ k, l.length = k + 1 := ⟨l.length - 1, by omega⟩
  rw [hk, sendL, if_neg (by omega), hx, Int.toNat_natCast]
  rfl
theorem send_nil : send [] = [] := by
  have : idsB [] = true := by decide
  rw [send_yes this]; rfl

/-- append of one int, and where the new row lies -/
theorem wpList_append_int_at {ops : Array Oper} {rest : List Oper} {o : Oper} {a : Act} {Q : Exit → Act → World → Prop} (w : World) (hgd : o.guard = none) (s x : Operand)
    (ho : o.op = .call { callee := .builtin .append, args := #[s, x], argTypes := #[22, 22] })
    (base : Nat) (A : Option Addr) (n c : Nat) (xs : List Int) (hs : a.eval s = .slice A n c) (hown : Own w base A n c xs)
    (B : Nat) (y : Int) (hx : a.eval x = .slice (some ⟨B, 0, none⟩) 1 1) (hcell : w.cell? ⟨B, 0, none⟩ = some (.int .i64 y)) (hn : n ≤ 4194304) (hbase : base ≤ w.heap.size)
    (h : ∀ g cap w', Own w' base (some ⟨g, 0, none⟩) (n + 1) cap (xs ++ [y]) → w.grownBy w' (Value.slice A n c).ownBlock → (∀ B', B' ≤ base → Below B' w w') → g < w'.heap.size → ((Value.slice A n c).ownBlock = some g ∨ g = w.heap.size) →
      wpList Try.prog ops Q rest (a.put o.dst (.slice (some ⟨g, 0, none⟩) (n + 1) cap)) w') : wpList Try.prog ops Q (o :: rest) a w := by
  obtain ⟨i0, hi, hz0, hz1, hz2⟩ := info_parts info_int
  refine wpList_append_lies w hgd s x 22 ho base 3 i0 (.int .i64 0) 1 8 Try.underlying22 hi hz0 hz1 hz2 rfl (by omega) (.slice A n c) n _ hs hown.1 ⟨B, 0, none⟩ 1 1 [.int .i64 y] hx rfl ?_ ?_ (by omega) (by unfold maxLen; omega) (by omega) hbase _ rfl ?_
  · intro t u ht
    match t, ht with
    | 0, ht => simp at ht; subst ht; simpa [Addr.add] using hcell
  · intro u hu
    simp at hu
    subst hu
    rfl
  · intro g cap w' h1 h2 h3 h4
    have h1' : Own w' base (some ⟨g, 0, none⟩) (n + 1) cap (xs ++ [y]) := by
      refine ⟨by simpa using h1, ?_⟩
      rcases h1.2 with ⟨h, _⟩ | ⟨_, _, _, h, _, _, hle, _⟩
      · cases h
      · injection h with _ _ hc
        subst hc
        exact hle
    refine h g cap w' h1' h2 (fun B' hB => ?_) h4 h3
    exact (Below.refl _ _).grown h2 (by omega) (fun k hk => by have := hown.1.lt k hk; omega)

/-- two rows that lie in different blocks -/
def Apart (A B : Option Addr) : Prop := ∀ g, (Value.slice A 0 0).ownBlock = some g → (Value.slice B 0 0).ownBlock ≠ some g
theorem own_block_any (A : Option Addr) (n c : Nat) : (Value.slice A n c).ownBlock = (Value.slice A 0 0).ownBlock := by cases A <;> rfl
theorem Apart.nil_ (B : Option Addr) : Apart none B := fun g h => by cases h
/-- a row keeps under what turns a row apart from it -/
theorem Own.apart {w w' : World} {base n c m d : Nat} {A B : Option Addr} {xs : List Int} (h : Own w base A n c xs) (hg : w.grownBy w' (Value.slice B m d).ownBlock) (ha : Apart A B) : Own w' base A n c xs :=
  h.kept hg (by
    cases hv : (Value.slice A n c).ownBlock with
    | none => exact .inl rfl
    | some k =>
      refine .inr fun e => ?_
      rw [own_block_any] at hv e
      exact ha k hv e.symm)
theorem Apart.symm_ {A B : Option Addr} (h : Apart A B) : Apart B A := fun g hB hA => h g hA hB
def lenV : Value → Nat
  | .slice _ n _ => n
  | _ => 0

/-- what stands at the head of the loop -/
structure SendSt (w wr : World) (O L : List Int) (Ao : Option Addr) (o co : Nat) (A : Option Addr) (m c : Nat) (xs : List Int) : Prop where
  out : Own wr w.heap.size Ao o co O
  left : Own wr w.heap.size A m c L
  apart : Apart Ao A
  bel : Below w.heap.size w wr
  sum : O ++ send L = send xs
  len : o + m ≤ 4194304

theorem SendSt.below {w wr w2 : World} {O L xs : List Int} {Ao A : Option Addr} {o co m c : Nat} (h : SendSt w wr O L Ao o co A m c xs) (hb : Below wr.heap.size wr w2) : SendSt w w2 O L Ao o co A m c xs :=
  ⟨h.out.below hb, h.left.below hb, h.apart, below_step h.bel hb, h.sum, h.len⟩
theorem Own.apart_of {w : World} {base n c g off : Nat} {A : Option Addr} {xs : List Int} (h : Own w base A n c xs) (hg : g < base) : Apart (some ⟨g, off, none⟩) A := by
  intro k hk hk2
  have q : g = k := Option.some.inj hk
  have := (h.block k (by rw [own_block_any]; exact hk2)).1
  omega

set_option maxHeartbeats 3200000 in
set_option maxRecDepth 100000 in
theorem implSendOrder_any (A : Option Addr) (n c : Nat) (xs : List Int) (w : World) (h : Rd w A n xs) (hnc : n ≤ c) :
    Calls Try.prog 20 #[.slice A n c] w (RetRow w (send xs)) := by
  have hn := h.le
  have HL := Lib.hid h.len
  cases hv : idsB xs
  · have HF := Lib.hid (send_no hv)
    go_enter Try.func20, Try.ntmps20
    go_wp2_with fail
    refine (implIdsValid_any A n c xs _ h hnc).mono ?_
    rintro e w1 ⟨rfl, rfl⟩
    rw [hv]
    go_wp2_with fail
    go_ret
    exact ⟨none, 0, 0, rfl, Nat.le_refl _, by rw [HF.out]; exact Row.nil_, Below.refl _ _⟩
  · have HV := Lib.hid hv
    have hn6 := (idsB_true.1 hv).1
    rw [HL.out] at hn6
    clear hv
    go_enter Try.func20, Try.ntmps20
    go_wp2_with fail
    refine (implIdsValid_any A n c xs _ h hnc).mono ?_
    rintro e w1 ⟨rfl, rfl⟩
    rw [HV.out]
    go_wp2_with fail
    refine (clone_any A n c xs _ h).mono ?_
    rintro e w2 ⟨A2, c2, rfl, ho2, b2⟩
    have hst : SendSt w w2 [] xs none 0 0 A2 n c2 xs := ⟨Own.nil_ _ _, ho2, Apart.nil_ _, b2, rfl, by omega⟩
    clear ho2 b2
    go_wp2_with fail
    go_loopw [3, 4] (fun vo vl wr => ∃ (o m co c' : Nat) (Ao A' : Option Addr) (O L : List Int), vo = .slice Ao o co ∧ vl = .slice A' m c' ∧ o + m ≤ 6 ∧ Hid (idsB L = true) ∧ SendSt w wr O L Ao o co A' m c' xs) (fun _ vl _ => lenV vl)
    case atStart => exact ⟨0, n, 0, c2, none, A2, [], xs, rfl, rfl, by omega, HV, hst⟩
    case round =>
      obtain ⟨o, m, co, c', Ao, A', O, L, rfl, rfl, hom, HVL, hs⟩ := hrel
      clear hst
      have hml := hs.left.len
      rcases Nat.eq_zero_or_pos m with h0 | h0
      · subst h0
        have hL : L = [] := List.eq_nil_of_length_eq_zero hml
        have hsum := hs.sum
        rw [hL, send_nil, List.append_nil] at hsum
        go_wp2_with fail
        go_ret
        exact ⟨Ao, o, co, rfl, hs.out.2, by rw [← hsum]; exact hs.out.row (by omega), hs.bel⟩
      · have hd : decide ((0 : Int) < (m : Int)) = true := by simp; omega
        obtain ⟨x, hx, hxl, hse, hcut⟩ := send_step HVL.out (by rw [hml]; exact h0)
        rw [hml] at hxl
        obtain ⟨r, rfl⟩ : ∃ r, m = x + 1 + r := ⟨m - (x + 1), by omega⟩
        obtain ⟨g, cap, hA', hgb, hgl⟩ := hs.left.1.form (by omega)
        obtain rfl : A' = some ⟨g, 0, none⟩ := by injection hA'
        obtain rfl : c' = cap := by injection hA'
        clear hA'
        have HC := Lib.hid hcut
        have HSE := Lib.hid hse
        have hcap := hs.left.2
        clear hcut hse hml
        go_wp2_with fail
        refine (implArbitrate_any _ _ _ L _ (hs.left.rd (by omega)) hs.left.2).mono ?_
        rintro e w3 ⟨rfl, b3⟩
        rw [hx]
        have hs3l := hs.left.below b3
        have hs3o := hs.out.below b3
        have b03 := below_step hs.bel b3
        have hs3 := b03.size
        obtain ⟨g', off', e', hg', hcell⟩ := (hs3l.rd (by omega)).at_ (show x < x + 1 + r by omega)
        injection e' with e'
        injection e' with e1 e2
        subst e1 e2
        rw [Nat.zero_add] at hcell
        have hblk := (hs.left.block g rfl).2
        have hap := hs.apart
        have HSUM := Lib.hid hs.sum
        clear hs
        go_wp2_with (at_builtin; refine wpList_append_int_at _ rfl (.tmp 16) (.tmp 21) rfl w.heap.size Ao o co O rfl (hs3o.alloc _) w3.heap.size _ rfl (cell_one _ _ rfl _ _) (by omega) (size_one _ _ hs3 _) ?_; intro g1 cap1 w4 ho4 hgrow4 hbel4 hlt4 hat4)
        have hl4 := (hs3l.alloc (.cells #[.int .i64 (nth L x)] 3)).apart hgrow4 hap.symm_
        have hb4 : Below w.heap.size w w4 := (b03.alloc hs3 _).trans (hbel4 _ (Nat.le_refl _))
        have hap4 : Apart (some ⟨g1, 0, none⟩) (some ⟨g, 0, none⟩) := by
          intro k hk hk2
          injection hk with hk
          injection hk2 with hk2
          rcases hat4 with hat4 | hat4
          · rw [own_block_any] at hat4
            exact hap g1 hat4 (by show some _ = some _; congr 1; exact hk2.trans hk.symm)
          · simp at hat4
            have hs33 := b3.size
            have q1 : g1 = k := hk
            have q2 : g = k := hk2
            omega
        clear hgrow4 hbel4 hat4 hap hs3l hs3o hcell
        refine (delete_any w.heap.size g x r c' L _ hl4 (by omega)).mono ?_
        rintro e w5 ⟨rfl, hl5, hgrow5⟩
        have ho5 := ho4.apart hgrow5 hap4
        have hb5 : Below w.heap.size w w5 := hb4.grown hgrow5 hb4.size (fun k hk => by have q : g = k := Option.some.inj hk; omega)
        have HST : Hid (SendSt w w5 (O ++ [nth L x]) (cutAt L x) (some ⟨g1, 0, none⟩) (o + 1) cap1 (some ⟨g, 0, none⟩) (x + r) c' xs) :=
          ⟨ho5, hl5, hap4, hb5, by rw [← HSUM.out, HSE.out, List.append_assoc]; rfl, by omega⟩
        clear hl4 hgrow5 ho4 ho5 hl5
        go_wp2_with fail
        go_roundw
        case rel => exact ⟨o + 1, x + r, cap1, c', _, _, _, _, rfl, rfl, by omega, HC, HST.out⟩
        case measure => simp [lenV]

theorem Rd.take_ {w : World} {A : Option Addr} {n k : Nat} {xs : List Int} (h : Rd w A n xs) (hk : k ≤ n) : Rd w A k (xs.take k) := by
  refine ⟨by rw [List.length_take, h.len]; omega, by have := h.2.1; omega, fun h0 => ?_⟩
  obtain ⟨g, off, e, hg, hc⟩ := h.2.2 (by omega)
  refine ⟨g, off, e, hg, fun j hj => ?_⟩
  rw [hc j (by omega)]
  congr 2
  unfold nth
  rw [List.getD, List.getD, List.getElem?_take, if_pos hj]
theorem Rd.drop_ {w : World} {g off n k : Nat} {xs : List Int} (h : Rd w (some ⟨g, off, none⟩) n xs) (hk : k ≤ n) : Rd w (some ⟨g, off + k, none⟩) (n - k) (xs.drop k) := by
  refine ⟨by rw [List.length_drop, h.len], by have := h.2.1; omega, fun h0 => ?_⟩
  obtain ⟨g', off', e, hg, hc⟩ := h.2.2 (by omega)
  injection e with e
  injection e with e1 e2
  subst e1 e2
  refine ⟨g, off + k, rfl, hg, fun j hj => ?_⟩
  have := hc (k + j) (by omega)
  rw [Nat.add_assoc, this]
  congr 2
  unfold nth
  rw [List.getD, List.getD, List.getElem?_drop]

set_option maxHeartbeats 6400000 in
set_option maxRecDepth 100000 in
theorem specSendOrder_any (A : Option Addr) (n c : Nat) (xs : List Int) (w : World) (h : Rd w A n xs) (hnn : n ≤ 2000000) :
    Calls Try.prog 19 #[.slice A n c] w (RetRow w (send xs)) := by
  have HL := Lib.hid h.len
  have hob := Own.made w w.heap.size (Nat.le_refl _)
  have hb1 := below_new w (.cells #[] 3)
  have hs1 := hb1.size
  have hm2 := Own.made (w.alloc (.cells #[] 3)) (w.heap.size + 1) (by simp)
  have hr2 := (h.below hb1).alloc (.cells #[] 3)
  have hob2 := hob.alloc (.cells #[] 3)
  have hb2 : Below w.heap.size w ((w.alloc (.cells #[] 3)).alloc (.cells #[] 3)) := hb1.alloc hs1 _
  clear hob hb1 hs1
  go_enter Try.func19, Try.ntmps19
  go_wp2_with (at_builtin; refine wpList_append_rd _ rfl (.tmp 7) (.tmp 8) rfl (w.heap.size + 1) _ 0 0 [] rfl (by simpa using hm2) A n c xs rfl hr2 (by omega) (by simp) ?_; intro A3 c3 w3 ho3 hgrow3 hbel3; rw [List.nil_append, Nat.zero_add] at ho3; rw [Nat.zero_add])
  have hst0 : SendSt w w3 [] xs (some ⟨w.heap.size, 0, none⟩) 0 0 A3 n c3 xs :=
    ⟨hob2.apart hgrow3 (by intro k hk hk2; have q1 : w.heap.size = k := Option.some.inj hk; have q2 : w.heap.size + 1 = k := Option.some.inj hk2; omega), ho3.more (by omega), ho3.apart_of (by omega), hb2.trans (hbel3 _ (by omega)), rfl, by omega⟩
  clear ho3 hgrow3 hbel3 hob2 hb2 hm2 hr2
  refine (specArbitrate_any _ _ _ xs _ (hst0.left.rd (by omega)) hst0.left.2).mono ?_
  rintro e w4 ⟨rfl, b4⟩
  have hst := hst0.below b4
  clear hst0 b4
  go_wp2_with fail
  go_loopw [3, 4, 5] (fun vo vl vk wr => ∃ (o m co c' : Nat) (Ao A' : Option Addr) (O L : List Int), vo = .slice Ao o co ∧ vl = .slice A' m c' ∧ vk = .int .i64 (arb L) ∧ o + m ≤ n ∧ SendSt w wr O L Ao o co A' m c' xs) (fun _ vl _ _ => lenV vl)
  case atStart => exact ⟨0, n, 0, c3, _, A3, [], xs, rfl, rfl, rfl, by omega, hst⟩
  case round =>
    obtain ⟨o, m, co, c', Ao, A', O, L, rfl, rfl, rfl, hom, hs⟩ := hrel
    clear hst
    have hml := hs.left.len
    have hsum := hs.sum
    cases hv : idsB L
    · rw [arb_no hv]
      rw [send_no hv, List.append_nil] at hsum
      have HSM := Lib.hid hsum
      clear hsum hv
      go_wp2_with fail
      go_ret
      exact ⟨Ao, o, co, rfl, hs.out.2, by rw [← HSM.out]; exact hs.out.row (by omega), hs.bel⟩
    · rcases Nat.eq_zero_or_pos m with h0 | h0
      · subst h0
        have hL : L = [] := List.eq_nil_of_length_eq_zero hml
        rw [hL, arb_nil]
        rw [hL, send_nil, List.append_nil] at hsum
        have HSM := Lib.hid hsum
        clear hsum hv hL
        go_wp2_with fail
        go_ret
        exact ⟨Ao, o, co, rfl, hs.out.2, by rw [← HSM.out]; exact hs.out.row (by omega), hs.bel⟩
      · obtain ⟨x, hx, hxl, hse, hcut⟩ := send_step hv (by rw [hml]; exact h0)
        rw [hx]
        rw [hml] at hxl
        obtain ⟨r, rfl⟩ : ∃ r, m = x + 1 + r := ⟨m - (x + 1), by omega⟩
        obtain ⟨g, cap, hA', hgb, hgl⟩ := hs.left.1.form (by omega)
        obtain rfl : A' = some ⟨g, 0, none⟩ := by injection hA'
        obtain rfl : c' = cap := by injection hA'
        clear hA' hx hv
        have hd : decide ((0 : Int) ≤ (x : Int)) = true := by simp
        have HSE := Lib.hid hse
        have HSUM := Lib.hid hsum
        have HML := Lib.hid hml
        have hcap := hs.left.2
        clear hcut hse hml hsum
        have hs3l := hs.left
        have hs3o := hs.out
        have b03 := hs.bel
        have hs3 := b03.size
        obtain ⟨g', off', e', hg', hcell⟩ := (hs3l.rd (by omega)).at_ (show x < x + 1 + r by omega)
        injection e' with e'
        injection e' with e1 e2
        subst e1 e2
        rw [Nat.zero_add] at hcell
        have hblk := (hs.left.block g rfl).2
        have hap := hs.apart
        clear hs
        go_wp2_with (at_builtin; refine wpList_append_int_at _ rfl (.tmp 16) (.tmp 21) rfl w.heap.size Ao o co O rfl (hs3o.alloc _) wr.heap.size _ rfl (cell_one _ _ rfl _ _) (by omega) (size_one _ _ hs3 _) ?_; intro g1 cap1 w5 ho4 hgrow4 hbel4 hlt4 hat4)
        have hl4 := (hs3l.alloc (.cells #[.int .i64 (nth L x)] 3)).apart hgrow4 hap.symm_
        have hb4 : Below w.heap.size w w5 := (b03.alloc hs3 _).trans (hbel4 _ (Nat.le_refl _))
        have hs5 := hb4.size
        have hrd := hl4.rd (by omega)
        have rdt := hrd.take_ (k := x) (by omega)
        have rdd0 := hrd.drop_ (k := x + 1) (by omega)
        rw [Nat.zero_add, Nat.add_sub_cancel_left] at rdd0
        clear hgrow4 hbel4 hat4 hap hs3l hs3o hcell hrd
        have hq0 : (0 : Int) ≤ (x : Int) := by omega
        have hq1 : (0 : Int) ≤ (x : Int) + 1 := by omega
        have hq2 : (x : Int) + 1 ≤ (x : Int) + 1 + (r : Int) := by omega
        have hq3 : (x : Int) + 1 + (r : Int) ≤ (c' : Int) := by omega
        have hq4 : (x : Int) ≤ (c' : Int) := by omega
        have hq5 : (x : Int) + 1 ≤ (c' : Int) := by omega
        have hq6 : (x : Int) ≤ (x : Int) + 1 := by omega
        have hw1 : IntKind.i64.wrap ((x : Int) + 1) = (x : Int) + 1 := IntWalk.i64_in _ (by omega)
        by_cases hck : c' = x + 1
        · obtain rfl : r = 0 := by omega
          have rdd : Rd w5 (some ⟨g, 0, none⟩) 0 (L.drop (x + 1)) := by
            rw [List.drop_of_length_le (by rw [HML.out]; omega)]; exact Rd.nil_
          clear rdd0
          subst hck
          go_upto_region 7 with fail
          go_region_held3 (fun _ => True) (trivial)
            ((first
              | (refine step_append_rd _ (by rfl) (.tmp 23) (.tmp 26) (by rfl) w5.heap.size _ 0 0 [] (by rfl) (by (repeat (first | ((with_reducible refine Own.made_ ?_ ?_) <;> (first | with_reducible rfl | omega | (simp; done) | (simp; omega))) | with_reducible refine Own.drew ?_ | with_reducible refine Own.alloc ?_ _))) _ x _ (L.take x) (by rfl) (by (repeat (first | with_reducible exact rdt | with_reducible refine Rd.drew ?_ | with_reducible refine Rd.alloc ?_ _))) (by omega) (by first | omega | (simp; done) | (simp; omega)) x (by omega) ?_
                 intro A6 c6 w6 ho6 hgrow6 hbel6
                 have hb6 : Below w5.heap.size w5 w6 := Below.trans (by (repeat (first | with_reducible exact Below.refl _ _ | with_reducible refine below_drew_ ?_ | (with_reducible refine Below.alloc ?_ ?_ _; (rotate_left; (first | omega | (simp <;> omega))))))) (hbel6 _ (Nat.le_refl _))
                 have hs6 := hb6.size
                 rw [List.nil_append] at ho6
                 have rdd6 := rdd.below hb6
                 clear hgrow6 hbel6)
              | (refine step_append_rd _ (by rfl) (.tmp 27) (.tmp 31) (by rfl) w5.heap.size A6 x c6 (L.take x) (by rfl) (by (repeat (first | with_reducible exact ho6 | with_reducible refine Own.drew ?_ | with_reducible refine Own.alloc ?_ _))) _ 0 _ (L.drop (x + 1)) (by rfl) (by (repeat (first | with_reducible exact rdd6 | with_reducible refine Rd.drew ?_))) (by omega) (by first | omega | (simp; done) | (simp; omega)) (x + 0) rfl ?_
                 intro A7 c7 w7 ho7 hgrow7 hbel7
                 have hb7 : Below w5.heap.size w5 w7 := hb6.trans (hbel7 _ (Nat.le_refl _))
                 clear hgrow7 hbel7)))
          have ho7' : Own w7 w5.heap.size A7 (x + 0) c7 (cutAt L x) := ho7
          have hst7 : SendSt w w7 (O ++ [nth L x]) (cutAt L x) (some ⟨g1, 0, none⟩) (o + 1) cap1 A7 (x + 0) c7 xs :=
            ⟨ho4.below hb7, ho7'.more hs5, ho7'.apart_of hlt4, below_step hb4 hb7, by rw [← HSUM.out, HSE.out, List.append_assoc]; rfl, by omega⟩
          clear ho7 ho7' ho6 hb6 hb7 rdd6 rdd rdt ho4 hl4 hb4
          go_wp2_with fail
          refine (specArbitrate_any _ _ _ (cutAt L x) _ (hst7.left.rd (by omega)) hst7.left.2).mono ?_
          rintro e w8 ⟨rfl, b8⟩
          have HST := Lib.hid (hst7.below b8)
          clear hst7
          go_wp2_with fail
          go_roundw
          case rel => exact ⟨o + 1, x + 0, cap1, c7, _, A7, _, _, rfl, rfl, rfl, by omega, HST.out⟩
          case measure => simp [lenV]
        · have rdd := rdd0
          clear rdd0
          go_upto_region 7 with fail
          go_region_held3 (fun _ => True) (trivial)
            ((first
              | (refine step_append_rd _ (by rfl) (.tmp 23) (.tmp 26) (by rfl) w5.heap.size _ 0 0 [] (by rfl) (by (repeat (first | ((with_reducible refine Own.made_ ?_ ?_) <;> (first | with_reducible rfl | omega | (simp; done) | (simp; omega))) | with_reducible refine Own.drew ?_ | with_reducible refine Own.alloc ?_ _))) _ x _ (L.take x) (by rfl) (by (repeat (first | with_reducible exact rdt | with_reducible refine Rd.drew ?_ | with_reducible refine Rd.alloc ?_ _))) (by omega) (by first | omega | (simp; done) | (simp; omega)) x (by omega) ?_
                 intro A6 c6 w6 ho6 hgrow6 hbel6
                 have hb6 : Below w5.heap.size w5 w6 := Below.trans (by (repeat (first | with_reducible exact Below.refl _ _ | with_reducible refine below_drew_ ?_ | (with_reducible refine Below.alloc ?_ ?_ _; (rotate_left; (first | omega | (simp <;> omega))))))) (hbel6 _ (Nat.le_refl _))
                 have hs6 := hb6.size
                 rw [List.nil_append] at ho6
                 have rdd6 := rdd.below hb6
                 clear hgrow6 hbel6)
              | (refine step_append_rd _ (by rfl) (.tmp 27) (.tmp 31) (by rfl) w5.heap.size A6 x c6 (L.take x) (by rfl) (by (repeat (first | with_reducible exact ho6 | with_reducible refine Own.drew ?_ | with_reducible refine Own.alloc ?_ _))) _ r _ (L.drop (x + 1)) (by rfl) (by (repeat (first | with_reducible exact rdd6 | with_reducible refine Rd.drew ?_))) (by omega) (by first | omega | (simp; done) | (simp; omega)) (x + r) rfl ?_
                 intro A7 c7 w7 ho7 hgrow7 hbel7
                 have hb7 : Below w5.heap.size w5 w7 := hb6.trans (hbel7 _ (Nat.le_refl _))
                 clear hgrow7 hbel7)))
          have ho7' : Own w7 w5.heap.size A7 (x + r) c7 (cutAt L x) := ho7
          have hst7 : SendSt w w7 (O ++ [nth L x]) (cutAt L x) (some ⟨g1, 0, none⟩) (o + 1) cap1 A7 (x + r) c7 xs :=
            ⟨ho4.below hb7, ho7'.more hs5, ho7'.apart_of hlt4, below_step hb4 hb7, by rw [← HSUM.out, HSE.out, List.append_assoc]; rfl, by omega⟩
          clear ho7 ho7' ho6 hb6 hb7 rdd6 rdd rdt ho4 hl4 hb4
          go_wp2_with fail
          refine (specArbitrate_any _ _ _ (cutAt L x) _ (hst7.left.rd (by omega)) hst7.left.2).mono ?_
          rintro e w8 ⟨rfl, b8⟩
          have HST := Lib.hid (hst7.below b8)
          clear hst7
          go_wp2_with fail
          go_roundw
          case rel => exact ⟨o + 1, x + r, cap1, c7, _, A7, _, _, rfl, rfl, rfl, by omega, HST.out⟩
          case measure => simp [lenV]
end Go.Proofs.Ytjfninibloakgaa

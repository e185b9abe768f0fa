/-
  Plain facts on the arbitration of ids bit by bit: who is left has the least id; the order in which ids get through ascends. No program in sight.
-/
import Derived.Test.YtjfninibloakgaaIds
import Derived.Test.YtjfninibloakgaaWire
namespace Go.Proofs.Ytjfninibloakgaa

/-- bit b of x -/
def bitAt (x : Int) (b : Nat) : Int := x / 2 ^ b % 2
def bitsOf (ids : List Int) (b : Nat) (nodes : List Int) : List Int := nodes.map fun k => bitAt (nth ids k.toNat) b
def arbStep (ids : List Int) (b : Nat) (nodes : List Int) : List Int := nodes.filter fun k => bitAt (nth ids k.toNat) b == wireZ (bitsOf ids b nodes)
def nodes0 (n : Nat) : List Int := (List.range n).map (fun k : Nat => (k : Int))
/-- who sends after the highest k bits -/
def arbDown (ids : List Int) : Nat → List Int
  | 0 => nodes0 ids.length
  | k + 1 => arbStep ids (6 - k) (arbDown ids k)
def arb (ids : List Int) : Int := if idsB ids = true then (arbDown ids 7).headD (-1) else -1
theorem arb_no {ids : List Int} (h : idsB ids = false) : arb ids = -1 := by unfold arb; rw [h]; rfl
theorem arb_yes {ids : List Int} (h : idsB ids = true) : arb ids = (arbDown ids 7).headD (-1) := by unfold arb; rw [if_pos h]

theorem mem_nodes0 {n : Nat} {x : Int} : x ∈ nodes0 n ↔ 0 ≤ x ∧ x < n := by
  unfold nodes0
  rw [List.mem_map]
  constructor
  · rintro ⟨k, hk, rfl⟩
    have := List.mem_range.1 hk
    omega
  · rintro ⟨h0, h1⟩
    exact ⟨x.toNat, List.mem_range.2 (by omega), by omega⟩

theorem bit01 (x : Int) (b : Nat) : bitAt x b = 0 ∨ bitAt x b = 1 := by unfold bitAt; omega

theorem wireZ_bits {ids nodes : List Int} {b : Nat} :
    (wireZ (bitsOf ids b nodes) = 0 ∧ ∃ k ∈ nodes, bitAt (nth ids k.toNat) b = 0) ∨ (wireZ (bitsOf ids b nodes) = 1 ∧ ∀ k ∈ nodes, bitAt (nth ids k.toNat) b = 1) := by
  cases h : hasB (bitsOf ids b nodes) 0
  · refine .inr ⟨wireZ_no h, fun k hk => ?_⟩
    rcases bit01 (nth ids k.toNat) b with h0 | h1
    · have : hasB (bitsOf ids b nodes) 0 = true := hasB_true.2 (List.mem_map.2 ⟨k, hk, h0⟩)
      rw [h] at this; cases this
    · exact h1
  · obtain ⟨k, hk, e⟩ := List.mem_map.1 (hasB_true.1 h)
    exact .inl ⟨wireZ_yes h, k, hk, e⟩

/-- those whose id begins with the bits m, which are the least -/
def Least (ids : List Int) (e : Nat) (nodes : List Int) : Prop :=
  ∃ m : Int, nodes = (nodes0 ids.length).filter (fun k => nth ids k.toNat / 2 ^ e == m) ∧ (∀ k ∈ nodes0 ids.length, m ≤ nth ids k.toNat / 2 ^ e) ∧ ∃ k ∈ nodes0 ids.length, nth ids k.toNat / 2 ^ e = m

theorem half (x : Int) (e : Nat) : x / 2 ^ (e + 1) = x / 2 ^ e / 2 := by
  rw [Int.pow_succ]
  exact (Int.ediv_ediv_of_nonneg (Int.pow_nonneg (by omega))).symm

theorem least_step {ids nodes : List Int} {e : Nat} (h : Least ids (e + 1) nodes) : Least ids e (arbStep ids e nodes) := by
  obtain ⟨m, hn, hm, k0, hk0, e0⟩ := h
  have hmem : ∀ k, k ∈ nodes ↔ k ∈ nodes0 ids.length ∧ nth ids k.toNat / 2 ^ e / 2 = m := by
    intro k
    rw [hn, List.mem_filter, half]
    simp
  have hge : ∀ k ∈ nodes0 ids.length, m ≤ nth ids k.toNat / 2 ^ e / 2 := fun k hk => by have := hm k hk; rwa [half] at this
  rw [half] at e0
  rcases wireZ_bits (ids := ids) (nodes := nodes) (b := e) with ⟨hw, k1, hk1, e1⟩ | ⟨hw, hall⟩
  · refine ⟨2 * m, ?_, ?_, k1, ((hmem k1).1 hk1).1, ?_⟩
    · unfold arbStep
      rw [hw, hn, List.filter_filter]
      apply List.filter_congr
      intro k hk
      rw [Bool.eq_iff_iff, half]
      simp [bitAt]
      omega
    · intro k hk
      have := hge k hk
      omega
    · have := ((hmem k1).1 hk1).2
      unfold bitAt at e1
      omega
  · have hk0' := hall k0 ((hmem k0).2 ⟨hk0, e0⟩)
    refine ⟨2 * m + 1, ?_, ?_, k0, hk0, ?_⟩
    · unfold arbStep
      rw [hw, hn, List.filter_filter]
      apply List.filter_congr
      intro k hk
      rw [Bool.eq_iff_iff, half]
      simp [bitAt]
      omega
    · intro k hk
      have h1 := hge k hk
      rcases Int.lt_or_le m (nth ids k.toNat / 2 ^ e / 2) with h2 | h2
      · omega
      · have := hall k ((hmem k).2 ⟨hk, by omega⟩)
        unfold bitAt at this
        omega
    · unfold bitAt at hk0'
      omega

theorem least_all {ids : List Int} (hw : withinB ids 128 = true) (hne : 0 < ids.length) : ∀ k, k ≤ 7 → Least ids (7 - k) (arbDown ids k) := by
  intro k
  induction k with
  | zero =>
    intro _
    have hz : ∀ k ∈ nodes0 ids.length, nth ids k.toNat / 2 ^ 7 = 0 := by
      intro k hk
      have hk' := mem_nodes0.1 hk
      have := withinB_nth hw k.toNat (by omega)
      omega
    refine ⟨0, ?_, fun k hk => by rw [hz k hk]; omega, 0, mem_nodes0.2 (by omega), hz 0 (mem_nodes0.2 (by omega))⟩
    symm
    apply List.filter_eq_self.2
    intro k hk
    have := hz k hk
    simpa using this
  | succ k ih =>
    intro hk
    have h := ih (by omega)
    rw [show 7 - k = (6 - k) + 1 by omega] at h
    have := least_step h
    rw [show 7 - (k + 1) = 6 - k by omega]
    exact this

theorem nod_ne {xs : List Int} (h : nodB xs = true) (i j : Nat) (hij : i < j) (hj : j < xs.length) : nth xs i ≠ nth xs j := by
  intro e
  have := nodB_true.1 h j hj
  have h2 : hasB (xs.take j) (nth xs j) = true := by
    rw [hasB_true, ← e]
    rw [nth_get xs i (by omega)]
    exact List.mem_take_iff_getElem.2 ⟨i, by omega, rfl⟩
  rw [this] at h2; cases h2
theorem nod_of {xs : List Int} (h : ∀ i j, i < j → j < xs.length → nth xs i ≠ nth xs j) : nodB xs = true := by
  rw [nodB_true]
  intro j hj
  cases hb : hasB (xs.take j) (nth xs j)
  · rfl
  · obtain ⟨i, hi, e⟩ := List.mem_take_iff_getElem.1 (hasB_true.1 hb)
    exact absurd (by rw [nth_get xs i (by omega)]; exact e) (h i j (by omega) hj)
theorem nod_iff {xs : List Int} : nodB xs = true ↔ xs.Nodup := by
  constructor
  · intro h
    refine List.pairwise_iff_getElem.2 fun i j hi hj hij => ?_
    have := nod_ne h i j hij hj
    rwa [nth_get xs i hi, nth_get xs j hj] at this
  · intro h
    refine nod_of fun i j hij hj => ?_
    have := List.pairwise_iff_getElem.1 h i j (by omega) hj hij
    rwa [nth_get xs i (by omega), nth_get xs j hj]

/-- the node that is left has the least id -/
theorem arb_least {ids : List Int} (h : idsB ids = true) (hne : 0 < ids.length) : ∃ x : Nat, arb ids = x ∧ x < ids.length ∧ ∀ k, k < ids.length → k ≠ x → nth ids x < nth ids k := by
  obtain ⟨_, hw, hd⟩ := idsB_true.1 h
  obtain ⟨m, hn, hm, k0, hk0, e0⟩ := least_all hw hne 7 (Nat.le_refl _)
  simp only [Nat.sub_self, Int.pow_zero, Int.ediv_one] at hn hm e0
  rw [arb_yes h]
  have hx : (arbDown ids 7).headD (-1) ∈ arbDown ids 7 := by
    cases hl : arbDown ids 7 with
    | nil =>
      rw [hl] at hn
      have : k0 ∈ (nodes0 ids.length).filter (fun k => nth ids k.toNat == m) := List.mem_filter.2 ⟨hk0, by simp [e0]⟩
      rw [← hn] at this; cases this
    | cons a t => simp
  generalize (arbDown ids 7).headD (-1) = x at hx ⊢
  rw [hn, List.mem_filter] at hx
  obtain ⟨hx1, hx2⟩ := hx
  have hx3 := mem_nodes0.1 hx1
  refine ⟨x.toNat, by omega, by omega, fun k hk hkx => ?_⟩
  have h1 := hm k (mem_nodes0.2 (by omega))
  have h2 : nth ids x.toNat = m := by simpa using hx2
  rw [Int.toNat_natCast] at h1
  have h3 : nth ids k ≠ nth ids x.toNat := by
    rcases Nat.lt_or_ge k x.toNat with h | h
    · exact nod_ne hd k x.toNat h (by omega)
    · exact (nod_ne hd x.toNat k (by omega) hk).symm
  omega
theorem arb_nil : arb [] = -1 := by
  have : idsB [] = true := by decide
  rw [arb_yes this]; decide

/-- without the element at k -/
def cutAt (l : List Int) (k : Nat) : List Int := l.take k ++ l.drop (k + 1)
theorem cutAt_perm (l : List Int) (k : Nat) (hk : k < l.length) : (nth l k :: cutAt l k).Perm l := by
  unfold cutAt
  have e : l = l.take k ++ nth l k :: l.drop (k + 1) := by
    rw [nth_get l k hk]; simp
  conv => rhs; rw [e]
  exact List.perm_middle.symm
theorem cutAt_len (l : List Int) (k : Nat) (hk : k < l.length) : (cutAt l k).length = l.length - 1 := by
  have := (cutAt_perm l k hk).length_eq
  simp at this
  omega
theorem cutAt_sub (l : List Int) (k : Nat) : (cutAt l k).Sublist l := by
  unfold cutAt
  rw [← List.eraseIdx_eq_take_drop_succ]
  exact List.eraseIdx_sublist l k
theorem idsB_sub {l m : List Int} (h : idsB l = true) (hs : m.Sublist l) : idsB m = true := by
  obtain ⟨h1, h2, h3⟩ := idsB_true.1 h
  refine idsB_true.2 ⟨Nat.le_trans hs.length_le h1, withinB_true.2 fun x hx => withinB_true.1 h2 x (hs.subset hx), nod_iff.2 ((nod_iff.1 h3).sublist hs)⟩
theorem idsB_perm {l m : List Int} (h : idsB l = true) (hs : m.Perm l) : idsB m = true := by
  obtain ⟨h1, h2, h3⟩ := idsB_true.1 h
  refine idsB_true.2 ⟨by rw [hs.length_eq]; exact h1, withinB_true.2 fun x hx => withinB_true.1 h2 x (hs.mem_iff.1 hx), nod_iff.2 (hs.nodup_iff.2 (nod_iff.1 h3))⟩

/-- the ids in the order in which they get through -/
def sendL : Nat → List Int → List Int
  | 0, _ => []
  | f + 1, l => if l.length = 0 then [] else nth l (arb l).toNat :: sendL f (cutAt l (arb l).toNat)
def send (ids : List Int) : List Int := if idsB ids = true then sendL ids.length ids else []
theorem send_no {ids : List Int} (h : idsB ids = false) : send ids = [] := by unfold send; rw [h]; rfl
theorem send_yes {ids : List Int} (h : idsB ids = true) : send ids = sendL ids.length ids := by unfold send; rw [if_pos h]

theorem sendL_facts : ∀ (n : Nat) (l : List Int), idsB l = true → l.length = n → (sendL n l).Perm l ∧ (sendL n l).Pairwise (· < ·) := by
  intro n
  induction n with
  | zero => intro l _ hl; rw [List.eq_nil_of_length_eq_zero hl]; exact ⟨List.Perm.refl _, List.Pairwise.nil⟩
  | succ n ih =>
    intro l h hl
    obtain ⟨x, hx, hxl, hlt⟩ := arb_least h (by omega)
    have hcut : idsB (cutAt l x) = true := idsB_sub h (cutAt_sub l x)
    obtain ⟨ih1, ih2⟩ := ih (cutAt l x) hcut (by rw [cutAt_len l x hxl]; omega)
    have e : sendL (n + 1) l = nth l x :: sendL n (cutAt l x) := by
      rw [sendL, if_neg (by omega), hx, Int.toNat_natCast]
    rw [e]
    refine ⟨(ih1.cons _).trans (cutAt_perm l x hxl), List.pairwise_cons.2 ⟨fun y hy => ?_, ih2⟩⟩
    have hy' := ih1.mem_iff.1 hy
    have hnd : (nth l x :: cutAt l x).Nodup := (cutAt_perm l x hxl).nodup_iff.2 (nod_iff.1 (idsB_true.1 h).2.2)
    have hne : nth l x ≠ y := fun e => (List.nodup_cons.1 hnd).1 (by rw [e]; exact hy')
    obtain ⟨j, hj, ej⟩ := mem_nth ((cutAt_sub l x).subset hy')
    rw [← ej]
    exact hlt j hj (fun e => hne (by rw [← ej, e]))
theorem send_perm {ids : List Int} (h : idsB ids = true) : (send ids).Perm ids := by rw [send_yes h]; exact (sendL_facts _ ids h rfl).1
theorem send_asc {ids : List Int} (h : idsB ids = true) : (send ids).Pairwise (· < ·) := by rw [send_yes h]; exact (sendL_facts _ ids h rfl).2
theorem send_turned {ids ids' : List Int} (h : idsB ids = true) (hp : ids'.Perm ids) : send ids' = send ids := by
  have h' := idsB_perm h hp
  exact ((send_perm h').trans (hp.trans (send_perm h).symm)).eq_of_pairwise (fun a b _ _ hab hba => by omega) (send_asc h') (send_asc h)
end Go.Proofs.Ytjfninibloakgaa

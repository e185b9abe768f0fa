/-
  Plain facts on rights: who may call for a floor in an hour; floors and hours counted. No program in sight.
-/
import Derived.Test.YtkelamkbkkcpjaaRight
import Derived.Test.YtkelamkbkkcpjaaHas
namespace Go.Proofs.Ytkelamkbkkcpjaa

/-- a right: floor, from, to -/
structure Rt where
  f : Int
  a : Int
  b : Int
/-- the right at j -/
def rnth (rs : List Rt) (j : Nat) : Rt := rs.getD j ⟨0, 0, 0⟩
theorem rnth_get (rs : List Rt) (j : Nat) (h : j < rs.length) : rnth rs j = rs[j] := by unfold rnth; simp [List.getD, h]
theorem rnth_mem (rs : List Rt) (j : Nat) (h : j < rs.length) : rnth rs j ∈ rs := by rw [rnth_get rs j h]; exact List.getElem_mem h
theorem mem_rnth {rs : List Rt} {x : Rt} (h : x ∈ rs) : ∃ j, j < rs.length ∧ rnth rs j = x := by
  obtain ⟨j, hj, e⟩ := List.mem_iff_getElem.1 h
  exact ⟨j, hj, by rw [rnth_get rs j hj]; exact e⟩
theorem rnth_ext {xs ys : List Rt} (hl : xs.length = ys.length) (h : ∀ j, j < xs.length → rnth xs j = rnth ys j) : xs = ys := by
  apply List.ext_getElem hl
  intro j h1 h2
  have := h j h1
  rwa [rnth_get xs j h1, rnth_get ys j h2] at this
theorem take_succ_rnth (xs : List Rt) (k : Nat) (h : k < xs.length) : xs.take (k + 1) = xs.take k ++ [rnth xs k] := by
  rw [List.take_succ_eq_append_getElem h, rnth_get xs k h]

/-- a right that is valid -/
def rightB (r : Rt) : Bool := inB r.f 0 7 && (inB r.a 0 23 && inB r.b 0 23)
theorem rightB_true {r : Rt} : rightB r = true ↔ inB r.f 0 7 = true ∧ inB r.a 0 23 = true ∧ inB r.b 0 23 = true := by unfold rightB; simp
theorem rightB_no {r : Rt} (h : inB r.f 0 7 = false ∨ inB r.a 0 23 = false ∨ inB r.b 0 23 = false) : rightB r = false := by
  unfold rightB
  rcases h with h | h | h <;> rw [h] <;> simp
def rightsB (rs : List Rt) : Bool := decide (rs.length ≤ 6) && rs.all rightB
theorem rightsB_true {rs : List Rt} : rightsB rs = true ↔ rs.length ≤ 6 ∧ ∀ r ∈ rs, rightB r = true := by unfold rightsB; simp
theorem rightsB_yes {rs : List Rt} (h6 : rs.length ≤ 6) (h : ∀ j, j < rs.length → rightB (rnth rs j) = true) : rightsB rs = true := rightsB_true.2 ⟨h6, fun r hr => by
  obtain ⟨j, hj, e⟩ := mem_rnth hr
  rw [← e]; exact h j hj⟩
theorem rightsB_long {rs : List Rt} (h : ¬ rs.length ≤ 6) : rightsB rs = false := by unfold rightsB; simp [h]
theorem rightsB_bad {rs : List Rt} (j : Nat) (hj : j < rs.length) (h : rightB (rnth rs j) = false) : rightsB rs = false := by
  cases hb : rightsB rs
  · rfl
  · have := (rightsB_true.1 hb).2 _ (rnth_mem rs j hj)
    rw [h] at this; cases this

/-- a right is for a floor and holds in an hour -/
def forB (fl h : Int) (r : Rt) : Bool := (r.f == fl) && holdsB r.a r.b h
def anyB (rs : List Rt) (fl h : Int) : Bool := rs.any (forB fl h)
theorem anyB_true {rs : List Rt} {fl h : Int} : anyB rs fl h = true ↔ ∃ r ∈ rs, forB fl h r = true := by unfold anyB; simp
theorem anyB_at {rs : List Rt} {fl h : Int} (j : Nat) (hj : j < rs.length) (hf : forB fl h (rnth rs j) = true) : anyB rs fl h = true := anyB_true.2 ⟨_, rnth_mem rs j hj, hf⟩
theorem anyB_no {rs : List Rt} {fl h : Int} (hf : ∀ j, j < rs.length → forB fl h (rnth rs j) = false) : anyB rs fl h = false := by
  cases hb : anyB rs fl h
  · rfl
  · obtain ⟨r, hr, e⟩ := anyB_true.1 hb
    obtain ⟨j, hj, ej⟩ := mem_rnth hr
    rw [← ej, hf j hj] at e; cases e
theorem anyB_snoc (rs : List Rt) (fl h : Int) (k : Nat) (hk : k < rs.length) : anyB (rs.take (k + 1)) fl h = (anyB (rs.take k) fl h || forB fl h (rnth rs k)) := by
  rw [take_succ_rnth rs k hk]; unfold anyB; simp
/-- the arguments that MayCall takes -/
def argB (rs : List Rt) (fl h : Int) : Bool := rightsB rs && (inB fl 0 7 && inB h 0 23)
theorem argB_true {rs : List Rt} {fl h : Int} : argB rs fl h = true ↔ rightsB rs = true ∧ inB fl 0 7 = true ∧ inB h 0 23 = true := by unfold argB; simp
def mayB (rs : List Rt) (op : List Int) (fl h : Int) : Bool := argB rs fl h && (hasB op fl || anyB rs fl h)
theorem mayB_no {rs : List Rt} {op : List Int} {fl h : Int} (hh : rightsB rs = false ∨ inB fl 0 7 = false ∨ inB h 0 23 = false) : mayB rs op fl h = false := by
  unfold mayB argB
  rcases hh with hh | hh | hh <;> rw [hh] <;> simp
theorem mayB_yes {rs : List Rt} {op : List Int} {fl h : Int} (h1 : rightsB rs = true) (h2 : inB fl 0 7 = true) (h3 : inB h 0 23 = true) : mayB rs op fl h = (hasB op fl || anyB rs fl h) := by
  unfold mayB argB; rw [h1, h2, h3]; rfl

/-- the floors below k that can be called for -/
def floorsTo (rs : List Rt) (op : List Int) (h : Int) (k : Nat) : List Int := ((List.range k).filter fun f : Nat => mayB rs op (f : Int) h).map fun f : Nat => (f : Int)
theorem floorsTo_yes {rs : List Rt} {op : List Int} {h : Int} {k : Nat} (hm : mayB rs op (k : Int) h = true) : floorsTo rs op h (k + 1) = floorsTo rs op h k ++ [(k : Int)] := by
  unfold floorsTo; rw [List.range_succ, List.filter_append]; simp [hm]
theorem floorsTo_no {rs : List Rt} {op : List Int} {h : Int} {k : Nat} (hm : mayB rs op (k : Int) h = false) : floorsTo rs op h (k + 1) = floorsTo rs op h k := by
  unfold floorsTo; rw [List.range_succ, List.filter_append]; simp [hm]
theorem floorsTo_len (rs : List Rt) (op : List Int) (h : Int) (k : Nat) : (floorsTo rs op h k).length ≤ k := by
  unfold floorsTo
  rw [List.length_map]
  refine Nat.le_trans (List.length_filter_le _ _) ?_
  simp
theorem floorsTo_has (rs : List Rt) (op : List Int) (h : Int) (k j : Nat) (hj : j < k) : hasB (floorsTo rs op h k) (j : Int) = mayB rs op (j : Int) h := by
  rw [Bool.eq_iff_iff, hasB_true]
  unfold floorsTo
  rw [List.mem_map]
  constructor
  · rintro ⟨i, hi, e⟩
    obtain rfl : i = j := by omega
    exact (List.mem_filter.1 hi).2
  · intro hm
    exact ⟨j, List.mem_filter.2 ⟨List.mem_range.2 hj, hm⟩, rfl⟩
theorem floorsTo_pw (rs : List Rt) (op : List Int) (h : Int) (k : Nat) : (floorsTo rs op h k).Pairwise (· < ·) := by
  unfold floorsTo
  rw [List.pairwise_map]
  have h : (List.range k).Pairwise (· < ·) := List.pairwise_lt_range
  exact (h.filter _).imp (fun {x y} hxy => by omega)
theorem floorsTo_none {rs : List Rt} {op : List Int} {h : Int} (hh : rightsB rs = false ∨ inB h 0 23 = false) (k : Nat) : floorsTo rs op h k = [] := by
  induction k with
  | zero => rfl
  | succ k ih => rw [floorsTo_no (mayB_no (by rcases hh with hh | hh; exact .inl hh; exact .inr (.inr hh))), ih]

/-- how many of the numbers below n have a property -/
def cnt (p : Nat → Bool) : Nat → Nat
  | 0 => 0
  | n + 1 => cnt p n + (if p n = true then 1 else 0)
theorem cnt_le (p : Nat → Bool) (n : Nat) : cnt p n ≤ n := by
  induction n with
  | zero => simp [cnt]
  | succ n ih => simp only [cnt]; split <;> omega
theorem cnt_yes {p : Nat → Bool} {n : Nat} (h : p n = true) : cnt p (n + 1) = cnt p n + 1 := by simp [cnt, h]
theorem cnt_no {p : Nat → Bool} {n : Nat} (h : p n = false) : cnt p (n + 1) = cnt p n := by simp [cnt, h]
theorem cnt_all {p : Nat → Bool} {n : Nat} (h : ∀ k, k < n → p k = true) : cnt p n = n := by
  induction n with
  | zero => rfl
  | succ n ih => rw [cnt_yes (h n (by omega)), ih (fun k hk => h k (by omega))]
theorem cnt_none {p : Nat → Bool} {n : Nat} (h : ∀ k, k < n → p k = false) : cnt p n = 0 := by
  induction n with
  | zero => rfl
  | succ n ih => rw [cnt_no (h n (by omega)), ih (fun k hk => h k (by omega))]
theorem cnt_zero {p : Nat → Bool} {n : Nat} (h : cnt p n = 0) : ∀ k, k < n → p k = false := by
  induction n with
  | zero => intro k hk; omega
  | succ n ih =>
    intro k hk
    cases hp : p n
    · rw [cnt_no hp] at h
      rcases Nat.lt_or_ge k n with h1 | h1
      · exact ih h k h1
      · obtain rfl : k = n := by omega
        exact hp
    · rw [cnt_yes hp] at h; omega
theorem cnt_or (p q : Nat → Bool) (n : Nat) : cnt (fun k => p k || q k) n ≤ cnt p n + cnt q n := by
  induction n with
  | zero => simp [cnt]
  | succ n ih =>
    simp only [cnt]
    by_cases hp : p n = true <;> by_cases hq : q n = true <;> simp [hp, hq] <;> omega
theorem cnt_congr {p q : Nat → Bool} {n : Nat} (h : ∀ k, k < n → p k = q k) : cnt p n = cnt q n := by
  induction n with
  | zero => rfl
  | succ n ih => simp only [cnt]; rw [h n (by omega), ih (fun k hk => h k (by omega))]

/-- in how many hours a floor can be called for -/
def hoursTo (rs : List Rt) (op : List Int) (fl : Int) (n : Nat) : Nat := cnt (fun h : Nat => mayB rs op fl (h : Int)) n
/-- the hours of all rights for a floor together, over the first k rights -/
def sumTo (rs : List Rt) (fl : Int) : Nat → Nat
  | 0 => 0
  | k + 1 => sumTo rs fl k + cnt (fun h : Nat => forB fl (h : Int) (rnth rs k)) 24
theorem sumTo_le (rs : List Rt) (fl : Int) (k : Nat) : sumTo rs fl k ≤ 24 * k := by
  induction k with
  | zero => simp [sumTo]
  | succ k ih => simp only [sumTo]; have := cnt_le (fun h : Nat => forB fl (h : Int) (rnth rs k)) 24; omega
theorem any_sum (rs : List Rt) (fl : Int) : ∀ k, k ≤ rs.length → cnt (fun h : Nat => anyB (rs.take k) fl (h : Int)) 24 ≤ sumTo rs fl k ∧ (cnt (fun h : Nat => anyB (rs.take k) fl (h : Int)) 24 = 0 → sumTo rs fl k = 0) := by
  intro k
  induction k with
  | zero =>
    intro _
    have e : cnt (fun h : Nat => anyB (rs.take 0) fl (h : Int)) 24 = 0 := cnt_none (fun _ _ => rfl)
    exact ⟨by rw [e]; exact Nat.zero_le _, fun _ => rfl⟩
  | succ k ih =>
    intro hk
    obtain ⟨h1, h2⟩ := ih (by omega)
    have e : cnt (fun h : Nat => anyB (rs.take (k + 1)) fl (h : Int)) 24 = cnt (fun h : Nat => anyB (rs.take k) fl (h : Int) || forB fl (h : Int) (rnth rs k)) 24 := cnt_congr fun h _ => anyB_snoc rs fl h k (by omega)
    rw [e]
    have h3 := cnt_or (fun h : Nat => anyB (rs.take k) fl (h : Int)) (fun h : Nat => forB fl (h : Int) (rnth rs k)) 24
    refine ⟨by simp only [sumTo]; omega, fun h0 => ?_⟩
    have hz := cnt_zero h0
    have hz1 : cnt (fun h : Nat => anyB (rs.take k) fl (h : Int)) 24 = 0 := cnt_none fun j hj => by have := hz j hj; simp at this; exact this.1
    have hz2 : cnt (fun h : Nat => forB fl (h : Int) (rnth rs k)) 24 = 0 := cnt_none fun j hj => by have := hz j hj; simp at this; exact this.2
    simp only [sumTo]
    rw [h2 hz1, hz2]
theorem inB_hour (h : Nat) (hh : h < 24) : inB (h : Int) 0 23 = true := inB_yes (by omega)
theorem hours_none {rs : List Rt} {op : List Int} {fl : Int} (hh : rightsB rs = false ∨ inB fl 0 7 = false) (n : Nat) : hoursTo rs op fl n = 0 :=
  cnt_none fun k _ => mayB_no (by rcases hh with hh | hh; exact .inl hh; exact .inr (.inl hh))
theorem hours_open {rs : List Rt} {op : List Int} {fl : Int} (h1 : rightsB rs = true) (h2 : inB fl 0 7 = true) (h3 : hasB op fl = true) : hoursTo rs op fl 24 = 24 :=
  cnt_all fun k hk => by rw [mayB_yes h1 h2 (inB_hour k hk), h3]; rfl
theorem hours_sum {rs : List Rt} {op : List Int} {fl : Int} (h1 : rightsB rs = true) (h2 : inB fl 0 7 = true) (h3 : hasB op fl = false) :
    hoursTo rs op fl 24 ≤ sumTo rs fl rs.length ∧ (hoursTo rs op fl 24 = 0 ↔ sumTo rs fl rs.length = 0) := by
  have e : hoursTo rs op fl 24 = cnt (fun h : Nat => anyB (rs.take rs.length) fl (h : Int)) 24 := cnt_congr fun k hk => by
    rw [mayB_yes h1 h2 (inB_hour k hk), h3, List.take_length]; rfl
  obtain ⟨a, b⟩ := any_sum rs fl rs.length (Nat.le_refl _)
  rw [← e] at a b
  exact ⟨a, fun h => b h, fun h => by omega⟩
end Go.Proofs.Ytkelamkbkkcpjaa

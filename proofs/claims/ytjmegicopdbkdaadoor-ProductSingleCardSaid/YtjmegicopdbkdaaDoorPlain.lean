/-
  Plain mathematics, no program in it: sets of numbers from 0 to 63 as whole numbers, their elements; domains (values, and which are left), and what is kept of them.
-/
import Derived.Lib.TrailingZeros
import Derived.Lib.BitFns
namespace Go.Proofs.YtjmegicopdbkdaaDoor
namespace Pl

/-- The set of those k below n for which f says yes. -/
def mkSet (f : Nat → Bool) : Nat → Nat
  | 0 => 0
  | n + 1 => (if f n then 2 ^ n else 0) + mkSet f n

theorem mkSet_lt (f : Nat → Bool) (n : Nat) : mkSet f n < 2 ^ n := by
  induction n with
  | zero => simp [mkSet]
  | succ n ih => simp only [mkSet]; split <;> rw [Nat.pow_succ] <;> omega

theorem testBit_mkSet (f : Nat → Bool) (n k : Nat) : (mkSet f n).testBit k = (decide (k < n) && f k) := by
  induction n with
  | zero => simp [mkSet]
  | succ n ih =>
    simp only [mkSet]
    by_cases hk : k = n
    · subst hk
      split
      · rename_i h
        rw [Nat.testBit_two_pow_add_eq, Nat.testBit_lt_two_pow (mkSet_lt f k)]
        simp [h]
      · rename_i h
        rw [Nat.zero_add, Nat.testBit_lt_two_pow (mkSet_lt f k)]
        simp [h]
    · split
      · rename_i h
        by_cases hlt : k < n
        · rw [Nat.testBit_two_pow_add_gt hlt, ih]
          have : k < n + 1 := by omega
          simp [hlt, this]
        · have h1 : n + 1 ≤ k := by omega
          rw [Nat.testBit_lt_two_pow]
          · have : ¬ k < n + 1 := by omega
            simp [this]
          · have := mkSet_lt f n
            have h2 : 2 ^ (n + 1) ≤ 2 ^ k := Nat.pow_le_pow_right (by decide) h1
            rw [Nat.pow_succ] at h2
            omega
      · rw [Nat.zero_add, ih]
        by_cases hlt : k < n
        · have : k < n + 1 := by omega
          simp [hlt, this]
        · have : ¬ k < n + 1 := by omega
          simp [hlt, this]

theorem mkSet_congr {f g : Nat → Bool} {n : Nat} (h : ∀ k, k < n → f k = g k) : mkSet f n = mkSet g n := by
  apply Nat.eq_of_testBit_eq
  intro i
  rw [testBit_mkSet, testBit_mkSet]
  by_cases hi : i < n
  · simp [hi, h i hi]
  · simp [hi]

theorem mkSet_testBit {b n : Nat} (h : b < 2 ^ n) : mkSet b.testBit n = b := by
  apply Nat.eq_of_testBit_eq
  intro i
  rw [testBit_mkSet]
  by_cases hi : i < n
  · simp [hi]
  · have h2 : 2 ^ n ≤ 2 ^ i := Nat.pow_le_pow_right (by decide) (by omega)
    rw [Nat.testBit_lt_two_pow (by omega)]
    simp [hi]

theorem lt_of_testBit {b n : Nat} (h : ∀ k, n ≤ k → b.testBit k = false) : b < 2 ^ n := by
  have : b = mkSet b.testBit n := by
    apply Nat.eq_of_testBit_eq
    intro i
    rw [testBit_mkSet]
    by_cases hi : i < n
    · simp [hi]
    · rw [h i (by omega)]; simp
  rw [this]
  exact mkSet_lt _ _

/-- All that are less than n, of 0 to 63. -/
def fst (n : Nat) : Nat := mkSet (fun k => decide (k < n)) 64

theorem two_pow_testBit (n k : Nat) : (2 ^ n - 1).testBit k = decide (k < n) := Nat.testBit_two_pow_sub_one n k

theorem fst_small {n : Nat} (h : n ≤ 64) : fst n = 2 ^ n - 1 := by
  apply Nat.eq_of_testBit_eq
  intro i
  rw [fst, testBit_mkSet, two_pow_testBit]
  by_cases hi : i < n
  · have : i < 64 := by omega
    simp [hi, this]
  · simp [hi]
theorem fst_big {n : Nat} (h : 64 ≤ n) : fst n = 2 ^ 64 - 1 := by
  apply Nat.eq_of_testBit_eq
  intro i
  rw [fst, testBit_mkSet, two_pow_testBit]
  by_cases hi : i < 64
  · have : i < n := by omega
    simp [hi, this]
  · simp [hi]
theorem fst_lt (n : Nat) : fst n < 2 ^ 64 := mkSet_lt _ _
theorem testBit_fst (n k : Nat) : (fst n).testBit k = (decide (k < 64) && decide (k < n)) := testBit_mkSet _ _ _

/-- a, less those of b. -/
def less (a b : Nat) : Nat := a &&& (18446744073709551615 - b)
theorem testBit_less {a b k : Nat} (ha : a < 2 ^ 64) (hb : b < 2 ^ 64) : (less a b).testBit k = (a.testBit k && !b.testBit k) := by
  unfold less
  have e : 18446744073709551615 - b = 2 ^ 64 - (b + 1) := by omega
  rw [Nat.testBit_and, e, Nat.testBit_two_pow_sub_succ hb]
  by_cases hk : k < 64
  · simp [hk]
  · have h2 : 2 ^ 64 ≤ 2 ^ k := Nat.pow_le_pow_right (by decide) (by omega)
    rw [Nat.testBit_lt_two_pow (by omega)]
    simp
theorem less_lt {a b : Nat} (ha : a < 2 ^ 64) : less a b < 2 ^ 64 := Nat.lt_of_le_of_lt (Nat.and_le_left) ha
theorem less_eq {a b : Nat} (ha : a < 2 ^ 64) (hb : b < 2 ^ 64) : less a b = mkSet (fun k => a.testBit k && !b.testBit k) 64 := by
  apply Nat.eq_of_testBit_eq
  intro i
  rw [testBit_less ha hb, testBit_mkSet]
  by_cases hi : i < 64
  · simp [hi]
  · have h2 : 2 ^ 64 ≤ 2 ^ i := Nat.pow_le_pow_right (by decide) (by omega)
    rw [Nat.testBit_lt_two_pow (by omega)]
    simp

/-- Nothing of L from n on. -/
theorem less_fst_zero {L n : Nat} (hL : L < 2 ^ 64) (hn : n ≤ 64) : less L (fst n) = 0 ↔ L < 2 ^ n := by
  constructor
  · intro h
    apply lt_of_testBit
    intro k hk
    have := testBit_less (k := k) hL (fst_lt n)
    rw [h, testBit_fst] at this
    by_cases h64 : k < 64
    · have hkn : ¬ k < n := by omega
      simpa [h64, hkn] using this
    · have h2 : 2 ^ 64 ≤ 2 ^ k := Nat.pow_le_pow_right (by decide) (by omega)
      exact Nat.testBit_lt_two_pow (by omega)
  · intro h
    apply Nat.eq_of_testBit_eq
    intro i
    rw [testBit_less hL (fst_lt n), testBit_fst, Nat.zero_testBit]
    by_cases hi : i < n
    · have : i < 64 := by omega
      simp [hi, this]
    · have h2 : 2 ^ n ≤ 2 ^ i := Nat.pow_le_pow_right (by decide) (by omega)
      rw [Nat.testBit_lt_two_pow (by omega)]
      simp

/-! ### The elements -/
/-- Those below n that are in a set, rising. -/
def upto (b n : Nat) : List Nat := (List.range n).filter b.testBit
def elems (b : Nat) : List Nat := upto b 64

theorem upto_succ (b n : Nat) : upto b (n + 1) = upto b n ++ (if b.testBit n then [n] else []) := by
  unfold upto
  rw [List.range_succ, List.filter_append]
  cases h : b.testBit n <;> simp [h]

theorem mem_upto {b n k : Nat} : k ∈ upto b n ↔ k < n ∧ b.testBit k = true := by
  unfold upto
  rw [List.mem_filter, List.mem_range]

theorem mem_elems {b k : Nat} : k ∈ elems b ↔ k < 64 ∧ b.testBit k = true := mem_upto

theorem upto_of_lt {b n m : Nat} (h : b < 2 ^ n) (hm : n ≤ m) : upto b m = upto b n := by
  induction m with
  | zero => have : n = 0 := by omega
            subst this; rfl
  | succ m ih =>
    by_cases he : n = m + 1
    · rw [he]
    · rw [upto_succ, ih (by omega)]
      have h2 : 2 ^ n ≤ 2 ^ m := Nat.pow_le_pow_right (by decide) (by omega)
      rw [Nat.testBit_lt_two_pow (by omega)]
      simp

theorem elems_of_lt {b n : Nat} (h : b < 2 ^ n) (hn : n ≤ 64) : elems b = upto b n := upto_of_lt h hn

theorem sorted_upto (b n : Nat) : (upto b n).Pairwise (· < ·) := by
  unfold upto
  exact List.Pairwise.filter _ (List.pairwise_lt_range)

theorem upto_length_le (b n : Nat) : (upto b n).length ≤ n := by
  unfold upto
  have := List.length_filter_le b.testBit (List.range n)
  simpa using this

theorem elems_length_le (b : Nat) : (elems b).length ≤ 64 := upto_length_le b 64

/-- Two rising lists with the same members are one. -/
theorem sorted_ext : ∀ {l m : List Nat}, l.Pairwise (· < ·) → m.Pairwise (· < ·) → (∀ k, k ∈ l ↔ k ∈ m) → l = m
  | [], [], _, _, _ => rfl
  | [], y :: m, _, _, h => by have := (h y).2 (by simp); simp at this
  | x :: l, [], _, _, h => by have := (h x).1 (by simp); simp at this
  | x :: l, y :: m, hl, hm, h => by
    rw [List.pairwise_cons] at hl hm
    have hxy : x = y := by
      have h1 := (h x).1 (by simp)
      have h2 := (h y).2 (by simp)
      rw [List.mem_cons] at h1 h2
      rcases h1 with h1 | h1
      · exact h1
      · rcases h2 with h2 | h2
        · exact h2.symm
        · have := hl.1 y h2
          have := hm.1 x h1
          omega
    subst hxy
    congr 1
    refine sorted_ext hl.2 hm.2 fun k => ?_
    constructor
    · intro hk
      have := (h k).1 (List.mem_cons_of_mem _ hk)
      rcases List.mem_cons.1 this with h1 | h1
      · have := hl.1 k hk; omega
      · exact h1
    · intro hk
      have := (h k).2 (List.mem_cons_of_mem _ hk)
      rcases List.mem_cons.1 this with h1 | h1
      · have := hm.1 k hk; omega
      · exact h1

theorem elems_zero : elems 0 = [] := by
  unfold elems upto
  rw [List.filter_eq_nil_iff]
  intro k _
  simp

theorem eq_of_elems {a b : Nat} (ha : a < 2 ^ 64) (hb : b < 2 ^ 64) (h : elems a = elems b) : a = b := by
  apply Nat.eq_of_testBit_eq
  intro i
  by_cases hi : i < 64
  · have h1 := @mem_elems a i
    have h2 := @mem_elems b i
    rw [h] at h1
    rw [Bool.eq_iff_iff]
    have := h1.symm.trans h2
    simpa [hi] using this
  · have h2 : 2 ^ 64 ≤ 2 ^ i := Nat.pow_le_pow_right (by decide) (by omega)
    rw [Nat.testBit_lt_two_pow (by omega), Nat.testBit_lt_two_pow (by omega)]

/-! ### The least one is taken off -/
theorem ctz_testBit {b : Nat} (h0 : b ≠ 0) (h : b < 2 ^ 64) : Lib.ctz 64 b < 64 ∧ b.testBit (Lib.ctz 64 b) = true ∧ ∀ j, j < Lib.ctz 64 b → b.testBit j = false := by
  obtain ⟨m, hm, hk⟩ := Lib.ctzFrom_spec 64 b (by omega) h
  have e : Lib.ctz 64 b = Lib.ctzFrom 64 b := by simp [Lib.ctz, h0]
  rw [e]
  generalize Lib.ctzFrom 64 b = t at *
  refine ⟨hk, ?_, fun j hj => ?_⟩
  · rw [hm, Nat.mul_comm, Nat.testBit_mul_two_pow]
    simp [Nat.testBit_zero]
  · rw [hm, Nat.mul_comm, Nat.testBit_mul_two_pow]
    have : ¬ t ≤ j := by omega
    simp [this]

theorem testBit_drop {b : Nat} (h0 : b ≠ 0) (h : b < 2 ^ 64) (j : Nat) : (b &&& (b - 1)).testBit j = (b.testBit j && !decide (j = Lib.ctz 64 b)) := by
  obtain ⟨m, hm, hk⟩ := Lib.ctzFrom_spec 64 b (by omega) h
  have e : Lib.ctz 64 b = Lib.ctzFrom 64 b := by simp [Lib.ctz, h0]
  rw [e]
  generalize Lib.ctzFrom 64 b = t at *
  have hp : 0 < 2 ^ t := Nat.two_pow_pos t
  have e1 : b - 1 = 2 ^ t * (2 * m) + (2 ^ t - 1) := by
    rw [hm, Nat.mul_add, Nat.mul_one]; omega
  rw [Nat.testBit_and, e1, Nat.testBit_two_pow_mul_add (2 * m) (by omega : 2 ^ t - 1 < 2 ^ t)]
  rw [hm, Nat.mul_comm, Nat.testBit_mul_two_pow]
  by_cases hjt : j < t
  · have : ¬ t ≤ j := by omega
    simp [hjt, this]
  · have h1 : t ≤ j := by omega
    simp only [hjt, h1, if_false, decide_true, Bool.true_and]
    by_cases he : j = t
    · subst he; simp
    · obtain ⟨i, hi⟩ : ∃ i, j - t = i + 1 := ⟨j - t - 1, by omega⟩
      rw [hi, Nat.testBit_succ, Nat.testBit_succ]
      have d1 : (2 * m + 1) / 2 = m := by omega
      have d2 : 2 * m / 2 = m := by omega
      rw [d1, d2]
      simp [he]

theorem drop_lt {b : Nat} (h : b < 2 ^ 64) : b &&& (b - 1) < 2 ^ 64 := Nat.lt_of_le_of_lt Nat.and_le_left h

/-- The elements: the least one, and those of what is left. -/
theorem elems_cons {b : Nat} (h0 : b ≠ 0) (h : b < 2 ^ 64) : elems b = Lib.ctz 64 b :: elems (b &&& (b - 1)) := by
  obtain ⟨h1, h2, h3⟩ := ctz_testBit h0 h
  refine sorted_ext (sorted_upto _ _) ?_ fun k => ?_
  · rw [List.pairwise_cons]
    refine ⟨fun k hk => ?_, sorted_upto _ _⟩
    have := (mem_elems.1 hk).2
    rw [testBit_drop h0 h, Bool.and_eq_true] at this
    by_cases hlt : k < Lib.ctz 64 b
    · rw [h3 k hlt] at this; simp at this
    · have : k ≠ Lib.ctz 64 b := by simpa using this.2
      omega
  · rw [mem_elems, List.mem_cons, mem_elems, testBit_drop h0 h]
    constructor
    · rintro ⟨a, b'⟩
      by_cases he : k = Lib.ctz 64 b
      · exact .inl he
      · exact .inr ⟨a, by simp [he, b']⟩
    · rintro (rfl | ⟨a, b'⟩)
      · exact ⟨h1, h2⟩
      · rw [Bool.and_eq_true] at b'
        exact ⟨a, b'.1⟩


/-- The elements, as whole numbers. -/
def elemsI (b : Nat) : List Int := (elems b).map Int.ofNat
theorem elemsI_zero : elemsI 0 = [] := by unfold elemsI; rw [elems_zero]; rfl
theorem elemsI_cons {b : Nat} (h0 : b ≠ 0) (h : b < 2 ^ 64) : elemsI b = ((Lib.ctz 64 b : Nat) : Int) :: elemsI (b &&& (b - 1)) := by
  unfold elemsI; rw [elems_cons h0 h]; rfl
theorem elemsI_length_le (b : Nat) : (elemsI b).length ≤ 64 := by unfold elemsI; rw [List.length_map]; exact elems_length_le b

/-! ### Domains -/
/-- Is the value at place i right, behind the one ahead of it? -/
def okAt (xs : List Int) (i : Nat) : Bool := decide (-1048576 ≤ xs.getD i 0) && decide (xs.getD i 0 ≤ 1048576) && (decide (i = 0) || decide (xs.getD (i - 1) 0 < xs.getD i 0))
def okUpto (xs : List Int) (n : Nat) : Bool := (List.range n).all (okAt xs)
theorem okUpto_succ (xs : List Int) (n : Nat) : okUpto xs (n + 1) = (okUpto xs n && okAt xs n) := by
  unfold okUpto
  rw [List.range_succ, List.all_append]
  simp
theorem okUpto_mono {xs : List Int} {m n : Nat} (h : okUpto xs n = true) (hm : m ≤ n) : okUpto xs m = true := by
  unfold okUpto at *
  rw [List.all_eq_true] at *
  intro i hi
  exact h i (List.mem_range.2 (Nat.lt_of_lt_of_le (List.mem_range.1 hi) hm))
theorem okUpto_bad {xs : List Int} {m n : Nat} (h : okAt xs m = false) (hm : m < n) : okUpto xs n = false := by
  cases e : okUpto xs n with
  | false => rfl
  | true =>
    have := okUpto_mono e (show m + 1 ≤ n from hm)
    rw [okUpto_succ, h] at this
    simp at this
/-- May a domain be? -/
def mayB (xs : List Int) (L : Nat) : Bool := decide (xs.length ≤ 64) && decide (L < 2 ^ xs.length) && okUpto xs xs.length

/-- The values that are left. -/
def valsOf (xs : List Int) (L : Nat) : List Int := (elemsI L).map fun k => xs.getD k.toNat 0
/-- .., of a domain that may be; else none. -/
def listB (xs : List Int) (L : Nat) : List Int := if mayB xs L = true then valsOf xs L else []
theorem valsOf_length (xs : List Int) (L : Nat) : (valsOf xs L).length = (elemsI L).length := by simp [valsOf]
theorem mayB_len {xs : List Int} {L : Nat} (h : mayB xs L = true) : xs.length ≤ 64 := by simp [mayB] at h; exact h.1.1
theorem mayB_lt {xs : List Int} {L : Nat} (h : mayB xs L = true) : L < 2 ^ xs.length := by simp [mayB] at h; exact h.1.2
theorem mayB_ok {xs : List Int} {L : Nat} (h : mayB xs L = true) : okUpto xs xs.length = true := by simp [mayB] at h; exact h.2
theorem mem_elemsI {b : Nat} {x : Int} : x ∈ elemsI b ↔ ∃ k : Nat, x = k ∧ k < 64 ∧ b.testBit k = true := by
  unfold elemsI
  rw [List.mem_map]
  constructor
  · rintro ⟨k, hk, rfl⟩
    exact ⟨k, rfl, mem_elems.1 hk⟩
  · rintro ⟨k, rfl, hk⟩
    exact ⟨k, mem_elems.2 hk, rfl⟩
/-- A place that is left is a place. -/
theorem elemsI_lt {xs : List Int} {L : Nat} (h : mayB xs L = true) {x : Int} (hx : x ∈ elemsI L) : 0 ≤ x ∧ x < xs.length := by
  obtain ⟨k, rfl, _, hb⟩ := mem_elemsI.1 hx
  refine ⟨by omega, ?_⟩
  by_cases hk : k < xs.length
  · omega
  · have h1 := mayB_lt h
    have h2 : 2 ^ xs.length ≤ 2 ^ k := Nat.pow_le_pow_right (by decide) (by omega)
    rw [Nat.testBit_lt_two_pow (by omega)] at hb
    simp at hb
theorem okUpto_at {xs : List Int} {n k : Nat} (h : okUpto xs n = true) (hk : k < n) : okAt xs k = true := by
  unfold okUpto at h
  rw [List.all_eq_true] at h
  exact h k (List.mem_range.2 hk)
theorem okAt_rng {xs : List Int} {k : Nat} (h : okAt xs k = true) : -1048576 ≤ xs.getD k 0 ∧ xs.getD k 0 ≤ 1048576 := by
  unfold okAt at h
  simp only [Bool.and_eq_true, decide_eq_true_eq] at h
  exact h.1
theorem valsOf_rng {xs : List Int} {L : Nat} (h : mayB xs L = true) : ∀ v ∈ valsOf xs L, -1048576 ≤ v ∧ v ≤ 1048576 := by
  intro v hv
  unfold valsOf at hv
  rw [List.mem_map] at hv
  obtain ⟨x, hx, rfl⟩ := hv
  have := elemsI_lt h hx
  exact okAt_rng (okUpto_at (mayB_ok h) (by omega))
theorem listB_rng (xs : List Int) (L : Nat) : ∀ v ∈ listB xs L, -1048576 ≤ v ∧ v ≤ 1048576 := by
  intro v hv
  unfold listB at hv
  split at hv
  · exact valsOf_rng (by assumption) v hv
  · simp at hv
theorem listB_length (xs : List Int) (L : Nat) : (listB xs L).length ≤ 64 := by
  unfold listB
  split
  · rw [valsOf_length]; exact elemsI_length_le L
  · simp

end Pl
end Go.Proofs.YtjmegicopdbkdaaDoor

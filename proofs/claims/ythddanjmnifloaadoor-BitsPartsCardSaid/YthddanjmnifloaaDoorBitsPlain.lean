/-
  Plain laws of the bits. No program in it.
-/
import Derived.Test.YthddanjmnifloaaDoorArr
set_option maxHeartbeats 1000000
set_option maxRecDepth 10000
namespace Go.Proofs.YthddanjmnifloaaDoor
open Go Go.RowKit Pl

theorem elemsI_length (b : Nat) : (elemsI b).length = (elems b).length := by simp [elemsI]
theorem lo_ne {b : Nat} (h : b ≠ 0) : lo b = (Lib.ctz 64 b : Nat) := if_neg h
theorem elemsI_head {b : Nat} (hb : b < 2 ^ 64) (h0 : b ≠ 0) : (elemsI b).getD 0 0 = lo b := by
  rw [elemsI_cons h0 hb, lo_ne h0]; rfl
theorem elemsI_nil_iff {b : Nat} (hb : b < 2 ^ 64) : (elemsI b).length = 0 ↔ b = 0 := by
  constructor
  · intro h
    by_cases h0 : b = 0
    · exact h0
    · rw [elemsI_cons h0 hb] at h; simp at h
  · rintro rfl; rw [elemsI_zero]; rfl

theorem bitLenAux_spec : ∀ (f x : Nat), x < 2 ^ f → x ≠ 0 → 0 < Lib.bitLenAux f x ∧ x.testBit (Lib.bitLenAux f x - 1) = true ∧ x < 2 ^ (Lib.bitLenAux f x)
  | 0, x, h, h0 => by simp at h; omega
  | f + 1, x, h, h0 => by
    by_cases h1 : x / 2 = 0
    · have hx : x = 1 := by omega
      subst hx
      have : Lib.bitLenAux f 0 = 0 := by cases f <;> simp [Lib.bitLenAux]
      simp [Lib.bitLenAux, this]
    · have hp : 2 ^ (f + 1) = 2 * 2 ^ f := by rw [Nat.pow_succ]; omega
      obtain ⟨ha, hb, hc⟩ := bitLenAux_spec f (x / 2) (by omega) h1
      have e : Lib.bitLenAux (f + 1) x = 1 + Lib.bitLenAux f (x / 2) := by simp [Lib.bitLenAux, h0]
      rw [e]
      refine ⟨by omega, ?_, ?_⟩
      · have e2 : 1 + Lib.bitLenAux f (x / 2) - 1 = (Lib.bitLenAux f (x / 2) - 1) + 1 := by omega
        rw [e2, Nat.testBit_succ]
        exact hb
      · rw [Nat.add_comm, Nat.pow_succ]
        omega
theorem elems_last {b : Nat} (hb : b < 2 ^ 64) (h0 : b ≠ 0) : ∃ l, elems b = l ++ [Lib.bitLen b - 1] := by
  obtain ⟨h1, h2, h3⟩ := bitLenAux_spec 64 b hb h0
  have hn := bitLen_le b
  have e : Lib.bitLen b = Lib.bitLenAux 64 b := rfl
  rw [← e] at h1 h2 h3
  refine ⟨upto b (Lib.bitLen b - 1), ?_⟩
  rw [elems_of_lt h3 hn]
  have e2 : Lib.bitLen b = (Lib.bitLen b - 1) + 1 := by omega
  conv => lhs; rw [e2]
  rw [upto_succ, h2]
  rfl
theorem elemsI_last {b : Nat} (hb : b < 2 ^ 64) (h0 : b ≠ 0) : (elemsI b).getD ((elemsI b).length - 1) 0 = (Lib.bitLen b : Int) - 1 := by
  obtain ⟨h1, _, _⟩ := bitLenAux_spec 64 b hb h0
  have e : Lib.bitLen b = Lib.bitLenAux 64 b := rfl
  obtain ⟨l, hl⟩ := elems_last hb h0
  have e2 : elemsI b = l.map Int.ofNat ++ [((Lib.bitLen b - 1 : Nat) : Int)] := by unfold elemsI; rw [hl]; simp
  rw [e2]
  simp [List.getD_eq_getElem?_getD]
  omega
theorem bitLen_zero : (Lib.bitLen 0 : Int) - 1 = -1 := by decide
theorem lo_zero : lo 0 = -1 := rfl

/-- The least of a list of numbers from a number on, by what it is. -/
theorem from_map_upto (b : Nat) (n : Int) (m : Nat) : from? ((upto b m).map Int.ofNat) n = from? (((upto b m).filter fun k : Nat => decide (n ≤ (k : Int))).map Int.ofNat) n := by
  generalize upto b m = l
  induction l with
  | nil => rfl
  | cons x l ih =>
    rw [List.filter_cons]
    by_cases h : n ≤ (x : Int)
    · simp [from?, h]
    · simp [from?, h]
      simpa using ih
theorem from_head {l : List Int} {n : Int} (h : ∀ x ∈ l, n ≤ x) : from? l n = l.headD (-1) := by
  cases l with
  | nil => rfl
  | cons x l => simp [from?, h x (by simp)]
theorem elems_less (b n : Nat) (hb : b < 2 ^ 64) : elems (less b (fst n)) = (elems b).filter fun k => decide (n ≤ k) := by
  refine sorted_ext (sorted_upto _ _) (List.Pairwise.filter _ (sorted_upto _ _)) fun k => ?_
  rw [List.mem_filter, mem_elems, mem_elems, testBit_less hb (fst_lt n), testBit_fst]
  simp
  constructor
  · rintro ⟨h1, h2, h3⟩; exact ⟨⟨h1, h2⟩, by omega⟩
  · rintro ⟨⟨h1, h2⟩, h3⟩; exact ⟨h1, h2, by omega⟩
theorem lo_headD {b : Nat} (hb : b < 2 ^ 64) : (elemsI b).headD (-1) = lo b := by
  by_cases h0 : b = 0
  · subst h0; rw [elemsI_zero]; rfl
  · rw [elemsI_cons h0 hb, lo_ne h0]; rfl
theorem next_eq (b : Nat) (n : Int) (hb : b < 2 ^ 64) : from? (elemsI b) n = lo (less b (fst n.toNat)) := by
  rw [← lo_headD (less_lt hb)]
  unfold elemsI
  rw [elems_less b n.toNat hb]
  unfold elems
  rw [from_map_upto]
  have e : ((upto b 64).filter fun k : Nat => decide (n ≤ (k : Int))) = (upto b 64).filter fun k : Nat => decide (n.toNat ≤ k) := by
    congr 1
    funext k
    rw [Bool.eq_iff_iff]
    simp
  rw [e]
  refine from_head fun x hx => ?_
  rw [List.mem_map] at hx
  obtain ⟨k, hk, rfl⟩ := hx
  rw [List.mem_filter] at hk
  have := hk.2
  simp at this
  simp
  omega
theorem first_eq {low : Int} (_h : 0 < low) : fst low.toNat = btw 0 (low - 1) := by
  unfold fst btw
  refine mkSet_congr fun k hk => ?_
  rw [Bool.eq_iff_iff]
  simp
  omega
theorem first_zero {low : Int} (h : ¬ 0 < low) : fst low.toNat = 0 := by
  have : low.toNat = 0 := by omega
  rw [this]; rfl

/-! BitsBack -/
theorem ofL_elemsI {b : Nat} (hb : b < 2 ^ 64) : ofL (elemsI b) = b := by
  rw [← mkSet_testBit hb, ofL]
  refine mkSet_congr fun k hk => ?_
  rw [mkSet_testBit hb, Bool.eq_iff_iff]
  simp only [List.contains_iff_mem]
  rw [mem_elemsI]
  constructor
  · rintro ⟨j, h1, _, h2⟩
    have : k = j := by omega
    rwa [this]
  · intro h; exact ⟨k, rfl, hk, h⟩
theorem sorted_elemsI (b : Nat) : (elemsI b).Pairwise (· < ·) := by
  unfold elemsI
  rw [List.pairwise_map]
  exact List.Pairwise.imp (fun h => by simpa using h) (sorted_upto b 64)
/-- Where Next stands behind k of the list. -/
def atB (l : List Int) (k : Nat) : Int := if k = 0 then 0 else l.getD (k - 1) 0 + 1
theorem from_at {l : List Int} (hs : l.Pairwise (· < ·)) (h0 : ∀ x ∈ l, 0 ≤ x) {k : Nat} (hk : k < l.length) : from? l (atB l k) = l.getD k 0 ∧ atB l k ≤ l.getD k 0 := by
  have hg : ∀ j, j < l.length → l.getD j 0 = l[j]?.getD 0 := fun j _ => List.getD_eq_getElem?_getD
  have hlt : ∀ i j, i < j → j < l.length → l.getD i 0 < l.getD j 0 := fun i j hij hj => by
    have := List.pairwise_iff_getElem.1 hs i j (by omega) hj hij
    rw [List.getD_eq_getElem?_getD, List.getD_eq_getElem?_getD, List.getElem?_eq_getElem (by omega), List.getElem?_eq_getElem hj]
    simpa using this
  have ha : atB l k ≤ l.getD k 0 := by
    unfold atB
    split
    · rw [List.getD_eq_getElem?_getD, List.getElem?_eq_getElem hk]
      exact h0 _ (List.getElem_mem hk)
    · have := hlt (k - 1) k (by omega) hk
      omega
  refine ⟨?_, ha⟩
  have hb : ∀ j, j ≤ k → from? l (atB l k) = from? (l.drop j) (atB l k) := fun j => by
    induction j with
    | zero => intro _; rfl
    | succ j ih =>
      intro hj
      rw [ih (by omega), from_drop (by omega) rfl, if_neg]
      have h1 : l.getD j 0 ≤ l.getD (k - 1) 0 := by
        by_cases e : j = k - 1
        · rw [e]; exact Int.le_refl _
        · exact Int.le_of_lt (hlt j (k - 1) (by omega) (by omega))
      unfold atB
      rw [if_neg (by omega)]
      omega
  rw [hb k (Nat.le_refl _), from_drop hk rfl, if_pos ha]
theorem from_end {l : List Int} (hs : l.Pairwise (· < ·)) (_h0 : ∀ x ∈ l, 0 ≤ x) : from? l (atB l l.length) = -1 := by
  have hlt : ∀ i j, i < j → j < l.length → l.getD i 0 < l.getD j 0 := fun i j hij hj => by
    have := List.pairwise_iff_getElem.1 hs i j (by omega) hj hij
    rw [List.getD_eq_getElem?_getD, List.getD_eq_getElem?_getD, List.getElem?_eq_getElem (by omega), List.getElem?_eq_getElem hj]
    simpa using this
  have hb : ∀ j, j ≤ l.length → from? l (atB l l.length) = from? (l.drop j) (atB l l.length) := fun j => by
    induction j with
    | zero => intro _; rfl
    | succ j ih =>
      intro hj
      rw [ih (by omega), from_drop (by omega) rfl, if_neg]
      have h1 : l.getD j 0 ≤ l.getD (l.length - 1) 0 := by
        by_cases e : j = l.length - 1
        · rw [e]; exact Int.le_refl _
        · exact Int.le_of_lt (hlt j (l.length - 1) (by omega) (by omega))
      unfold atB
      rw [if_neg (by omega)]
      omega
  rw [hb l.length (Nat.le_refl _), List.drop_length]
  rfl

/-! BitsParts -/
theorem upto_len_succ (b n : Nat) : (upto b (n + 1)).length = (upto b n).length + (if b.testBit n then 1 else 0) := by
  rw [upto_succ]
  split <;> simp
theorem count_or (a b : Nat) : (elems (a ||| b)).length + (elems (a &&& b)).length = (elems a).length + (elems b).length := by
  unfold elems
  generalize 64 = n
  induction n with
  | zero => rfl
  | succ n ih =>
    rw [upto_len_succ, upto_len_succ, upto_len_succ, upto_len_succ, Nat.testBit_or, Nat.testBit_and]
    cases a.testBit n <;> cases b.testBit n <;> simp <;> omega
theorem count_not {a : Nat} (ha : a < 2 ^ 64) : (elems (18446744073709551615 - a)).length + (elems a).length = 64 := by
  have e : 18446744073709551615 - a = 2 ^ 64 - (a + 1) := by omega
  rw [e]
  have key : ∀ n, n ≤ 64 → (upto (2 ^ 64 - (a + 1)) n).length + (upto a n).length = n := fun n => by
    induction n with
    | zero => intro _; rfl
    | succ n ih =>
      intro hn
      rw [upto_len_succ, upto_len_succ, Nat.testBit_two_pow_sub_succ ha]
      have h := ih (by omega)
      have hd : decide (n < 64) = true := by simp; omega
      rw [hd]
      generalize (upto (2 ^ 64 - (a + 1)) n).length = p at *
      generalize (upto a n).length = q at *
      cases a.testBit n <;> simp <;> omega
  exact key 64 (Nat.le_refl _)
theorem btw_big {low high : Int} (h : 64 ≤ high) : btw low high = less (fst 64) (fst low.toNat) := by
  rw [less_fst_fst]
  refine mkSet_congr fun k hk => ?_
  rw [Bool.eq_iff_iff]
  simp
  omega
theorem btw_neg {low high : Int} (h : high < 0) : btw low high = less 0 (fst low.toNat) := by
  apply Nat.eq_of_testBit_eq
  intro i
  rw [btw, testBit_mkSet, testBit_less (by decide) (fst_lt _), Nat.zero_testBit]
  have : ¬ (i : Int) ≤ high := by omega
  simp [this]
theorem btw_mid {low high : Int} (_h : 0 ≤ high) (_h2 : high < 64) : btw low high = less (fst (high + 1).toNat) (fst low.toNat) := by
  rw [less_fst_fst]
  refine mkSet_congr fun k hk => ?_
  rw [Bool.eq_iff_iff]
  simp
  omega
end Go.Proofs.YthddanjmnifloaaDoor

/-
  Contracts and plain laws that the card rests on, part 11.
-/
import Derived.Test.YtjmegicopdbkdaaDoorJ10
import Derived.Test.YtjmegicopdbkdaaDoorJ2
import Derived.Test.YtjmegicopdbkdaaDoorJ3
import Derived.Test.YtjmegicopdbkdaaDoorJ5
import Derived.Test.YtjmegicopdbkdaaDoorJ4
import Derived.Deep.RegionHeld3
import Derived.Test.YtjmegicopdbkdaaDoorJ9
set_option maxHeartbeats 1000000
set_option maxRecDepth 10000
namespace Go.Proofs.YtjmegicopdbkdaaDoor
open Go Go.RowKit Pl

/-- What is left of a constraint's variable. -/
def leftOf (C : ConB) (ds : List DomB) (i : Nat) : List Int := listB (ds.getD (C.vars.getD i 0).toNat nilD).1 (ds.getD (C.vars.getD i 0).toNat nilD).2

/-- Are there values of the other two? -/
def pG0 (Y Z : List Int) (v : Int) : Bool := Y.any fun b => Z.contains (v * b)
def pG1 (X Z : List Int) (v : Int) : Bool := X.any fun a => Z.contains (a * v)
def pG2 (X Y : List Int) (v : Int) : Bool := X.any fun a => Y.any fun b => a * b == v
/-- The same, of whole lists. -/
def prodL (X Y Z : List Int) (i : Nat) (v : Int) : Bool :=
  if i = 0 then X.contains v && pG0 Y Z v else if i = 1 then Y.contains v && pG1 X Z v else Z.contains v && pG2 X Y v
def prodG (C : ConB) (ds : List DomB) (i : Nat) (v : Int) : Bool := prodL (leftOf C ds 0) (leftOf C ds 1) (leftOf C ds 2) i v

theorem prodL_iff {X Y Z : List Int} {i : Nat} {v : Int} (hi : i < 3) : prodL X Y Z i v = true ↔ ∃ a b c, a ∈ X ∧ b ∈ Y ∧ c ∈ Z ∧ a * b = c ∧ (if i = 0 then a else if i = 1 then b else c) = v := by
  unfold prodL
  have h3 : i = 0 ∨ i = 1 ∨ i = 2 := by omega
  rcases h3 with rfl | rfl | rfl
  · unfold pG0
    simp only [if_true, Bool.and_eq_true, List.contains_iff_mem, List.any_eq_true]
    constructor
    · rintro ⟨hx, b, hb, hz⟩; exact ⟨v, b, _, hx, hb, hz, rfl, rfl⟩
    · rintro ⟨a, b, c, hx, hb, hz, rfl, rfl⟩; exact ⟨hx, b, hb, hz⟩
  · unfold pG1
    simp only [if_true, if_false, Bool.and_eq_true, List.contains_iff_mem, List.any_eq_true, show ¬ (1 : Nat) = 0 by omega]
    constructor
    · rintro ⟨hy, a, ha, hz⟩; exact ⟨a, v, _, ha, hy, hz, rfl, rfl⟩
    · rintro ⟨a, b, c, ha, hb, hz, rfl, rfl⟩; exact ⟨hb, a, ha, hz⟩
  · unfold pG2
    simp only [if_false, Bool.and_eq_true, List.contains_iff_mem, List.any_eq_true, show ¬ (2 : Nat) = 0 by omega, show ¬ (2 : Nat) = 1 by omega, beq_iff_eq]
    constructor
    · rintro ⟨hz, a, ha, b, hb, e⟩; exact ⟨a, b, v, ha, hb, hz, e, rfl⟩
    · rintro ⟨a, b, c, ha, hb, hz, e, rfl⟩; exact ⟨hz, a, ha, b, hb, e⟩

def prodGo (C : ConB) (ds : List DomB) : Bool := goK 2 C ds
def prodKp (C : ConB) (ds : List DomB) : Nat → Int → Bool := varsKp C.vars (prodG C ds) C.vars.length
theorem prodGo_parts {C : ConB} {ds : List DomB} (h : prodGo C ds = true) : C.kind = 2 ∧ rightB C ds.length = true ∧ allMay ds = true := goK_parts h
theorem prodGo_not {C : ConB} {ds : List DomB} (h : ¬ C.kind = 2) : prodGo C ds = false := goK_not h
theorem prodGo_of {C : ConB} {ds : List DomB} (hk : C.kind = 2) (hr : rightB C ds.length = true) (hm : allMay ds = true) : prodGo C ds = true := goK_of hk hr hm
theorem prod_go_less {C : ConB} {vs us : List DomB} (h : Fewer vs us) (hg : prodGo C us = true) : prodGo C vs = true := goK_less h hg

theorem product_parts {C : ConB} {V : Int} (hk : C.kind = 2) (h : rightB C V = true) : C.vars.length = 3 := by
  unfold rightB at h
  simp only [hk] at h
  unfold plainR at h
  simp only [hk] at h
  simp at h
  exact h.2.2.1

theorem prod_falls {C : ConB} {vs us : List DomB} (h : Fewer vs us) (hg : prodGo C us = true) : withinL (stepB (prodKp C vs) vs) (stepB (prodKp C us) us) = true := by
  obtain ⟨hk2, h2, hm⟩ := prodGo_parts hg
  have h3 := product_parts hk2 h2
  have hsub : ∀ i, i < 3 → ∀ x ∈ leftOf C vs i, x ∈ leftOf C us i := fun i hi x hx => fewer_at h (rightB_vars h2) hm (by omega) hx
  refine step_falls h hm fun i hi v hv hk => varsKp_mono (fun k hk _ hgk => ?_) hk
  obtain ⟨a, b, c, ha, hb, hc, e, e2⟩ := (prodL_iff (by omega)).1 hgk
  exact (prodL_iff (by omega)).2 ⟨a, b, c, hsub 0 (by omega) a ha, hsub 1 (by omega) b hb, hsub 2 (by omega) c hc, e, e2⟩

/-- Does a product hold? -/
def holdsP (C : ConB) (row : List Int) : Bool := (rowVals C row).getD 0 0 * (rowVals C row).getD 1 0 == (rowVals C row).getD 2 0
theorem holdsP_iff {C : ConB} {row : List Int} (h : C.vars.length = 3) : holdsP C row = true ↔ row.getD (C.vars.getD 0 0).toNat 0 * row.getD (C.vars.getD 1 0).toNat 0 = row.getD (C.vars.getD 2 0).toNat 0 := by
  unfold holdsP
  rw [rowVals_getD C row (by omega), rowVals_getD C row (by omega), rowVals_getD C row (by omega), beq_iff_eq]

theorem prod_sound {C : ConB} {ds : List DomB} {row : List Int} (hg : prodGo C ds = true) (hl : leftL row ds = true) (hh : holdsP C row = true) : leftL row (stepB (prodKp C ds) ds) = true := by
  obtain ⟨hk2, h2, hm⟩ := prodGo_parts hg
  have h3 := product_parts hk2 h2
  have hv := rightB_vars h2
  have he := (holdsP_iff h3).1 hh
  refine step_sound hm hl fun i hi => varsKp_iff.2 fun k hk e => (prodL_iff (by omega)).2 ⟨_, _, _, left_at hv hl (show 0 < C.vars.length by omega), left_at hv hl (show 1 < C.vars.length by omega), left_at hv hl (show 2 < C.vars.length by omega), he, ?_⟩
  rw [← e]
  have : k = 0 ∨ k = 1 ∨ k = 2 := by omega
  rcases this with rfl | rfl | rfl <;> rfl

theorem prod_single {C : ConB} {row : List Int} (hr : withinB row 1048576 = true) (hk2 : C.kind = 2) (hB : rightB C row.length = true) : allLive C.vars (stepB (prodKp C (singles row)) (singles row)) C.vars.length = holdsP C row := by
  have hv := rightB_vars hB
  have h3 := product_parts hk2 hB
  have hs : ∀ i, i < 3 → leftOf C (singles row) i = [row.getD (C.vars.getD i 0).toNat 0] := fun i hi => singles_at hv hr (by omega)
  have hg : ∀ k v, k < 3 → (prodG C (singles row) k v = true ↔ row.getD (C.vars.getD 0 0).toNat 0 * row.getD (C.vars.getD 1 0).toNat 0 = row.getD (C.vars.getD 2 0).toNat 0 ∧ row.getD (C.vars.getD k 0).toNat 0 = v) := fun k v hk => by
    unfold prodG
    rw [prodL_iff hk, hs 0 (by omega), hs 1 (by omega), hs 2 (by omega)]
    simp only [List.mem_singleton]
    have h4 : k = 0 ∨ k = 1 ∨ k = 2 := by omega
    constructor
    · rintro ⟨a, b, c, rfl, rfl, rfl, e, e2⟩
      refine ⟨e, ?_⟩
      rw [← e2]
      rcases h4 with rfl | rfl | rfl <;> rfl
    · rintro ⟨e, e2⟩
      refine ⟨_, _, _, rfl, rfl, rfl, e, ?_⟩
      rw [← e2]
      rcases h4 with rfl | rfl | rfl <;> rfl
  unfold prodKp
  rw [Bool.eq_iff_iff, allLive_varsKp hv, holdsP_iff h3]
  constructor
  · intro h
    exact ((hg 0 _ (by omega)).1 (h 0 (by omega) 0 (by omega) rfl)).1
  · intro h i hi k hk e
    exact (hg k _ (by omega)).2 ⟨h, by rw [e]⟩
end Go.Proofs.YtjmegicopdbkdaaDoor

namespace Go.Proofs.YtjmegicopdbkdaaDoor
namespace Pl
theorem okUpto_lt {xs : List Int} {n : Nat} (h : okUpto xs n = true) {i j : Nat} (hij : i < j) (hj : j < n) : xs.getD i 0 < xs.getD j 0 := by
  induction j with
  | zero => omega
  | succ j ih =>
    have h1 := okUpto_at h hj
    unfold okAt at h1
    simp only [Bool.and_eq_true, Bool.or_eq_true, decide_eq_true_eq] at h1
    have h2 : xs.getD j 0 < xs.getD (j + 1) 0 := by
      rcases h1.2 with h3 | h3
      · omega
      · exact h3
    by_cases e : i = j
    · subst e; exact h2
    · have := ih (by omega) (by omega)
      omega
theorem listB_sorted (xs : List Int) (L : Nat) : (listB xs L).Pairwise (· < ·) := by
  unfold listB
  split
  · rename_i h
    unfold valsOf elemsI
    rw [List.map_map, List.pairwise_map]
    have hs := sorted_upto L 64
    refine List.Pairwise.imp_of_mem (fun {a b} ha hb hab => ?_) hs
    have hb2 := (mem_upto.1 hb).2
    have := (may_bit (d := (xs, L)) h hb2).1
    exact okUpto_lt (mayB_ok h) hab this
  · exact List.Pairwise.nil
theorem listB_nodup (xs : List Int) (L : Nat) : (listB xs L).Nodup := by
  refine List.Pairwise.imp (fun {a b} h => ?_) (listB_sorted xs L)
  omega
end Pl
end Go.Proofs.YtjmegicopdbkdaaDoor

set_option maxHeartbeats 1000000
set_option maxRecDepth 10000
namespace Go.Proofs.YtjmegicopdbkdaaDoor
open Go Go.RowKit Pl

/-- A value is put to a list that has each once. -/
def addB (acc : List Int) (v : Int) : List Int := if acc.contains v then acc else acc ++ [v]
def addAll (acc l : List Int) : List Int := l.foldl addB acc
/-- All values of the first variables, each once. -/
def allU (C : ConB) (ds : List DomB) (j : Nat) : List Int := (List.range j).foldl (fun acc i => addAll acc (leftOf C ds i)) []
theorem addAll_snoc (acc l : List Int) (v : Int) : addAll acc (l ++ [v]) = addB (addAll acc l) v := by unfold addAll; rw [List.foldl_append]; rfl
theorem addAll_nil (acc : List Int) : addAll acc [] = acc := rfl
theorem allU_zero (C : ConB) (ds : List DomB) : allU C ds 0 = [] := rfl
theorem allU_succ (C : ConB) (ds : List DomB) (j : Nat) : allU C ds (j + 1) = addAll (allU C ds j) (leftOf C ds j) := by unfold allU; rw [List.range_succ, List.foldl_append]; rfl
theorem mem_addB {acc : List Int} {v x : Int} : x ∈ addB acc v ↔ x ∈ acc ∨ x = v := by
  unfold addB
  split
  · rename_i h
    rw [List.contains_iff_mem] at h
    constructor
    · exact .inl
    · rintro (h2 | rfl)
      · exact h2
      · exact h
  · rw [List.mem_append, List.mem_singleton]
theorem nodup_addB {acc : List Int} {v : Int} (h : acc.Nodup) : (addB acc v).Nodup := by
  unfold addB
  split
  · exact h
  · rename_i h2
    rw [List.contains_iff_mem] at h2
    rw [List.nodup_append]
    refine ⟨h, by simp, fun a ha b hb e => ?_⟩
    rw [List.mem_singleton] at hb
    subst hb
    exact h2 (e ▸ ha)
theorem mem_addAll {l : List Int} : ∀ {acc : List Int} {x : Int}, x ∈ addAll acc l ↔ x ∈ acc ∨ x ∈ l := by
  induction l with
  | nil => intro acc x; simp [addAll]
  | cons v l ih =>
    intro acc x
    have : addAll acc (v :: l) = addAll (addB acc v) l := rfl
    rw [this, ih, mem_addB, List.mem_cons, or_assoc]
theorem nodup_addAll {l : List Int} : ∀ {acc : List Int}, acc.Nodup → (addAll acc l).Nodup := by
  induction l with
  | nil => intro acc h; exact h
  | cons v l ih => intro acc h; exact ih (nodup_addB h)
theorem mem_allU {C : ConB} {ds : List DomB} {j : Nat} {x : Int} : x ∈ allU C ds j ↔ ∃ i, i < j ∧ x ∈ leftOf C ds i := by
  induction j with
  | zero => rw [allU_zero]; simp
  | succ j ih =>
    rw [allU_succ, mem_addAll, ih]
    constructor
    · rintro (⟨i, hi, hx⟩ | hx)
      · exact ⟨i, by omega, hx⟩
      · exact ⟨j, by omega, hx⟩
    · rintro ⟨i, hi, hx⟩
      by_cases e : i = j
      · subst e; exact .inr hx
      · exact .inl ⟨i, by omega, hx⟩
theorem nodup_allU (C : ConB) (ds : List DomB) (j : Nat) : (allU C ds j).Nodup := by
  induction j with
  | zero => rw [allU_zero]; exact List.nodup_nil
  | succ j ih => rw [allU_succ]; exact nodup_addAll ih
theorem nodup_len : ∀ {l m : List Int}, l.Nodup → (∀ x ∈ l, x ∈ m) → l.length ≤ m.length := by
  intro l
  induction l with
  | nil => intro m _ _; simp
  | cons a l ih =>
    intro m hn hs
    rw [List.nodup_cons] at hn
    have ha : a ∈ m := hs a (by simp)
    have h1 := ih (m := m.erase a) hn.2 (fun x hx => by
      have hne : x ≠ a := fun e => hn.1 (e ▸ hx)
      exact (List.mem_erase_of_ne hne).2 (hs x (by simp [hx])))
    rw [List.length_erase_of_mem ha] at h1
    have : 0 < m.length := List.length_pos_of_mem ha
    simp only [List.length_cons]
    omega

/-- Is nothing left of one of the variables? -/
def wipedB (C : ConB) (ds : List DomB) (j : Nat) : Bool := (List.range j).any fun i => decide ((leftOf C ds i).length = 0)
theorem wipedB_iff {C : ConB} {ds : List DomB} {j : Nat} : wipedB C ds j = false ↔ ∀ i, i < j → 0 < (leftOf C ds i).length := by
  unfold wipedB
  rw [List.any_eq_false]
  constructor
  · intro h i hi
    have := h i (List.mem_range.2 hi)
    simp at this
    exact List.length_pos_iff.2 this
  · intro h i hi
    have := h i (List.mem_range.1 hi)
    simp
    exact List.length_pos_iff.1 this
/-- Are there fewer values than variables, or none of one? -/
def fewB (C : ConB) (ds : List DomB) : Bool := wipedB C ds C.vars.length || decide ((allU C ds C.vars.length).length < C.vars.length)
theorem fewB_iff {C : ConB} {ds : List DomB} : fewB C ds = false ↔ (∀ i, i < C.vars.length → 0 < (leftOf C ds i).length) ∧ C.vars.length ≤ (allU C ds C.vars.length).length := by
  unfold fewB
  rw [Bool.or_eq_false_iff, wipedB_iff, decide_eq_false_iff_not]
  constructor
  · rintro ⟨h1, h2⟩; exact ⟨h1, by omega⟩
  · rintro ⟨h1, h2⟩; exact ⟨h1, by omega⟩
/-- Has another variable that value alone? -/
def soleB (C : ConB) (ds : List DomB) (i : Nat) (v : Int) : Bool := (List.range C.vars.length).any fun k => !decide (C.vars.getD k 0 = C.vars.getD i 0) && (leftOf C ds k == [v])
def diffG (C : ConB) (ds : List DomB) (i : Nat) (v : Int) : Bool := !fewB C ds && !soleB C ds i v
theorem diffG_iff {C : ConB} {ds : List DomB} {i : Nat} {v : Int} : diffG C ds i v = true ↔ fewB C ds = false ∧ ∀ k, k < C.vars.length → C.vars.getD k 0 ≠ C.vars.getD i 0 → leftOf C ds k ≠ [v] := by
  unfold diffG soleB
  rw [Bool.and_eq_true, Bool.not_eq_true', Bool.not_eq_true', List.any_eq_false]
  constructor
  · rintro ⟨h1, h2⟩
    refine ⟨h1, fun k hk hne he => ?_⟩
    have := h2 k (List.mem_range.2 hk)
    rw [decide_eq_false hne, he] at this
    simp at this
  · rintro ⟨h1, h2⟩
    refine ⟨h1, fun k hk => ?_⟩
    by_cases e : C.vars.getD k 0 = C.vars.getD i 0
    · rw [decide_eq_true e]; simp
    · have := h2 k (List.mem_range.1 hk) e
      simp [this]

def diffGo (C : ConB) (ds : List DomB) : Bool := goK 5 C ds
def diffKp (C : ConB) (ds : List DomB) : Nat → Int → Bool := varsKp C.vars (diffG C ds) C.vars.length
theorem diffGo_parts {C : ConB} {ds : List DomB} (h : diffGo C ds = true) : C.kind = 5 ∧ rightB C ds.length = true ∧ allMay ds = true := goK_parts h
theorem diffGo_not {C : ConB} {ds : List DomB} (h : ¬ C.kind = 5) : diffGo C ds = false := goK_not h
theorem diffGo_of {C : ConB} {ds : List DomB} (hk : C.kind = 5) (hr : rightB C ds.length = true) (hm : allMay ds = true) : diffGo C ds = true := goK_of hk hr hm
theorem diff_go_less {C : ConB} {vs us : List DomB} (h : Fewer vs us) (hg : diffGo C us = true) : diffGo C vs = true := goK_less h hg

theorem diff_falls {C : ConB} {vs us : List DomB} (h : Fewer vs us) (hg : diffGo C us = true) : withinL (stepB (diffKp C vs) vs) (stepB (diffKp C us) us) = true := by
  obtain ⟨_, h2, hm⟩ := diffGo_parts hg
  have hsub : ∀ i, i < C.vars.length → ∀ x ∈ leftOf C vs i, x ∈ leftOf C us i := fun i hi x hx => fewer_at h (rightB_vars h2) hm hi hx
  refine step_falls h hm fun i hi v hv hk => varsKp_mono (fun k hk _ hgk => ?_) hk
  obtain ⟨hf, hs⟩ := diffG_iff.1 hgk
  obtain ⟨hf1, hf2⟩ := fewB_iff.1 hf
  refine diffG_iff.2 ⟨fewB_iff.2 ⟨fun i hi => ?_, ?_⟩, fun k' hk' hne he => hs k' hk' hne ?_⟩
  · obtain ⟨x, hx⟩ := List.exists_mem_of_length_pos (hf1 i hi)
    exact List.length_pos_of_mem (hsub i hi x hx)
  · refine Nat.le_trans hf2 (nodup_len (nodup_allU _ _ _) fun x hx => ?_)
    obtain ⟨i, hi, hx⟩ := mem_allU.1 hx
    exact mem_allU.2 ⟨i, hi, hsub i hi x hx⟩
  · have h1 := hf1 k' hk'
    have h2 : ∀ x ∈ leftOf C vs k', x = v := fun x hx => by
      have := hsub k' hk' x hx
      rw [he, List.mem_singleton] at this
      exact this
    have h3 : (leftOf C vs k').Nodup := listB_nodup _ _
    match hl : leftOf C vs k' with
    | [] => rw [hl] at h1; simp at h1
    | [a] => rw [hl] at h2; rw [h2 a (by simp)]
    | a :: b :: r =>
      rw [hl] at h2 h3
      have e1 := h2 a (by simp)
      have e2 := h2 b (by simp)
      rw [List.nodup_cons] at h3
      exact absurd (by rw [e1, ← e2]; simp) h3.1

/-- Do variables differ? -/
def holdsD (C : ConB) (row : List Int) : Bool := (List.range C.vars.length).all fun i => (List.range i).all fun k => !decide ((rowVals C row).getD i 0 = (rowVals C row).getD k 0)
theorem holdsD_iff {C : ConB} {row : List Int} : holdsD C row = true ↔ ∀ i k, i < C.vars.length → k < i → row.getD (C.vars.getD i 0).toNat 0 ≠ row.getD (C.vars.getD k 0).toNat 0 := by
  unfold holdsD
  rw [List.all_eq_true]
  constructor
  · intro h i k hi hk
    have h1 := h i (List.mem_range.2 hi)
    rw [List.all_eq_true] at h1
    have h2 := h1 k (List.mem_range.2 hk)
    rw [rowVals_getD C row hi, rowVals_getD C row (by omega)] at h2
    simpa using h2
  · intro h i hi
    have hi := List.mem_range.1 hi
    rw [List.all_eq_true]
    intro k hk
    have hk := List.mem_range.1 hk
    rw [rowVals_getD C row hi, rowVals_getD C row (by omega)]
    simpa using h i k hi hk
theorem holdsD_ne {C : ConB} {row : List Int} (h : holdsD C row = true) {i k : Nat} (hi : i < C.vars.length) (hk : k < C.vars.length) (e : i ≠ k) : row.getD (C.vars.getD i 0).toNat 0 ≠ row.getD (C.vars.getD k 0).toNat 0 := by
  rcases Nat.lt_or_ge k i with h1 | h1
  · exact holdsD_iff.1 h i k hi h1
  · exact (holdsD_iff.1 h k i hk (by omega)).symm
theorem holdsD_nodup {C : ConB} {row : List Int} (h : holdsD C row = true) : ((List.range C.vars.length).map fun i => row.getD (C.vars.getD i 0).toNat 0).Nodup := by
  unfold List.Nodup
  rw [List.pairwise_map]
  refine List.Pairwise.imp_of_mem (fun {a b} ha hb hab => ?_) List.pairwise_lt_range
  exact holdsD_ne h (List.mem_range.1 ha) (List.mem_range.1 hb) (by omega)

/-- Where a row that differs is left, there are enough values, and none is another's alone. -/
theorem diffG_row {C : ConB} {ds : List DomB} {row : List Int} (_hv : varsOk C.vars ds.length = true) (hl : ∀ i, i < C.vars.length → row.getD (C.vars.getD i 0).toNat 0 ∈ leftOf C ds i) (hh : holdsD C row = true) {i : Nat} (hi : i < C.vars.length) :
    diffG C ds i (row.getD (C.vars.getD i 0).toNat 0) = true := by
  refine diffG_iff.2 ⟨fewB_iff.2 ⟨fun k hk => List.length_pos_of_mem (hl k hk), ?_⟩, fun k hk hne he => ?_⟩
  · have h1 := nodup_len (holdsD_nodup hh) (m := allU C ds C.vars.length) (fun x hx => by
      rw [List.mem_map] at hx
      obtain ⟨k, hk, rfl⟩ := hx
      have hk := List.mem_range.1 hk
      exact mem_allU.2 ⟨k, hk, hl k hk⟩)
    rw [List.length_map, List.length_range] at h1
    exact h1
  · have h1 := hl k hk
    rw [he, List.mem_singleton] at h1
    have hki : k ≠ i := fun e => hne (by rw [e])
    exact holdsD_ne hh hk hi hki h1

theorem diff_sound {C : ConB} {ds : List DomB} {row : List Int} (hg : diffGo C ds = true) (hl : leftL row ds = true) (hh : holdsD C row = true) : leftL row (stepB (diffKp C ds) ds) = true := by
  obtain ⟨_, h2, hm⟩ := diffGo_parts hg
  have hv := rightB_vars h2
  refine step_sound hm hl fun i hi => varsKp_iff.2 fun k hk e => ?_
  have h := diffG_row hv (fun i hi => left_at hv hl hi) hh hk
  rwa [e] at h

theorem diff_single {C : ConB} {row : List Int} (hr : withinB row 1048576 = true) (_hk : C.kind = 5) (hB : rightB C row.length = true) : allLive C.vars (stepB (diffKp C (singles row)) (singles row)) C.vars.length = holdsD C row := by
  have hv := rightB_vars hB
  have hs : ∀ i, i < C.vars.length → leftOf C (singles row) i = [row.getD (C.vars.getD i 0).toNat 0] := fun i hi => singles_at hv hr hi
  unfold diffKp
  rw [Bool.eq_iff_iff, allLive_varsKp hv]
  constructor
  · intro h
    refine holdsD_iff.2 fun i k hi hk e => ?_
    have h1 := (diffG_iff.1 (h i hi i hi rfl)).2 k (by omega) (varsOk_ne hv hi hk)
    exact h1 (by rw [hs k (by omega), e])
  · intro h i hi k hk e
    have h1 := diffG_row (ds := singles row) (by rw [singles_length]; exact hv) (fun i hi => by rw [hs i hi]; simp) h hk
    rwa [e] at h1
end Go.Proofs.YtjmegicopdbkdaaDoor

set_option maxHeartbeats 1000000
set_option maxRecDepth 10000
namespace Go.Proofs.YtjmegicopdbkdaaDoor
open Go Go.RowKit Pl

theorem listB_len {xs : List Int} {L : Nat} (h : mayB xs L = true) : (listB xs L).length = (elems L).length := by
  rw [show listB xs L = valsOf xs L from if_pos h, valsOf_length]; unfold elemsI; rw [List.length_map]
theorem listB_none {xs : List Int} {L : Nat} (h : mayB xs L = false) : listB xs L = [] := if_neg (by rw [h]; simp)

theorem size1_any (A : Option Addr) (n c L : Nat) (w : World) (hL : L < 2 ^ 64) :
    Calls Tryd.prog 84 #[.agg #[.slice A n c, .int .u64 L]] w fun e w' => e = .returned (.int .i64 ((elems L).length : Nat)) ∧ Kept w w' := by
  have HL := Lib.hid hL
  clear hL
  go_enter Tryd.func84, Tryd.ntmps84
  go_wp2_with (go_at_call 85; refine (count_any L _ HL.out).mono ?_; rintro e w' ⟨rfl, rfl⟩)
  go_ret
  exact ⟨rfl, Kept.box _ _⟩

theorem size_any (A : Option Addr) (n c L : Nat) (xs : List Int) (w : World) (hS : Ints w A n xs) (hL : L < 2 ^ 64) :
    Calls Tryd.prog 70 #[.agg #[.slice A n c, .int .u64 L]] w fun e w' => e = .returned (.int .i64 ((listB xs L).length : Nat)) ∧ Kept w w' := by
  have HS := Lib.hid hS
  have HL := Lib.hid hL
  clear hS hL
  have hmay : Hid (∀ W, Ints W A n xs → Calls Tryd.prog 28 #[.agg #[.slice A n c, .int .u64 L]] W fun e w' => e = .returned (.bool (mayB xs L)) ∧ Kept W w') := fun W hW => may_any A n c L xs W hW HL.out
  obtain ⟨q, hq⟩ : ∃ q, q = (listB xs L).length := ⟨_, rfl⟩
  rw [← hq]
  cases hm : mayB xs L with
  | true =>
    rw [listB_len hm] at hq
    rw [hm] at hmay
    have Hq := Lib.hid hq
    clear hm hq
    go_enter Tryd.func70, Tryd.ntmps70
    go_wp2_with (first
      | (go_at_call 28; refine (hmay.out _ (HS.out.kept ((Kept.box _ _).then (Kept.box _ _)))).mono ?_; rintro e w1 ⟨rfl, hk⟩; have hb1 := hk.cellAt (box2_0 (w.alloc _) (.slice A n c) (.int .u64 L) _); have hb2 := hk.cellAt (box2_1 (w.alloc _) (.slice A n c) (.int .u64 L) _); simp only [World.size_alloc] at hb1 hb2; have Hk := Lib.hid (((Kept.box _ _).then (Kept.box _ _)).then hk); clear hk)
      | (go_at_call 84; refine (size1_any A n c L _ HL.out).mono ?_; rintro e w2 ⟨rfl, hk2⟩; have Hk2 := Lib.hid (Hk.out.then hk2); clear hk2)
      | go_in)
    go_ret
    exact ⟨by rw [Hq.out]; rfl, Hk2.out⟩
  | false =>
    rw [listB_none hm] at hq
    rw [hm] at hmay
    subst hq
    clear hm
    go_enter Tryd.func70, Tryd.ntmps70
    go_wp2_with (first
      | (go_at_call 28; refine (hmay.out _ (HS.out.kept ((Kept.box _ _).then (Kept.box _ _)))).mono ?_; rintro e w1 ⟨rfl, hk⟩; have Hk := Lib.hid (((Kept.box _ _).then (Kept.box _ _)).then hk); clear hk)
      | go_in)
    go_ret
    exact ⟨rfl, Hk.out⟩

theorem at_any (a : Addr) (n c L k : Nat) (xs : List Int) (w : World) (hS : Ints w (some a) n xs) (hk : k < n) :
    Calls Tryd.prog 86 #[.agg #[.slice (some a) n c, .int .u64 L], .int .i64 k] w fun e w' => e = .returned (.tuple #[.int .i64 (xs.getD k 0), .bool true]) ∧ Kept w w' := by
  obtain ⟨x, Hx, hcx, hx1, hx2⟩ := (hS.kept (Kept.box w (.cells #[.slice (some a) n c, .int .u64 L] 47))).named k hk
  obtain ⟨a', ha', hab⟩ := (hS.kept (Kept.box w (.cells #[.slice (some a) n c, .int .u64 L] 47))).addr (by omega)
  cases ha'
  clear hS
  rw [Hx.out]
  go_enter Tryd.func86, Tryd.ntmps86
  go_wp2_with fail
  go_ret2
  exact ⟨rfl, Kept.box _ _⟩
theorem elems_one {L : Nat} (hL : L < 2 ^ 64) (h : (elems L).length = 1) : L ≠ 0 ∧ elems L = [Lib.ctz 64 L] := by
  have h0 : L ≠ 0 := fun e => by rw [e, elems_zero] at h; simp at h
  refine ⟨h0, ?_⟩
  rw [elems_cons h0 hL] at h ⊢
  rw [List.length_cons] at h
  rw [List.eq_nil_of_length_eq_zero (by omega : (elems (L &&& (L - 1))).length = 0)]

theorem single_any (A : Option Addr) (n c L : Nat) (xs : List Int) (w : World) (hS : Ints w A n xs) (hL : L < 2 ^ 64) (hT : Tab w) :
    Calls Tryd.prog 48 #[.agg #[.slice A n c, .int .u64 L]] w fun e w' => ∃ x : Int, e = .returned (.tuple #[.int .i64 x, .bool (decide ((listB xs L).length = 1))]) ∧ ((listB xs L).length = 1 → listB xs L = [x]) ∧ Kept w w' := by
  have HS := Lib.hid hS
  have HL := Lib.hid hL
  have HT := Lib.hid hT
  have Hlen := Lib.hid hS.len
  clear hS hL hT
  have HQ : Hid (∀ W, Ints W A n xs → Calls Tryd.prog 70 #[.agg #[.slice A n c, .int .u64 L]] W fun e w' => e = .returned (.int .i64 ((listB xs L).length : Nat)) ∧ Kept W w') := fun W hW => size_any A n c L xs W hW HL.out
  have hmay : Hid (∀ W, Ints W A n xs → Calls Tryd.prog 28 #[.agg #[.slice A n c, .int .u64 L]] W fun e w' => e = .returned (.bool (mayB xs L)) ∧ Kept W w') := fun W hW => may_any A n c L xs W hW HL.out
  by_cases h1 : (listB xs L).length = 1
  · have hm : mayB xs L = true := by
      cases h : mayB xs L with
      | true => rfl
      | false => rw [listB_none h] at h1; simp at h1
    obtain ⟨h0, he⟩ := elems_one HL.out (by rw [← listB_len hm]; exact h1)
    have hv : listB xs L = [xs.getD (Lib.ctz 64 L) 0] := by
      rw [show listB xs L = valsOf xs L from if_pos hm]; unfold valsOf elemsI; rw [he]; simp
    have hlo : lo L = (Lib.ctz 64 L : Nat) := if_neg h0
    have hk : Lib.ctz 64 L < n := by
      have h2 := (ctz_testBit h0 HL.out).2.1
      have h3 := mayB_lt hm
      rw [Hlen.out] at h3
      refine Nat.lt_of_not_le fun hle => ?_
      rw [Nat.testBit_lt_two_pow (Nat.lt_of_lt_of_le h3 (Nat.pow_le_pow_right (by omega) hle))] at h2
      cases h2
    rw [h1] at HQ
    rw [hm] at hmay
    have HQL : Hid (∀ W, Tab W → Calls Tryd.prog 87 #[.int .u64 L] W fun e w' => e = .returned (.int .i64 (Lib.ctz 64 L : Nat)) ∧ Kept W w') := fun W hW => by rw [← hlo]; exact (least_any L W HL.out hW).mono fun _ _ ⟨h1, h2⟩ => ⟨h1, h2 ▸ Kept.same _⟩
    obtain ⟨a, ha, _⟩ := HS.out.addr (by omega)
    subst ha
    rw [decide_eq_true h1]
    have HV := Lib.hid hv
    clear hv h1 hm h0 he hlo
    generalize Lib.ctz 64 L = k at *
    have HA : Hid (∀ W, Ints W (some a) n xs → Calls Tryd.prog 86 #[.agg #[.slice (some a) n c, .int .u64 L], .int .i64 k] W fun e w' => e = .returned (.tuple #[.int .i64 (xs.getD k 0), .bool true]) ∧ Kept W w') := fun W hW => at_any a n c L k xs W hW hk
    generalize xs.getD k 0 = x at *
    have HLe : Hid (∀ W, Ints W (some a) n xs → Tab W → Calls Tryd.prog 72 #[.agg #[.slice (some a) n c, .int .u64 L]] W fun e w' => e = .returned (.tuple #[.int .i64 x, .bool true]) ∧ Kept W w') := by
      intro W hW hTW
      have HW := Lib.hid hW
      have HTW := Lib.hid hTW
      clear hW hTW HS HT HQ
      go_enter Tryd.func72, Tryd.ntmps72
      go_wp2_with (first
        | (go_at_call 28; refine (hmay.out _ (HW.out.kept (Kept.box _ _))).mono ?_; rintro e w1 ⟨rfl, hk⟩; have hb1 := hk.cellAt (box2_0 W (.slice (some a) n c) (.int .u64 L) _); have hb2 := hk.cellAt (box2_1 W (.slice (some a) n c) (.int .u64 L) _); have Hk := Lib.hid ((Kept.box _ _).then hk); clear hk))
      go_region_held3 (fun V => V.cell? ⟨W.heap.size, 0, Option.none⟩ = some (.slice (some a) n c) ∧ V.cell? ⟨W.heap.size, 1, Option.none⟩ = some (.int .u64 L)) (first | go_keep | exact ⟨((Kept.drewn _).then hk4).cellAt hb1, ((Kept.drewn _).then hk4).cellAt hb2⟩ | exact ⟨(((Kept.drewn _).then hk4).then hk5).cellAt hb1, (((Kept.drewn _).then hk4).then hk5).cellAt hb2⟩)
          (first
          | (go_at_call 87; refine (HQL.out _ ((HTW.out.kept Hk.out).kept (Kept.drewn _))).mono ?_; rintro e W4 ⟨rfl, hk4⟩)
          | (go_at_call 86; refine (HA.out _ ((HW.out.kept Hk.out).kept ((Kept.drewn _).then hk4))).mono ?_; rintro e W5 ⟨rfl, hk5⟩))
      have Hk2 := Lib.hid (Hk.out.then (((Kept.drewn _).then hk4).then hk5))
      clear hk4 hk5
      go_wp2_with fail
      go_ret2
      exact ⟨rfl, Hk2.out⟩
    go_enter Tryd.func48, Tryd.ntmps48
    go_wp2_with (first
      | (go_at_call 72; refine (HLe.out _ (HS.out.kept Hk.out) (HT.out.kept Hk.out)).mono ?_; rintro e w2 ⟨rfl, hk2⟩; have Hk2 := Lib.hid (Hk.out.then hk2); clear hk2)
      | (go_at_call 70; refine (HQ.out _ (HS.out.kept (Kept.box _ _))).mono ?_; rintro e w1 ⟨rfl, hk⟩; have hb1 := hk.cellAt (box2_0 w (.slice (some a) n c) (.int .u64 L) _); have hb2 := hk.cellAt (box2_1 w (.slice (some a) n c) (.int .u64 L) _); have Hk := Lib.hid ((Kept.box _ _).then hk); clear hk))
    go_ret2
    exact ⟨x, rfl, fun _ => HV.out, Hk2.out⟩
  · rw [decide_eq_false h1]
    generalize hq : (listB xs L).length = q at *
    have hne : ((q : Int) != 1) = true := by simp; omega
    have Hq := Lib.hid h1
    clear hq h1
    go_enter Tryd.func48, Tryd.ntmps48
    go_wp2_with (first
      | (go_at_call 70; refine (HQ.out _ (HS.out.kept (Kept.box _ _))).mono ?_; rintro e w1 ⟨rfl, hk⟩; have Hk := Lib.hid ((Kept.box _ _).then hk); clear hk))
    go_ret2
    exact ⟨0, rfl, fun h => absurd h Hq.out, Hk.out⟩
end Go.Proofs.YtjmegicopdbkdaaDoor

set_option maxHeartbeats 1000000
set_option maxRecDepth 10000
namespace Go.Proofs.YtjmegicopdbkdaaDoor
open Go Go.RowKit Go.Maps Pl

/-- Is v the only value of another variable? -/
def onlyB (ds : List DomB) (x v y : Int) : Bool := !decide (y = x) && (listB (ds.getD y.toNat nilD).1 (ds.getD y.toNat nilD).2 == [v])
theorem soleB_only (C : ConB) (ds : List DomB) (i : Nat) (v : Int) : soleB C ds i v = (List.range C.vars.length).any fun k => onlyB ds (C.vars.getD i 0) v (C.vars.getD k 0) := rfl

theorem diff21_any (y x v : Int) (Bl Bx Bv : Nat) (Al : Option Addr) (nl cl : Nat) (ds : List DomB) (w : World) (hl : w.cell? ⟨Bl, 0, none⟩ = some (.slice Al nl cl)) (hD : Doms w Al nl ds)
    (hx : w.cell? ⟨Bx, 0, none⟩ = some (.int .i64 x)) (hv : w.cell? ⟨Bv, 0, none⟩ = some (.int .i64 v)) (hT : Tab w) (h0 : 0 ≤ y) (h1 : y < nl) :
    Calls Tryd.prog 47 #[.int .i64 y, .pointer (some ⟨Bl, 0, none⟩), .pointer (some ⟨Bx, 0, none⟩), .pointer (some ⟨Bv, 0, none⟩)] w
      fun e w' => e = .returned (.bool (onlyB ds x v y)) ∧ Kept w w' := by
  obtain ⟨p, rfl⟩ := Int.eq_ofNat_of_zero_le h0
  have hpn : p < nl := by omega
  obtain ⟨al, rfl, hbl⟩ := hD.addr (by omega)
  obtain ⟨xs, L, B, m, cB, Hd, hc1, hc2, HI, hL⟩ := hD.named p hpn
  have HQ : Hid (∃ (q : Int) (b : Bool), Calls Tryd.prog 48 #[.agg #[.slice B m cB, .int .u64 L]] w (fun e w' => ∃ z : Int, e = .returned (.tuple #[.int .i64 z, .bool b]) ∧ (b = true → z = q) ∧ Kept w w') ∧ (b = true → listB xs L = [q]) ∧ (b = false → (listB xs L).length ≠ 1)) := by
    show _
    by_cases h : (listB xs L).length = 1
    · obtain ⟨q, hq⟩ := List.length_eq_one_iff.1 h
      refine ⟨q, true, (single_any B m cB L xs w HI.out hL hT).mono ?_, fun _ => hq, fun h => by cases h⟩
      rintro e w' ⟨z, rfl, hz, hk⟩
      refine ⟨z, by rw [decide_eq_true h], fun _ => ?_, hk⟩
      have := hz h
      rw [hq] at this
      injection this with a b
      exact a.symm
    · refine ⟨0, false, (single_any B m cB L xs w HI.out hL hT).mono ?_, fun h => (by cases h), fun _ => h⟩
      rintro e w' ⟨z, rfl, hz, hk⟩
      exact ⟨z, by rw [decide_eq_false h], fun h => (by cases h), hk⟩
  obtain ⟨q, b, HC, Hb1, Hb2⟩ := HQ.out
  have Hcall := Lib.hid HC
  have Hres : Hid (onlyB ds x v (p : Int) = (!decide ((p : Int) = x) && (b && decide (q = v)))) := by
    show _ = _
    unfold onlyB
    rw [Int.toNat_natCast, Hd.out]
    cases b with
    | true =>
      rw [Hb1 rfl]
      congr 1
      rw [Bool.eq_iff_iff]
      simp
    | false =>
      have : (listB (xs, L).1 (xs, L).2 == [v]) = false := by
        rw [beq_eq_false_iff_ne]
        intro h
        exact Hb2 rfl (by rw [show listB xs L = [v] from h]; rfl)
      rw [this]; simp
  rw [Hres.out]
  have Hx := Lib.hid hx
  have Hv := Lib.hid hv
  clear HQ HC Hb1 Hb2 Hres hD hx hv hT h0 h1
  cases b with
  | false =>
    by_cases hpx : (p : Int) = x
    · have hne : ((p : Int) != x) = false := by simp [hpx]
      have Hpx := Lib.hid hpx
      clear hpx
      go_enter Tryd.func47, Tryd.ntmps47
      go_wp2_with fail
      refine Hcall.out.mono ?_
      rintro e w1 ⟨z, rfl, _, hk⟩
      have hx1 := hk.cellAt Hx.out
      have hv1 := hk.cellAt Hv.out
      have Hk := Lib.hid hk
      clear hk
      go_wp2_with fail
      go_ret
      exact ⟨ret_bool (by simp), Hk.out⟩
    · have hne : ((p : Int) != x) = true := by simp [hpx]
      go_enter Tryd.func47, Tryd.ntmps47
      go_wp2_with fail
      refine Hcall.out.mono ?_
      rintro e w1 ⟨z, rfl, _, hk⟩
      have hx1 := hk.cellAt Hx.out
      have hv1 := hk.cellAt Hv.out
      have Hk := Lib.hid hk
      clear hk
      go_wp2_with fail
      go_ret
      exact ⟨ret_bool (by simp), Hk.out⟩
  | true =>
    by_cases hpx : (p : Int) = x
    · have hne : ((p : Int) != x) = false := by simp [hpx]
      have hd : decide ((p : Int) = x) = true := by simp [hpx]
      rw [hd]
      clear hd hpx
      go_enter Tryd.func47, Tryd.ntmps47
      go_wp2_with fail
      refine Hcall.out.mono ?_
      rintro e w1 ⟨z, rfl, hz, hk⟩
      have hx1 := hk.cellAt Hx.out
      have hv1 := hk.cellAt Hv.out
      have Hk := Lib.hid hk
      clear hk
      go_wp2_with fail
      go_ret
      exact ⟨ret_bool (by simp), Hk.out⟩
    · have hne : ((p : Int) != x) = true := by simp [hpx]
      have hd : decide ((p : Int) = x) = false := by simp [hpx]
      rw [hd]
      go_enter Tryd.func47, Tryd.ntmps47
      go_wp2_with fail
      refine Hcall.out.mono ?_
      rintro e w1 ⟨z, rfl, hz, hk⟩
      have hzq : z = q := hz trivial
      subst hzq
      have hx1 := hk.cellAt Hx.out
      have hv1 := hk.cellAt Hv.out
      have Hk := Lib.hid hk
      clear hk hz
      go_wp2_with fail
      go_ret
      exact ⟨ret_bool (by rw [Bool.eq_iff_iff]; simp), Hk.out⟩
theorem any_bad {xs : List Int} {g : Int → Bool} {k : Nat} {x : Int} (hk : k < xs.length) (hx : xs.getD k 0 = x) (h : g x = true) : xs.any g = true := by
  rw [List.any_eq_true]
  refine ⟨x, ?_, h⟩
  rw [← hx, List.getD_eq_getElem?_getD, List.getElem?_eq_getElem hk]
  exact List.getElem_mem _

theorem ints_index_any (A : Option Addr) (n c : Nat) (xs : List Int) (p0 p1 p2 : Value) (g : Int → Bool) (w : World) (hS : Ints w A n xs)
    (hF : ∀ (x : Int) (W : World), x ∈ xs → Kept w W → Calls Tryd.prog 47 #[.int .i64 x, p0, p1, p2] W fun e w' => e = .returned (.bool (g x)) ∧ Kept W w') :
    Calls Tryd.prog 71 #[.slice A n c, .func (.func 47) #[] #[p0, p1, p2]] w fun e w' => ∃ i : Int, e = .returned (.int .i64 i) ∧ (decide (0 ≤ i) = xs.any g) ∧ Kept w w' := by
  have HS := Lib.hid hS
  have hsm := hS.small
  have Hlen := Lib.hid hS.len
  have HF := Lib.hid hF
  clear hS hF
  go_enter Tryd.func71, Tryd.ntmps71
  go_wp2_with fail
  go_loopw [8] (fun v wr => ∃ k : Nat, k ≤ n ∧ v = .int .i64 k ∧ Hid (Kept w wr) ∧ Hid ((xs.take k).any g = false)) (fun v _ => n - (intOf v).toNat)
  case atStart => exact ⟨0, Nat.zero_le _, rfl, Below.refl _ _, rfl⟩
  case round =>
    obtain ⟨k, hk, rfl, Hkw, Hok⟩ := hrel
    by_cases hlt : k < n
    · have hSr := HS.out.kept Hkw.out
      obtain ⟨a, rfl, hblk⟩ := hSr.addr (by omega)
      obtain ⟨x, Hx, hcx, _, _⟩ := hSr.named k hlt
      have hkl : k < xs.length := by have := Hlen.out; omega
      have hmem : x ∈ xs := by
        rw [← Hx.out, List.getD_eq_getElem?_getD, List.getElem?_eq_getElem hkl]
        exact List.getElem_mem _
      have HQ := Lib.hid (HF.out x wr hmem Hkw.out)
      have Hbad : Hid (g x = true → xs.any g = true) := any_bad hkl Hx.out
      have Hnext : Hid (g x = false → (xs.take (k + 1)).any g = false) := fun h => by
        rw [take_succ_getD hkl Hx.out, List.any_append, Hok.out]
        simp [h]
      clear hSr hmem
      generalize g x = b at HQ Hbad Hnext
      go_wp2_with fail
      refine HQ.out.mono ?_
      rintro e w1 ⟨rfl, hk1⟩
      have Hk1 := Lib.hid (Hkw.out.then hk1)
      clear hk1 HQ
      cases b with
      | false =>
        go_wp2
        go_roundw
        case rel => exact ⟨k + 1, by omega, by go_num, Hk1.out, Hnext.out (by first | rfl | trivial)⟩
        case measure => simp [intOf]; omega
      | true =>
        go_wp2
        go_ret
        refine ⟨k, rfl, ?_, Hk1.out⟩
        rw [Hbad.out (by first | rfl | trivial)]
        simp
    · have e : k = n := by omega
      subst e
      have h2 : xs.any g = false := by have := Hok.out; rwa [List.take_of_length_le (by have := Hlen.out; omega)] at this
      go_wp2
      go_ret
      exact ⟨-1, rfl, by rw [h2]; decide, Hkw.out⟩

theorem ints_contains_any (A : Option Addr) (n c : Nat) (xs : List Int) (p0 p1 p2 : Value) (g : Int → Bool) (w : World) (hS : Ints w A n xs)
    (hF : ∀ (x : Int) (W : World), x ∈ xs → Kept w W → Calls Tryd.prog 47 #[.int .i64 x, p0, p1, p2] W fun e w' => e = .returned (.bool (g x)) ∧ Kept W w') :
    Calls Tryd.prog 46 #[.slice A n c, .func (.func 47) #[] #[p0, p1, p2]] w fun e w' => e = .returned (.bool (xs.any g)) ∧ Kept w w' := by
  have HS := Lib.hid hS
  have HF := Lib.hid hF
  clear hS hF
  go_enter Tryd.func46, Tryd.ntmps46
  go_wp2_with fail
  refine (ints_index_any A n c xs p0 p1 p2 g _ HS.out HF.out).mono ?_
  rintro e w1 ⟨i, rfl, hi, hk⟩
  have Hi := Lib.hid hi
  clear hi
  go_wp2
  go_ret
  exact ⟨ret_bool Hi.out, hk⟩

/-- What Step's question reads. -/
structure DiffBox (w : World) (Bn Bc Bl Bx : Nat) (A1 : Option Addr) (n1 c1 : Nat) (Al : Option Addr) (nl cl : Nat) (vars : List Int) (ds : List DomB) (b : Bool) (x : Int) : Prop where
  non : w.cell? ⟨Bn, 0, none⟩ = some (.bool b)
  con : w.cell? ⟨Bc, 1, none⟩ = some (.slice A1 n1 c1)
  ints : Ints w A1 n1 vars
  lst : w.cell? ⟨Bl, 0, none⟩ = some (.slice Al nl cl)
  doms : Doms w Al nl ds
  val : w.cell? ⟨Bx, 0, none⟩ = some (.int .i64 x)
  rng : ∀ y ∈ vars, 0 ≤ y ∧ y < nl

theorem DiffBox.kept {w w' : World} {Bn Bc Bl Bx : Nat} {A1 : Option Addr} {n1 c1 : Nat} {Al : Option Addr} {nl cl : Nat} {vars : List Int} {ds : List DomB} {b : Bool} {x : Int} (h : DiffBox w Bn Bc Bl Bx A1 n1 c1 Al nl cl vars ds b x) (hk : Kept w w') : DiffBox w' Bn Bc Bl Bx A1 n1 c1 Al nl cl vars ds b x :=
  ⟨hk.cellAt h.non, hk.cellAt h.con, h.ints.kept hk, hk.cellAt h.lst, h.doms.kept hk, hk.cellAt h.val, h.rng⟩

theorem diff2_any (v : Int) (Bn Bc Bl Bx : Nat) (A1 : Option Addr) (n1 c1 : Nat) (Al : Option Addr) (nl cl : Nat) (vars : List Int) (ds : List DomB) (b : Bool) (x : Int) (w : World) (hE : DiffBox w Bn Bc Bl Bx A1 n1 c1 Al nl cl vars ds b x) (hT : Tab w) :
    Calls Tryd.prog 45 #[.int .i64 v, .pointer (some ⟨Bn, 0, none⟩), .pointer (some ⟨Bc, 0, none⟩), .pointer (some ⟨Bl, 0, none⟩), .pointer (some ⟨Bx, 0, none⟩)] w
      fun e w' => e = .returned (.bool (!b && !(vars.any (onlyB ds x v)))) ∧ Kept w w' := by
  have HE := Lib.hid hE
  have HT := Lib.hid hT
  have hnon := (Kept.box w (.cells #[.int .i64 v] 3)).cellAt hE.non
  have hcon := (Kept.box w (.cells #[.int .i64 v] 3)).cellAt hE.con
  have hln : Bn < (w.alloc (.cells #[.int .i64 v] 3)).heap.size := World.block_lt_of_cell? _ _ hnon
  have hlc : Bc < (w.alloc (.cells #[.int .i64 v] 3)).heap.size := World.block_lt_of_cell? _ _ hcon
  have hvv : (w.alloc (.cells #[.int .i64 v] 3)).cell? ⟨w.heap.size, 0, none⟩ = some (.int .i64 v) := by simp [go_sem]
  have HQ : Hid (Calls Tryd.prog 46 #[.slice A1 n1 c1, .func (.func 47) #[] #[.pointer (some ⟨Bl, 0, none⟩), .pointer (some ⟨Bx, 0, none⟩), .pointer (some ⟨w.heap.size, 0, none⟩)]] (w.alloc (.cells #[.int .i64 v] 3)) fun e w' => e = .returned (.bool (vars.any (onlyB ds x v))) ∧ Kept (w.alloc (.cells #[.int .i64 v] 3)) w') := by
    refine ints_contains_any A1 n1 c1 vars _ _ _ (onlyB ds x v) _ (hE.ints.kept (Kept.box _ _)) fun y W hy hW => ?_
    have hk : Kept w W := (Kept.box _ _).then hW
    exact diff21_any y x v Bl Bx w.heap.size Al nl cl ds W (hk.cellAt hE.lst) (hE.doms.kept hk) (hk.cellAt hE.val) (hW.cellAt hvv) (hT.kept hk) (hE.rng y hy).1 (hE.rng y hy).2
  clear hE hT hvv
  cases b with
  | true =>
    go_enter Tryd.func45, Tryd.ntmps45
    go_wp2_with fail
    go_ret
    exact ⟨rfl, Kept.box _ _⟩
  | false =>
    generalize vars.any (onlyB ds x v) = g at HQ
    go_enter Tryd.func45, Tryd.ntmps45
    go_wp2_with fail
    refine HQ.out.mono ?_
    rintro e w1 ⟨rfl, hk⟩
    have Hk := Lib.hid ((Kept.box _ _).then hk)
    clear hk
    go_wp2_with fail
    go_ret
    exact ⟨ret_bool (by simp), Hk.out⟩
end Go.Proofs.YtjmegicopdbkdaaDoor

set_option maxHeartbeats 1000000
set_option maxRecDepth 10000
namespace Go.Proofs.YtjmegicopdbkdaaDoor
open Go Go.RowKit Pl

end Go.Proofs.YtjmegicopdbkdaaDoor

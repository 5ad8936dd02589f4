/-
  Contracts and plain laws that the card rests on, part 8.
-/
import Derived.Test.YtekcenacpklpgaaDoorMContrary7
import Derived.Test.YtekcenacpklpgaaDoorMContrary6
import Derived.Test.YtekcenacpklpgaaDoorMContrary3
import Derived.Test.YtekcenacpklpgaaDoorMContrary4
import Derived.Laws.OwnMore
set_option maxHeartbeats 1000000
set_option maxRecDepth 10000
namespace Go.Proofs.YtekcenacpklpgaaDoor
open Go Go.RowKit Pl

/-- A value is put to a list that has each once. -/
def addB (acc : List Int) (v : Int) : List Int := if acc.contains v then acc else acc ++ [v]
def addAll (acc l : List Int) : List Int := l.foldl addB acc
/-- All values of the first variables, each once. -/
def allU (C : ConB) (ds : List DomB) (j : Nat) : List Int := (List.range j).foldl (fun acc i => addAll acc (leftOf C ds i)) []
theorem addAll_snoc (acc l : List Int) (v : Int) : addAll acc (l ++ [v]) = addB (addAll acc l) v := by unfold addAll; rw [List.foldl_append]; rfl
theorem addAll_nil (acc : List Int) : addAll acc [] = acc := rfl
theorem allU_zero (C : ConB) (ds : List DomB) : allU C ds 0 = [] := rfl
theorem allU_succ (C : ConB) (ds : List DomB) (j : Nat) : allU C ds (j + 1) = addAll (allU C ds j) (leftOf C ds j) := by unfold allU; rw [List.range_succ, List.foldl_append]; rfl
theorem mem_addB {acc : List Int} {v x : Int} : x ∈ addB acc v ↔ x ∈ acc ∨ x = v := by
  unfold addB
  split
  · rename_i h
    rw [List.contains_iff_mem] at h
    constructor
    · exact .inl
    · rintro (h2 | rfl)
      · exact h2
      · exact h
  · rw [List.mem_append, List.mem_singleton]
theorem nodup_addB {acc : List Int} {v : Int} (h : acc.Nodup) : (addB acc v).Nodup := by
  unfold addB
  split
  · exact h
  · rename_i h2
    rw [List.contains_iff_mem] at h2
    rw [List.nodup_append]
    refine ⟨h, by simp, fun a ha b hb e => ?_⟩
    rw [List.mem_singleton] at hb
    subst hb
    exact h2 (e ▸ ha)
theorem mem_addAll {l : List Int} : ∀ {acc : List Int} {x : Int}, x ∈ addAll acc l ↔ x ∈ acc ∨ x ∈ l := by
  induction l with
  | nil => intro acc x; simp [addAll]
  | cons v l ih =>
    intro acc x
    have : addAll acc (v :: l) = addAll (addB acc v) l := rfl
    rw [this, ih, mem_addB, List.mem_cons, or_assoc]
theorem nodup_addAll {l : List Int} : ∀ {acc : List Int}, acc.Nodup → (addAll acc l).Nodup := by
  induction l with
  | nil => intro acc h; exact h
  | cons v l ih => intro acc h; exact ih (nodup_addB h)
theorem mem_allU {C : ConB} {ds : List DomB} {j : Nat} {x : Int} : x ∈ allU C ds j ↔ ∃ i, i < j ∧ x ∈ leftOf C ds i := by
  induction j with
  | zero => rw [allU_zero]; simp
  | succ j ih =>
    rw [allU_succ, mem_addAll, ih]
    constructor
    · rintro (⟨i, hi, hx⟩ | hx)
      · exact ⟨i, by omega, hx⟩
      · exact ⟨j, by omega, hx⟩
    · rintro ⟨i, hi, hx⟩
      by_cases e : i = j
      · subst e; exact .inr hx
      · exact .inl ⟨i, by omega, hx⟩
theorem nodup_allU (C : ConB) (ds : List DomB) (j : Nat) : (allU C ds j).Nodup := by
  induction j with
  | zero => rw [allU_zero]; exact List.nodup_nil
  | succ j ih => rw [allU_succ]; exact nodup_addAll ih
theorem nodup_len : ∀ {l m : List Int}, l.Nodup → (∀ x ∈ l, x ∈ m) → l.length ≤ m.length := by
  intro l
  induction l with
  | nil => intro m _ _; simp
  | cons a l ih =>
    intro m hn hs
    rw [List.nodup_cons] at hn
    have ha : a ∈ m := hs a (by simp)
    have h1 := ih (m := m.erase a) hn.2 (fun x hx => by
      have hne : x ≠ a := fun e => hn.1 (e ▸ hx)
      exact (List.mem_erase_of_ne hne).2 (hs x (by simp [hx])))
    rw [List.length_erase_of_mem ha] at h1
    have : 0 < m.length := List.length_pos_of_mem ha
    simp only [List.length_cons]
    omega

/-- Is nothing left of one of the variables? -/
def wipedB (C : ConB) (ds : List DomB) (j : Nat) : Bool := (List.range j).any fun i => decide ((leftOf C ds i).length = 0)
theorem wipedB_iff {C : ConB} {ds : List DomB} {j : Nat} : wipedB C ds j = false ↔ ∀ i, i < j → 0 < (leftOf C ds i).length := by
  unfold wipedB
  rw [List.any_eq_false]
  constructor
  · intro h i hi
    have := h i (List.mem_range.2 hi)
    simp at this
    exact List.length_pos_iff.2 this
  · intro h i hi
    have := h i (List.mem_range.1 hi)
    simp
    exact List.length_pos_iff.1 this
/-- Are there fewer values than variables, or none of one? -/
def fewB (C : ConB) (ds : List DomB) : Bool := wipedB C ds C.vars.length || decide ((allU C ds C.vars.length).length < C.vars.length)
theorem fewB_iff {C : ConB} {ds : List DomB} : fewB C ds = false ↔ (∀ i, i < C.vars.length → 0 < (leftOf C ds i).length) ∧ C.vars.length ≤ (allU C ds C.vars.length).length := by
  unfold fewB
  rw [Bool.or_eq_false_iff, wipedB_iff, decide_eq_false_iff_not]
  constructor
  · rintro ⟨h1, h2⟩; exact ⟨h1, by omega⟩
  · rintro ⟨h1, h2⟩; exact ⟨h1, by omega⟩
/-- Has another variable that value alone? -/
def soleB (C : ConB) (ds : List DomB) (i : Nat) (v : Int) : Bool := (List.range C.vars.length).any fun k => !decide (C.vars.getD k 0 = C.vars.getD i 0) && (leftOf C ds k == [v])
def diffG (C : ConB) (ds : List DomB) (i : Nat) (v : Int) : Bool := !fewB C ds && !soleB C ds i v
theorem diffG_iff {C : ConB} {ds : List DomB} {i : Nat} {v : Int} : diffG C ds i v = true ↔ fewB C ds = false ∧ ∀ k, k < C.vars.length → C.vars.getD k 0 ≠ C.vars.getD i 0 → leftOf C ds k ≠ [v] := by
  unfold diffG soleB
  rw [Bool.and_eq_true, Bool.not_eq_true', Bool.not_eq_true', List.any_eq_false]
  constructor
  · rintro ⟨h1, h2⟩
    refine ⟨h1, fun k hk hne he => ?_⟩
    have := h2 k (List.mem_range.2 hk)
    rw [decide_eq_false hne, he] at this
    simp at this
  · rintro ⟨h1, h2⟩
    refine ⟨h1, fun k hk => ?_⟩
    by_cases e : C.vars.getD k 0 = C.vars.getD i 0
    · rw [decide_eq_true e]; simp
    · have := h2 k (List.mem_range.1 hk) e
      simp [this]

def diffGo (C : ConB) (ds : List DomB) : Bool := goK 5 C ds
def diffKp (C : ConB) (ds : List DomB) : Nat → Int → Bool := varsKp C.vars (diffG C ds) C.vars.length
theorem diffGo_parts {C : ConB} {ds : List DomB} (h : diffGo C ds = true) : C.kind = 5 ∧ rightB C ds.length = true ∧ allMay ds = true := goK_parts h
theorem diffGo_not {C : ConB} {ds : List DomB} (h : ¬ C.kind = 5) : diffGo C ds = false := goK_not h
theorem diffGo_of {C : ConB} {ds : List DomB} (hk : C.kind = 5) (hr : rightB C ds.length = true) (hm : allMay ds = true) : diffGo C ds = true := goK_of hk hr hm
theorem diff_go_less {C : ConB} {vs us : List DomB} (h : Fewer vs us) (hg : diffGo C us = true) : diffGo C vs = true := goK_less h hg

theorem diff_falls {C : ConB} {vs us : List DomB} (h : Fewer vs us) (hg : diffGo C us = true) : withinL (stepB (diffKp C vs) vs) (stepB (diffKp C us) us) = true := by
  obtain ⟨_, h2, hm⟩ := diffGo_parts hg
  have hsub : ∀ i, i < C.vars.length → ∀ x ∈ leftOf C vs i, x ∈ leftOf C us i := fun i hi x hx => fewer_at h (rightB_vars h2) hm hi hx
  refine step_falls h hm fun i hi v hv hk => varsKp_mono (fun k hk _ hgk => ?_) hk
  obtain ⟨hf, hs⟩ := diffG_iff.1 hgk
  obtain ⟨hf1, hf2⟩ := fewB_iff.1 hf
  refine diffG_iff.2 ⟨fewB_iff.2 ⟨fun i hi => ?_, ?_⟩, fun k' hk' hne he => hs k' hk' hne ?_⟩
  · obtain ⟨x, hx⟩ := List.exists_mem_of_length_pos (hf1 i hi)
    exact List.length_pos_of_mem (hsub i hi x hx)
  · refine Nat.le_trans hf2 (nodup_len (nodup_allU _ _ _) fun x hx => ?_)
    obtain ⟨i, hi, hx⟩ := mem_allU.1 hx
    exact mem_allU.2 ⟨i, hi, hsub i hi x hx⟩
  · have h1 := hf1 k' hk'
    have h2 : ∀ x ∈ leftOf C vs k', x = v := fun x hx => by
      have := hsub k' hk' x hx
      rw [he, List.mem_singleton] at this
      exact this
    have h3 : (leftOf C vs k').Nodup := listB_nodup _ _
    match hl : leftOf C vs k' with
    | [] => rw [hl] at h1; simp at h1
    | [a] => rw [hl] at h2; rw [h2 a (by simp)]
    | a :: b :: r =>
      rw [hl] at h2 h3
      have e1 := h2 a (by simp)
      have e2 := h2 b (by simp)
      rw [List.nodup_cons] at h3
      exact absurd (by rw [e1, ← e2]; simp) h3.1

/-- Do variables differ? -/
def holdsD (C : ConB) (row : List Int) : Bool := (List.range C.vars.length).all fun i => (List.range i).all fun k => !decide ((rowVals C row).getD i 0 = (rowVals C row).getD k 0)
theorem holdsD_iff {C : ConB} {row : List Int} : holdsD C row = true ↔ ∀ i k, i < C.vars.length → k < i → row.getD (C.vars.getD i 0).toNat 0 ≠ row.getD (C.vars.getD k 0).toNat 0 := by
  unfold holdsD
  rw [List.all_eq_true]
  constructor
  · intro h i k hi hk
    have h1 := h i (List.mem_range.2 hi)
    rw [List.all_eq_true] at h1
    have h2 := h1 k (List.mem_range.2 hk)
    rw [rowVals_getD C row hi, rowVals_getD C row (by omega)] at h2
    simpa using h2
  · intro h i hi
    have hi := List.mem_range.1 hi
    rw [List.all_eq_true]
    intro k hk
    have hk := List.mem_range.1 hk
    rw [rowVals_getD C row hi, rowVals_getD C row (by omega)]
    simpa using h i k hi hk
theorem holdsD_ne {C : ConB} {row : List Int} (h : holdsD C row = true) {i k : Nat} (hi : i < C.vars.length) (hk : k < C.vars.length) (e : i ≠ k) : row.getD (C.vars.getD i 0).toNat 0 ≠ row.getD (C.vars.getD k 0).toNat 0 := by
  rcases Nat.lt_or_ge k i with h1 | h1
  · exact holdsD_iff.1 h i k hi h1
  · exact (holdsD_iff.1 h k i hk (by omega)).symm
theorem holdsD_nodup {C : ConB} {row : List Int} (h : holdsD C row = true) : ((List.range C.vars.length).map fun i => row.getD (C.vars.getD i 0).toNat 0).Nodup := by
  unfold List.Nodup
  rw [List.pairwise_map]
  refine List.Pairwise.imp_of_mem (fun {a b} ha hb hab => ?_) List.pairwise_lt_range
  exact holdsD_ne h (List.mem_range.1 ha) (List.mem_range.1 hb) (by omega)

/-- Where a row that differs is left, there are enough values, and none is another's alone. -/
theorem diffG_row {C : ConB} {ds : List DomB} {row : List Int} (_hv : varsOk C.vars ds.length = true) (hl : ∀ i, i < C.vars.length → row.getD (C.vars.getD i 0).toNat 0 ∈ leftOf C ds i) (hh : holdsD C row = true) {i : Nat} (hi : i < C.vars.length) :
    diffG C ds i (row.getD (C.vars.getD i 0).toNat 0) = true := by
  refine diffG_iff.2 ⟨fewB_iff.2 ⟨fun k hk => List.length_pos_of_mem (hl k hk), ?_⟩, fun k hk hne he => ?_⟩
  · have h1 := nodup_len (holdsD_nodup hh) (m := allU C ds C.vars.length) (fun x hx => by
      rw [List.mem_map] at hx
      obtain ⟨k, hk, rfl⟩ := hx
      have hk := List.mem_range.1 hk
      exact mem_allU.2 ⟨k, hk, hl k hk⟩)
    rw [List.length_map, List.length_range] at h1
    exact h1
  · have h1 := hl k hk
    rw [he, List.mem_singleton] at h1
    have hki : k ≠ i := fun e => hne (by rw [e])
    exact holdsD_ne hh hk hi hki h1

theorem diff_sound {C : ConB} {ds : List DomB} {row : List Int} (hg : diffGo C ds = true) (hl : leftL row ds = true) (hh : holdsD C row = true) : leftL row (stepB (diffKp C ds) ds) = true := by
  obtain ⟨_, h2, hm⟩ := diffGo_parts hg
  have hv := rightB_vars h2
  refine step_sound hm hl fun i hi => varsKp_iff.2 fun k hk e => ?_
  have h := diffG_row hv (fun i hi => left_at hv hl hi) hh hk
  rwa [e] at h

theorem diff_single {C : ConB} {row : List Int} (hr : withinB row 1048576 = true) (_hk : C.kind = 5) (hB : rightB C row.length = true) : allLive C.vars (stepB (diffKp C (singles row)) (singles row)) C.vars.length = holdsD C row := by
  have hv := rightB_vars hB
  have hs : ∀ i, i < C.vars.length → leftOf C (singles row) i = [row.getD (C.vars.getD i 0).toNat 0] := fun i hi => singles_at hv hr hi
  unfold diffKp
  rw [Bool.eq_iff_iff, allLive_varsKp hv]
  constructor
  · intro h
    refine holdsD_iff.2 fun i k hi hk e => ?_
    have h1 := (diffG_iff.1 (h i hi i hi rfl)).2 k (by omega) (varsOk_ne hv hi hk)
    exact h1 (by rw [hs k (by omega), e])
  · intro h i hi k hk e
    have h1 := diffG_row (ds := singles row) (by rw [singles_length]; exact hv) (fun i hi => by rw [hs i hi]; simp) h hk
    rwa [e] at h1
end Go.Proofs.YtekcenacpklpgaaDoor

namespace Go.Proofs.YtekcenacpklpgaaDoor
namespace Pl

theorem getD_set3 {α : Type} (l : List α) (i j : Nat) (v d : α) (hi : i < l.length) : (l.set i v).getD j d = if j = i then v else l.getD j d := by
  by_cases e : j = i
  · subst e; rw [if_pos rfl]; simp [List.getD_eq_getElem?_getD, hi]
  · rw [if_neg e]; simp only [List.getD_eq_getElem?_getD, List.getElem?_set_ne (fun h => e h.symm)]

/-- The lists, those of the first j variables emptied. -/
def noneU (vars : List Int) (ls : List (List Int)) : Nat → List (List Int)
  | 0 => ls
  | j + 1 => (noneU vars ls j).set (vars.getD j 0).toNat []
theorem noneU_length (vars : List Int) (ls : List (List Int)) (j : Nat) : (noneU vars ls j).length = ls.length := by
  induction j with
  | zero => rfl
  | succ j ih => simp only [noneU, List.length_set, ih]
theorem noneU_out {vars : List Int} {ls : List (List Int)} {j q : Nat} (h : ∀ k, k < j → (vars.getD k 0).toNat ≠ q) : (noneU vars ls j).getD q [] = ls.getD q [] := by
  induction j with
  | zero => rfl
  | succ j ih =>
    simp only [noneU]
    rw [List.getD_eq_getElem?_getD, List.getElem?_set_ne (h j (by omega)), ← List.getD_eq_getElem?_getD]
    exact ih fun k hk => h k (by omega)
theorem noneU_in {vars : List Int} {ls : List (List Int)} {j q : Nat} (hv : ∀ k, k < j → (vars.getD k 0).toNat < ls.length) (h : ∃ k, k < j ∧ (vars.getD k 0).toNat = q) : (noneU vars ls j).getD q [] = [] := by
  induction j with
  | zero => obtain ⟨k, hk, _⟩ := h; omega
  | succ j ih =>
    simp only [noneU]
    rw [getD_set3 _ _ _ _ _ (by rw [noneU_length]; exact hv j (by omega))]
    split
    · rfl
    · rename_i hne
      obtain ⟨k, hk, e⟩ := h
      refine ih (fun k hk => hv k (by omega)) ⟨k, ?_, e⟩
      have : k ≠ j := fun h => hne (by rw [← e, h])
      omega

/-- .., and those of the first j filled by what their questions let by. -/
def fillU (vars : List Int) (ls : List (List Int)) (g : Nat → Int → Bool) (m : Nat) : Nat → List (List Int)
  | 0 => noneU vars ls m
  | j + 1 => (fillU vars ls g m j).set (vars.getD j 0).toNat ((ls.getD (vars.getD j 0).toNat []).filter (g j))
theorem fillU_length (vars : List Int) (ls : List (List Int)) (g : Nat → Int → Bool) (m j : Nat) : (fillU vars ls g m j).length = ls.length := by
  induction j with
  | zero => exact noneU_length _ _ _
  | succ j ih => simp only [fillU, List.length_set, ih]
theorem fillU_out {vars : List Int} {ls : List (List Int)} {g : Nat → Int → Bool} {m j q : Nat} (h : ∀ k, k < j → (vars.getD k 0).toNat ≠ q) : (fillU vars ls g m j).getD q [] = (noneU vars ls m).getD q [] := by
  induction j with
  | zero => rfl
  | succ j ih =>
    simp only [fillU]
    rw [List.getD_eq_getElem?_getD, List.getElem?_set_ne (h j (by omega)), ← List.getD_eq_getElem?_getD]
    exact ih fun k hk => h k (by omega)
theorem fillU_in {vars : List Int} {ls : List (List Int)} {g : Nat → Int → Bool} {m j i : Nat} (hv : ∀ k, k < j → (vars.getD k 0).toNat < ls.length) (hd : ∀ k, k < j → k ≠ i → (vars.getD k 0).toNat ≠ (vars.getD i 0).toNat) (hi : i < j) :
    (fillU vars ls g m j).getD (vars.getD i 0).toNat [] = (ls.getD (vars.getD i 0).toNat []).filter (g i) := by
  induction j with
  | zero => omega
  | succ j ih =>
    simp only [fillU]
    rw [getD_set3 _ _ _ _ _ (by rw [fillU_length]; exact hv j (by omega))]
    by_cases e : j = i
    · subst e; rw [if_pos rfl]
    · rw [if_neg (fun h => hd j (by omega) e h.symm)]
      exact ih (fun k hk => hv k (by omega)) (fun k hk => hd k (by omega)) (by omega)

theorem varsOk_ne' {vs : List Int} {V : Int} (h : varsOk vs V = true) {i k : Nat} (hi : i < vs.length) (hk : k < vs.length) (e : k ≠ i) : (vs.getD k 0).toNat ≠ (vs.getD i 0).toNat := by
  have h1 := varsOk_rng h hi
  have h2 := varsOk_rng h hk
  have h3 : vs.getD k 0 ≠ vs.getD i 0 := by
    rcases Nat.lt_or_ge k i with h4 | h4
    · exact varsOk_ne h hi h4
    · exact (varsOk_ne h hk (by omega)).symm
  omega

/-- In the middle of a variable's round. -/
def midL (vars : List Int) (ls : List (List Int)) (g : Nat → Int → Bool) (m j p k : Nat) : List (List Int) := (fillU vars ls g m j).set p (((ls.getD p []).take k).filter (g j))
theorem midL_length (vars : List Int) (ls : List (List Int)) (g : Nat → Int → Bool) (m j p k : Nat) : (midL vars ls g m j p k).length = ls.length := by
  unfold midL; rw [List.length_set, fillU_length]
theorem midL_zero {vars : List Int} {ls : List (List Int)} {g : Nat → Int → Bool} {j p : Nat} (hv : varsOk vars ls.length = true) (hj : j < vars.length) (hp : vars.getD j 0 = (p : Nat)) : midL vars ls g vars.length j p 0 = fillU vars ls g vars.length j := by
  have hpl : p < ls.length := by have := varsOk_rng hv hj; omega
  unfold midL
  rw [List.take_zero, List.filter_nil]
  have e : (fillU vars ls g vars.length j).getD p [] = [] := by
    rw [fillU_out (fun k hk => by have := varsOk_ne' hv hj (show k < vars.length by omega) (by omega); rw [hp] at this; exact this)]
    exact noneU_in (fun k hk => by have := varsOk_rng hv hk; omega) ⟨j, hj, by rw [hp]; rfl⟩
  have h := set_getD_self (fillU vars ls g vars.length j) p [] (by rw [fillU_length]; exact hpl)
  rw [e] at h
  exact h
theorem midL_at {vars : List Int} {ls : List (List Int)} {g : Nat → Int → Bool} {m j p k : Nat} (hp : p < ls.length) : (midL vars ls g m j p k).getD p [] = ((ls.getD p []).take k).filter (g j) := by
  unfold midL
  rw [getD_set3 _ _ _ _ _ (by rw [fillU_length]; exact hp), if_pos rfl]
theorem midL_no {vars : List Int} {ls : List (List Int)} {g : Nat → Int → Bool} {m j p k : Nat} {v : Int} (hk : k < (ls.getD p []).length) (hv : (ls.getD p []).getD k 0 = v) (hg : g j v = false) : midL vars ls g m j p (k + 1) = midL vars ls g m j p k := by
  unfold midL
  rw [take_one hk hv, List.filter_append]
  simp [hg]
theorem midL_yes {vars : List Int} {ls : List (List Int)} {g : Nat → Int → Bool} {m j p k : Nat} {v : Int} (hp : p < ls.length) (hk : k < (ls.getD p []).length) (hv : (ls.getD p []).getD k 0 = v) (hg : g j v = true) :
    midL vars ls g m j p (k + 1) = (midL vars ls g m j p k).set p ((midL vars ls g m j p k).getD p [] ++ [v]) := by
  rw [midL_at hp]
  unfold midL
  rw [List.set_set, take_one hk hv, List.filter_append]
  simp [hg]
theorem midL_end {vars : List Int} {ls : List (List Int)} {g : Nat → Int → Bool} {m j p k : Nat} (hp : vars.getD j 0 = (p : Nat)) (hk : (ls.getD p []).length = k) : midL vars ls g m j p k = fillU vars ls g m (j + 1) := by
  unfold midL
  simp only [fillU]
  rw [hp, Int.toNat_natCast, List.take_of_length_le (by omega)]

/-- What is kept by the lists so filled. -/
theorem fillU_keeps {vars : List Int} {ls : List (List Int)} {g : Nat → Int → Bool} {q : Nat} {v : Int} (hv : varsOk vars ls.length = true) (hm : v ∈ ls.getD q []) : ((fillU vars ls g vars.length vars.length).getD q []).contains v = varsKp vars g vars.length q v := by
  have hr : ∀ k, k < vars.length → (vars.getD k 0).toNat < ls.length := fun k hk => by have := varsOk_rng hv hk; omega
  rw [Bool.eq_iff_iff, List.contains_iff_mem, varsKp_iff]
  by_cases h : ∃ i, i < vars.length ∧ (vars.getD i 0).toNat = q
  · obtain ⟨i, hi, rfl⟩ := h
    rw [fillU_in hr (fun k hk e => varsOk_ne' hv hi hk e) hi, List.mem_filter]
    constructor
    · rintro ⟨_, h2⟩ k hk e
      have : k = i := by
        rcases Nat.decEq k i with h3 | h3
        · exact absurd e (varsOk_ne' hv hi hk h3)
        · exact h3
      subst this; exact h2
    · intro h2
      exact ⟨hm, h2 i hi rfl⟩
  · have hn : ∀ k, k < vars.length → (vars.getD k 0).toNat ≠ q := fun k hk e => h ⟨k, hk, e⟩
    rw [fillU_out hn, noneU_out hn]
    exact ⟨fun _ k hk e => absurd e (hn k hk), fun _ => hm⟩
end Pl
end Go.Proofs.YtekcenacpklpgaaDoor

set_option maxHeartbeats 1000000
set_option maxRecDepth 10000
namespace Go.Proofs.YtekcenacpklpgaaDoor
open Go Go.RowKit Pl

/-- What a sum keeps of a value at a place. -/
def sumG (cs : List Int) (ls : Nat → List Int) (m : Nat) (rel c : Int) (i : Nat) (x : Int) : Bool := mayL (lowBut cs ls i m + cs.getD i 0 * x) (highBut cs ls i m + cs.getD i 0 * x) rel c
/-- What is left of the variables behind the first one. -/
def restOf (C : ConB) (ds : List DomB) (i : Nat) : List Int := leftOf C ds (i + 1)
def iffG (C : ConB) (ds : List DomB) (i : Nat) (x : Int) : Bool :=
  if i = 0 then (decide (x = 1) && mayL (lowBut C.coefs (restOf C ds) (-1) (C.vars.length - 1)) (highBut C.coefs (restOf C ds) (-1) (C.vars.length - 1)) C.rel C.const) || (decide (x = 0) && mayL (lowBut C.coefs (restOf C ds) (-1) (C.vars.length - 1)) (highBut C.coefs (restOf C ds) (-1) (C.vars.length - 1)) (contraB C.rel) C.const)
  else if (leftOf C ds 0).contains 1 = true then
    (if (leftOf C ds 0).contains 0 = true then true else sumG C.coefs (restOf C ds) (C.vars.length - 1) C.rel C.const (i - 1) x)
  else (if (leftOf C ds 0).contains 0 = true then sumG C.coefs (restOf C ds) (C.vars.length - 1) (contraB C.rel) C.const (i - 1) x else false)
def linG (C : ConB) (ds : List DomB) (i : Nat) (x : Int) : Bool :=
  if wipedB C ds C.vars.length = true then false else if C.kind = 1 then sumG C.coefs (leftOf C ds) C.vars.length C.rel C.const i x else iffG C ds i x

def linGo (C : ConB) (ds : List DomB) : Bool := (decide (C.kind = 1) || decide (C.kind = 3)) && rightB C ds.length && allMay ds
def linKp (C : ConB) (ds : List DomB) : Nat → Int → Bool := varsKp C.vars (linG C ds) C.vars.length
theorem linGo_parts {C : ConB} {ds : List DomB} (h : linGo C ds = true) : (C.kind = 1 ∨ C.kind = 3) ∧ rightB C ds.length = true ∧ allMay ds = true := by
  unfold linGo at h
  simp only [Bool.and_eq_true, Bool.or_eq_true, decide_eq_true_eq] at h
  exact ⟨h.1.1, h.1.2, h.2⟩
theorem linGo_not {C : ConB} {ds : List DomB} (h : ¬ (C.kind = 1 ∨ C.kind = 3)) : linGo C ds = false := by
  unfold linGo
  rw [decide_eq_false (fun e => h (.inl e)), decide_eq_false (fun e => h (.inr e))]; rfl
theorem linGo_of {C : ConB} {ds : List DomB} (hk : C.kind = 1 ∨ C.kind = 3) (hr : rightB C ds.length = true) (hm : allMay ds = true) : linGo C ds = true := by
  unfold linGo
  rw [hr, hm]
  rcases hk with h | h <;> simp [h]
theorem lin_go_less {C : ConB} {vs us : List DomB} (h : Fewer vs us) (hg : linGo C us = true) : linGo C vs = true := by
  obtain ⟨h1, h2, h3⟩ := linGo_parts hg
  exact linGo_of h1 (by rw [h.len]; exact h2) (h.may h3)

structure SumOk (C : ConB) (but : Nat) : Prop where
  least : 1 ≤ C.vars.length - but
  most : C.vars.length - but ≤ 8
  len : C.coefs.length = C.vars.length - but
  bnd : ∀ i, -1048576 ≤ C.coefs.getD i 0 ∧ C.coefs.getD i 0 ≤ 1048576
  rel0 : 0 ≤ C.rel
  rel5 : C.rel ≤ 5
  con : -1099511627776 ≤ C.const ∧ C.const ≤ 1099511627776
theorem sumR_ok {C : ConB} {but : Nat} (h : sumR C but = true) : SumOk C but := by
  unfold sumR at h
  simp only [Bool.and_eq_true, decide_eq_true_eq] at h
  obtain ⟨⟨⟨⟨⟨⟨⟨⟨_, h1⟩, h2⟩, h3⟩, h4⟩, h5⟩, h6⟩, h7⟩, _⟩ := h
  have hc := withinB_mem h7 (x := C.const) (by simp)
  refine ⟨by omega, by omega, by omega, fun i => ?_, h5, h6, by omega⟩
  by_cases hi : i < C.coefs.length
  · have := withinB_mem h4 (x := C.coefs.getD i 0) (by rw [List.getD_eq_getElem?_getD, List.getElem?_eq_getElem hi]; exact List.getElem_mem hi)
    omega
  · rw [List.getD_eq_getElem?_getD, List.getElem?_eq_none (by omega)]; simp
theorem linear_parts {C : ConB} {V : Int} (hk : C.kind = 1) (h : rightB C V = true) : SumOk C 0 := by
  unfold rightB at h
  rw [if_pos hk, Bool.and_eq_true] at h
  exact sumR_ok h.2
theorem iff_parts {C : ConB} {V : Int} (hk : C.kind = 3) (h : rightB C V = true) : SumOk C 1 := by
  unfold rightB at h
  rw [if_neg (by rw [hk]; decide), if_pos hk, Bool.and_eq_true] at h
  exact sumR_ok h.2

theorem leftOf_sorted (C : ConB) (ds : List DomB) (i : Nat) : (leftOf C ds i).Pairwise (· < ·) := listB_sorted _ _
theorem sumG_mono {cs : List Int} {ls ms : Nat → List Int} {m : Nat} {rel c : Int} {i : Nat} {x : Int} (h : ∀ i, i < m → (ls i).Pairwise (· < ·) ∧ (∀ x ∈ ms i, x ∈ ls i) ∧ 0 < (ms i).length) (hx : sumG cs ms m rel c i x = true) : sumG cs ls m rel c i x = true := by
  have h1 := ends_sub (cs := cs) (but := i) h
  have h2 := ends_le cs ms i m
  unfold sumG at *
  exact mayL_mono (by omega) (by omega) (by omega) hx

theorem lin_falls {C : ConB} {vs us : List DomB} (h : Fewer vs us) (hg : linGo C us = true) : withinL (stepB (linKp C vs) vs) (stepB (linKp C us) us) = true := by
  obtain ⟨hkk, h2, hm⟩ := linGo_parts hg
  have hsub : ∀ i, i < C.vars.length → ∀ x ∈ leftOf C vs i, x ∈ leftOf C us i := fun i hi x hx => fewer_at h (rightB_vars h2) hm hi hx
  refine step_falls h hm fun i hi v hv hk => varsKp_mono (fun k hk _ hgk => ?_) hk
  unfold linG at hgk ⊢
  split at hgk
  · cases hgk
  · rename_i hw
    have hw1 := wipedB_iff.1 (Bool.eq_false_iff.2 hw)
    have hw2 : wipedB C us C.vars.length = false := wipedB_iff.2 fun i hi => by
      obtain ⟨x, hx⟩ := List.exists_mem_of_length_pos (hw1 i hi)
      exact List.length_pos_of_mem (hsub i hi x hx)
    rw [if_neg (by rw [hw2]; decide)]
    split at hgk
    · rename_i e
      rw [if_pos e]
      exact sumG_mono (fun i hi => ⟨leftOf_sorted C us i, hsub i hi, hw1 i hi⟩) hgk
    · rename_i e
      rw [if_neg e]
      have hk3 : C.kind = 3 := hkk.resolve_left e
      have hso := iff_parts hk3 h2
      have hl := hso.least
      have hrest : ∀ i, i < C.vars.length - 1 → (restOf C us i).Pairwise (· < ·) ∧ (∀ x ∈ restOf C vs i, x ∈ restOf C us i) ∧ 0 < (restOf C vs i).length := fun i hi => ⟨leftOf_sorted C us (i + 1), hsub (i + 1) (by omega), hw1 (i + 1) (by omega)⟩
      have he := ends_sub (cs := C.coefs) (but := -1) hrest
      have hle := ends_le C.coefs (restOf C vs) (-1) (C.vars.length - 1)
      have hy : (leftOf C vs 0).contains 1 = true → (leftOf C us 0).contains 1 = true := fun h => List.contains_iff_mem.2 (hsub 0 (by omega) _ (List.contains_iff_mem.1 h))
      have hn : (leftOf C vs 0).contains 0 = true → (leftOf C us 0).contains 0 = true := fun h => List.contains_iff_mem.2 (hsub 0 (by omega) _ (List.contains_iff_mem.1 h))
      unfold iffG at hgk ⊢
      split at hgk
      · rename_i e0
        rw [if_pos e0]
        rw [Bool.or_eq_true, Bool.and_eq_true, Bool.and_eq_true] at hgk ⊢
        rcases hgk with ⟨a, b⟩ | ⟨a, b⟩
        · exact .inl ⟨a, mayL_mono he.1 he.2 hle b⟩
        · exact .inr ⟨a, mayL_mono he.1 he.2 hle b⟩
      · rename_i e0
        rw [if_neg e0]
        split at hgk
        · rename_i y
          rw [if_pos (hy y)]
          split at hgk
          · rename_i z
            rw [if_pos (hn z)]
          · split
            · rfl
            · exact sumG_mono hrest hgk
        · rename_i y
          split at hgk
          · rename_i z
            rw [if_pos (hn z)]
            split
            · rfl
            · rw [if_pos (hn z)]
              exact sumG_mono hrest hgk
          · cases hgk

/-- A row's value at a place. -/
def atV (C : ConB) (row : List Int) (i : Nat) : Int := row.getD (C.vars.getD i 0).toNat 0
/-- Does a linear constraint, or an iff, hold? -/
def holdsL (C : ConB) (row : List Int) : Bool := relB (sumBut C.coefs (atV C row) (-1) C.vars.length) C.rel C.const
def holdsI (C : ConB) (row : List Int) : Bool := (decide (atV C row 0 = 0) || decide (atV C row 0 = 1)) && (relB (sumBut C.coefs (fun i => atV C row (i + 1)) (-1) (C.vars.length - 1)) C.rel C.const == decide (atV C row 0 = 1))
def holdsLin (C : ConB) (row : List Int) : Bool := if C.kind = 1 then holdsL C row else holdsI C row

theorem sumG_row {cs : List Int} {ls : Nat → List Int} {r : Nat → Int} {m : Nat} {rel c : Int} {i : Nat} (hi : i < m) (h : ∀ i, i < m → (ls i).Pairwise (· < ·) ∧ r i ∈ ls i) (hr : relB (sumBut cs r (-1) m) rel c = true) : sumG cs ls m rel c i (r i) = true := by
  have h1 := ends_row (cs := cs) (but := i) h
  have h2 := sumBut_eq (cs := cs) (r := r) hi
  unfold sumG
  exact mayL_of (s := sumBut cs r (-1) m) (by omega) (by omega) hr

theorem lin_row {C : ConB} {ds : List DomB} {row : List Int} (hkk : C.kind = 1 ∨ C.kind = 3) (h2 : rightB C ds.length = true) (hl : ∀ i, i < C.vars.length → atV C row i ∈ leftOf C ds i) (hh : holdsLin C row = true) {i : Nat} (hi : i < C.vars.length) : linG C ds i (atV C row i) = true := by
  have hw2 : wipedB C ds C.vars.length = false := wipedB_iff.2 fun i hi => List.length_pos_of_mem (hl i hi)
  unfold linG
  unfold holdsLin at hh
  rw [if_neg (by rw [hw2]; decide)]
  split
  · rename_i e
    rw [if_pos e] at hh
    exact sumG_row hi (fun i hi => ⟨leftOf_sorted C ds i, hl i hi⟩) hh
  · rename_i e
    rw [if_neg e] at hh
    have hk3 : C.kind = 3 := hkk.resolve_left e
    have hso := iff_parts hk3 h2
    have hl1 := hso.least
    have hrest : ∀ i, i < C.vars.length - 1 → (restOf C ds i).Pairwise (· < ·) ∧ (fun i => atV C row (i + 1)) i ∈ restOf C ds i := fun i hi => ⟨leftOf_sorted C ds (i + 1), hl (i + 1) (by omega)⟩
    have he := ends_row (cs := C.coefs) (but := -1) hrest
    have hl0 := hl 0 (by omega)
    unfold holdsI at hh
    rw [Bool.and_eq_true, Bool.or_eq_true, decide_eq_true_eq, decide_eq_true_eq, beq_iff_eq] at hh
    obtain ⟨h01, hrel⟩ := hh
    have hc := relB_contra (s := sumBut C.coefs (fun i => atV C row (i + 1)) (-1) (C.vars.length - 1)) (c := C.const) hso.rel0 hso.rel5
    unfold iffG
    rcases h01 with h0 | h0
    · rw [h0] at hrel hl0
      rw [decide_eq_false (by decide)] at hrel
      rw [hrel] at hc
      split
      · rename_i e0
        subst e0
        rw [h0, mayL_of he.1 he.2 hc]; simp
      · rename_i e0
        rw [if_pos (List.contains_iff_mem.2 hl0), if_pos (List.contains_iff_mem.2 hl0)]
        split
        · rfl
        · have h3 := sumG_row (i := i - 1) (by omega) hrest hc
          have e1 : i - 1 + 1 = i := by omega
          simp only [e1] at h3
          exact h3
    · rw [h0] at hrel hl0
      rw [decide_eq_true rfl] at hrel
      split
      · rename_i e0
        subst e0
        rw [h0, mayL_of he.1 he.2 hrel]; simp
      · rename_i e0
        rw [if_pos (List.contains_iff_mem.2 hl0)]
        split
        · rfl
        · have h3 := sumG_row (i := i - 1) (by omega) hrest hrel
          have e1 : i - 1 + 1 = i := by omega
          simp only [e1] at h3
          exact h3

theorem lin_sound {C : ConB} {ds : List DomB} {row : List Int} (hg : linGo C ds = true) (hl : leftL row ds = true) (hh : holdsLin C row = true) : leftL row (stepB (linKp C ds) ds) = true := by
  obtain ⟨hkk, h2, hm⟩ := linGo_parts hg
  have hv := rightB_vars h2
  refine step_sound hm hl fun i hi => varsKp_iff.2 fun k hk e => ?_
  have h := lin_row hkk h2 (fun i hi => left_at hv hl hi) hh hk
  unfold atV at h
  rwa [e] at h

theorem lin_single {C : ConB} {row : List Int} (hr : withinB row 1048576 = true) (hkk : C.kind = 1 ∨ C.kind = 3) (hB : rightB C row.length = true) : allLive C.vars (stepB (linKp C (singles row)) (singles row)) C.vars.length = holdsLin C row := by
  have hv := rightB_vars hB
  have hs : ∀ i, i < C.vars.length → leftOf C (singles row) i = [atV C row i] := fun i hi => singles_at hv hr hi
  have hw2 : wipedB C (singles row) C.vars.length = false := wipedB_iff.2 fun i hi => by rw [hs i hi]; simp
  have hl1 := (rightB_len hB).1
  unfold linKp
  rw [Bool.eq_iff_iff, allLive_varsKp hv]
  constructor
  · intro h
    have hg : ∀ i, i < C.vars.length → (if C.kind = 1 then sumG C.coefs (leftOf C (singles row)) C.vars.length C.rel C.const i (atV C row i) else iffG C (singles row) i (atV C row i)) = true := fun i hi => by
      have h9 := h i hi i hi rfl
      unfold linG at h9
      rw [if_neg (by rw [hw2]; decide)] at h9
      exact h9
    unfold holdsLin
    split
    · rename_i e
      have h0 := hg 0 (by omega)
      rw [if_pos e] at h0
      unfold sumG at h0
      have h1 := ends_one (cs := C.coefs) (but := ((0 : Nat) : Int)) hs
      have h2 := sumBut_eq (cs := C.coefs) (r := atV C row) (show 0 < C.vars.length by omega)
      rw [h1.1, h1.2, h2, mayL_one] at h0
      exact h0
    · rename_i e
      have hk3 : C.kind = 3 := hkk.resolve_left e
      have hso := iff_parts hk3 hB
      have h0 := hg 0 (by omega)
      rw [if_neg e] at h0
      unfold iffG at h0
      rw [if_pos rfl] at h0
      have h1 := ends_one (cs := C.coefs) (ls := restOf C (singles row)) (r := fun i => atV C row (i + 1)) (but := -1) (j := C.vars.length - 1) (fun i hi => hs (i + 1) (by omega))
      rw [h1.1, h1.2, mayL_one, mayL_one, relB_contra hso.rel0 hso.rel5] at h0
      unfold holdsI
      rw [Bool.or_eq_true, Bool.and_eq_true, Bool.and_eq_true, decide_eq_true_eq, decide_eq_true_eq] at h0
      rcases h0 with ⟨a, b⟩ | ⟨a, b⟩
      · rw [a, b]; decide
      · rw [Bool.not_eq_true'] at b
        rw [a, b]; decide
  · intro h i hi k hk e
    have h1 := lin_row (ds := singles row) hkk (by rw [singles_length]; exact hB) (fun i hi => by rw [hs i hi]; simp) h hk
    unfold atV at h1
    rwa [e] at h1
end Go.Proofs.YtekcenacpklpgaaDoor

set_option maxHeartbeats 1000000
namespace Go.Proofs.YtekcenacpklpgaaDoor
open Go Go.RowKit Pl

/-- The slice u, in blocks from base on, owns the domains ds; their values do not lie in its own block. -/
def OwnR (w : World) (base : Nat) (u : Value) (ds : List DomB) : Prop :=
  ∃ vs : List Value, w.ownsRow base 71 2 u ds.length vs ∧ ∀ j, j < ds.length → (ds.getD j nilD).2 < 2 ^ 64 ∧
    ∃ B m c, vs[j * 2]? = some (.slice B m c) ∧ vs[j * 2 + 1]? = some (.int .u64 ((ds.getD j nilD).2 : Nat)) ∧ Ints w B m (ds.getD j nilD).1 ∧ (0 < m → ∀ a, B = some a → u.ownBlock ≠ some a.block)

theorem OwnR.nil (w : World) (base : Nat) : OwnR w base (.slice Option.none 0 0) [] :=
  ⟨[], World.ownsRow_nil _ _ _ _, fun j hj => by simp at hj⟩

theorem OwnR.kept {w w' : World} {base : Nat} {u : Value} {ds : List DomB} (h : OwnR w base u ds) (hk : Kept w w') : OwnR w' base u ds := by
  obtain ⟨vs, hown, hd⟩ := h
  refine ⟨vs, hown.kept (row := Option.none) ⟨hk.os, hk.tape, hk.output, hk.size, fun k hk' _ => hk.block k hk'⟩ ?_, fun j hj => ?_⟩
  · cases u.ownBlock <;> simp
  · obtain ⟨hl, B, m, c, h1, h2, h3, h4⟩ := hd j hj
    exact ⟨hl, B, m, c, h1, h2, h3.kept hk, h4⟩

/-- One more: behind the copy of its values and the append. w1: where the append begins (its element laid in a block of its own). -/
theorem OwnR.snoc {w1 w2 : World} {base g cap : Nat} {u : Value} {ds : List DomB} {d : DomB} {B : Option Addr} {m c : Nat} {vs : List Value}
    (hown : w1.ownsRow base 71 2 u ds.length vs) (hd : ∀ j, j < ds.length → (ds.getD j nilD).2 < 2 ^ 64 ∧ ∃ B m c, vs[j * 2]? = some (.slice B m c) ∧ vs[j * 2 + 1]? = some (.int .u64 ((ds.getD j nilD).2 : Nat)) ∧ Ints w1 B m (ds.getD j nilD).1 ∧ (0 < m → ∀ a, B = some a → u.ownBlock ≠ some a.block))
    (hI : Ints w1 B m d.1) (hB : 0 < m → ∀ a, B = some a → u.ownBlock ≠ some a.block) (hL : d.2 < 2 ^ 64)
    (h2 : w2.ownsRow base 71 2 (.slice (some ⟨g, 0, Option.none⟩) (ds.length + 1) cap) (ds.length + 1) (vs ++ [.slice B m c, .int .u64 (d.2 : Nat)]))
    (hg : w1.grownBy w2 u.ownBlock) (hat : u.ownBlock = some g ∨ w1.heap.size ≤ g) : OwnR w2 base (.slice (some ⟨g, 0, Option.none⟩) (ds.length + 1) cap) (ds ++ [d]) := by
  have hlen : vs.length = ds.length * 2 := hown.1
  have hne : ∀ a : Addr, a.block < w1.heap.size → u.ownBlock ≠ some a.block → Value.ownBlock (.slice (some ⟨g, 0, Option.none⟩) (ds.length + 1) cap) ≠ some a.block := by
    intro a h1 h2 e
    simp only [Value.ownBlock, Option.some.injEq] at e
    rcases hat with h | h
    · rw [h, e] at h2; exact h2 rfl
    · omega
  have hint : ∀ {B : Option Addr} {m : Nat} {xs : List Int}, Ints w1 B m xs → (0 < m → ∀ a, B = some a → u.ownBlock ≠ some a.block) → Ints w2 B m xs := by
    intro B m xs h hb
    refine ⟨h.len, h.small, h.rng, fun hn => ?_⟩
    obtain ⟨a, e, hc⟩ := h.cell hn
    exact ⟨a, e, fun j hj => hg.cell (hc j hj) (by rw [add_block']; exact fun e' => hb hn a e e'.symm)⟩
  have hblk : ∀ {B : Option Addr} {m : Nat} {xs : List Int}, Ints w1 B m xs → 0 < m → ∀ a, B = some a → a.block < w1.heap.size := by
    intro B m xs h hn a ha
    subst ha
    exact h.block hn
  refine ⟨vs ++ [.slice B m c, .int .u64 (d.2 : Nat)], by rw [List.length_append]; exact h2, fun j hj => ?_⟩
  rw [List.length_append] at hj
  simp only [List.length_cons, List.length_nil] at hj
  by_cases hlt : j < ds.length
  · rw [getD_snoc hlt]
    obtain ⟨hl, B', m', c', e1, e2, e3, e4⟩ := hd j hlt
    refine ⟨hl, B', m', c', ?_, ?_, hint e3 e4, fun hn a ha => hne a (hblk e3 hn a ha) (e4 hn a ha)⟩
    · rw [List.getElem?_append_left (by omega)]; exact e1
    · rw [List.getElem?_append_left (by omega)]; exact e2
  · have e : j = ds.length := by omega
    subst e
    rw [getD_last]
    refine ⟨hL, B, m, c, ?_, ?_, hint hI hB, fun hn a ha => hne a (hblk hI hn a ha) (hB hn a ha)⟩
    · rw [List.getElem?_append_right (by omega), hlen]; simp
    · rw [List.getElem?_append_right (by omega), hlen]
      have : ds.length * 2 + 1 - ds.length * 2 = 1 := by omega
      rw [this]; rfl

theorem OwnR.parts {w : World} {base : Nat} {u : Value} {ds : List DomB} (h : OwnR w base u ds) : ∃ A c, u = .slice A ds.length c := by
  obtain ⟨vs, hown, _⟩ := h
  rcases hown.2 with ⟨rfl, h0⟩ | ⟨g, cap, cur, rfl, _⟩
  · rw [h0]; exact ⟨_, _, rfl⟩
  · exact ⟨_, _, rfl⟩

theorem OwnR.doms {w : World} {base c : Nat} {A : Option Addr} {n : Nat} {ds : List DomB} (h : OwnR w base (.slice A n c) ds) (hn : ds.length = n) (hs : n ≤ 9223372036854775807) : Doms w A n ds := by
  obtain ⟨vs, hown, hd⟩ := h
  subst hn
  refine ⟨rfl, hs, fun j hj => (hd j hj).1, fun h0 => ?_⟩
  obtain ⟨g, cap, e, hb, hlt⟩ := hown.form h0
  cases e
  refine ⟨_, rfl, fun j hj => ?_⟩
  obtain ⟨_, B, m, c, e1, e2, e3, _⟩ := hd j hj
  refine ⟨B, m, c, hown.cells (g := g) rfl _ _ e1, ?_, e3⟩
  have := hown.cells (g := g) rfl _ _ e2
  rw [add_plain] at this ⊢
  exact this

/-- A domain of the row is turned. -/
theorem OwnR.set {w : World} {base g n cap p : Nat} {ds : List DomB} {d : DomB} {B : Option Addr} {m c : Nat} (h : OwnR w base (.slice (some ⟨g, 0, Option.none⟩) n cap) ds) (hn : ds.length = n) (_hp : p < n) (hI : Ints w B m d.1) (hB : 0 < m → ∀ a, B = some a → a.block ≠ g) (hL : d.2 < 2 ^ 64) :
    OwnR ((w.setCell ⟨g, p * 2, Option.none⟩ (.slice B m c)).setCell ⟨g, p * 2 + 1, Option.none⟩ (.int .u64 (d.2 : Nat))) base (.slice (some ⟨g, 0, Option.none⟩) n cap) (ds.set p d) := by
  obtain ⟨vs, hown, hd⟩ := h
  subst hn
  have hlen : vs.length = ds.length * 2 := hown.1
  have h2 := (((hown.stored (p * 2) (.slice B m c)).1).stored (p * 2 + 1) (.int .u64 (d.2 : Nat))).1
  have hk : KeptBut g w ((w.setCell ⟨g, p * 2, Option.none⟩ (.slice B m c)).setCell ⟨g, p * 2 + 1, Option.none⟩ (.int .u64 (d.2 : Nat))) := (KeptBut.set _ (a := ⟨g, p * 2, Option.none⟩) rfl _).then (KeptBut.set _ (a := ⟨g, p * 2 + 1, Option.none⟩) rfl _)
  refine ⟨_, by rw [List.length_set]; exact h2, fun j hj => ?_⟩
  rw [List.length_set] at hj
  rw [getD_set ds p j d (by omega)]
  by_cases e : j = p
  · subst e
    rw [if_pos rfl]
    refine ⟨hL, B, m, c, ?_, ?_, hI.keptBut0 hk hB, fun hn a ha e => hB hn a ha (by simpa [Value.ownBlock] using e.symm)⟩
    · rw [List.getElem?_set_ne (by omega), List.getElem?_set_self (by omega)]
    · rw [List.getElem?_set_self (by rw [List.length_set]; omega)]
  · rw [if_neg e]
    obtain ⟨hl, B', m', c', e1, e2, e3, e4⟩ := hd j hj
    refine ⟨hl, B', m', c', ?_, ?_, e3.keptBut0 hk (fun hn a ha e => e4 hn a ha (by simp [Value.ownBlock, e])), e4⟩
    · rw [List.getElem?_set_ne (by omega), List.getElem?_set_ne (by omega)]; exact e1
    · rw [List.getElem?_set_ne (by omega), List.getElem?_set_ne (by omega)]; exact e2

/-- What is left of a domain of the row is turned. -/
theorem OwnR.setLive {w : World} {base g n cap p L : Nat} {ds : List DomB} (h : OwnR w base (.slice (some ⟨g, 0, Option.none⟩) n cap) ds) (hn : ds.length = n) (_hp : p < n) (hL : L < 2 ^ 64) :
    OwnR (w.setCell ⟨g, p * 2 + 1, Option.none⟩ (.int .u64 (L : Nat))) base (.slice (some ⟨g, 0, Option.none⟩) n cap) (ds.set p ((ds.getD p nilD).1, L)) := by
  obtain ⟨vs, hown, hd⟩ := h
  subst hn
  have hlen : vs.length = ds.length * 2 := hown.1
  have h2 := (hown.stored (p * 2 + 1) (.int .u64 (L : Nat))).1
  have hk : KeptBut g w (w.setCell ⟨g, p * 2 + 1, Option.none⟩ (.int .u64 (L : Nat))) := KeptBut.set _ (a := ⟨g, p * 2 + 1, Option.none⟩) rfl _
  refine ⟨_, by rw [List.length_set]; exact h2, fun j hj => ?_⟩
  rw [List.length_set] at hj
  rw [getD_set ds p j _ (by omega)]
  obtain ⟨hl, B', m', c', e1, e2, e3, e4⟩ := hd j hj
  have e3' := e3.keptBut0 hk (fun hn a ha e => e4 hn a ha (by simp [Value.ownBlock, e]))
  by_cases e : j = p
  · subst e
    rw [if_pos rfl]
    refine ⟨hL, B', m', c', ?_, ?_, e3', e4⟩
    · rw [List.getElem?_set_ne (by omega)]; exact e1
    · rw [List.getElem?_set_self (by omega)]
  · rw [if_neg e]
    refine ⟨hl, B', m', c', ?_, ?_, e3', e4⟩
    · rw [List.getElem?_set_ne (by omega)]; exact e1
    · rw [List.getElem?_set_ne (by omega)]; exact e2

/-- The domain at a place of the row, behind names; where it lies; that it may be written. -/
theorem OwnR.named {w : World} {base g n cap : Nat} {ds : List DomB} (h : OwnR w base (.slice (some ⟨g, 0, Option.none⟩) n cap) ds) (hn : ds.length = n) (p : Nat) (hp : p < n) :
    ∃ (xs : List Int) (L : Nat) (B : Option Addr) (m c : Nat), Hid (ds.getD p nilD = (xs, L)) ∧ w.cell? ⟨g, p * 2, Option.none⟩ = some (.slice B m c) ∧ w.cell? ⟨g, p * 2 + 1, Option.none⟩ = some (.int .u64 (L : Nat)) ∧ Hid (Ints w B m xs) ∧ L < 2 ^ 64 ∧
      Hid (0 < m → ∀ a, B = some a → a.block ≠ g) ∧ w.frozen? ⟨g, p * 2, Option.none⟩ = false ∧ w.frozen? ⟨g, p * 2 + 1, Option.none⟩ = false := by
  obtain ⟨vs, hown, hd⟩ := h
  subst hn
  obtain ⟨hl, B, m, c, e1, e2, e3, e4⟩ := hd p hp
  refine ⟨_, _, B, m, c, rfl, ?_, ?_, e3, hl, fun hn a ha e => e4 hn a ha (by simp [Value.ownBlock, e]), hown.frozenAt _, hown.frozenAt _⟩
  · rw [hown.cellAt _ (by omega)]; exact e1
  · rw [hown.cellAt _ (by omega)]; exact e2
end Go.Proofs.YtekcenacpklpgaaDoor

/-
  Plain mathematics, no program in it: what is kept of domains, and what a step of a constraint keeps; what the laws of steps come to.
-/
import Derived.Test.YtjmegicopdbkdaaDoorPlain
namespace Go.Proofs.YtjmegicopdbkdaaDoor
namespace Pl

/-- A domain: its values, and which are left. -/
abbrev DomB := List Int × Nat

/-- What is left of a domain: those places for whose values f says yes. -/
@[irreducible] def keepL (f : Int → Bool) (d : DomB) : Nat := mkSet (fun k => d.2.testBit k && f (d.1.getD k 0)) 64
def keepD (f : Int → Bool) (d : DomB) : DomB := (d.1, keepL f d)
theorem keepD_fst (f : Int → Bool) (d : DomB) : (keepD f d).1 = d.1 := rfl
theorem keepD_lt (f : Int → Bool) (d : DomB) : (keepD f d).2 < 2 ^ 64 := by
  show keepL f d < _
  unfold keepL; exact mkSet_lt _ _
theorem testBit_keepD (f : Int → Bool) (d : DomB) (k : Nat) : (keepD f d).2.testBit k = (decide (k < 64) && (d.2.testBit k && f (d.1.getD k 0))) := by
  show (keepL f d).testBit k = _
  unfold keepL; exact testBit_mkSet _ _ _

theorem mayB_iff {d : DomB} : mayB d.1 d.2 = true ↔ d.1.length ≤ 64 ∧ d.2 < 2 ^ d.1.length ∧ okUpto d.1 d.1.length = true := by
  simp [mayB, and_assoc]

theorem may_bit {d : DomB} (h : mayB d.1 d.2 = true) {k : Nat} (hk : d.2.testBit k = true) : k < d.1.length ∧ k < 64 := by
  have h1 := mayB_lt h
  have h2 := mayB_len h
  by_cases hlt : k < d.1.length
  · exact ⟨hlt, by omega⟩
  · have h3 : 2 ^ d.1.length ≤ 2 ^ k := Nat.pow_le_pow_right (by decide) (by omega)
    rw [Nat.testBit_lt_two_pow (by omega)] at hk
    simp at hk

theorem keepD_may {f : Int → Bool} {d : DomB} (h : mayB d.1 d.2 = true) : mayB (keepD f d).1 (keepD f d).2 = true := by
  rw [mayB_iff] at *
  refine ⟨h.1, lt_of_testBit fun k hk => ?_, h.2.2⟩
  rw [testBit_keepD]
  have h3 : 2 ^ d.1.length ≤ 2 ^ k := Nat.pow_le_pow_right (by decide) hk
  rw [Nat.testBit_lt_two_pow (by have := h.2.1; omega)]
  simp

theorem mem_listB {d : DomB} {v : Int} : v ∈ listB d.1 d.2 ↔ mayB d.1 d.2 = true ∧ ∃ k, k < d.1.length ∧ d.2.testBit k = true ∧ d.1.getD k 0 = v := by
  unfold listB
  split
  · rename_i h
    unfold valsOf
    rw [List.mem_map]
    constructor
    · rintro ⟨x, hx, rfl⟩
      obtain ⟨k, rfl, _, hk⟩ := mem_elemsI.1 hx
      exact ⟨h, k, (may_bit h hk).1, hk, rfl⟩
    · rintro ⟨_, k, hk, hb, rfl⟩
      exact ⟨k, mem_elemsI.2 ⟨k, rfl, (may_bit h hb).2, hb⟩, rfl⟩
  · rename_i h
    simp [h]

theorem bit_mem {d : DomB} (h : mayB d.1 d.2 = true) {k : Nat} (hk : d.2.testBit k = true) : d.1.getD k 0 ∈ listB d.1 d.2 :=
  mem_listB.2 ⟨h, k, (may_bit h hk).1, hk, rfl⟩

theorem mem_keepD {f : Int → Bool} {d : DomB} (h : mayB d.1 d.2 = true) {v : Int} : v ∈ listB (keepD f d).1 (keepD f d).2 ↔ v ∈ listB d.1 d.2 ∧ f v = true := by
  rw [mem_listB, mem_listB]
  constructor
  · rintro ⟨_, k, hk, hb, rfl⟩
    rw [testBit_keepD] at hb
    simp only [Bool.and_eq_true] at hb
    exact ⟨⟨h, k, hk, hb.2.1, rfl⟩, hb.2.2⟩
  · rintro ⟨⟨_, k, hk, hb, rfl⟩, hf⟩
    refine ⟨keepD_may h, k, hk, ?_, rfl⟩
    rw [testBit_keepD]
    have := (may_bit h hb).2
    rw [hb, hf]; simp [this]

/-- What counts is what f says of the values that are left. -/
theorem keepD_congr {f g : Int → Bool} {d : DomB} (h : mayB d.1 d.2 = true) (hfg : ∀ v ∈ listB d.1 d.2, f v = g v) : keepD f d = keepD g d := by
  refine Prod.ext rfl ?_
  show keepL f d = keepL g d
  unfold keepL
  apply mkSet_congr
  intro k _
  cases hb : d.2.testBit k with
  | false => rfl
  | true => rw [Bool.true_and, Bool.true_and]; exact hfg _ (bit_mem h hb)
theorem keepD_all {f : Int → Bool} {d : DomB} (h : mayB d.1 d.2 = true) (hf : ∀ v ∈ listB d.1 d.2, f v = true) : keepD f d = d := by
  have hl : d.2 < 2 ^ 64 := Nat.lt_of_lt_of_le (mayB_lt h) (Nat.pow_le_pow_right (by decide) (mayB_len h))
  have : keepD f d = keepD (fun _ => true) d := keepD_congr h hf
  rw [this]
  refine Prod.ext rfl ?_
  show keepL _ d = d.2
  unfold keepL
  simp only [Bool.and_true]
  have e : (fun k => d.2.testBit k) = d.2.testBit := rfl
  rw [e, mkSet_testBit hl]
theorem keepD_keepD (f g : Int → Bool) (d : DomB) : keepD f (keepD g d) = keepD (fun x => g x && f x) d := by
  refine Prod.ext rfl ?_
  show keepL f (d.1, keepL g d) = keepL _ d
  unfold keepL
  apply mkSet_congr
  intro k hk
  rw [testBit_mkSet]
  simp [hk, Bool.and_assoc]

/-- The list of domains, of each of which some is kept. -/
def stepB (kp : Nat → Int → Bool) (ds : List DomB) : List DomB := (List.range ds.length).map fun i => keepD (kp i) (ds.getD i ([], 0))
theorem stepB_length (kp : Nat → Int → Bool) (ds : List DomB) : (stepB kp ds).length = ds.length := by simp [stepB]
theorem stepB_getD (kp : Nat → Int → Bool) (ds : List DomB) {i : Nat} (hi : i < ds.length) : (stepB kp ds).getD i ([], 0) = keepD (kp i) (ds.getD i ([], 0)) := by
  unfold stepB
  rw [List.getD_eq_getElem?_getD, List.getElem?_map, List.getElem?_range hi]
  rfl

/-- May each domain be? -/
def allMay (ds : List DomB) : Bool := ds.all fun d => mayB d.1 d.2
theorem allMay_at {ds : List DomB} (h : allMay ds = true) {i : Nat} (hi : i < ds.length) : mayB (ds.getD i ([], 0)).1 (ds.getD i ([], 0)).2 = true := by
  unfold allMay at h
  rw [List.all_eq_true] at h
  have : ds.getD i ([], 0) ∈ ds := by
    rw [List.getD_eq_getElem?_getD, List.getElem?_eq_getElem hi]
    exact List.getElem_mem hi
  exact h _ this

theorem ext_getD {us bs : List DomB} (hl : us.length = bs.length) (h : ∀ i, i < us.length → us.getD i ([], 0) = bs.getD i ([], 0)) : us = bs := by
  apply List.ext_getElem hl
  intro i h1 h2
  have := h i h1
  rw [List.getD_eq_getElem?_getD, List.getD_eq_getElem?_getD, List.getElem?_eq_getElem h1, List.getElem?_eq_getElem h2] at this
  simpa using this

/-- One domain of the list turned. -/
theorem getD_set (ds : List DomB) (p i : Nat) (d : DomB) (hp : p < ds.length) : (ds.set p d).getD i ([], 0) = if i = p then d else ds.getD i ([], 0) := by
  simp only [List.getD_eq_getElem?_getD, List.getElem?_set]
  by_cases h : p = i
  · subst h; simp [hp]
  · have : ¬ i = p := fun e => h e.symm
    simp [h, this]

/-- The list of what is left, turned into what is kept. -/
theorem stepB_congr {kp kq : Nat → Int → Bool} {ds : List DomB} (h : allMay ds = true) (hk : ∀ i, i < ds.length → ∀ v ∈ listB (ds.getD i ([], 0)).1 (ds.getD i ([], 0)).2, kp i v = kq i v) : stepB kp ds = stepB kq ds := by
  unfold stepB
  apply List.map_congr_left
  intro i hi
  have hi := List.mem_range.1 hi
  exact keepD_congr (allMay_at h hi) (hk i hi)

end Pl
end Go.Proofs.YtjmegicopdbkdaaDoor

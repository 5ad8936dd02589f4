/-
  Plain: constraints, and whether they may be.
-/
import Derived.Test.YtjmegicopdbkdaaDoorStepPlain
namespace Go.Proofs.YtjmegicopdbkdaaDoor
namespace Pl

structure ConB where
  kind : Int
  vars : List Int
  coefs : List Int
  rel : Int
  const : Int
  nums : List Int

/-- Are all numbers from -m to m? -/
def withinB (l : List Int) (m : Int) : Bool := l.all fun x => decide (-m ≤ x) && decide (x ≤ m)
theorem within_take {l : List Int} {k : Nat} {x m : Int} (hk : k < l.length) (hx : l.getD k 0 = x) (h : withinB (l.take k) m = true) : withinB (l.take (k + 1)) m = (decide (-m ≤ x) && decide (x ≤ m)) := by
  have e : l.take (k + 1) = l.take k ++ [x] := by
    rw [List.take_succ_eq_append_getElem hk]
    rw [List.getD_eq_getElem?_getD, List.getElem?_eq_getElem hk] at hx
    simp only [Option.getD_some] at hx
    rw [hx]
  rw [e]
  unfold withinB at *
  rw [List.all_append, h]
  simp
theorem within_bad {l : List Int} {k : Nat} {m : Int} (h : withinB (l.take k) m = false) : withinB l m = false := by
  cases e : withinB l m with
  | false => rfl
  | true =>
    unfold withinB at *
    rw [List.all_eq_true] at e
    have : (l.take k).all (fun x => decide (-m ≤ x) && decide (x ≤ m)) = true := List.all_eq_true.2 fun d hd => e d (List.mem_of_mem_take hd)
    rw [h] at this
    cases this
theorem withinB_mem {l : List Int} {m x : Int} (h : withinB l m = true) (hx : x ∈ l) : -m ≤ x ∧ x ≤ m := by
  unfold withinB at h
  rw [List.all_eq_true] at h
  simpa using h x hx

/-- Is the variable at a place right, behind those ahead of it? -/
def vOk (vs : List Int) (V : Int) (i : Nat) : Bool := decide (0 ≤ vs.getD i 0) && decide (vs.getD i 0 < V) && !((vs.take i).contains (vs.getD i 0))
def vUpto (vs : List Int) (V : Int) (k : Nat) : Bool := (List.range k).all (vOk vs V)
def varsOk (vs : List Int) (V : Int) : Bool := vUpto vs V vs.length
theorem vUpto_zero (vs : List Int) (V : Int) : vUpto vs V 0 = true := rfl
theorem vUpto_succ (vs : List Int) (V : Int) (k : Nat) : vUpto vs V (k + 1) = (vUpto vs V k && vOk vs V k) := by
  unfold vUpto
  rw [List.range_succ, List.all_append]
  simp
theorem vUpto_bad {vs : List Int} {V : Int} {m n : Nat} (h : vOk vs V m = false) (hm : m < n) : vUpto vs V n = false := by
  cases e : vUpto vs V n with
  | false => rfl
  | true =>
    unfold vUpto at e
    rw [List.all_eq_true] at e
    have := e m (List.mem_range.2 hm)
    rw [h] at this
    cases this
theorem vUpto_at {vs : List Int} {V : Int} {n k : Nat} (h : vUpto vs V n = true) (hk : k < n) : vOk vs V k = true := by
  unfold vUpto at h
  rw [List.all_eq_true] at h
  exact h k (List.mem_range.2 hk)
theorem vOk_named {vs : List Int} {V x : Int} {i : Nat} (hx : vs.getD i 0 = x) : vOk vs V i = (decide (0 ≤ x) && decide (x < V) && !((vs.take i).contains x)) := by
  unfold vOk; rw [hx]
theorem varsOk_rng {vs : List Int} {V : Int} (h : varsOk vs V = true) {i : Nat} (hi : i < vs.length) : 0 ≤ vs.getD i 0 ∧ vs.getD i 0 < V := by
  have := vUpto_at h hi
  unfold vOk at this
  simp only [Bool.and_eq_true, decide_eq_true_eq] at this
  exact this.1
theorem varsOk_ne {vs : List Int} {V : Int} (h : varsOk vs V = true) {i k : Nat} (hi : i < vs.length) (hk : k < i) : vs.getD k 0 ≠ vs.getD i 0 := by
  have := vUpto_at h hi
  unfold vOk at this
  simp only [Bool.and_eq_true, Bool.not_eq_true', List.contains_eq_mem, decide_eq_false_iff_not] at this
  intro e
  apply this.2
  rw [← e]
  rw [List.getD_eq_getElem?_getD, List.getElem?_eq_getElem (by omega)]
  simp only [Option.getD_some]
  exact List.mem_take_iff_getElem.2 ⟨k, by omega, rfl⟩

/-- There is no sum, and there are from so many to so many numbers. -/
def bareB (C : ConB) (least most : Int) : Bool :=
  decide (C.coefs.length = 0) && decide (C.rel = 0) && decide (C.const = 0) && decide (least ≤ C.nums.length) && decide ((C.nums.length : Int) ≤ most) && withinB C.nums 1048576
def variablesB (C : ConB) (V least most : Int) : Bool := decide (least ≤ C.vars.length) && decide ((C.vars.length : Int) ≤ most) && varsOk C.vars V
def elemB (C : ConB) (V : Int) : Bool := variablesB C V 2 2 && bareB C 1 96
def tabB (C : ConB) (V : Int) : Bool := variablesB C V 1 8 && bareB C 0 96 && decide ((C.nums.length : Int) % C.vars.length = 0)

end Pl
end Go.Proofs.YtjmegicopdbkdaaDoor

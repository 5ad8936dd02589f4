/-
  May a step be taken: what the laws of the steps ask of it.
-/
import Derived.Test.YtjmegicopdbkdaaDoorGo
import Derived.Test.YtjmegicopdbkdaaDoorLawsShared
set_option maxHeartbeats 1000000
set_option maxRecDepth 10000
namespace Go.Proofs.YtjmegicopdbkdaaDoor
open Go Go.RowKit Pl

theorem goK_less {q : Int} {C : ConB} {vs us : List DomB} (h : Fewer vs us) (hg : goK q C us = true) : goK q C vs = true := by
  obtain ⟨h1, h2, h3⟩ := goK_parts hg
  unfold goK
  rw [h.len, h2, h.may h3]
  simp [h1]
theorem goK_not {q : Int} {C : ConB} {ds : List DomB} (h : ¬ C.kind = q) : goK q C ds = false := by
  unfold goK; rw [decide_eq_false h]; rfl
theorem goK_of {q : Int} {C : ConB} {ds : List DomB} (hk : C.kind = q) (hr : rightB C ds.length = true) (hm : allMay ds = true) : goK q C ds = true := by
  unfold goK; rw [decide_eq_true hk, hr, hm]; rfl
theorem goK_right (q : Int) (C : ConB) (ds : List DomB) : (decide (C.kind = q) && allMay ds && rightB C ds.length) = goK q C ds := by
  unfold goK; cases allMay ds <;> cases rightB C ds.length <;> simp

/-- A value of a variable that is left, of a row that is left. -/
theorem left_at {C : ConB} {ds : List DomB} {row : List Int} (hv : varsOk C.vars ds.length = true) (hl : leftL row ds = true) {i : Nat} (hi : i < C.vars.length) :
    row.getD (C.vars.getD i 0).toNat 0 ∈ listB (ds.getD (C.vars.getD i 0).toNat nilD).1 (ds.getD (C.vars.getD i 0).toNat nilD).2 := by
  have h := varsOk_rng hv hi
  exact (leftL_iff.1 hl).2 _ (by omega)
/-- Of less. -/
theorem fewer_at {C : ConB} {vs us : List DomB} (h : Fewer vs us) (hv : varsOk C.vars us.length = true) (hm : allMay us = true) {i : Nat} (hi : i < C.vars.length) {x : Int}
    (hx : x ∈ listB (vs.getD (C.vars.getD i 0).toNat nilD).1 (vs.getD (C.vars.getD i 0).toNat nilD).2) : x ∈ listB (us.getD (C.vars.getD i 0).toNat nilD).1 (us.getD (C.vars.getD i 0).toNat nilD).2 := by
  have h1 := varsOk_rng hv hi
  exact h.mem hm (by omega) hx
/-- Of single values. -/
theorem singles_at {C : ConB} {row : List Int} (hv : varsOk C.vars row.length = true) (hr : withinB row 1048576 = true) {i : Nat} (hi : i < C.vars.length) :
    listB ((singles row).getD (C.vars.getD i 0).toNat nilD).1 ((singles row).getD (C.vars.getD i 0).toNat nilD).2 = [row.getD (C.vars.getD i 0).toNat 0] := by
  have h1 := varsOk_rng hv hi
  have h2 : (C.vars.getD i 0).toNat < row.length := by omega
  rw [singles_getD row h2]
  refine single_list ?_
  have := withinB_mem hr (x := row.getD (C.vars.getD i 0).toNat 0) (by rw [List.getD_eq_getElem?_getD, List.getElem?_eq_getElem h2]; exact List.getElem_mem h2)
  omega
theorem allLive_iff {vs : List Int} {ds : List DomB} {k : Nat} : allLive vs ds k = true ↔ ∀ i, i < k → (ds.getD (vs.getD i 0).toNat nilD).2 = 1 := by
  unfold allLive
  rw [List.all_eq_true]
  constructor
  · intro h i hi
    exact of_decide_eq_true (h i (List.mem_range.2 hi))
  · intro h i hi
    exact decide_eq_true (h i (List.mem_range.1 hi))
/-- All is left of single values just if each place's question says yes. -/
theorem allLive_varsKp {C : ConB} {row : List Int} {g : Nat → Int → Bool} (hv : varsOk C.vars row.length = true) :
    allLive C.vars (stepB (varsKp C.vars g C.vars.length) (singles row)) C.vars.length = true ↔ ∀ i, i < C.vars.length → ∀ k, k < C.vars.length → (C.vars.getD k 0).toNat = (C.vars.getD i 0).toNat → g k (row.getD (C.vars.getD i 0).toNat 0) = true := by
  rw [allLive_iff]
  constructor
  · intro h i hi k hk e
    have h1 := varsOk_rng hv hi
    exact varsKp_iff.1 ((single_live (by omega)).1 (h i hi)) k hk e
  · intro h i hi
    have h1 := varsOk_rng hv hi
    exact (single_live (by omega)).2 (varsKp_iff.2 fun k hk e => h i hi k hk e)
end Go.Proofs.YtjmegicopdbkdaaDoor

/-
  What the laws of the steps share: rows, domains of single values, boxes of constraints.
-/
import Derived.Test.YtjmegicopdbkdaaDoorLawsPlain
import Derived.Test.YtjmegicopdbkdaaDoorRef11
import Derived.Test.YtjmegicopdbkdaaDoorLeft
set_option maxHeartbeats 1000000
set_option maxRecDepth 10000
namespace Go.Proofs.YtjmegicopdbkdaaDoor
open Go Go.RowKit Pl

theorem box_con (w : World) (K R Ct : Int) (A1 A2 A3 : Option Addr) (n1 c1 n2 c2 n3 c3 : Nat) : (w.alloc (.cells #[.int .i64 K, .slice A1 n1 c1, .slice A2 n2 c2, .int .i64 R, .int .i64 Ct, .slice A3 n3 c3] 24)).heap[w.heap.size]? = some (.cells #[.int .i64 K, .slice A1 n1 c1, .slice A2 n2 c2, .int .i64 R, .int .i64 Ct, .slice A3 n3 c3] 24) := heap_new _ _

theorem conbox6 {W : World} {O : Nat} {v0 v1 v2 v3 v4 v5 : Value} {t : TypeId} {fr : Nat × Nat} (h : W.heap[O]? = some (.cells #[v0, v1, v2, v3, v4, v5] t fr)) : W.cell? ⟨O, 0, Option.none⟩ = some v0 ∧ W.cell? ⟨O, 1, Option.none⟩ = some v1 ∧ W.cell? ⟨O, 2, Option.none⟩ = some v2 ∧ W.cell? ⟨O, 3, Option.none⟩ = some v3 ∧ W.cell? ⟨O, 4, Option.none⟩ = some v4 ∧ W.cell? ⟨O, 5, Option.none⟩ = some v5 :=
  ⟨cell_at h 0, cell_at h 1, cell_at h 2, cell_at h 3, cell_at h 4, cell_at h 5⟩

theorem rowVals_getD (C : ConB) (row : List Int) {i : Nat} (hi : i < C.vars.length) : (rowVals C row).getD i 0 = row.getD (C.vars.getD i 0).toNat 0 := by
  unfold rowVals
  rw [List.getD_eq_getElem?_getD, List.getElem?_map, List.getD_eq_getElem?_getD (l := C.vars), List.getElem?_eq_getElem hi]
  rfl
theorem leftL_iff {row : List Int} {ds : List DomB} : leftL row ds = true ↔ row.length = ds.length ∧ ∀ i, i < ds.length → row.getD i 0 ∈ listB (ds.getD i nilD).1 (ds.getD i nilD).2 := by
  unfold leftL leftUpto
  rw [Bool.and_eq_true, List.all_eq_true, decide_eq_true_eq]
  constructor
  · rintro ⟨h1, h2⟩
    exact ⟨h1, fun i hi => List.contains_iff_mem.1 (h2 i (List.mem_range.2 hi))⟩
  · rintro ⟨h1, h2⟩
    exact ⟨h1, fun i hi => List.contains_iff_mem.2 (h2 i (List.mem_range.1 hi))⟩
/-- No value that the keeping lets by is lost. -/
theorem step_sound {kp : Nat → Int → Bool} {ds : List DomB} {row : List Int} (hm : allMay ds = true) (h : leftL row ds = true) (hk : ∀ i, i < ds.length → kp i (row.getD i 0) = true) : leftL row (stepB kp ds) = true := by
  rw [leftL_iff] at *
  rw [stepB_length]
  refine ⟨h.1, fun i hi => ?_⟩
  have e := stepB_getD kp ds hi
  unfold nilD at h ⊢
  rw [e]
  exact (mem_keepD (allMay_at hm hi)).2 ⟨h.2 i hi, hk i hi⟩

/-- Domains of single values. -/
def singles (row : List Int) : List DomB := row.map fun v => ([v], 1)
theorem singles_length (row : List Int) : (singles row).length = row.length := by simp [singles]
theorem singles_getD (row : List Int) {i : Nat} (hi : i < row.length) : (singles row).getD i nilD = ([row.getD i 0], 1) := by
  unfold singles
  rw [List.getD_eq_getElem?_getD, List.getElem?_map, List.getD_eq_getElem?_getD, List.getElem?_eq_getElem hi]
  rfl
theorem single_may {v : Int} (h : -1048576 ≤ v ∧ v ≤ 1048576) : mayB [v] 1 = true := by
  unfold mayB okUpto okAt
  simp [h.1, h.2]
theorem single_list {v : Int} (h : -1048576 ≤ v ∧ v ≤ 1048576) : listB [v] 1 = [v] := by
  unfold listB
  rw [if_pos (single_may h)]
  unfold valsOf
  have e : elemsI 1 = [0] := by decide
  rw [e]; rfl
theorem single_keep (f : Int → Bool) (v : Int) : (keepD f ([v], 1)).2 = if f v = true then 1 else 0 := by
  apply Nat.eq_of_testBit_eq
  intro i
  rw [testBit_keepD]
  by_cases hi : i = 0
  · subst hi
    cases h : f v <;> simp [h]
  · have h1 : Nat.testBit 1 i = false := by
      cases i with
      | zero => exact absurd rfl hi
      | succ n => rw [Nat.testBit_succ]; simp
    rw [h1]
    split
    · rw [h1]; simp
    · simp
theorem allMay_singles {row : List Int} (h : withinB row 1048576 = true) : allMay (singles row) = true := by
  unfold allMay singles
  rw [List.all_map, List.all_eq_true]
  intro v hv
  exact single_may (by have := withinB_mem h hv; omega)

/-- Is all left of the constraint's variables? -/
def allLive (vs : List Int) (ds : List DomB) (k : Nat) : Bool := (List.range k).all fun i => decide ((ds.getD (vs.getD i 0).toNat nilD).2 = 1)
theorem allLive_succ (vs : List Int) (ds : List DomB) (k : Nat) : allLive vs ds (k + 1) = (allLive vs ds k && decide ((ds.getD (vs.getD k 0).toNat nilD).2 = 1)) := by
  unfold allLive
  rw [List.range_succ, List.all_append]
  simp

theorem single_live {kp : Nat → Int → Bool} {row : List Int} {i : Nat} (hi : i < row.length) : ((stepB kp (singles row)).getD i nilD).2 = 1 ↔ kp i (row.getD i 0) = true := by
  have h1 := stepB_getD kp (singles row) (i := i) (by rw [singles_length]; exact hi)
  have h2 := singles_getD row hi
  unfold nilD at h2 ⊢
  rw [h1, h2, single_keep]
  cases kp i (row.getD i 0) <;> simp

end Go.Proofs.YtjmegicopdbkdaaDoor

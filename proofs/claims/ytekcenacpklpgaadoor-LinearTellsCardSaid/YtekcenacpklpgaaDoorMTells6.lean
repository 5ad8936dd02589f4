/-
  Contracts and plain laws that the card rests on, part 6.
-/
import Derived.Test.YtekcenacpklpgaaDoorMTells5
import Derived.Test.YtekcenacpklpgaaDoorMTells4
import Derived.Test.YtekcenacpklpgaaDoorMTells1
set_option maxHeartbeats 1000000
set_option maxRecDepth 10000
namespace Go.Proofs.YtekcenacpklpgaaDoor
open Go Go.RowKit Pl

theorem box_con (w : World) (K R Ct : Int) (A1 A2 A3 : Option Addr) (n1 c1 n2 c2 n3 c3 : Nat) : (w.alloc (.cells #[.int .i64 K, .slice A1 n1 c1, .slice A2 n2 c2, .int .i64 R, .int .i64 Ct, .slice A3 n3 c3] 24)).heap[w.heap.size]? = some (.cells #[.int .i64 K, .slice A1 n1 c1, .slice A2 n2 c2, .int .i64 R, .int .i64 Ct, .slice A3 n3 c3] 24) := heap_new _ _

theorem conbox6 {W : World} {O : Nat} {v0 v1 v2 v3 v4 v5 : Value} {t : TypeId} {fr : Nat × Nat} (h : W.heap[O]? = some (.cells #[v0, v1, v2, v3, v4, v5] t fr)) : W.cell? ⟨O, 0, Option.none⟩ = some v0 ∧ W.cell? ⟨O, 1, Option.none⟩ = some v1 ∧ W.cell? ⟨O, 2, Option.none⟩ = some v2 ∧ W.cell? ⟨O, 3, Option.none⟩ = some v3 ∧ W.cell? ⟨O, 4, Option.none⟩ = some v4 ∧ W.cell? ⟨O, 5, Option.none⟩ = some v5 :=
  ⟨cell_at h 0, cell_at h 1, cell_at h 2, cell_at h 3, cell_at h 4, cell_at h 5⟩

theorem rowVals_getD (C : ConB) (row : List Int) {i : Nat} (hi : i < C.vars.length) : (rowVals C row).getD i 0 = row.getD (C.vars.getD i 0).toNat 0 := by
  unfold rowVals
  rw [List.getD_eq_getElem?_getD, List.getElem?_map, List.getD_eq_getElem?_getD (l := C.vars), List.getElem?_eq_getElem hi]
  rfl
theorem leftL_iff {row : List Int} {ds : List DomB} : leftL row ds = true ↔ row.length = ds.length ∧ ∀ i, i < ds.length → row.getD i 0 ∈ listB (ds.getD i nilD).1 (ds.getD i nilD).2 := by
  unfold leftL leftUpto
  rw [Bool.and_eq_true, List.all_eq_true, decide_eq_true_eq]
  constructor
  · rintro ⟨h1, h2⟩
    exact ⟨h1, fun i hi => List.contains_iff_mem.1 (h2 i (List.mem_range.2 hi))⟩
  · rintro ⟨h1, h2⟩
    exact ⟨h1, fun i hi => List.contains_iff_mem.2 (h2 i (List.mem_range.1 hi))⟩
/-- No value that the keeping lets by is lost. -/
theorem step_sound {kp : Nat → Int → Bool} {ds : List DomB} {row : List Int} (hm : allMay ds = true) (h : leftL row ds = true) (hk : ∀ i, i < ds.length → kp i (row.getD i 0) = true) : leftL row (stepB kp ds) = true := by
  rw [leftL_iff] at *
  rw [stepB_length]
  refine ⟨h.1, fun i hi => ?_⟩
  have e := stepB_getD kp ds hi
  unfold nilD at h ⊢
  rw [e]
  exact (mem_keepD (allMay_at hm hi)).2 ⟨h.2 i hi, hk i hi⟩

/-- Domains of single values. -/
def singles (row : List Int) : List DomB := row.map fun v => ([v], 1)
theorem singles_length (row : List Int) : (singles row).length = row.length := by simp [singles]
theorem singles_getD (row : List Int) {i : Nat} (hi : i < row.length) : (singles row).getD i nilD = ([row.getD i 0], 1) := by
  unfold singles
  rw [List.getD_eq_getElem?_getD, List.getElem?_map, List.getD_eq_getElem?_getD, List.getElem?_eq_getElem hi]
  rfl
theorem single_may {v : Int} (h : -1048576 ≤ v ∧ v ≤ 1048576) : mayB [v] 1 = true := by
  unfold mayB okUpto okAt
  simp [h.1, h.2]
theorem single_list {v : Int} (h : -1048576 ≤ v ∧ v ≤ 1048576) : listB [v] 1 = [v] := by
  unfold listB
  rw [if_pos (single_may h)]
  unfold valsOf
  have e : elemsI 1 = [0] := by decide
  rw [e]; rfl
theorem single_keep (f : Int → Bool) (v : Int) : (keepD f ([v], 1)).2 = if f v = true then 1 else 0 := by
  apply Nat.eq_of_testBit_eq
  intro i
  rw [testBit_keepD]
  by_cases hi : i = 0
  · subst hi
    cases h : f v <;> simp [h]
  · have h1 : Nat.testBit 1 i = false := by
      cases i with
      | zero => exact absurd rfl hi
      | succ n => rw [Nat.testBit_succ]; simp
    rw [h1]
    split
    · rw [h1]; simp
    · simp
theorem allMay_singles {row : List Int} (h : withinB row 1048576 = true) : allMay (singles row) = true := by
  unfold allMay singles
  rw [List.all_map, List.all_eq_true]
  intro v hv
  exact single_may (by have := withinB_mem h hv; omega)

/-- Is all left of the constraint's variables? -/
def allLive (vs : List Int) (ds : List DomB) (k : Nat) : Bool := (List.range k).all fun i => decide ((ds.getD (vs.getD i 0).toNat nilD).2 = 1)
theorem allLive_succ (vs : List Int) (ds : List DomB) (k : Nat) : allLive vs ds (k + 1) = (allLive vs ds k && decide ((ds.getD (vs.getD k 0).toNat nilD).2 = 1)) := by
  unfold allLive
  rw [List.range_succ, List.all_append]
  simp

theorem single_live {kp : Nat → Int → Bool} {row : List Int} {i : Nat} (hi : i < row.length) : ((stepB kp (singles row)).getD i nilD).2 = 1 ↔ kp i (row.getD i 0) = true := by
  have h1 := stepB_getD kp (singles row) (i := i) (by rw [singles_length]; exact hi)
  have h2 := singles_getD row hi
  unfold nilD at h2 ⊢
  rw [h1, h2, single_keep]
  cases kp i (row.getD i 0) <;> simp

end Go.Proofs.YtekcenacpklpgaaDoor

set_option maxHeartbeats 1000000
set_option maxRecDepth 10000
namespace Go.Proofs.YtekcenacpklpgaaDoor
open Go Go.RowKit Pl

theorem goK_less {q : Int} {C : ConB} {vs us : List DomB} (h : Fewer vs us) (hg : goK q C us = true) : goK q C vs = true := by
  obtain ⟨h1, h2, h3⟩ := goK_parts hg
  unfold goK
  rw [h.len, h2, h.may h3]
  simp [h1]
theorem goK_not {q : Int} {C : ConB} {ds : List DomB} (h : ¬ C.kind = q) : goK q C ds = false := by
  unfold goK; rw [decide_eq_false h]; rfl
theorem goK_of {q : Int} {C : ConB} {ds : List DomB} (hk : C.kind = q) (hr : rightB C ds.length = true) (hm : allMay ds = true) : goK q C ds = true := by
  unfold goK; rw [decide_eq_true hk, hr, hm]; rfl
theorem goK_right (q : Int) (C : ConB) (ds : List DomB) : (decide (C.kind = q) && allMay ds && rightB C ds.length) = goK q C ds := by
  unfold goK; cases allMay ds <;> cases rightB C ds.length <;> simp

/-- A value of a variable that is left, of a row that is left. -/
theorem left_at {C : ConB} {ds : List DomB} {row : List Int} (hv : varsOk C.vars ds.length = true) (hl : leftL row ds = true) {i : Nat} (hi : i < C.vars.length) :
    row.getD (C.vars.getD i 0).toNat 0 ∈ listB (ds.getD (C.vars.getD i 0).toNat nilD).1 (ds.getD (C.vars.getD i 0).toNat nilD).2 := by
  have h := varsOk_rng hv hi
  exact (leftL_iff.1 hl).2 _ (by omega)
/-- Of less. -/
theorem fewer_at {C : ConB} {vs us : List DomB} (h : Fewer vs us) (hv : varsOk C.vars us.length = true) (hm : allMay us = true) {i : Nat} (hi : i < C.vars.length) {x : Int}
    (hx : x ∈ listB (vs.getD (C.vars.getD i 0).toNat nilD).1 (vs.getD (C.vars.getD i 0).toNat nilD).2) : x ∈ listB (us.getD (C.vars.getD i 0).toNat nilD).1 (us.getD (C.vars.getD i 0).toNat nilD).2 := by
  have h1 := varsOk_rng hv hi
  exact h.mem hm (by omega) hx
/-- Of single values. -/
theorem singles_at {C : ConB} {row : List Int} (hv : varsOk C.vars row.length = true) (hr : withinB row 1048576 = true) {i : Nat} (hi : i < C.vars.length) :
    listB ((singles row).getD (C.vars.getD i 0).toNat nilD).1 ((singles row).getD (C.vars.getD i 0).toNat nilD).2 = [row.getD (C.vars.getD i 0).toNat 0] := by
  have h1 := varsOk_rng hv hi
  have h2 : (C.vars.getD i 0).toNat < row.length := by omega
  rw [singles_getD row h2]
  refine single_list ?_
  have := withinB_mem hr (x := row.getD (C.vars.getD i 0).toNat 0) (by rw [List.getD_eq_getElem?_getD, List.getElem?_eq_getElem h2]; exact List.getElem_mem h2)
  omega
theorem allLive_iff {vs : List Int} {ds : List DomB} {k : Nat} : allLive vs ds k = true ↔ ∀ i, i < k → (ds.getD (vs.getD i 0).toNat nilD).2 = 1 := by
  unfold allLive
  rw [List.all_eq_true]
  constructor
  · intro h i hi
    exact of_decide_eq_true (h i (List.mem_range.2 hi))
  · intro h i hi
    exact decide_eq_true (h i (List.mem_range.1 hi))
/-- All is left of single values just if each place's question says yes. -/
theorem allLive_varsKp {C : ConB} {row : List Int} {g : Nat → Int → Bool} (hv : varsOk C.vars row.length = true) :
    allLive C.vars (stepB (varsKp C.vars g C.vars.length) (singles row)) C.vars.length = true ↔ ∀ i, i < C.vars.length → ∀ k, k < C.vars.length → (C.vars.getD k 0).toNat = (C.vars.getD i 0).toNat → g k (row.getD (C.vars.getD i 0).toNat 0) = true := by
  rw [allLive_iff]
  constructor
  · intro h i hi k hk e
    have h1 := varsOk_rng hv hi
    exact varsKp_iff.1 ((single_live (by omega)).1 (h i hi)) k hk e
  · intro h i hi
    have h1 := varsOk_rng hv hi
    exact (single_live (by omega)).2 (varsKp_iff.2 fun k hk e => h i hi k hk e)
end Go.Proofs.YtekcenacpklpgaaDoor

set_option maxHeartbeats 1000000
set_option maxRecDepth 10000
namespace Go.Proofs.YtekcenacpklpgaaDoor
open Go Go.RowKit Pl

/-- What is left of a constraint's variable. -/
def leftOf (C : ConB) (ds : List DomB) (i : Nat) : List Int := listB (ds.getD (C.vars.getD i 0).toNat nilD).1 (ds.getD (C.vars.getD i 0).toNat nilD).2

/-- Are there values of the other two? -/
def pG0 (Y Z : List Int) (v : Int) : Bool := Y.any fun b => Z.contains (v * b)
def pG1 (X Z : List Int) (v : Int) : Bool := X.any fun a => Z.contains (a * v)
def pG2 (X Y : List Int) (v : Int) : Bool := X.any fun a => Y.any fun b => a * b == v
/-- The same, of whole lists. -/
def prodL (X Y Z : List Int) (i : Nat) (v : Int) : Bool :=
  if i = 0 then X.contains v && pG0 Y Z v else if i = 1 then Y.contains v && pG1 X Z v else Z.contains v && pG2 X Y v
def prodG (C : ConB) (ds : List DomB) (i : Nat) (v : Int) : Bool := prodL (leftOf C ds 0) (leftOf C ds 1) (leftOf C ds 2) i v

theorem prodL_iff {X Y Z : List Int} {i : Nat} {v : Int} (hi : i < 3) : prodL X Y Z i v = true ↔ ∃ a b c, a ∈ X ∧ b ∈ Y ∧ c ∈ Z ∧ a * b = c ∧ (if i = 0 then a else if i = 1 then b else c) = v := by
  unfold prodL
  have h3 : i = 0 ∨ i = 1 ∨ i = 2 := by omega
  rcases h3 with rfl | rfl | rfl
  · unfold pG0
    simp only [if_true, Bool.and_eq_true, List.contains_iff_mem, List.any_eq_true]
    constructor
    · rintro ⟨hx, b, hb, hz⟩; exact ⟨v, b, _, hx, hb, hz, rfl, rfl⟩
    · rintro ⟨a, b, c, hx, hb, hz, rfl, rfl⟩; exact ⟨hx, b, hb, hz⟩
  · unfold pG1
    simp only [if_true, if_false, Bool.and_eq_true, List.contains_iff_mem, List.any_eq_true, show ¬ (1 : Nat) = 0 by omega]
    constructor
    · rintro ⟨hy, a, ha, hz⟩; exact ⟨a, v, _, ha, hy, hz, rfl, rfl⟩
    · rintro ⟨a, b, c, ha, hb, hz, rfl, rfl⟩; exact ⟨hb, a, ha, hz⟩
  · unfold pG2
    simp only [if_false, Bool.and_eq_true, List.contains_iff_mem, List.any_eq_true, show ¬ (2 : Nat) = 0 by omega, show ¬ (2 : Nat) = 1 by omega, beq_iff_eq]
    constructor
    · rintro ⟨hz, a, ha, b, hb, e⟩; exact ⟨a, b, v, ha, hb, hz, e, rfl⟩
    · rintro ⟨a, b, c, ha, hb, hz, e, rfl⟩; exact ⟨hz, a, ha, b, hb, e⟩

def prodGo (C : ConB) (ds : List DomB) : Bool := goK 2 C ds
def prodKp (C : ConB) (ds : List DomB) : Nat → Int → Bool := varsKp C.vars (prodG C ds) C.vars.length
theorem prodGo_parts {C : ConB} {ds : List DomB} (h : prodGo C ds = true) : C.kind = 2 ∧ rightB C ds.length = true ∧ allMay ds = true := goK_parts h
theorem prodGo_not {C : ConB} {ds : List DomB} (h : ¬ C.kind = 2) : prodGo C ds = false := goK_not h
theorem prodGo_of {C : ConB} {ds : List DomB} (hk : C.kind = 2) (hr : rightB C ds.length = true) (hm : allMay ds = true) : prodGo C ds = true := goK_of hk hr hm
theorem prod_go_less {C : ConB} {vs us : List DomB} (h : Fewer vs us) (hg : prodGo C us = true) : prodGo C vs = true := goK_less h hg

theorem product_parts {C : ConB} {V : Int} (hk : C.kind = 2) (h : rightB C V = true) : C.vars.length = 3 := by
  unfold rightB at h
  simp only [hk] at h
  unfold plainR at h
  simp only [hk] at h
  simp at h
  exact h.2.2.1

theorem prod_falls {C : ConB} {vs us : List DomB} (h : Fewer vs us) (hg : prodGo C us = true) : withinL (stepB (prodKp C vs) vs) (stepB (prodKp C us) us) = true := by
  obtain ⟨hk2, h2, hm⟩ := prodGo_parts hg
  have h3 := product_parts hk2 h2
  have hsub : ∀ i, i < 3 → ∀ x ∈ leftOf C vs i, x ∈ leftOf C us i := fun i hi x hx => fewer_at h (rightB_vars h2) hm (by omega) hx
  refine step_falls h hm fun i hi v hv hk => varsKp_mono (fun k hk _ hgk => ?_) hk
  obtain ⟨a, b, c, ha, hb, hc, e, e2⟩ := (prodL_iff (by omega)).1 hgk
  exact (prodL_iff (by omega)).2 ⟨a, b, c, hsub 0 (by omega) a ha, hsub 1 (by omega) b hb, hsub 2 (by omega) c hc, e, e2⟩

/-- Does a product hold? -/
def holdsP (C : ConB) (row : List Int) : Bool := (rowVals C row).getD 0 0 * (rowVals C row).getD 1 0 == (rowVals C row).getD 2 0
theorem holdsP_iff {C : ConB} {row : List Int} (h : C.vars.length = 3) : holdsP C row = true ↔ row.getD (C.vars.getD 0 0).toNat 0 * row.getD (C.vars.getD 1 0).toNat 0 = row.getD (C.vars.getD 2 0).toNat 0 := by
  unfold holdsP
  rw [rowVals_getD C row (by omega), rowVals_getD C row (by omega), rowVals_getD C row (by omega), beq_iff_eq]

theorem prod_sound {C : ConB} {ds : List DomB} {row : List Int} (hg : prodGo C ds = true) (hl : leftL row ds = true) (hh : holdsP C row = true) : leftL row (stepB (prodKp C ds) ds) = true := by
  obtain ⟨hk2, h2, hm⟩ := prodGo_parts hg
  have h3 := product_parts hk2 h2
  have hv := rightB_vars h2
  have he := (holdsP_iff h3).1 hh
  refine step_sound hm hl fun i hi => varsKp_iff.2 fun k hk e => (prodL_iff (by omega)).2 ⟨_, _, _, left_at hv hl (show 0 < C.vars.length by omega), left_at hv hl (show 1 < C.vars.length by omega), left_at hv hl (show 2 < C.vars.length by omega), he, ?_⟩
  rw [← e]
  have : k = 0 ∨ k = 1 ∨ k = 2 := by omega
  rcases this with rfl | rfl | rfl <;> rfl

theorem prod_single {C : ConB} {row : List Int} (hr : withinB row 1048576 = true) (hk2 : C.kind = 2) (hB : rightB C row.length = true) : allLive C.vars (stepB (prodKp C (singles row)) (singles row)) C.vars.length = holdsP C row := by
  have hv := rightB_vars hB
  have h3 := product_parts hk2 hB
  have hs : ∀ i, i < 3 → leftOf C (singles row) i = [row.getD (C.vars.getD i 0).toNat 0] := fun i hi => singles_at hv hr (by omega)
  have hg : ∀ k v, k < 3 → (prodG C (singles row) k v = true ↔ row.getD (C.vars.getD 0 0).toNat 0 * row.getD (C.vars.getD 1 0).toNat 0 = row.getD (C.vars.getD 2 0).toNat 0 ∧ row.getD (C.vars.getD k 0).toNat 0 = v) := fun k v hk => by
    unfold prodG
    rw [prodL_iff hk, hs 0 (by omega), hs 1 (by omega), hs 2 (by omega)]
    simp only [List.mem_singleton]
    have h4 : k = 0 ∨ k = 1 ∨ k = 2 := by omega
    constructor
    · rintro ⟨a, b, c, rfl, rfl, rfl, e, e2⟩
      refine ⟨e, ?_⟩
      rw [← e2]
      rcases h4 with rfl | rfl | rfl <;> rfl
    · rintro ⟨e, e2⟩
      refine ⟨_, _, _, rfl, rfl, rfl, e, ?_⟩
      rw [← e2]
      rcases h4 with rfl | rfl | rfl <;> rfl
  unfold prodKp
  rw [Bool.eq_iff_iff, allLive_varsKp hv, holdsP_iff h3]
  constructor
  · intro h
    exact ((hg 0 _ (by omega)).1 (h 0 (by omega) 0 (by omega) rfl)).1
  · intro h i hi k hk e
    exact (hg k _ (by omega)).2 ⟨h, by rw [e]⟩
end Go.Proofs.YtekcenacpklpgaaDoor

namespace Go.Proofs.YtekcenacpklpgaaDoor
namespace Pl
theorem okUpto_lt {xs : List Int} {n : Nat} (h : okUpto xs n = true) {i j : Nat} (hij : i < j) (hj : j < n) : xs.getD i 0 < xs.getD j 0 := by
  induction j with
  | zero => omega
  | succ j ih =>
    have h1 := okUpto_at h hj
    unfold okAt at h1
    simp only [Bool.and_eq_true, Bool.or_eq_true, decide_eq_true_eq] at h1
    have h2 : xs.getD j 0 < xs.getD (j + 1) 0 := by
      rcases h1.2 with h3 | h3
      · omega
      · exact h3
    by_cases e : i = j
    · subst e; exact h2
    · have := ih (by omega) (by omega)
      omega
theorem listB_sorted (xs : List Int) (L : Nat) : (listB xs L).Pairwise (· < ·) := by
  unfold listB
  split
  · rename_i h
    unfold valsOf elemsI
    rw [List.map_map, List.pairwise_map]
    have hs := sorted_upto L 64
    refine List.Pairwise.imp_of_mem (fun {a b} ha hb hab => ?_) hs
    have hb2 := (mem_upto.1 hb).2
    have := (may_bit (d := (xs, L)) h hb2).1
    exact okUpto_lt (mayB_ok h) hab this
  · exact List.Pairwise.nil
theorem listB_nodup (xs : List Int) (L : Nat) : (listB xs L).Nodup := by
  refine List.Pairwise.imp (fun {a b} h => ?_) (listB_sorted xs L)
  omega
end Pl
end Go.Proofs.YtekcenacpklpgaaDoor

set_option maxHeartbeats 1000000
set_option maxRecDepth 10000
namespace Go.Proofs.YtekcenacpklpgaaDoor
open Go Go.RowKit Pl

/-- The least, the greatest of n times the numbers of a list. -/
def mnB (n : Int) (l : List Int) : Int := min (n * l.getD 0 0) (n * l.getD (l.length - 1) 0)
def mxB (n : Int) (l : List Int) : Int := max (n * l.getD 0 0) (n * l.getD (l.length - 1) 0)
/-- The least, the greatest sum of the first ones, but one. -/
def lowBut (cs : List Int) (ls : Nat → List Int) (but : Int) : Nat → Int
  | 0 => 0
  | j + 1 => lowBut cs ls but j + if (j : Int) = but then 0 else mnB (cs.getD j 0) (ls j)
def highBut (cs : List Int) (ls : Nat → List Int) (but : Int) : Nat → Int
  | 0 => 0
  | j + 1 => highBut cs ls but j + if (j : Int) = but then 0 else mxB (cs.getD j 0) (ls j)
/-- A sum of the first ones, but one. -/
def sumBut (cs : List Int) (r : Nat → Int) (but : Int) : Nat → Int
  | 0 => 0
  | j + 1 => sumBut cs r but j + if (j : Int) = but then 0 else cs.getD j 0 * r j

theorem lowBut_out {cs : List Int} {ls : Nat → List Int} {i j : Nat} (h : j ≤ i) : lowBut cs ls i j = lowBut cs ls (-1) j := by
  induction j with
  | zero => rfl
  | succ j ih =>
    simp only [lowBut]
    rw [ih (by omega), if_neg (by omega), if_neg (by omega)]
theorem highBut_out {cs : List Int} {ls : Nat → List Int} {i j : Nat} (h : j ≤ i) : highBut cs ls i j = highBut cs ls (-1) j := by
  induction j with
  | zero => rfl
  | succ j ih =>
    simp only [highBut]
    rw [ih (by omega), if_neg (by omega), if_neg (by omega)]
theorem lowBut_eq {cs : List Int} {ls : Nat → List Int} {i j : Nat} (h : i < j) : lowBut cs ls i j = lowBut cs ls (-1) j - mnB (cs.getD i 0) (ls i) := by
  induction j with
  | zero => omega
  | succ j ih =>
    simp only [lowBut]
    by_cases e : i = j
    · subst e
      rw [lowBut_out (Nat.le_refl _), if_pos rfl, if_neg (by omega)]; omega
    · rw [ih (by omega), if_neg (by omega), if_neg (by omega)]; omega
theorem highBut_eq {cs : List Int} {ls : Nat → List Int} {i j : Nat} (h : i < j) : highBut cs ls i j = highBut cs ls (-1) j - mxB (cs.getD i 0) (ls i) := by
  induction j with
  | zero => omega
  | succ j ih =>
    simp only [highBut]
    by_cases e : i = j
    · subst e
      rw [highBut_out (Nat.le_refl _), if_pos rfl, if_neg (by omega)]; omega
    · rw [ih (by omega), if_neg (by omega), if_neg (by omega)]; omega
theorem sumBut_out {cs : List Int} {r : Nat → Int} {i j : Nat} (h : j ≤ i) : sumBut cs r i j = sumBut cs r (-1) j := by
  induction j with
  | zero => rfl
  | succ j ih =>
    simp only [sumBut]
    rw [ih (by omega), if_neg (by omega), if_neg (by omega)]
theorem sumBut_eq {cs : List Int} {r : Nat → Int} {i j : Nat} (h : i < j) : sumBut cs r i j + cs.getD i 0 * r i = sumBut cs r (-1) j := by
  induction j with
  | zero => omega
  | succ j ih =>
    simp only [sumBut]
    by_cases e : i = j
    · subst e
      rw [sumBut_out (Nat.le_refl _), if_pos rfl, if_neg (by omega)]; omega
    · have := ih (by omega)
      rw [if_neg (by omega), if_neg (by omega)]; omega

theorem sorted_ends {l : List Int} (h : l.Pairwise (· < ·)) {x : Int} (hx : x ∈ l) : l.getD 0 0 ≤ x ∧ x ≤ l.getD (l.length - 1) 0 := by
  obtain ⟨i, hi, rfl⟩ := List.getElem_of_mem hx
  rw [List.pairwise_iff_getElem] at h
  have e0 : l.getD 0 0 = l[0] := by rw [List.getD_eq_getElem?_getD, List.getElem?_eq_getElem (by omega)]; rfl
  have e1 : l.getD (l.length - 1) 0 = l[l.length - 1] := by rw [List.getD_eq_getElem?_getD, List.getElem?_eq_getElem (by omega)]; rfl
  rw [e0, e1]
  constructor
  · by_cases e : i = 0
    · subst e; exact Int.le_refl _
    · have := h 0 i (by omega) hi (by omega); omega
  · by_cases e : i = l.length - 1
    · subst e; exact Int.le_refl _
    · have := h i (l.length - 1) hi (by omega) (by omega); omega
theorem mn_le {n : Int} {l : List Int} (h : l.Pairwise (· < ·)) {x : Int} (hx : x ∈ l) : mnB n l ≤ n * x ∧ n * x ≤ mxB n l := by
  obtain ⟨h1, h2⟩ := sorted_ends h hx
  unfold mnB mxB
  generalize l.getD 0 0 = a at *
  generalize l.getD (l.length - 1) 0 = b at *
  by_cases hn : 0 ≤ n
  · have h3 := Int.mul_le_mul_of_nonneg_left h1 hn
    have h4 := Int.mul_le_mul_of_nonneg_left h2 hn
    omega
  · have h3 := Int.mul_le_mul_of_nonpos_left (a := n) (by omega) h1
    have h4 := Int.mul_le_mul_of_nonpos_left (a := n) (by omega) h2
    omega
theorem head_mem {l : List Int} (h : 0 < l.length) : l.getD 0 0 ∈ l ∧ l.getD (l.length - 1) 0 ∈ l := by
  constructor
  · rw [List.getD_eq_getElem?_getD, List.getElem?_eq_getElem h]; exact List.getElem_mem h
  · rw [List.getD_eq_getElem?_getD, List.getElem?_eq_getElem (by omega)]; exact List.getElem_mem _
theorem mn_sub {n : Int} {l m : List Int} (h : l.Pairwise (· < ·)) (hs : ∀ x ∈ m, x ∈ l) (h0 : 0 < m.length) : mnB n l ≤ mnB n m ∧ mxB n m ≤ mxB n l := by
  obtain ⟨a1, a2⟩ := head_mem h0
  have b1 := mn_le (n := n) h (hs _ a1)
  have b2 := mn_le (n := n) h (hs _ a2)
  unfold mnB mxB at *
  omega
theorem mn_mx (n : Int) (l : List Int) : mnB n l ≤ mxB n l := by unfold mnB mxB; omega
theorem mn_one (n x : Int) : mnB n [x] = n * x ∧ mxB n [x] = n * x := by unfold mnB mxB; simp

theorem ends_sub {cs : List Int} {ls ms : Nat → List Int} {but : Int} {j : Nat} (h : ∀ i, i < j → (ls i).Pairwise (· < ·) ∧ (∀ x ∈ ms i, x ∈ ls i) ∧ 0 < (ms i).length) : lowBut cs ls but j ≤ lowBut cs ms but j ∧ highBut cs ms but j ≤ highBut cs ls but j := by
  induction j with
  | zero => simp [lowBut, highBut]
  | succ j ih =>
    have h1 := ih fun i hi => h i (by omega)
    obtain ⟨a, b, c⟩ := h j (by omega)
    have h2 := mn_sub (n := cs.getD j 0) a b c
    simp only [lowBut, highBut]
    split <;> omega
theorem ends_le (cs : List Int) (ls : Nat → List Int) (but : Int) (j : Nat) : lowBut cs ls but j ≤ highBut cs ls but j := by
  induction j with
  | zero => simp [lowBut, highBut]
  | succ j ih =>
    have h2 := mn_mx (cs.getD j 0) (ls j)
    simp only [lowBut, highBut]
    split <;> omega
theorem ends_row {cs : List Int} {ls : Nat → List Int} {r : Nat → Int} {but : Int} {j : Nat} (h : ∀ i, i < j → (ls i).Pairwise (· < ·) ∧ r i ∈ ls i) : lowBut cs ls but j ≤ sumBut cs r but j ∧ sumBut cs r but j ≤ highBut cs ls but j := by
  induction j with
  | zero => simp [lowBut, highBut, sumBut]
  | succ j ih =>
    have h1 := ih fun i hi => h i (by omega)
    obtain ⟨a, b⟩ := h j (by omega)
    have h2 := mn_le (n := cs.getD j 0) a b
    simp only [lowBut, highBut, sumBut]
    split <;> omega
theorem ends_one {cs : List Int} {ls : Nat → List Int} {r : Nat → Int} {but : Int} {j : Nat} (h : ∀ i, i < j → ls i = [r i]) : lowBut cs ls but j = sumBut cs r but j ∧ highBut cs ls but j = sumBut cs r but j := by
  induction j with
  | zero => simp [lowBut, highBut, sumBut]
  | succ j ih =>
    have h1 := ih fun i hi => h i (by omega)
    have h2 := mn_one (cs.getD j 0) (r j)
    simp only [lowBut, highBut, sumBut]
    rw [h j (by omega)]
    split <;> omega

/-- May a rel hold? -/
def mayL (lo hi rel c : Int) : Bool :=
  if rel = 0 then decide (lo ≤ c) && decide (c ≤ hi) else if rel = 1 then !decide (lo = c) || !decide (hi = c) else if rel = 2 then decide (lo < c)
  else if rel = 3 then decide (lo ≤ c) else if rel = 4 then decide (c < hi) else decide (c ≤ hi)
/-- Does a rel hold? -/
def relB (s rel c : Int) : Bool :=
  if rel = 0 then decide (s = c) else if rel = 1 then !decide (s = c) else if rel = 2 then decide (s < c)
  else if rel = 3 then decide (s ≤ c) else if rel = 4 then decide (c < s) else decide (c ≤ s)
theorem mayL_of {lo hi s rel c : Int} (h1 : lo ≤ s) (h2 : s ≤ hi) (h : relB s rel c = true) : mayL lo hi rel c = true := by
  unfold relB at h
  unfold mayL
  split
  · rename_i e; rw [if_pos e] at h; simp at h ⊢; omega
  · rename_i e; rw [if_neg e] at h
    split
    · rename_i e; rw [if_pos e] at h; simp at h ⊢; omega
    · rename_i e; rw [if_neg e] at h
      split
      · rename_i e; rw [if_pos e] at h; simp at h ⊢; omega
      · rename_i e; rw [if_neg e] at h
        split
        · rename_i e; rw [if_pos e] at h; simp at h ⊢; omega
        · rename_i e; rw [if_neg e] at h
          split
          · rename_i e; rw [if_pos e] at h; simp at h ⊢; omega
          · rename_i e; rw [if_neg e] at h; simp at h ⊢; omega
theorem mayL_mono {lo hi lo' hi' rel c : Int} (h1 : lo ≤ lo') (h2 : hi' ≤ hi) (h3 : lo' ≤ hi') (h : mayL lo' hi' rel c = true) : mayL lo hi rel c = true := by
  unfold mayL at *
  split
  · rename_i e; rw [if_pos e] at h; simp at h ⊢; omega
  · rename_i e; rw [if_neg e] at h
    split
    · rename_i e; rw [if_pos e] at h; simp at h ⊢; omega
    · rename_i e; rw [if_neg e] at h
      split
      · rename_i e; rw [if_pos e] at h; simp at h ⊢; omega
      · rename_i e; rw [if_neg e] at h
        split
        · rename_i e; rw [if_pos e] at h; simp at h ⊢; omega
        · rename_i e; rw [if_neg e] at h
          split
          · rename_i e; rw [if_pos e] at h; simp at h ⊢; omega
          · rename_i e; rw [if_neg e] at h; simp at h ⊢; omega
theorem mayL_one (s rel c : Int) : mayL s s rel c = relB s rel c := by
  unfold mayL relB
  split
  · rw [Bool.eq_iff_iff]; simp; omega
  · split
    · simp
    · rfl
/-- The contrary rel. -/
def contraB (rel : Int) : Int := if rel = 0 then 1 else if rel = 1 then 0 else if rel = 2 then 5 else if rel = 5 then 2 else if rel = 3 then 4 else if rel = 4 then 3 else rel
theorem contra_rng {rel : Int} (h0 : 0 ≤ rel) (h5 : rel ≤ 5) : 0 ≤ contraB rel ∧ contraB rel ≤ 5 ∧ contraB rel ≠ rel := by
  have : rel = 0 ∨ rel = 1 ∨ rel = 2 ∨ rel = 3 ∨ rel = 4 ∨ rel = 5 := by omega
  rcases this with rfl | rfl | rfl | rfl | rfl | rfl <;> decide
theorem contra_contra (rel : Int) : contraB (contraB rel) = rel := by
  by_cases h : 0 ≤ rel ∧ rel ≤ 5
  · have : rel = 0 ∨ rel = 1 ∨ rel = 2 ∨ rel = 3 ∨ rel = 4 ∨ rel = 5 := by omega
    rcases this with rfl | rfl | rfl | rfl | rfl | rfl <;> decide
  · have e : contraB rel = rel := by unfold contraB; repeat (rw [if_neg (by omega)])
    rw [e, e]
theorem relB_contra {s rel c : Int} (h0 : 0 ≤ rel) (h5 : rel ≤ 5) : relB s (contraB rel) c = !relB s rel c := by
  have : rel = 0 ∨ rel = 1 ∨ rel = 2 ∨ rel = 3 ∨ rel = 4 ∨ rel = 5 := by omega
  rcases this with rfl | rfl | rfl | rfl | rfl | rfl <;> (unfold relB contraB; rw [Bool.eq_iff_iff]; simp) <;> omega
/-- Of a rel and its contrary one may hold. -/
theorem mayL_or {lo hi rel c : Int} (h : lo ≤ hi) (h0 : 0 ≤ rel) (h5 : rel ≤ 5) : (mayL lo hi rel c || mayL lo hi (contraB rel) c) = true := by
  cases hr : relB lo rel c with
  | true => rw [mayL_of (Int.le_refl _) h hr]; rfl
  | false =>
    have : relB lo (contraB rel) c = true := by rw [relB_contra h0 h5, hr]; rfl
    rw [mayL_of (Int.le_refl _) h this]; simp
end Go.Proofs.YtekcenacpklpgaaDoor

set_option maxHeartbeats 1000000
set_option maxRecDepth 10000
namespace Go.Proofs.YtekcenacpklpgaaDoor
open Go Go.RowKit Pl

/-- A value is put to a list that has each once. -/
def addB (acc : List Int) (v : Int) : List Int := if acc.contains v then acc else acc ++ [v]
def addAll (acc l : List Int) : List Int := l.foldl addB acc
/-- All values of the first variables, each once. -/
def allU (C : ConB) (ds : List DomB) (j : Nat) : List Int := (List.range j).foldl (fun acc i => addAll acc (leftOf C ds i)) []
theorem addAll_snoc (acc l : List Int) (v : Int) : addAll acc (l ++ [v]) = addB (addAll acc l) v := by unfold addAll; rw [List.foldl_append]; rfl
theorem addAll_nil (acc : List Int) : addAll acc [] = acc := rfl
theorem allU_zero (C : ConB) (ds : List DomB) : allU C ds 0 = [] := rfl
theorem allU_succ (C : ConB) (ds : List DomB) (j : Nat) : allU C ds (j + 1) = addAll (allU C ds j) (leftOf C ds j) := by unfold allU; rw [List.range_succ, List.foldl_append]; rfl
theorem mem_addB {acc : List Int} {v x : Int} : x ∈ addB acc v ↔ x ∈ acc ∨ x = v := by
  unfold addB
  split
  · rename_i h
    rw [List.contains_iff_mem] at h
    constructor
    · exact .inl
    · rintro (h2 | rfl)
      · exact h2
      · exact h
  · rw [List.mem_append, List.mem_singleton]
theorem nodup_addB {acc : List Int} {v : Int} (h : acc.Nodup) : (addB acc v).Nodup := by
  unfold addB
  split
  · exact h
  · rename_i h2
    rw [List.contains_iff_mem] at h2
    rw [List.nodup_append]
    refine ⟨h, by simp, fun a ha b hb e => ?_⟩
    rw [List.mem_singleton] at hb
    subst hb
    exact h2 (e ▸ ha)
theorem mem_addAll {l : List Int} : ∀ {acc : List Int} {x : Int}, x ∈ addAll acc l ↔ x ∈ acc ∨ x ∈ l := by
  induction l with
  | nil => intro acc x; simp [addAll]
  | cons v l ih =>
    intro acc x
    have : addAll acc (v :: l) = addAll (addB acc v) l := rfl
    rw [this, ih, mem_addB, List.mem_cons, or_assoc]
theorem nodup_addAll {l : List Int} : ∀ {acc : List Int}, acc.Nodup → (addAll acc l).Nodup := by
  induction l with
  | nil => intro acc h; exact h
  | cons v l ih => intro acc h; exact ih (nodup_addB h)
theorem mem_allU {C : ConB} {ds : List DomB} {j : Nat} {x : Int} : x ∈ allU C ds j ↔ ∃ i, i < j ∧ x ∈ leftOf C ds i := by
  induction j with
  | zero => rw [allU_zero]; simp
  | succ j ih =>
    rw [allU_succ, mem_addAll, ih]
    constructor
    · rintro (⟨i, hi, hx⟩ | hx)
      · exact ⟨i, by omega, hx⟩
      · exact ⟨j, by omega, hx⟩
    · rintro ⟨i, hi, hx⟩
      by_cases e : i = j
      · subst e; exact .inr hx
      · exact .inl ⟨i, by omega, hx⟩
theorem nodup_allU (C : ConB) (ds : List DomB) (j : Nat) : (allU C ds j).Nodup := by
  induction j with
  | zero => rw [allU_zero]; exact List.nodup_nil
  | succ j ih => rw [allU_succ]; exact nodup_addAll ih
theorem nodup_len : ∀ {l m : List Int}, l.Nodup → (∀ x ∈ l, x ∈ m) → l.length ≤ m.length := by
  intro l
  induction l with
  | nil => intro m _ _; simp
  | cons a l ih =>
    intro m hn hs
    rw [List.nodup_cons] at hn
    have ha : a ∈ m := hs a (by simp)
    have h1 := ih (m := m.erase a) hn.2 (fun x hx => by
      have hne : x ≠ a := fun e => hn.1 (e ▸ hx)
      exact (List.mem_erase_of_ne hne).2 (hs x (by simp [hx])))
    rw [List.length_erase_of_mem ha] at h1
    have : 0 < m.length := List.length_pos_of_mem ha
    simp only [List.length_cons]
    omega

/-- Is nothing left of one of the variables? -/
def wipedB (C : ConB) (ds : List DomB) (j : Nat) : Bool := (List.range j).any fun i => decide ((leftOf C ds i).length = 0)
theorem wipedB_iff {C : ConB} {ds : List DomB} {j : Nat} : wipedB C ds j = false ↔ ∀ i, i < j → 0 < (leftOf C ds i).length := by
  unfold wipedB
  rw [List.any_eq_false]
  constructor
  · intro h i hi
    have := h i (List.mem_range.2 hi)
    simp at this
    exact List.length_pos_iff.2 this
  · intro h i hi
    have := h i (List.mem_range.1 hi)
    simp
    exact List.length_pos_iff.1 this
/-- Are there fewer values than variables, or none of one? -/
def fewB (C : ConB) (ds : List DomB) : Bool := wipedB C ds C.vars.length || decide ((allU C ds C.vars.length).length < C.vars.length)
theorem fewB_iff {C : ConB} {ds : List DomB} : fewB C ds = false ↔ (∀ i, i < C.vars.length → 0 < (leftOf C ds i).length) ∧ C.vars.length ≤ (allU C ds C.vars.length).length := by
  unfold fewB
  rw [Bool.or_eq_false_iff, wipedB_iff, decide_eq_false_iff_not]
  constructor
  · rintro ⟨h1, h2⟩; exact ⟨h1, by omega⟩
  · rintro ⟨h1, h2⟩; exact ⟨h1, by omega⟩
/-- Has another variable that value alone? -/
def soleB (C : ConB) (ds : List DomB) (i : Nat) (v : Int) : Bool := (List.range C.vars.length).any fun k => !decide (C.vars.getD k 0 = C.vars.getD i 0) && (leftOf C ds k == [v])
def diffG (C : ConB) (ds : List DomB) (i : Nat) (v : Int) : Bool := !fewB C ds && !soleB C ds i v
theorem diffG_iff {C : ConB} {ds : List DomB} {i : Nat} {v : Int} : diffG C ds i v = true ↔ fewB C ds = false ∧ ∀ k, k < C.vars.length → C.vars.getD k 0 ≠ C.vars.getD i 0 → leftOf C ds k ≠ [v] := by
  unfold diffG soleB
  rw [Bool.and_eq_true, Bool.not_eq_true', Bool.not_eq_true', List.any_eq_false]
  constructor
  · rintro ⟨h1, h2⟩
    refine ⟨h1, fun k hk hne he => ?_⟩
    have := h2 k (List.mem_range.2 hk)
    rw [decide_eq_false hne, he] at this
    simp at this
  · rintro ⟨h1, h2⟩
    refine ⟨h1, fun k hk => ?_⟩
    by_cases e : C.vars.getD k 0 = C.vars.getD i 0
    · rw [decide_eq_true e]; simp
    · have := h2 k (List.mem_range.1 hk) e
      simp [this]

def diffGo (C : ConB) (ds : List DomB) : Bool := goK 5 C ds
def diffKp (C : ConB) (ds : List DomB) : Nat → Int → Bool := varsKp C.vars (diffG C ds) C.vars.length
theorem diffGo_parts {C : ConB} {ds : List DomB} (h : diffGo C ds = true) : C.kind = 5 ∧ rightB C ds.length = true ∧ allMay ds = true := goK_parts h
theorem diffGo_not {C : ConB} {ds : List DomB} (h : ¬ C.kind = 5) : diffGo C ds = false := goK_not h
theorem diffGo_of {C : ConB} {ds : List DomB} (hk : C.kind = 5) (hr : rightB C ds.length = true) (hm : allMay ds = true) : diffGo C ds = true := goK_of hk hr hm
theorem diff_go_less {C : ConB} {vs us : List DomB} (h : Fewer vs us) (hg : diffGo C us = true) : diffGo C vs = true := goK_less h hg

theorem diff_falls {C : ConB} {vs us : List DomB} (h : Fewer vs us) (hg : diffGo C us = true) : withinL (stepB (diffKp C vs) vs) (stepB (diffKp C us) us) = true := by
  obtain ⟨_, h2, hm⟩ := diffGo_parts hg
  have hsub : ∀ i, i < C.vars.length → ∀ x ∈ leftOf C vs i, x ∈ leftOf C us i := fun i hi x hx => fewer_at h (rightB_vars h2) hm hi hx
  refine step_falls h hm fun i hi v hv hk => varsKp_mono (fun k hk _ hgk => ?_) hk
  obtain ⟨hf, hs⟩ := diffG_iff.1 hgk
  obtain ⟨hf1, hf2⟩ := fewB_iff.1 hf
  refine diffG_iff.2 ⟨fewB_iff.2 ⟨fun i hi => ?_, ?_⟩, fun k' hk' hne he => hs k' hk' hne ?_⟩
  · obtain ⟨x, hx⟩ := List.exists_mem_of_length_pos (hf1 i hi)
    exact List.length_pos_of_mem (hsub i hi x hx)
  · refine Nat.le_trans hf2 (nodup_len (nodup_allU _ _ _) fun x hx => ?_)
    obtain ⟨i, hi, hx⟩ := mem_allU.1 hx
    exact mem_allU.2 ⟨i, hi, hsub i hi x hx⟩
  · have h1 := hf1 k' hk'
    have h2 : ∀ x ∈ leftOf C vs k', x = v := fun x hx => by
      have := hsub k' hk' x hx
      rw [he, List.mem_singleton] at this
      exact this
    have h3 : (leftOf C vs k').Nodup := listB_nodup _ _
    match hl : leftOf C vs k' with
    | [] => rw [hl] at h1; simp at h1
    | [a] => rw [hl] at h2; rw [h2 a (by simp)]
    | a :: b :: r =>
      rw [hl] at h2 h3
      have e1 := h2 a (by simp)
      have e2 := h2 b (by simp)
      rw [List.nodup_cons] at h3
      exact absurd (by rw [e1, ← e2]; simp) h3.1

/-- Do variables differ? -/
def holdsD (C : ConB) (row : List Int) : Bool := (List.range C.vars.length).all fun i => (List.range i).all fun k => !decide ((rowVals C row).getD i 0 = (rowVals C row).getD k 0)
theorem holdsD_iff {C : ConB} {row : List Int} : holdsD C row = true ↔ ∀ i k, i < C.vars.length → k < i → row.getD (C.vars.getD i 0).toNat 0 ≠ row.getD (C.vars.getD k 0).toNat 0 := by
  unfold holdsD
  rw [List.all_eq_true]
  constructor
  · intro h i k hi hk
    have h1 := h i (List.mem_range.2 hi)
    rw [List.all_eq_true] at h1
    have h2 := h1 k (List.mem_range.2 hk)
    rw [rowVals_getD C row hi, rowVals_getD C row (by omega)] at h2
    simpa using h2
  · intro h i hi
    have hi := List.mem_range.1 hi
    rw [List.all_eq_true]
    intro k hk
    have hk := List.mem_range.1 hk
    rw [rowVals_getD C row hi, rowVals_getD C row (by omega)]
    simpa using h i k hi hk
theorem holdsD_ne {C : ConB} {row : List Int} (h : holdsD C row = true) {i k : Nat} (hi : i < C.vars.length) (hk : k < C.vars.length) (e : i ≠ k) : row.getD (C.vars.getD i 0).toNat 0 ≠ row.getD (C.vars.getD k 0).toNat 0 := by
  rcases Nat.lt_or_ge k i with h1 | h1
  · exact holdsD_iff.1 h i k hi h1
  · exact (holdsD_iff.1 h k i hk (by omega)).symm
theorem holdsD_nodup {C : ConB} {row : List Int} (h : holdsD C row = true) : ((List.range C.vars.length).map fun i => row.getD (C.vars.getD i 0).toNat 0).Nodup := by
  unfold List.Nodup
  rw [List.pairwise_map]
  refine List.Pairwise.imp_of_mem (fun {a b} ha hb hab => ?_) List.pairwise_lt_range
  exact holdsD_ne h (List.mem_range.1 ha) (List.mem_range.1 hb) (by omega)

/-- Where a row that differs is left, there are enough values, and none is another's alone. -/
theorem diffG_row {C : ConB} {ds : List DomB} {row : List Int} (_hv : varsOk C.vars ds.length = true) (hl : ∀ i, i < C.vars.length → row.getD (C.vars.getD i 0).toNat 0 ∈ leftOf C ds i) (hh : holdsD C row = true) {i : Nat} (hi : i < C.vars.length) :
    diffG C ds i (row.getD (C.vars.getD i 0).toNat 0) = true := by
  refine diffG_iff.2 ⟨fewB_iff.2 ⟨fun k hk => List.length_pos_of_mem (hl k hk), ?_⟩, fun k hk hne he => ?_⟩
  · have h1 := nodup_len (holdsD_nodup hh) (m := allU C ds C.vars.length) (fun x hx => by
      rw [List.mem_map] at hx
      obtain ⟨k, hk, rfl⟩ := hx
      have hk := List.mem_range.1 hk
      exact mem_allU.2 ⟨k, hk, hl k hk⟩)
    rw [List.length_map, List.length_range] at h1
    exact h1
  · have h1 := hl k hk
    rw [he, List.mem_singleton] at h1
    have hki : k ≠ i := fun e => hne (by rw [e])
    exact holdsD_ne hh hk hi hki h1

theorem diff_sound {C : ConB} {ds : List DomB} {row : List Int} (hg : diffGo C ds = true) (hl : leftL row ds = true) (hh : holdsD C row = true) : leftL row (stepB (diffKp C ds) ds) = true := by
  obtain ⟨_, h2, hm⟩ := diffGo_parts hg
  have hv := rightB_vars h2
  refine step_sound hm hl fun i hi => varsKp_iff.2 fun k hk e => ?_
  have h := diffG_row hv (fun i hi => left_at hv hl hi) hh hk
  rwa [e] at h

theorem diff_single {C : ConB} {row : List Int} (hr : withinB row 1048576 = true) (_hk : C.kind = 5) (hB : rightB C row.length = true) : allLive C.vars (stepB (diffKp C (singles row)) (singles row)) C.vars.length = holdsD C row := by
  have hv := rightB_vars hB
  have hs : ∀ i, i < C.vars.length → leftOf C (singles row) i = [row.getD (C.vars.getD i 0).toNat 0] := fun i hi => singles_at hv hr hi
  unfold diffKp
  rw [Bool.eq_iff_iff, allLive_varsKp hv]
  constructor
  · intro h
    refine holdsD_iff.2 fun i k hi hk e => ?_
    have h1 := (diffG_iff.1 (h i hi i hi rfl)).2 k (by omega) (varsOk_ne hv hi hk)
    exact h1 (by rw [hs k (by omega), e])
  · intro h i hi k hk e
    have h1 := diffG_row (ds := singles row) (by rw [singles_length]; exact hv) (fun i hi => by rw [hs i hi]; simp) h hk
    rwa [e] at h1
end Go.Proofs.YtekcenacpklpgaaDoor

namespace Go.Proofs.YtekcenacpklpgaaDoor
namespace Pl

theorem getD_set3 {α : Type} (l : List α) (i j : Nat) (v d : α) (hi : i < l.length) : (l.set i v).getD j d = if j = i then v else l.getD j d := by
  by_cases e : j = i
  · subst e; rw [if_pos rfl]; simp [List.getD_eq_getElem?_getD, hi]
  · rw [if_neg e]; simp only [List.getD_eq_getElem?_getD, List.getElem?_set_ne (fun h => e h.symm)]

/-- The lists, those of the first j variables emptied. -/
def noneU (vars : List Int) (ls : List (List Int)) : Nat → List (List Int)
  | 0 => ls
  | j + 1 => (noneU vars ls j).set (vars.getD j 0).toNat []
theorem noneU_length (vars : List Int) (ls : List (List Int)) (j : Nat) : (noneU vars ls j).length = ls.length := by
  induction j with
  | zero => rfl
  | succ j ih => simp only [noneU, List.length_set, ih]
theorem noneU_out {vars : List Int} {ls : List (List Int)} {j q : Nat} (h : ∀ k, k < j → (vars.getD k 0).toNat ≠ q) : (noneU vars ls j).getD q [] = ls.getD q [] := by
  induction j with
  | zero => rfl
  | succ j ih =>
    simp only [noneU]
    rw [List.getD_eq_getElem?_getD, List.getElem?_set_ne (h j (by omega)), ← List.getD_eq_getElem?_getD]
    exact ih fun k hk => h k (by omega)
theorem noneU_in {vars : List Int} {ls : List (List Int)} {j q : Nat} (hv : ∀ k, k < j → (vars.getD k 0).toNat < ls.length) (h : ∃ k, k < j ∧ (vars.getD k 0).toNat = q) : (noneU vars ls j).getD q [] = [] := by
  induction j with
  | zero => obtain ⟨k, hk, _⟩ := h; omega
  | succ j ih =>
    simp only [noneU]
    rw [getD_set3 _ _ _ _ _ (by rw [noneU_length]; exact hv j (by omega))]
    split
    · rfl
    · rename_i hne
      obtain ⟨k, hk, e⟩ := h
      refine ih (fun k hk => hv k (by omega)) ⟨k, ?_, e⟩
      have : k ≠ j := fun h => hne (by rw [← e, h])
      omega

/-- .., and those of the first j filled by what their questions let by. -/
def fillU (vars : List Int) (ls : List (List Int)) (g : Nat → Int → Bool) (m : Nat) : Nat → List (List Int)
  | 0 => noneU vars ls m
  | j + 1 => (fillU vars ls g m j).set (vars.getD j 0).toNat ((ls.getD (vars.getD j 0).toNat []).filter (g j))
theorem fillU_length (vars : List Int) (ls : List (List Int)) (g : Nat → Int → Bool) (m j : Nat) : (fillU vars ls g m j).length = ls.length := by
  induction j with
  | zero => exact noneU_length _ _ _
  | succ j ih => simp only [fillU, List.length_set, ih]
theorem fillU_out {vars : List Int} {ls : List (List Int)} {g : Nat → Int → Bool} {m j q : Nat} (h : ∀ k, k < j → (vars.getD k 0).toNat ≠ q) : (fillU vars ls g m j).getD q [] = (noneU vars ls m).getD q [] := by
  induction j with
  | zero => rfl
  | succ j ih =>
    simp only [fillU]
    rw [List.getD_eq_getElem?_getD, List.getElem?_set_ne (h j (by omega)), ← List.getD_eq_getElem?_getD]
    exact ih fun k hk => h k (by omega)
theorem fillU_in {vars : List Int} {ls : List (List Int)} {g : Nat → Int → Bool} {m j i : Nat} (hv : ∀ k, k < j → (vars.getD k 0).toNat < ls.length) (hd : ∀ k, k < j → k ≠ i → (vars.getD k 0).toNat ≠ (vars.getD i 0).toNat) (hi : i < j) :
    (fillU vars ls g m j).getD (vars.getD i 0).toNat [] = (ls.getD (vars.getD i 0).toNat []).filter (g i) := by
  induction j with
  | zero => omega
  | succ j ih =>
    simp only [fillU]
    rw [getD_set3 _ _ _ _ _ (by rw [fillU_length]; exact hv j (by omega))]
    by_cases e : j = i
    · subst e; rw [if_pos rfl]
    · rw [if_neg (fun h => hd j (by omega) e h.symm)]
      exact ih (fun k hk => hv k (by omega)) (fun k hk => hd k (by omega)) (by omega)

theorem varsOk_ne' {vs : List Int} {V : Int} (h : varsOk vs V = true) {i k : Nat} (hi : i < vs.length) (hk : k < vs.length) (e : k ≠ i) : (vs.getD k 0).toNat ≠ (vs.getD i 0).toNat := by
  have h1 := varsOk_rng h hi
  have h2 := varsOk_rng h hk
  have h3 : vs.getD k 0 ≠ vs.getD i 0 := by
    rcases Nat.lt_or_ge k i with h4 | h4
    · exact varsOk_ne h hi h4
    · exact (varsOk_ne h hk (by omega)).symm
  omega

/-- In the middle of a variable's round. -/
def midL (vars : List Int) (ls : List (List Int)) (g : Nat → Int → Bool) (m j p k : Nat) : List (List Int) := (fillU vars ls g m j).set p (((ls.getD p []).take k).filter (g j))
theorem midL_length (vars : List Int) (ls : List (List Int)) (g : Nat → Int → Bool) (m j p k : Nat) : (midL vars ls g m j p k).length = ls.length := by
  unfold midL; rw [List.length_set, fillU_length]
theorem midL_zero {vars : List Int} {ls : List (List Int)} {g : Nat → Int → Bool} {j p : Nat} (hv : varsOk vars ls.length = true) (hj : j < vars.length) (hp : vars.getD j 0 = (p : Nat)) : midL vars ls g vars.length j p 0 = fillU vars ls g vars.length j := by
  have hpl : p < ls.length := by have := varsOk_rng hv hj; omega
  unfold midL
  rw [List.take_zero, List.filter_nil]
  have e : (fillU vars ls g vars.length j).getD p [] = [] := by
    rw [fillU_out (fun k hk => by have := varsOk_ne' hv hj (show k < vars.length by omega) (by omega); rw [hp] at this; exact this)]
    exact noneU_in (fun k hk => by have := varsOk_rng hv hk; omega) ⟨j, hj, by rw [hp]; rfl⟩
  have h := set_getD_self (fillU vars ls g vars.length j) p [] (by rw [fillU_length]; exact hpl)
  rw [e] at h
  exact h
theorem midL_at {vars : List Int} {ls : List (List Int)} {g : Nat → Int → Bool} {m j p k : Nat} (hp : p < ls.length) : (midL vars ls g m j p k).getD p [] = ((ls.getD p []).take k).filter (g j) := by
  unfold midL
  rw [getD_set3 _ _ _ _ _ (by rw [fillU_length]; exact hp), if_pos rfl]
theorem midL_no {vars : List Int} {ls : List (List Int)} {g : Nat → Int → Bool} {m j p k : Nat} {v : Int} (hk : k < (ls.getD p []).length) (hv : (ls.getD p []).getD k 0 = v) (hg : g j v = false) : midL vars ls g m j p (k + 1) = midL vars ls g m j p k := by
  unfold midL
  rw [take_one hk hv, List.filter_append]
  simp [hg]
theorem midL_yes {vars : List Int} {ls : List (List Int)} {g : Nat → Int → Bool} {m j p k : Nat} {v : Int} (hp : p < ls.length) (hk : k < (ls.getD p []).length) (hv : (ls.getD p []).getD k 0 = v) (hg : g j v = true) :
    midL vars ls g m j p (k + 1) = (midL vars ls g m j p k).set p ((midL vars ls g m j p k).getD p [] ++ [v]) := by
  rw [midL_at hp]
  unfold midL
  rw [List.set_set, take_one hk hv, List.filter_append]
  simp [hg]
theorem midL_end {vars : List Int} {ls : List (List Int)} {g : Nat → Int → Bool} {m j p k : Nat} (hp : vars.getD j 0 = (p : Nat)) (hk : (ls.getD p []).length = k) : midL vars ls g m j p k = fillU vars ls g m (j + 1) := by
  unfold midL
  simp only [fillU]
  rw [hp, Int.toNat_natCast, List.take_of_length_le (by omega)]

/-- What is kept by the lists so filled. -/
theorem fillU_keeps {vars : List Int} {ls : List (List Int)} {g : Nat → Int → Bool} {q : Nat} {v : Int} (hv : varsOk vars ls.length = true) (hm : v ∈ ls.getD q []) : ((fillU vars ls g vars.length vars.length).getD q []).contains v = varsKp vars g vars.length q v := by
  have hr : ∀ k, k < vars.length → (vars.getD k 0).toNat < ls.length := fun k hk => by have := varsOk_rng hv hk; omega
  rw [Bool.eq_iff_iff, List.contains_iff_mem, varsKp_iff]
  by_cases h : ∃ i, i < vars.length ∧ (vars.getD i 0).toNat = q
  · obtain ⟨i, hi, rfl⟩ := h
    rw [fillU_in hr (fun k hk e => varsOk_ne' hv hi hk e) hi, List.mem_filter]
    constructor
    · rintro ⟨_, h2⟩ k hk e
      have : k = i := by
        rcases Nat.decEq k i with h3 | h3
        · exact absurd e (varsOk_ne' hv hi hk h3)
        · exact h3
      subst this; exact h2
    · intro h2
      exact ⟨hm, h2 i hi rfl⟩
  · have hn : ∀ k, k < vars.length → (vars.getD k 0).toNat ≠ q := fun k hk e => h ⟨k, hk, e⟩
    rw [fillU_out hn, noneU_out hn]
    exact ⟨fun _ k hk e => absurd e (hn k hk), fun _ => hm⟩
end Pl
end Go.Proofs.YtekcenacpklpgaaDoor

set_option maxHeartbeats 1000000
set_option maxRecDepth 10000
namespace Go.Proofs.YtekcenacpklpgaaDoor
open Go Go.RowKit Pl

/-- What a sum keeps of a value at a place. -/
def sumG (cs : List Int) (ls : Nat → List Int) (m : Nat) (rel c : Int) (i : Nat) (x : Int) : Bool := mayL (lowBut cs ls i m + cs.getD i 0 * x) (highBut cs ls i m + cs.getD i 0 * x) rel c
/-- What is left of the variables behind the first one. -/
def restOf (C : ConB) (ds : List DomB) (i : Nat) : List Int := leftOf C ds (i + 1)
def iffG (C : ConB) (ds : List DomB) (i : Nat) (x : Int) : Bool :=
  if i = 0 then (decide (x = 1) && mayL (lowBut C.coefs (restOf C ds) (-1) (C.vars.length - 1)) (highBut C.coefs (restOf C ds) (-1) (C.vars.length - 1)) C.rel C.const) || (decide (x = 0) && mayL (lowBut C.coefs (restOf C ds) (-1) (C.vars.length - 1)) (highBut C.coefs (restOf C ds) (-1) (C.vars.length - 1)) (contraB C.rel) C.const)
  else if (leftOf C ds 0).contains 1 = true then
    (if (leftOf C ds 0).contains 0 = true then true else sumG C.coefs (restOf C ds) (C.vars.length - 1) C.rel C.const (i - 1) x)
  else (if (leftOf C ds 0).contains 0 = true then sumG C.coefs (restOf C ds) (C.vars.length - 1) (contraB C.rel) C.const (i - 1) x else false)
def linG (C : ConB) (ds : List DomB) (i : Nat) (x : Int) : Bool :=
  if wipedB C ds C.vars.length = true then false else if C.kind = 1 then sumG C.coefs (leftOf C ds) C.vars.length C.rel C.const i x else iffG C ds i x

def linGo (C : ConB) (ds : List DomB) : Bool := (decide (C.kind = 1) || decide (C.kind = 3)) && rightB C ds.length && allMay ds
def linKp (C : ConB) (ds : List DomB) : Nat → Int → Bool := varsKp C.vars (linG C ds) C.vars.length
theorem linGo_parts {C : ConB} {ds : List DomB} (h : linGo C ds = true) : (C.kind = 1 ∨ C.kind = 3) ∧ rightB C ds.length = true ∧ allMay ds = true := by
  unfold linGo at h
  simp only [Bool.and_eq_true, Bool.or_eq_true, decide_eq_true_eq] at h
  exact ⟨h.1.1, h.1.2, h.2⟩
theorem linGo_not {C : ConB} {ds : List DomB} (h : ¬ (C.kind = 1 ∨ C.kind = 3)) : linGo C ds = false := by
  unfold linGo
  rw [decide_eq_false (fun e => h (.inl e)), decide_eq_false (fun e => h (.inr e))]; rfl
theorem linGo_of {C : ConB} {ds : List DomB} (hk : C.kind = 1 ∨ C.kind = 3) (hr : rightB C ds.length = true) (hm : allMay ds = true) : linGo C ds = true := by
  unfold linGo
  rw [hr, hm]
  rcases hk with h | h <;> simp [h]
theorem lin_go_less {C : ConB} {vs us : List DomB} (h : Fewer vs us) (hg : linGo C us = true) : linGo C vs = true := by
  obtain ⟨h1, h2, h3⟩ := linGo_parts hg
  exact linGo_of h1 (by rw [h.len]; exact h2) (h.may h3)

structure SumOk (C : ConB) (but : Nat) : Prop where
  least : 1 ≤ C.vars.length - but
  most : C.vars.length - but ≤ 8
  len : C.coefs.length = C.vars.length - but
  bnd : ∀ i, -1048576 ≤ C.coefs.getD i 0 ∧ C.coefs.getD i 0 ≤ 1048576
  rel0 : 0 ≤ C.rel
  rel5 : C.rel ≤ 5
  con : -1099511627776 ≤ C.const ∧ C.const ≤ 1099511627776
theorem sumR_ok {C : ConB} {but : Nat} (h : sumR C but = true) : SumOk C but := by
  unfold sumR at h
  simp only [Bool.and_eq_true, decide_eq_true_eq] at h
  obtain ⟨⟨⟨⟨⟨⟨⟨⟨_, h1⟩, h2⟩, h3⟩, h4⟩, h5⟩, h6⟩, h7⟩, _⟩ := h
  have hc := withinB_mem h7 (x := C.const) (by simp)
  refine ⟨by omega, by omega, by omega, fun i => ?_, h5, h6, by omega⟩
  by_cases hi : i < C.coefs.length
  · have := withinB_mem h4 (x := C.coefs.getD i 0) (by rw [List.getD_eq_getElem?_getD, List.getElem?_eq_getElem hi]; exact List.getElem_mem hi)
    omega
  · rw [List.getD_eq_getElem?_getD, List.getElem?_eq_none (by omega)]; simp
theorem linear_parts {C : ConB} {V : Int} (hk : C.kind = 1) (h : rightB C V = true) : SumOk C 0 := by
  unfold rightB at h
  rw [if_pos hk, Bool.and_eq_true] at h
  exact sumR_ok h.2
theorem iff_parts {C : ConB} {V : Int} (hk : C.kind = 3) (h : rightB C V = true) : SumOk C 1 := by
  unfold rightB at h
  rw [if_neg (by rw [hk]; decide), if_pos hk, Bool.and_eq_true] at h
  exact sumR_ok h.2

theorem leftOf_sorted (C : ConB) (ds : List DomB) (i : Nat) : (leftOf C ds i).Pairwise (· < ·) := listB_sorted _ _
theorem sumG_mono {cs : List Int} {ls ms : Nat → List Int} {m : Nat} {rel c : Int} {i : Nat} {x : Int} (h : ∀ i, i < m → (ls i).Pairwise (· < ·) ∧ (∀ x ∈ ms i, x ∈ ls i) ∧ 0 < (ms i).length) (hx : sumG cs ms m rel c i x = true) : sumG cs ls m rel c i x = true := by
  have h1 := ends_sub (cs := cs) (but := i) h
  have h2 := ends_le cs ms i m
  unfold sumG at *
  exact mayL_mono (by omega) (by omega) (by omega) hx

theorem lin_falls {C : ConB} {vs us : List DomB} (h : Fewer vs us) (hg : linGo C us = true) : withinL (stepB (linKp C vs) vs) (stepB (linKp C us) us) = true := by
  obtain ⟨hkk, h2, hm⟩ := linGo_parts hg
  have hsub : ∀ i, i < C.vars.length → ∀ x ∈ leftOf C vs i, x ∈ leftOf C us i := fun i hi x hx => fewer_at h (rightB_vars h2) hm hi hx
  refine step_falls h hm fun i hi v hv hk => varsKp_mono (fun k hk _ hgk => ?_) hk
  unfold linG at hgk ⊢
  split at hgk
  · cases hgk
  · rename_i hw
    have hw1 := wipedB_iff.1 (Bool.eq_false_iff.2 hw)
    have hw2 : wipedB C us C.vars.length = false := wipedB_iff.2 fun i hi => by
      obtain ⟨x, hx⟩ := List.exists_mem_of_length_pos (hw1 i hi)
      exact List.length_pos_of_mem (hsub i hi x hx)
    rw [if_neg (by rw [hw2]; decide)]
    split at hgk
    · rename_i e
      rw [if_pos e]
      exact sumG_mono (fun i hi => ⟨leftOf_sorted C us i, hsub i hi, hw1 i hi⟩) hgk
    · rename_i e
      rw [if_neg e]
      have hk3 : C.kind = 3 := hkk.resolve_left e
      have hso := iff_parts hk3 h2
      have hl := hso.least
      have hrest : ∀ i, i < C.vars.length - 1 → (restOf C us i).Pairwise (· < ·) ∧ (∀ x ∈ restOf C vs i, x ∈ restOf C us i) ∧ 0 < (restOf C vs i).length := fun i hi => ⟨leftOf_sorted C us (i + 1), hsub (i + 1) (by omega), hw1 (i + 1) (by omega)⟩
      have he := ends_sub (cs := C.coefs) (but := -1) hrest
      have hle := ends_le C.coefs (restOf C vs) (-1) (C.vars.length - 1)
      have hy : (leftOf C vs 0).contains 1 = true → (leftOf C us 0).contains 1 = true := fun h => List.contains_iff_mem.2 (hsub 0 (by omega) _ (List.contains_iff_mem.1 h))
      have hn : (leftOf C vs 0).contains 0 = true → (leftOf C us 0).contains 0 = true := fun h => List.contains_iff_mem.2 (hsub 0 (by omega) _ (List.contains_iff_mem.1 h))
      unfold iffG at hgk ⊢
      split at hgk
      · rename_i e0
        rw [if_pos e0]
        rw [Bool.or_eq_true, Bool.and_eq_true, Bool.and_eq_true] at hgk ⊢
        rcases hgk with ⟨a, b⟩ | ⟨a, b⟩
        · exact .inl ⟨a, mayL_mono he.1 he.2 hle b⟩
        · exact .inr ⟨a, mayL_mono he.1 he.2 hle b⟩
      · rename_i e0
        rw [if_neg e0]
        split at hgk
        · rename_i y
          rw [if_pos (hy y)]
          split at hgk
          · rename_i z
            rw [if_pos (hn z)]
          · split
            · rfl
            · exact sumG_mono hrest hgk
        · rename_i y
          split at hgk
          · rename_i z
            rw [if_pos (hn z)]
            split
            · rfl
            · rw [if_pos (hn z)]
              exact sumG_mono hrest hgk
          · cases hgk

/-- A row's value at a place. -/
def atV (C : ConB) (row : List Int) (i : Nat) : Int := row.getD (C.vars.getD i 0).toNat 0
/-- Does a linear constraint, or an iff, hold? -/
def holdsL (C : ConB) (row : List Int) : Bool := relB (sumBut C.coefs (atV C row) (-1) C.vars.length) C.rel C.const
def holdsI (C : ConB) (row : List Int) : Bool := (decide (atV C row 0 = 0) || decide (atV C row 0 = 1)) && (relB (sumBut C.coefs (fun i => atV C row (i + 1)) (-1) (C.vars.length - 1)) C.rel C.const == decide (atV C row 0 = 1))
def holdsLin (C : ConB) (row : List Int) : Bool := if C.kind = 1 then holdsL C row else holdsI C row

theorem sumG_row {cs : List Int} {ls : Nat → List Int} {r : Nat → Int} {m : Nat} {rel c : Int} {i : Nat} (hi : i < m) (h : ∀ i, i < m → (ls i).Pairwise (· < ·) ∧ r i ∈ ls i) (hr : relB (sumBut cs r (-1) m) rel c = true) : sumG cs ls m rel c i (r i) = true := by
  have h1 := ends_row (cs := cs) (but := i) h
  have h2 := sumBut_eq (cs := cs) (r := r) hi
  unfold sumG
  exact mayL_of (s := sumBut cs r (-1) m) (by omega) (by omega) hr

theorem lin_row {C : ConB} {ds : List DomB} {row : List Int} (hkk : C.kind = 1 ∨ C.kind = 3) (h2 : rightB C ds.length = true) (hl : ∀ i, i < C.vars.length → atV C row i ∈ leftOf C ds i) (hh : holdsLin C row = true) {i : Nat} (hi : i < C.vars.length) : linG C ds i (atV C row i) = true := by
  have hw2 : wipedB C ds C.vars.length = false := wipedB_iff.2 fun i hi => List.length_pos_of_mem (hl i hi)
  unfold linG
  unfold holdsLin at hh
  rw [if_neg (by rw [hw2]; decide)]
  split
  · rename_i e
    rw [if_pos e] at hh
    exact sumG_row hi (fun i hi => ⟨leftOf_sorted C ds i, hl i hi⟩) hh
  · rename_i e
    rw [if_neg e] at hh
    have hk3 : C.kind = 3 := hkk.resolve_left e
    have hso := iff_parts hk3 h2
    have hl1 := hso.least
    have hrest : ∀ i, i < C.vars.length - 1 → (restOf C ds i).Pairwise (· < ·) ∧ (fun i => atV C row (i + 1)) i ∈ restOf C ds i := fun i hi => ⟨leftOf_sorted C ds (i + 1), hl (i + 1) (by omega)⟩
    have he := ends_row (cs := C.coefs) (but := -1) hrest
    have hl0 := hl 0 (by omega)
    unfold holdsI at hh
    rw [Bool.and_eq_true, Bool.or_eq_true, decide_eq_true_eq, decide_eq_true_eq, beq_iff_eq] at hh
    obtain ⟨h01, hrel⟩ := hh
    have hc := relB_contra (s := sumBut C.coefs (fun i => atV C row (i + 1)) (-1) (C.vars.length - 1)) (c := C.const) hso.rel0 hso.rel5
    unfold iffG
    rcases h01 with h0 | h0
    · rw [h0] at hrel hl0
      rw [decide_eq_false (by decide)] at hrel
      rw [hrel] at hc
      split
      · rename_i e0
        subst e0
        rw [h0, mayL_of he.1 he.2 hc]; simp
      · rename_i e0
        rw [if_pos (List.contains_iff_mem.2 hl0), if_pos (List.contains_iff_mem.2 hl0)]
        split
        · rfl
        · have h3 := sumG_row (i := i - 1) (by omega) hrest hc
          have e1 : i - 1 + 1 = i := by omega
          simp only [e1] at h3
          exact h3
    · rw [h0] at hrel hl0
      rw [decide_eq_true rfl] at hrel
      split
      · rename_i e0
        subst e0
        rw [h0, mayL_of he.1 he.2 hrel]; simp
      · rename_i e0
        rw [if_pos (List.contains_iff_mem.2 hl0)]
        split
        · rfl
        · have h3 := sumG_row (i := i - 1) (by omega) hrest hrel
          have e1 : i - 1 + 1 = i := by omega
          simp only [e1] at h3
          exact h3

theorem lin_sound {C : ConB} {ds : List DomB} {row : List Int} (hg : linGo C ds = true) (hl : leftL row ds = true) (hh : holdsLin C row = true) : leftL row (stepB (linKp C ds) ds) = true := by
  obtain ⟨hkk, h2, hm⟩ := linGo_parts hg
  have hv := rightB_vars h2
  refine step_sound hm hl fun i hi => varsKp_iff.2 fun k hk e => ?_
  have h := lin_row hkk h2 (fun i hi => left_at hv hl hi) hh hk
  unfold atV at h
  rwa [e] at h

theorem lin_single {C : ConB} {row : List Int} (hr : withinB row 1048576 = true) (hkk : C.kind = 1 ∨ C.kind = 3) (hB : rightB C row.length = true) : allLive C.vars (stepB (linKp C (singles row)) (singles row)) C.vars.length = holdsLin C row := by
  have hv := rightB_vars hB
  have hs : ∀ i, i < C.vars.length → leftOf C (singles row) i = [atV C row i] := fun i hi => singles_at hv hr hi
  have hw2 : wipedB C (singles row) C.vars.length = false := wipedB_iff.2 fun i hi => by rw [hs i hi]; simp
  have hl1 := (rightB_len hB).1
  unfold linKp
  rw [Bool.eq_iff_iff, allLive_varsKp hv]
  constructor
  · intro h
    have hg : ∀ i, i < C.vars.length → (if C.kind = 1 then sumG C.coefs (leftOf C (singles row)) C.vars.length C.rel C.const i (atV C row i) else iffG C (singles row) i (atV C row i)) = true := fun i hi => by
      have h9 := h i hi i hi rfl
      unfold linG at h9
      rw [if_neg (by rw [hw2]; decide)] at h9
      exact h9
    unfold holdsLin
    split
    · rename_i e
      have h0 := hg 0 (by omega)
      rw [if_pos e] at h0
      unfold sumG at h0
      have h1 := ends_one (cs := C.coefs) (but := ((0 : Nat) : Int)) hs
      have h2 := sumBut_eq (cs := C.coefs) (r := atV C row) (show 0 < C.vars.length by omega)
      rw [h1.1, h1.2, h2, mayL_one] at h0
      exact h0
    · rename_i e
      have hk3 : C.kind = 3 := hkk.resolve_left e
      have hso := iff_parts hk3 hB
      have h0 := hg 0 (by omega)
      rw [if_neg e] at h0
      unfold iffG at h0
      rw [if_pos rfl] at h0
      have h1 := ends_one (cs := C.coefs) (ls := restOf C (singles row)) (r := fun i => atV C row (i + 1)) (but := -1) (j := C.vars.length - 1) (fun i hi => hs (i + 1) (by omega))
      rw [h1.1, h1.2, mayL_one, mayL_one, relB_contra hso.rel0 hso.rel5] at h0
      unfold holdsI
      rw [Bool.or_eq_true, Bool.and_eq_true, Bool.and_eq_true, decide_eq_true_eq, decide_eq_true_eq] at h0
      rcases h0 with ⟨a, b⟩ | ⟨a, b⟩
      · rw [a, b]; decide
      · rw [Bool.not_eq_true'] at b
        rw [a, b]; decide
  · intro h i hi k hk e
    have h1 := lin_row (ds := singles row) hkk (by rw [singles_length]; exact hB) (fun i hi => by rw [hs i hi]; simp) h hk
    unfold atV at h1
    rwa [e] at h1
end Go.Proofs.YtekcenacpklpgaaDoor

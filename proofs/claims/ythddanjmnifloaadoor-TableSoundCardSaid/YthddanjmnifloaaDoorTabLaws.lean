/-
  Plain: what the laws of the table's step come to.
-/
import Derived.Test.YthddanjmnifloaaDoorHolds6
import Derived.Test.YthddanjmnifloaaDoorGoLaws
set_option maxHeartbeats 1000000
set_option maxRecDepth 10000
namespace Go.Proofs.YthddanjmnifloaaDoor
open Go Go.RowKit Pl

def tabGo (C : ConB) (ds : List DomB) : Bool := goK 6 C ds
def tabKp (C : ConB) (ds : List DomB) : Nat → Int → Bool := varsKp C.vars (tabG C ds) C.vars.length
theorem tabstep_law (K R Ct : Int) (A1 A2 A3 : Option Addr) (n1 c1 n2 c2 n3 c3 : Nat) (C : ConB) (A : Option Addr) (n c : Nat) (ds : List DomB) (w : World) (hC : ConIn w K R Ct A1 A2 A3 n1 c1 n2 c2 n3 c3 C) (hS : Doms w A n ds) (hT : Tab w) (hn : n ≤ 1000) :
    Calls Tryd.prog 40 #[.agg #[.int .i64 K, .slice A1 n1 c1, .slice A2 n2 c2, .int .i64 R, .int .i64 Ct, .slice A3 n3 c3], .slice A n c] w (StepPost (if tabGo C ds = true then some (stepB (tabKp C ds) ds) else Option.none) w) := tabstep_any K R Ct A1 A2 A3 n1 c1 n2 c2 n3 c3 C A n c ds w hC hS hT hn
theorem tabGo_parts {C : ConB} {ds : List DomB} (h : tabGo C ds = true) : C.kind = 6 ∧ rightB C ds.length = true ∧ allMay ds = true := goK_parts h
theorem tabGo_not {C : ConB} {ds : List DomB} (h : ¬ C.kind = 6) : tabGo C ds = false := goK_not h
theorem tabGo_of {C : ConB} {ds : List DomB} (hk : C.kind = 6) (hr : rightB C ds.length = true) (hm : allMay ds = true) : tabGo C ds = true := goK_of hk hr hm
theorem tab_go_less {C : ConB} {vs us : List DomB} (h : Fewer vs us) (hg : tabGo C us = true) : tabGo C vs = true := goK_less h hg

theorem liveRow_iff {C : ConB} {ds : List DomB} {row : List Int} : liveRow C ds row = true ↔ ∀ i, i < C.vars.length → row.getD i 0 ∈ listB (ds.getD (C.vars.getD i 0).toNat nilD).1 (ds.getD (C.vars.getD i 0).toNat nilD).2 := by
  unfold liveRow liveUpto
  rw [List.all_eq_true]
  constructor
  · intro h i hi
    exact List.contains_iff_mem.1 (h i (List.mem_range.2 hi))
  · intro h i hi
    exact List.contains_iff_mem.2 (h i (List.mem_range.1 hi))
theorem tabG_iff {C : ConB} {ds : List DomB} {j : Nat} {x : Int} : tabG C ds j x = true ↔ ∃ r ∈ rowsOf C ds, r.getD j 0 = x := by
  unfold tabG
  rw [List.any_eq_true]
  constructor
  · rintro ⟨r, hr, h⟩; exact ⟨r, hr, by simpa using h⟩
  · rintro ⟨r, hr, h⟩; exact ⟨r, hr, by simpa using h⟩

theorem tab_falls {C : ConB} {vs us : List DomB} (h : Fewer vs us) (hg : tabGo C us = true) : withinL (stepB (tabKp C vs) vs) (stepB (tabKp C us) us) = true := by
  obtain ⟨_, h2, hm⟩ := tabGo_parts hg
  refine step_falls h hm fun i hi v hv hk => varsKp_mono (fun k hk _ hgk => ?_) hk
  obtain ⟨r, hr, hx⟩ := tabG_iff.1 hgk
  refine tabG_iff.2 ⟨r, ?_, hx⟩
  obtain ⟨t, ht, hc, hlv⟩ := mem_rows.1 hr
  refine mem_rows.2 ⟨t, ht, hc, liveRow_iff.2 fun i hi => ?_⟩
  exact fewer_at h (rightB_vars h2) hm hi (liveRow_iff.1 hlv i hi)

theorem holdsT_row {C : ConB} {row : List Int} (h : holdsT C row = true) {ds : List DomB} (hl : ∀ i, i < C.vars.length → row.getD (C.vars.getD i 0).toNat 0 ∈ listB (ds.getD (C.vars.getD i 0).toNat nilD).1 (ds.getD (C.vars.getD i 0).toNat nilD).2) :
    rowVals C row ∈ rowsOf C ds := by
  unfold holdsT at h
  rw [List.any_eq_true] at h
  obtain ⟨t, ht, he⟩ := h
  rw [beq_iff_eq] at he
  refine mem_rows.2 ⟨t, List.mem_range.1 ht, he, liveRow_iff.2 fun i hi => ?_⟩
  rw [rowVals_getD C row hi]
  exact hl i hi

theorem tab_sound {C : ConB} {ds : List DomB} {row : List Int} (hg : tabGo C ds = true) (hl : leftL row ds = true) (hh : holdsT C row = true) : leftL row (stepB (tabKp C ds) ds) = true := by
  obtain ⟨_, h2, hm⟩ := tabGo_parts hg
  refine step_sound hm hl fun i hi => varsKp_iff.2 fun k hk e => tabG_iff.2 ⟨_, holdsT_row hh fun i hi => left_at (rightB_vars h2) hl hi, ?_⟩
  rw [rowVals_getD C row hk, e]

theorem tab_single {C : ConB} {row : List Int} (hr : withinB row 1048576 = true) (_hk : C.kind = 6) (hB : rightB C row.length = true) : allLive C.vars (stepB (tabKp C (singles row)) (singles row)) C.vars.length = holdsT C row := by
  have hv := rightB_vars hB
  have h1 := (rightB_len hB).1
  unfold tabKp
  rw [Bool.eq_iff_iff, allLive_varsKp hv]
  constructor
  · intro h
    obtain ⟨r, hr2, _⟩ := tabG_iff.1 (h 0 (by omega) 0 (by omega) rfl)
    obtain ⟨t, ht, hc, hlv⟩ := mem_rows.1 hr2
    unfold holdsT
    rw [List.any_eq_true]
    refine ⟨t, List.mem_range.2 ht, ?_⟩
    rw [beq_iff_eq, hc]
    have hrl := rows_length hr2
    have hvl : (rowVals C row).length = C.vars.length := by unfold rowVals; rw [List.length_map]
    apply List.ext_getElem (by omega)
    intro i a1 a2
    have h3 := liveRow_iff.1 hlv i (by omega)
    rw [singles_at hv hr (by omega), List.mem_singleton, ← rowVals_getD C row (by omega)] at h3
    rw [List.getD_eq_getElem?_getD, List.getD_eq_getElem?_getD, List.getElem?_eq_getElem a1, List.getElem?_eq_getElem a2] at h3
    simpa using h3
  · intro h i hi k hk e
    refine tabG_iff.2 ⟨_, holdsT_row h (ds := singles row) fun i hi => ?_, ?_⟩
    · rw [singles_at hv hr hi]; simp
    · rw [rowVals_getD C row hk, e]
end Go.Proofs.YthddanjmnifloaaDoor

/-
  Plain: what a step of a product keeps, and what its laws come to.
-/
import Derived.Test.YtjmegicopdbkdaaDoorGoLaws
set_option maxHeartbeats 1000000
set_option maxRecDepth 10000
namespace Go.Proofs.YtjmegicopdbkdaaDoor
open Go Go.RowKit Pl

/-- What is left of a constraint's variable. -/
def leftOf (C : ConB) (ds : List DomB) (i : Nat) : List Int := listB (ds.getD (C.vars.getD i 0).toNat nilD).1 (ds.getD (C.vars.getD i 0).toNat nilD).2

/-- Are there values of the other two? -/
def pG0 (Y Z : List Int) (v : Int) : Bool := Y.any fun b => Z.contains (v * b)
def pG1 (X Z : List Int) (v : Int) : Bool := X.any fun a => Z.contains (a * v)
def pG2 (X Y : List Int) (v : Int) : Bool := X.any fun a => Y.any fun b => a * b == v
/-- The same, of whole lists. -/
def prodL (X Y Z : List Int) (i : Nat) (v : Int) : Bool :=
  if i = 0 then X.contains v && pG0 Y Z v else if i = 1 then Y.contains v && pG1 X Z v else Z.contains v && pG2 X Y v
def prodG (C : ConB) (ds : List DomB) (i : Nat) (v : Int) : Bool := prodL (leftOf C ds 0) (leftOf C ds 1) (leftOf C ds 2) i v

theorem prodL_iff {X Y Z : List Int} {i : Nat} {v : Int} (hi : i < 3) : prodL X Y Z i v = true ↔ ∃ a b c, a ∈ X ∧ b ∈ Y ∧ c ∈ Z ∧ a * b = c ∧ (if i = 0 then a else if i = 1 then b else c) = v := by
  unfold prodL
  have h3 : i = 0 ∨ i = 1 ∨ i = 2 := by omega
  rcases h3 with rfl | rfl | rfl
  · unfold pG0
    simp only [if_true, Bool.and_eq_true, List.contains_iff_mem, List.any_eq_true]
    constructor
    · rintro ⟨hx, b, hb, hz⟩; exact ⟨v, b, _, hx, hb, hz, rfl, rfl⟩
    · rintro ⟨a, b, c, hx, hb, hz, rfl, rfl⟩; exact ⟨hx, b, hb, hz⟩
  · unfold pG1
    simp only [if_true, if_false, Bool.and_eq_true, List.contains_iff_mem, List.any_eq_true, show ¬ (1 : Nat) = 0 by omega]
    constructor
    · rintro ⟨hy, a, ha, hz⟩; exact ⟨a, v, _, ha, hy, hz, rfl, rfl⟩
    · rintro ⟨a, b, c, ha, hb, hz, rfl, rfl⟩; exact ⟨hb, a, ha, hz⟩
  · unfold pG2
    simp only [if_false, Bool.and_eq_true, List.contains_iff_mem, List.any_eq_true, show ¬ (2 : Nat) = 0 by omega, show ¬ (2 : Nat) = 1 by omega, beq_iff_eq]
    constructor
    · rintro ⟨hz, a, ha, b, hb, e⟩; exact ⟨a, b, v, ha, hb, hz, e, rfl⟩
    · rintro ⟨a, b, c, ha, hb, hz, e, rfl⟩; exact ⟨hz, a, ha, b, hb, e⟩

def prodGo (C : ConB) (ds : List DomB) : Bool := goK 2 C ds
def prodKp (C : ConB) (ds : List DomB) : Nat → Int → Bool := varsKp C.vars (prodG C ds) C.vars.length
theorem prodGo_parts {C : ConB} {ds : List DomB} (h : prodGo C ds = true) : C.kind = 2 ∧ rightB C ds.length = true ∧ allMay ds = true := goK_parts h
theorem prodGo_not {C : ConB} {ds : List DomB} (h : ¬ C.kind = 2) : prodGo C ds = false := goK_not h
theorem prodGo_of {C : ConB} {ds : List DomB} (hk : C.kind = 2) (hr : rightB C ds.length = true) (hm : allMay ds = true) : prodGo C ds = true := goK_of hk hr hm
theorem prod_go_less {C : ConB} {vs us : List DomB} (h : Fewer vs us) (hg : prodGo C us = true) : prodGo C vs = true := goK_less h hg

theorem product_parts {C : ConB} {V : Int} (hk : C.kind = 2) (h : rightB C V = true) : C.vars.length = 3 := by
  unfold rightB at h
  simp only [hk] at h
  unfold plainR at h
  simp only [hk] at h
  simp at h
  exact h.2.2.1

theorem prod_falls {C : ConB} {vs us : List DomB} (h : Fewer vs us) (hg : prodGo C us = true) : withinL (stepB (prodKp C vs) vs) (stepB (prodKp C us) us) = true := by
  obtain ⟨hk2, h2, hm⟩ := prodGo_parts hg
  have h3 := product_parts hk2 h2
  have hsub : ∀ i, i < 3 → ∀ x ∈ leftOf C vs i, x ∈ leftOf C us i := fun i hi x hx => fewer_at h (rightB_vars h2) hm (by omega) hx
  refine step_falls h hm fun i hi v hv hk => varsKp_mono (fun k hk _ hgk => ?_) hk
  obtain ⟨a, b, c, ha, hb, hc, e, e2⟩ := (prodL_iff (by omega)).1 hgk
  exact (prodL_iff (by omega)).2 ⟨a, b, c, hsub 0 (by omega) a ha, hsub 1 (by omega) b hb, hsub 2 (by omega) c hc, e, e2⟩

/-- Does a product hold? -/
def holdsP (C : ConB) (row : List Int) : Bool := (rowVals C row).getD 0 0 * (rowVals C row).getD 1 0 == (rowVals C row).getD 2 0
theorem holdsP_iff {C : ConB} {row : List Int} (h : C.vars.length = 3) : holdsP C row = true ↔ row.getD (C.vars.getD 0 0).toNat 0 * row.getD (C.vars.getD 1 0).toNat 0 = row.getD (C.vars.getD 2 0).toNat 0 := by
  unfold holdsP
  rw [rowVals_getD C row (by omega), rowVals_getD C row (by omega), rowVals_getD C row (by omega), beq_iff_eq]

theorem prod_sound {C : ConB} {ds : List DomB} {row : List Int} (hg : prodGo C ds = true) (hl : leftL row ds = true) (hh : holdsP C row = true) : leftL row (stepB (prodKp C ds) ds) = true := by
  obtain ⟨hk2, h2, hm⟩ := prodGo_parts hg
  have h3 := product_parts hk2 h2
  have hv := rightB_vars h2
  have he := (holdsP_iff h3).1 hh
  refine step_sound hm hl fun i hi => varsKp_iff.2 fun k hk e => (prodL_iff (by omega)).2 ⟨_, _, _, left_at hv hl (show 0 < C.vars.length by omega), left_at hv hl (show 1 < C.vars.length by omega), left_at hv hl (show 2 < C.vars.length by omega), he, ?_⟩
  rw [← e]
  have : k = 0 ∨ k = 1 ∨ k = 2 := by omega
  rcases this with rfl | rfl | rfl <;> rfl

theorem prod_single {C : ConB} {row : List Int} (hr : withinB row 1048576 = true) (hk2 : C.kind = 2) (hB : rightB C row.length = true) : allLive C.vars (stepB (prodKp C (singles row)) (singles row)) C.vars.length = holdsP C row := by
  have hv := rightB_vars hB
  have h3 := product_parts hk2 hB
  have hs : ∀ i, i < 3 → leftOf C (singles row) i = [row.getD (C.vars.getD i 0).toNat 0] := fun i hi => singles_at hv hr (by omega)
  have hg : ∀ k v, k < 3 → (prodG C (singles row) k v = true ↔ row.getD (C.vars.getD 0 0).toNat 0 * row.getD (C.vars.getD 1 0).toNat 0 = row.getD (C.vars.getD 2 0).toNat 0 ∧ row.getD (C.vars.getD k 0).toNat 0 = v) := fun k v hk => by
    unfold prodG
    rw [prodL_iff hk, hs 0 (by omega), hs 1 (by omega), hs 2 (by omega)]
    simp only [List.mem_singleton]
    have h4 : k = 0 ∨ k = 1 ∨ k = 2 := by omega
    constructor
    · rintro ⟨a, b, c, rfl, rfl, rfl, e, e2⟩
      refine ⟨e, ?_⟩
      rw [← e2]
      rcases h4 with rfl | rfl | rfl <;> rfl
    · rintro ⟨e, e2⟩
      refine ⟨_, _, _, rfl, rfl, rfl, e, ?_⟩
      rw [← e2]
      rcases h4 with rfl | rfl | rfl <;> rfl
  unfold prodKp
  rw [Bool.eq_iff_iff, allLive_varsKp hv, holdsP_iff h3]
  constructor
  · intro h
    exact ((hg 0 _ (by omega)).1 (h 0 (by omega) 0 (by omega) rfl)).1
  · intro h i hi k hk e
    exact (hg k _ (by omega)).2 ⟨h, by rw [e]⟩
end Go.Proofs.YtjmegicopdbkdaaDoor

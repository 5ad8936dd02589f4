/-
  May a step of a constraint of a kind be taken?
-/
import Derived.Test.YtjmegicopdbkdaaDoorModel3
import Derived.Test.YtjmegicopdbkdaaDoorRef08
import Derived.Test.YtjmegicopdbkdaaDoorVarsKp
set_option maxHeartbeats 1000000
set_option maxRecDepth 10000
namespace Go.Proofs.YtjmegicopdbkdaaDoor
open Go Go.RowKit Pl

/-- May a step of a constraint, of kind q, be taken? -/
def goK (q : Int) (C : ConB) (ds : List DomB) : Bool := decide (C.kind = q) && rightB C ds.length && allMay ds
theorem goK_parts {q : Int} {C : ConB} {ds : List DomB} (h : goK q C ds = true) : C.kind = q ∧ rightB C ds.length = true ∧ allMay ds = true := by
  unfold goK at h
  simp only [Bool.and_eq_true, decide_eq_true_eq] at h
  exact ⟨h.1.1, h.1.2, h.2⟩
theorem rightB_vars {C : ConB} {V : Int} (h : rightB C V = true) : varsOk C.vars V = true := by
  unfold rightB at h
  rw [Bool.and_eq_true] at h
  exact h.1
theorem rightB_len {C : ConB} {V : Int} (h : rightB C V = true) : 1 ≤ C.vars.length ∧ C.vars.length ≤ 9 := by
  unfold rightB sumR plainR at h
  rw [Bool.and_eq_true] at h
  obtain ⟨_, h⟩ := h
  split at h
  · simp at h; omega
  · split at h
    · simp at h; omega
    · simp only [Bool.and_eq_true] at h
      obtain ⟨_, h⟩ := h
      split at h
      · simp at h; omega
      · split at h
        · simp at h; omega
        · split at h
          · simp at h; omega
          · split at h
            · simp at h; omega
            · simp at h
theorem tabB_right {C : ConB} {V : Int} (hk : C.kind = 6) : tabB C V = rightB C V := by
  unfold rightB
  simp only [hk]
  unfold tabB variablesB bareB plainR
  simp only [hk]
  rw [Bool.eq_iff_iff]
  simp
  constructor
  · rintro ⟨⟨⟨⟨h1, h2⟩, h3⟩, ⟨⟨⟨⟨h4, h5⟩, h6⟩, h7⟩, h8⟩⟩, h9⟩
    exact ⟨h3, ⟨⟨⟨⟨h4, h5⟩, h6⟩, h8⟩, by omega⟩, ⟨by omega, by omega⟩, h9⟩
  · rintro ⟨h1, ⟨⟨⟨⟨h2, h3⟩, h4⟩, h5⟩, h6⟩, ⟨h7, h8⟩, h9⟩
    exact ⟨⟨⟨⟨by omega, by omega⟩, h1⟩, ⟨⟨⟨⟨h2, h3⟩, h4⟩, by omega⟩, h5⟩⟩, h9⟩
theorem right6_any (K R Ct : Int) (A1 A2 A3 : Option Addr) (n1 c1 n2 c2 n3 c3 : Nat) (C : ConB) (V : Int) (w : World) (hC : ConIn w K R Ct A1 A2 A3 n1 c1 n2 c2 n3 c3 C) (hK : K = 6) :
    Calls Tryd.prog 25 #[.agg #[.int .i64 K, .slice A1 n1 c1, .slice A2 n2 c2, .int .i64 R, .int .i64 Ct, .slice A3 n3 c3], .int .i64 V] w fun e w' => e = .returned (.bool (rightB C V)) ∧ Kept w w' := by
  have h := right_tab K R Ct A1 A2 A3 n1 c1 n2 c2 n3 c3 C V w hC hK
  rwa [tabB_right (hC.kind.trans hK)] at h
end Go.Proofs.YtjmegicopdbkdaaDoor

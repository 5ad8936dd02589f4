/-
  Plain: what the laws of the steps come to.
-/
import Derived.Test.YtjmegicopdbkdaaDoorL12
import Derived.Test.YtjmegicopdbkdaaDoorFewer
set_option maxHeartbeats 1000000
namespace Go.Proofs.YtjmegicopdbkdaaDoor
open Pl

theorem less_zero {a b : Nat} (ha : a < 2 ^ 64) (hb : b < 2 ^ 64) (h : ∀ k, a.testBit k = true → b.testBit k = true) : less a b = 0 := by
  apply Nat.eq_of_testBit_eq
  intro i
  rw [testBit_less ha hb, Nat.zero_testBit]
  cases e : a.testBit i with
  | false => rfl
  | true => rw [h i e]; rfl

theorem withinL_of {us vs : List DomB} (hl : us.length = vs.length) (h : ∀ i, i < us.length → withinD (us.getD i nilD) (vs.getD i nilD) = true) : withinL us vs = true := by
  unfold withinL withinUpto
  rw [Bool.and_eq_true, List.all_eq_true]
  exact ⟨by simpa using hl, fun i hi => h i (List.mem_range.1 hi)⟩

theorem may_live {d : DomB} (h : mayB d.1 d.2 = true) : d.2 < 2 ^ 64 := Nat.lt_of_lt_of_le (mayB_lt h) (Nat.pow_le_pow_right (by decide) (mayB_len h))

/-- What is left was left. -/
theorem step_within {kp : Nat → Int → Bool} {ds : List DomB} (hm : allMay ds = true) : withinL (stepB kp ds) ds = true := by
  refine withinL_of (stepB_length _ _) fun i hi => ?_
  rw [stepB_length] at hi
  have h1 := stepB_getD kp ds hi
  unfold withinD
  unfold nilD
  rw [h1, keepD_fst]
  have h2 := allMay_at hm hi
  rw [less_zero (keepD_lt _ _) (may_live h2) (fun k hk => by
    rw [testBit_keepD] at hk
    simp only [Bool.and_eq_true] at hk
    exact hk.2.1)]
  simp

/-- Of less. -/
structure Fewer (vs us : List DomB) : Prop where
  len : vs.length = us.length
  vals : ∀ i, i < us.length → (vs.getD i nilD).1 = (us.getD i nilD).1
  bits : ∀ i, i < us.length → ∀ k, (vs.getD i nilD).2.testBit k = true → (us.getD i nilD).2.testBit k = true

theorem few_fewer (ds : List DomB) (ms : List Nat) (k : Nat) : Fewer (fewUpto ds ms k) ds := by
  refine ⟨fewUpto_length _ _ _, fun i hi => ?_, fun i hi j hj => ?_⟩
  · rw [fewUpto_getD _ _ _ hi]
    split <;> rfl
  · rw [fewUpto_getD _ _ _ hi] at hj
    split at hj
    · rw [Nat.testBit_and, Bool.and_eq_true] at hj
      exact hj.1
    · exact hj

theorem Fewer.may {vs us : List DomB} (h : Fewer vs us) (hm : allMay us = true) : allMay vs = true := by
  unfold allMay
  rw [List.all_eq_true]
  intro d hd
  obtain ⟨i, hi, rfl⟩ := List.getElem_of_mem hd
  have hi' : i < us.length := by have := h.len; omega
  have hm2 := allMay_at hm hi'
  rw [mayB_iff] at hm2 ⊢
  have e : vs.getD i nilD = vs[i] := by rw [List.getD_eq_getElem?_getD, List.getElem?_eq_getElem hi]; rfl
  have h1 := h.vals i hi'
  have h2 := h.bits i hi'
  rw [e] at h1 h2
  unfold nilD at h1 h2
  rw [h1]
  refine ⟨hm2.1, lt_of_testBit fun k hk => ?_, hm2.2.2⟩
  cases hb : vs[i].2.testBit k with
  | false => rfl
  | true =>
    have := h2 k hb
    rw [Nat.testBit_lt_two_pow] at this
    · cases this
    · exact Nat.lt_of_lt_of_le hm2.2.1 (Nat.pow_le_pow_right (by decide) hk)

theorem Fewer.mem {vs us : List DomB} (h : Fewer vs us) (hm : allMay us = true) {i : Nat} (hi : i < us.length) {v : Int} (hv : v ∈ listB (vs.getD i nilD).1 (vs.getD i nilD).2) : v ∈ listB (us.getD i nilD).1 (us.getD i nilD).2 := by
  rw [mem_listB] at hv ⊢
  obtain ⟨_, k, hk, hb, hx⟩ := hv
  refine ⟨allMay_at hm hi, k, ?_, h.bits i hi k hb, ?_⟩
  · rw [h.vals i hi] at hk; exact hk
  · rw [h.vals i hi] at hx; exact hx

theorem step_falls {kp kq : Nat → Int → Bool} {vs us : List DomB} (h : Fewer vs us) (hm : allMay us = true) (hk : ∀ i, i < us.length → ∀ v ∈ listB (vs.getD i nilD).1 (vs.getD i nilD).2, kq i v = true → kp i v = true) :
    withinL (stepB kq vs) (stepB kp us) = true := by
  refine withinL_of (by rw [stepB_length, stepB_length]; exact h.len) fun i hi => ?_
  rw [stepB_length, h.len] at hi
  have h1 := stepB_getD kq vs (show i < vs.length by rw [h.len]; exact hi)
  have h2 := stepB_getD kp us hi
  have hv := h.vals i hi
  unfold withinD
  unfold nilD at hv ⊢
  rw [h1, h2, keepD_fst, keepD_fst, hv, less_zero (keepD_lt _ _) (keepD_lt _ _) (fun k hb => by
    rw [testBit_keepD] at hb ⊢
    simp only [Bool.and_eq_true] at hb ⊢
    refine ⟨hb.1, h.bits i hi k hb.2.1, ?_⟩
    have hmem := bit_mem (allMay_at (h.may hm) (show i < vs.length by rw [h.len]; exact hi)) hb.2.1
    have := hk i hi _ hmem hb.2.2
    rw [hv] at this
    exact this)]
  simp
end Go.Proofs.YtjmegicopdbkdaaDoor

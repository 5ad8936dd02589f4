/-
  Plain: what is left of a domain rises.
-/
import Derived.Test.YtjmegicopdbkdaaDoorStepPlain
namespace Go.Proofs.YtjmegicopdbkdaaDoor
namespace Pl
theorem okUpto_lt {xs : List Int} {n : Nat} (h : okUpto xs n = true) {i j : Nat} (hij : i < j) (hj : j < n) : xs.getD i 0 < xs.getD j 0 := by
  induction j with
  | zero => omega
  | succ j ih =>
    have h1 := okUpto_at h hj
    unfold okAt at h1
    simp only [Bool.and_eq_true, Bool.or_eq_true, decide_eq_true_eq] at h1
    have h2 : xs.getD j 0 < xs.getD (j + 1) 0 := by
      rcases h1.2 with h3 | h3
      · omega
      · exact h3
    by_cases e : i = j
    · subst e; exact h2
    · have := ih (by omega) (by omega)
      omega
theorem listB_sorted (xs : List Int) (L : Nat) : (listB xs L).Pairwise (· < ·) := by
  unfold listB
  split
  · rename_i h
    unfold valsOf elemsI
    rw [List.map_map, List.pairwise_map]
    have hs := sorted_upto L 64
    refine List.Pairwise.imp_of_mem (fun {a b} ha hb hab => ?_) hs
    have hb2 := (mem_upto.1 hb).2
    have := (may_bit (d := (xs, L)) h hb2).1
    exact okUpto_lt (mayB_ok h) hab this
  · exact List.Pairwise.nil
theorem listB_nodup (xs : List Int) (L : Nat) : (listB xs L).Nodup := by
  refine List.Pairwise.imp (fun {a b} h => ?_) (listB_sorted xs L)
  omega
end Pl
end Go.Proofs.YtjmegicopdbkdaaDoor

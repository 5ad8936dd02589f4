/-
  The reference's product; sums of products; how numbers compare.
-/
import Derived.Test.YthinpabeineahaaSums2
set_option maxHeartbeats 400000
set_option maxRecDepth 10000
namespace Go.Proofs.Ythinpabeineahaa
open Go Go.RowKit

theorem bne_of {a n : Int} (h : ¬ a = n) : (a == n) = false := by simpa using h
theorem beq_of {a n : Int} (h : a = n) : (a == n) = true := by simpa using h

theorem rmul_any (m : Nat) : ∀ (a b : Int) (w : World), fits a → fits b → (0 ≤ a → a ≤ m) → (a < 0 → -a < m) →
    Calls Try.prog 10 #[.int .i64 a, .int .i64 b] w fun e w' => e = .returned (.tuple #[.int .i64 (told (a * b)).1, .int .i64 (told (a * b)).2]) ∧ Kept w w' := by
  induction m with
  | zero =>
    intro a b w ha hb h1 h2
    have h0 : a = 0 := by
      by_cases h : 0 ≤ a
      · have := h1 h; omega
      · have := h2 (by omega); omega
    rw [h0, Int.zero_mul, told_yes (by unfold fits; omega)]
    exact rmul_zero1 b w
  | succ m ih =>
    intro a b w ha hb h1 h2
    have ha' := ha
    have hb' := hb
    unfold fits at ha' hb'
    by_cases a0 : a = 0
    · rw [a0, Int.zero_mul, told_yes (by unfold fits; omega)]
      exact rmul_zero1 b w
    by_cases b0 : b = 0
    · rw [b0, Int.mul_zero, told_yes (by unfold fits; omega)]
      exact rmul_zero2 a w a0
    by_cases am : a = -9223372036854775808
    · by_cases b1 : b = 1
      · rw [b1, am, told_yes (by unfold fits; omega)]
        exact rmul_bottom1 _ w (beq_of rfl) (bne_of (by omega))
      · rw [told_no (by unfold fits; rw [am]; omega)]
        exact rmul_bottom2 a b w (beq_of am) (bne_of a0) (bne_of b0) (bne_of b1)
    by_cases an : a < 0
    · by_cases bm : b = -9223372036854775808
      · rw [told_no (by unfold fits; rw [bm]; omega)]
        exact rmul_bottom3 a b w (bne_of am) (beq_of bm) an (bne_of a0) (bne_of b0)
      · have hlt := h2 an
        refine rmul_neg a b (a * b) w (bne_of a0) (bne_of b0) (bne_of am) (bne_of bm) an (by omega) (by omega) (by omega) fun W => ?_
        have := ih (-a) (-b) W (by unfold fits; omega) (by unfold fits; omega) (by omega) (by omega)
        rwa [Int.neg_mul_neg] at this
    by_cases a1 : a = 1
    · rw [a1, Int.one_mul, told_yes hb]
      exact rmul_one b w (bne_of b0)
    obtain ⟨e1, e2, e3⟩ := @mul_half a b (by omega)
    have hle := h1 (by omega)
    have hc : ∀ W, Calls Try.prog 10 #[.int .i64 (a / 2), .int .i64 b] W fun e w' => e = .returned (.tuple #[.int .i64 (told (a / 2 * b)).1, .int .i64 (told (a / 2 * b)).2]) ∧ Kept W w' := fun W =>
      ih (a / 2) b W (by unfold fits; omega) hb (by omega) (by omega)
    generalize a / 2 * b = t at *
    have hr : a % 2 = 0 ∨ a % 2 = 1 := by omega
    by_cases ft : fits t
    · rw [told_yes ft] at hc
      by_cases f2 : fits (t + t)
      · have hd := fun W => radd_any t t W ft ft
        rw [told_yes f2] at hd
        rcases hr with hr | hr
        · have e4 : a * b = t + t := by rw [e1, hr]; omega
          rw [e4, told_yes f2]
          exact rmul_even a b t (t + t) w (by omega) (by omega) (beq_of hr) (bne_of a0) (bne_of a1) (bne_of b0) (bne_of am) hc hd
        · have e4 : a * b = t + t + b := by rw [e1, hr]; omega
          rw [e4]
          exact rmul_odd a b t (t + t) _ _ w (by omega) (by omega) (bne_of (by omega)) (bne_of a0) (bne_of a1) (bne_of b0) (bne_of am) hc hd (fun W => radd_any (t + t) b W f2 hb)
      · have hd := fun W => radd_any t t W ft ft
        rw [told_no f2] at hd
        have hn : ¬ fits (a * b) := by
          rw [e1]
          unfold fits at *
          rcases hr with hr | hr <;> rw [hr] <;> omega
        rw [told_no hn]
        exact rmul_over2 a b t w (by omega) (by omega) (bne_of a0) (bne_of a1) (bne_of b0) (bne_of am) hc hd
    · rw [told_no ft] at hc
      have hn : ¬ fits (a * b) := by
        rw [e1]
        unfold fits at *
        rcases hr with hr | hr <;> rw [hr] <;> omega
      rw [told_no hn]
      exact rmul_over1 a b w (by omega) (by omega) (bne_of a0) (bne_of a1) (bne_of b0) (bne_of am) hc

theorem rmul_all (a b : Int) (w : World) (ha : fits a) (hb : fits b) :
    Calls Try.prog 10 #[.int .i64 a, .int .i64 b] w fun e w' => e = .returned (.tuple #[.int .i64 (told (a * b)).1, .int .i64 (told (a * b)).2]) ∧ Kept w w' :=
  rmul_any (a.natAbs + 1) a b w ha hb (by omega) (by omega)

/-- How two numbers compare. -/
def holdsB (a rel b : Int) : Bool := (decide (rel = 0) && decide (a = b)) || (decide (rel = 1) && decide (a ≠ b)) || (decide (rel = 2) && decide (a < b)) || (decide (rel = 3) && decide (a ≤ b)) || (decide (rel = 4) && decide (b < a)) || (decide (rel = 5) && decide (b ≤ a))

theorem ret_bool {a b : Bool} (h : a = b) : Ending.returned (.bool a) = .returned (.bool b) := by rw [h]
theorem holds_any (a rel b : Int) (w : World) :
    Calls Try.prog 13 #[.int .i64 a, .int .i64 rel, .int .i64 b] w fun e w' => e = .returned (.bool (holdsB a rel b)) ∧ w = w' := by
  go_enter Try.func13, Try.ntmps13
  go_wp2
  all_goals
    go_ret
    refine ⟨ret_bool ?_, rfl⟩
    simp only [beq_iff_eq, beq_eq_false_iff_ne] at *
    rw [Bool.eq_iff_iff]
    simp [holdsB]
    try omega

theorem rholds_any (a rel b : Int) (w : World) :
    Calls Try.prog 14 #[.int .i64 a, .int .i64 rel, .int .i64 b] w fun e w' => e = .returned (.bool (holdsB a rel b)) ∧ w = w' := by
  go_enter Try.func14, Try.ntmps14
  go_wp2
  all_goals
    go_ret
    refine ⟨ret_bool ?_, rfl⟩
    rw [Bool.eq_iff_iff]
    simp [holdsB]
    try omega
end Go.Proofs.Ythinpabeineahaa

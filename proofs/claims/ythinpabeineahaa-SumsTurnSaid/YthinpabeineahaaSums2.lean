/-
  Contracts of the reference of the package sums, and of what compares.
-/
import Derived.Test.YthinpabeineahaaSums
set_option maxHeartbeats 400000
set_option maxRecDepth 10000
namespace Go.Proofs.Ythinpabeineahaa
open Go Go.RowKit

theorem mul_half {a b : Int} (ha : 2 ≤ a) : a * b = 2 * (a / 2 * b) + a % 2 * b ∧ (0 ≤ b → b ≤ a / 2 * b) ∧ (b ≤ 0 → a / 2 * b ≤ b) := by
  have h1 : 1 ≤ a / 2 := by omega
  refine ⟨?_, fun hb => ?_, fun hb => ?_⟩
  · have e : a = 2 * (a / 2) + a % 2 := by omega
    calc a * b = (2 * (a / 2) + a % 2) * b := by rw [← e]
      _ = 2 * (a / 2 * b) + a % 2 * b := by rw [Int.add_mul, Int.mul_assoc]
  · have := Int.mul_le_mul_of_nonneg_right h1 hb
    omega
  · have := Int.mul_le_mul_of_nonpos_right h1 hb
    omega

theorem rmul_zero1 (b : Int) (w : World) :
    Calls Try.prog 10 #[.int .i64 0, .int .i64 b] w fun e w' => e = .returned (.tuple #[.int .i64 0, .int .i64 0]) ∧ Kept w w' := by
  go_enter Try.func10, Try.ntmps10
  go_wp2_with fail
  go_ret2
  exact ⟨rfl, Below.refl _ _⟩
theorem rmul_zero2 (a : Int) (w : World) (a0 : ¬ a = 0) :
    Calls Try.prog 10 #[.int .i64 a, .int .i64 0] w fun e w' => e = .returned (.tuple #[.int .i64 0, .int .i64 0]) ∧ Kept w w' := by
  go_enter Try.func10, Try.ntmps10
  go_wp2_with fail
  all_goals
    go_ret2
    exact ⟨rfl, Below.refl _ _⟩
theorem rmul_bottom1 (a : Int) (w : World) (hb : (a == -9223372036854775808) = true) (h0 : (a == 0) = false) :
    Calls Try.prog 10 #[.int .i64 a, .int .i64 1] w fun e w' => e = .returned (.tuple #[.int .i64 (-9223372036854775808), .int .i64 0]) ∧ Kept w w' := by
  go_enter Try.func10, Try.ntmps10
  go_wp2_with fail
  go_ret2
  exact ⟨rfl, Below.refl _ _⟩
theorem rmul_bottom2 (a b : Int) (w : World) (hb : (a == -9223372036854775808) = true) (h0 : (a == 0) = false) (b0 : (b == 0) = false) (b1 : (b == 1) = false) :
    Calls Try.prog 10 #[.int .i64 a, .int .i64 b] w fun e w' => e = .returned (.tuple #[.int .i64 0, .int .i64 6]) ∧ Kept w w' := by
  go_enter Try.func10, Try.ntmps10
  go_wp2_with fail
  go_ret2
  exact ⟨rfl, Below.refl _ _⟩
theorem rmul_bottom3 (a b : Int) (w : World) (ha : (a == -9223372036854775808) = false) (hb : (b == -9223372036854775808) = true) (hn : a < 0) (h0 : (a == 0) = false) (b0 : (b == 0) = false) :
    Calls Try.prog 10 #[.int .i64 a, .int .i64 b] w fun e w' => e = .returned (.tuple #[.int .i64 0, .int .i64 6]) ∧ Kept w w' := by
  go_enter Try.func10, Try.ntmps10
  go_wp2_with fail
  go_ret2
  exact ⟨rfl, Below.refl _ _⟩
theorem rmul_neg (a b p : Int) (w : World) (h0 : (a == 0) = false) (b0 : (b == 0) = false) (ha : (a == -9223372036854775808) = false) (hb : (b == -9223372036854775808) = false) (hn : a < 0)
    (hla : -9223372036854775807 ≤ a) (hlb : -9223372036854775807 ≤ b) (hrb : b ≤ 9223372036854775807)
    (hc : Hid (∀ W, Calls Try.prog 10 #[.int .i64 (-a), .int .i64 (-b)] W fun e w' => e = .returned (.tuple #[.int .i64 (told p).1, .int .i64 (told p).2]) ∧ Kept W w')) :
    Calls Try.prog 10 #[.int .i64 a, .int .i64 b] w fun e w' => e = .returned (.tuple #[.int .i64 (told p).1, .int .i64 (told p).2]) ∧ Kept w w' := by
  go_enter Try.func10, Try.ntmps10
  go_wp2_with (go_at_call 10; refine (hc.out _).mono ?_; rintro e w1 ⟨rfl, hk⟩; have Hk := Lib.hid hk; clear hk)
  go_ret2
  exact ⟨rfl, Hk.out⟩
theorem rmul_one (b : Int) (w : World) (b0 : (b == 0) = false) :
    Calls Try.prog 10 #[.int .i64 1, .int .i64 b] w fun e w' => e = .returned (.tuple #[.int .i64 b, .int .i64 0]) ∧ Kept w w' := by
  go_enter Try.func10, Try.ntmps10
  go_wp2_with fail
  go_ret2
  exact ⟨rfl, Below.refl _ _⟩
/-- The half is no number. -/
theorem rmul_over1 (a b : Int) (w : World) (h2 : 2 ≤ a) (hra : a ≤ 9223372036854775807) (h0 : (a == 0) = false) (h1 : (a == 1) = false) (b0 : (b == 0) = false) (ha : (a == -9223372036854775808) = false)
    (hc : Hid (∀ W, Calls Try.prog 10 #[.int .i64 (a / 2), .int .i64 b] W fun e w' => e = .returned (.tuple #[.int .i64 0, .int .i64 6]) ∧ Kept W w')) :
    Calls Try.prog 10 #[.int .i64 a, .int .i64 b] w fun e w' => e = .returned (.tuple #[.int .i64 0, .int .i64 6]) ∧ Kept w w' := by
  go_enter Try.func10, Try.ntmps10
  go_wp2_with (go_at_call 10; refine (hc.out _).mono ?_; rintro e w1 ⟨rfl, hk⟩; have Hk := Lib.hid hk; clear hk)
  go_ret2
  exact ⟨rfl, Hk.out⟩
/-- Twice the half is no number. -/
theorem rmul_over2 (a b t : Int) (w : World) (h2 : 2 ≤ a) (hra : a ≤ 9223372036854775807) (h0 : (a == 0) = false) (h1 : (a == 1) = false) (b0 : (b == 0) = false) (ha : (a == -9223372036854775808) = false)
    (hc : Hid (∀ W, Calls Try.prog 10 #[.int .i64 (a / 2), .int .i64 b] W fun e w' => e = .returned (.tuple #[.int .i64 t, .int .i64 0]) ∧ Kept W w'))
    (hd : Hid (∀ W, Calls Try.prog 8 #[.int .i64 t, .int .i64 t] W fun e w' => e = .returned (.tuple #[.int .i64 0, .int .i64 6]) ∧ Kept W w')) :
    Calls Try.prog 10 #[.int .i64 a, .int .i64 b] w fun e w' => e = .returned (.tuple #[.int .i64 0, .int .i64 6]) ∧ Kept w w' := by
  go_enter Try.func10, Try.ntmps10
  go_wp2_with (first
    | (go_at_call 10; refine (hc.out _).mono ?_; rintro e w1 ⟨rfl, hk⟩; have Hk := Lib.hid hk; clear hk)
    | (go_at_call 8; refine (hd.out _).mono ?_; rintro e w2 ⟨rfl, hk⟩; have Hk2 := Lib.hid hk; clear hk))
  all_goals
    go_ret2
    exact ⟨rfl, Hk.out.then Hk2.out⟩
theorem rmul_even (a b t u : Int) (w : World) (h2 : 2 ≤ a) (hra : a ≤ 9223372036854775807) (hr : (a % 2 == 0) = true) (h0 : (a == 0) = false) (h1 : (a == 1) = false) (b0 : (b == 0) = false) (ha : (a == -9223372036854775808) = false)
    (hc : Hid (∀ W, Calls Try.prog 10 #[.int .i64 (a / 2), .int .i64 b] W fun e w' => e = .returned (.tuple #[.int .i64 t, .int .i64 0]) ∧ Kept W w'))
    (hd : Hid (∀ W, Calls Try.prog 8 #[.int .i64 t, .int .i64 t] W fun e w' => e = .returned (.tuple #[.int .i64 u, .int .i64 0]) ∧ Kept W w')) :
    Calls Try.prog 10 #[.int .i64 a, .int .i64 b] w fun e w' => e = .returned (.tuple #[.int .i64 u, .int .i64 0]) ∧ Kept w w' := by
  go_enter Try.func10, Try.ntmps10
  go_wp2_with (first
    | (go_at_call 10; refine (hc.out _).mono ?_; rintro e w1 ⟨rfl, hk⟩; have Hk := Lib.hid hk; clear hk)
    | (go_at_call 8; refine (hd.out _).mono ?_; rintro e w2 ⟨rfl, hk⟩; have Hk2 := Lib.hid hk; clear hk))
  all_goals
    go_ret2
    exact ⟨rfl, Hk.out.then Hk2.out⟩
theorem rmul_odd (a b t u x y : Int) (w : World) (h2 : 2 ≤ a) (hra : a ≤ 9223372036854775807) (hr : (a % 2 == 0) = false) (h0 : (a == 0) = false) (h1 : (a == 1) = false) (b0 : (b == 0) = false) (ha : (a == -9223372036854775808) = false)
    (hc : Hid (∀ W, Calls Try.prog 10 #[.int .i64 (a / 2), .int .i64 b] W fun e w' => e = .returned (.tuple #[.int .i64 t, .int .i64 0]) ∧ Kept W w'))
    (hd : Hid (∀ W, Calls Try.prog 8 #[.int .i64 t, .int .i64 t] W fun e w' => e = .returned (.tuple #[.int .i64 u, .int .i64 0]) ∧ Kept W w'))
    (hd2 : Hid (∀ W, Calls Try.prog 8 #[.int .i64 u, .int .i64 b] W fun e w' => e = .returned (.tuple #[.int .i64 x, .int .i64 y]) ∧ Kept W w')) :
    Calls Try.prog 10 #[.int .i64 a, .int .i64 b] w fun e w' => e = .returned (.tuple #[.int .i64 x, .int .i64 y]) ∧ Kept w w' := by
  go_enter Try.func10, Try.ntmps10
  go_wp2_with (go_at_call 10; refine (hc.out _).mono ?_; rintro e w1 ⟨rfl, hk⟩; have Hk := Lib.hid hk; clear hk)
  refine (hd.out _).mono ?_
  rintro e w2 ⟨rfl, hk2⟩
  have Hk2 := Lib.hid hk2
  clear hk2
  go_wp2_with fail
  refine (hd2.out _).mono ?_
  rintro e w3 ⟨rfl, hk3⟩
  have Hk3 := Lib.hid hk3
  clear hk3
  go_wp2_with fail
  go_ret2
  exact ⟨rfl, (Hk.out.then Hk2.out).then Hk3.out⟩
end Go.Proofs.Ythinpabeineahaa

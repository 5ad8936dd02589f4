/-
  Contracts of the package sums and of its reference.
-/
import Derived.Test.YthinpabeineahaaProg
import Derived.Test.YthinpabeineahaaBase
import Derived.Test.YthinpabeineahaaShelf
import Derived.ScopeJumps
set_option maxHeartbeats 1000000
set_option maxRecDepth 10000
namespace Go.Proofs.Ythinpabeineahaa
open Go Go.RowKit

def fits (n : Int) : Prop := -9223372036854775808 ≤ n ∧ n ≤ 9223372036854775807
instance (n : Int) : Decidable (fits n) := inferInstanceAs (Decidable (_ ∧ _))
/-- A number, if it is one; else 0, and the error's number. -/
def told (n : Int) : Int × Int := if fits n then (n, 0) else (0, 6)
theorem told_yes {n : Int} (h : fits n) : told n = (n, 0) := if_pos h
theorem told_no {n : Int} (h : ¬ fits n) : told n = (0, 6) := if_neg h

theorem ret2 {a b c d : Int} (h : (a, b) = (c, d)) : Ending.returned (.tuple #[.int .i64 a, .int .i64 b]) = .returned (.tuple #[.int .i64 c, .int .i64 d]) := by
  cases h; rfl

theorem wrap64_eq (n : Int) : wrap64 n = (n + 9223372036854775808) % 18446744073709551616 - 9223372036854775808 := by unfold wrap64; omega

theorem add_any (a b : Int) (w : World) (ha : fits a) (hb : fits b) :
    Calls Try.prog 7 #[.int .i64 a, .int .i64 b] w fun e w' => e = .returned (.tuple #[.int .i64 (told (a + b)).1, .int .i64 (told (a + b)).2]) ∧ Kept w w' := by
  unfold fits at ha hb
  have hq := wrap64_eq (a + b)
  have Hq := Lib.hid hq
  clear hq
  by_cases hf : fits (a + b)
  · rw [told_yes hf]
    unfold fits at hf
    go_enter Try.func7, Try.ntmps7
    go_wp2
    all_goals (go_ret2; have hq := Hq.out; simp at *; try omega)
    all_goals exact Below.refl _ _
  · rw [told_no hf]
    unfold fits at hf
    by_cases h0 : 0 ≤ a
    · have h1 : ¬ a < 0 := by omega
      have h2 : ¬ b < 0 := by omega
      have h3 : wrap64 (a + b) < 0 := by rw [Hq.out]; omega
      go_enter Try.func7, Try.ntmps7
      go_wp2
      go_ret2
      exact ⟨rfl, Below.refl _ _⟩
    · have h1 : a < 0 := by omega
      have h2 : b < 0 := by omega
      have h3 : ¬ wrap64 (a + b) < 0 := by rw [Hq.out]; omega
      go_enter Try.func7, Try.ntmps7
      go_wp2
      go_ret2
      exact ⟨rfl, Below.refl _ _⟩

theorem radd_any (a b : Int) (w : World) (ha : fits a) (hb : fits b) :
    Calls Try.prog 8 #[.int .i64 a, .int .i64 b] w fun e w' => e = .returned (.tuple #[.int .i64 (told (a + b)).1, .int .i64 (told (a + b)).2]) ∧ Kept w w' := by
  unfold fits at ha hb
  by_cases hf : fits (a + b)
  · rw [told_yes hf]
    unfold fits at hf
    go_enter Try.func8, Try.ntmps8
    go_wp2
    all_goals (go_ret2; exact ⟨rfl, Below.refl _ _⟩)
  · rw [told_no hf]
    unfold fits at hf
    go_enter Try.func8, Try.ntmps8
    go_wp2
    all_goals (go_ret2; exact ⟨rfl, Below.refl _ _⟩)

theorem size_any (n : Int) (w : World) (hn : fits n) :
    Calls Try.prog 16 #[.int .i64 n] w fun e w' => e = .returned (.int .u64 (n.natAbs : Nat)) ∧ w = w' := by
  unfold fits at hn
  go_enter Try.func16, Try.ntmps16
  go_wp2
  · have h : n < 0 := by assumption
    go_ret
    refine ⟨?_, rfl⟩
    rw [IntKind.wrap_u64, IntKind.wrap_u64]
    exact congrArg (fun z => Ending.returned (.int .u64 z)) (by omega)
  · have h : 0 ≤ n := by assumption
    go_ret
    refine ⟨?_, rfl⟩
    exact congrArg (fun z => Ending.returned (.int .u64 z)) (by omega)

def Halves (x y : Nat) (w : World) (e : Ending) (w' : World) : Prop :=
  ∃ hi lo : Int, Hid (((x * y : Nat) : Int) = 18446744073709551616 * hi + lo) ∧ 0 ≤ hi ∧ 0 ≤ lo ∧ lo ≤ 18446744073709551615 ∧ e = .returned (.tuple #[.int .u64 hi, .int .u64 lo]) ∧ w = w'
theorem mul64_named (x y : Nat) (hx : x < 18446744073709551616) (hy : y < 18446744073709551616) (w : World) :
    Calls Try.prog 15 #[.int .u64 x, .int .u64 y] w (Halves x y w) :=
  (Try.bits_Mul64 x y hx hy w).mono fun e w' ⟨he, hw⟩ =>
    ⟨((x * y / 18446744073709551616 : Nat) : Int), ((x * y % 18446744073709551616 : Nat) : Int), by show _ = _; omega, by omega, by omega, by omega, he, hw.symm⟩

theorem Exit.jump_ret {l : Nat} {J : Act → World → Prop} {Q : Exit → Act → World → Prop} {a : Act} {w : World} : Exit.jump l J Q .ret a w = Q .ret a w := rfl
theorem abs_mul (a b : Int) : a.natAbs * b.natAbs = (a * b).natAbs := (Int.natAbs_mul a b).symm
theorem mul_sign {a b : Int} : (((a < 0) ≠ (b < 0)) → a * b ≤ 0) ∧ (((a < 0) ↔ (b < 0)) → 0 ≤ a * b) := by
  constructor
  · intro h
    by_cases h1 : a < 0
    · have h2 : 0 ≤ b := by
        apply Int.not_lt.1
        intro hb
        exact h (by simp [h1, hb])
      exact Int.mul_nonpos_of_nonpos_of_nonneg (by omega) h2
    · have h2 : b < 0 := by
        apply Decidable.byContradiction
        intro hb
        exact h (by simp [h1, hb])
      exact Int.mul_nonpos_of_nonneg_of_nonpos (by omega) (by omega)
  · intro h
    by_cases h1 : a < 0
    · exact Int.mul_nonneg_of_nonpos_of_nonpos (by omega) (by have := h.1 h1; omega)
    · have h2 : ¬ b < 0 := fun hb => h1 (h.2 hb)
      exact Int.mul_nonneg (by omega) (by omega)

theorem mul_any (a b : Int) (w : World) (ha : fits a) (hb : fits b) :
    Calls Try.prog 9 #[.int .i64 a, .int .i64 b] w fun e w' => e = .returned (.tuple #[.int .i64 (told (a * b)).1, .int .i64 (told (a * b)).2]) ∧ Kept w w' := by
  have h1 : a.natAbs ≤ 9223372036854775808 := by unfold fits at ha; omega
  have h2 : b.natAbs ≤ 9223372036854775808 := by unfold fits at hb; omega
  have hs := Lib.hid (@mul_sign a b)
  generalize hp : a * b = p at *
  have Hp := Lib.hid hp
  clear hp
  have H1 := Lib.hid h1
  have H2 := Lib.hid h2
  go_enter Try.func9, Try.ntmps9
  go_wp2
  refine wp_scope_jumps 0 (fun a' w' => w' = w ∧ Hid (¬ fits p) ∧ ∃ (u0 u1 u2 u3 u4 u5 u6 u7 u8 u9 u10 u11 u12 u13 u14 u15 u16 u17 u18 u19 u20 u21 u22 u23 u24 u25 u26 u27 u28 u29 u30 u31 u32 u33 u34 u35 u36 u37 u38 u39 u40 u41 u42 u43 : Value), a' = { tmps := #[u0, u1, u2, u3, u4, u5, u6, u7, u8, u9, u10, u11, u12, u13, u14, u15, u16, u17, u18, u19, u20, u21, u22, u23, u24, u25, u26, u27, u28, u29, u30, u31, u32, u33, u34, u35, u36, u37, u38, u39, u40, u41, u42, u43], defers := [] }) (fun _ _ => 0) rfl ?_ ?_
  · go_wp2_with (go_at_call 16; refine (size_any _ _ (by first | exact ha | exact hb)).mono ?_; rintro e w' ⟨rfl, rfl⟩)
    refine (mul64_named _ _ (by omega) (by omega) _).mono ?_
    rintro e w' ⟨hi, lo, Hhl, hhi, hlo0, hlo, rfl, rfl⟩
    have hab := abs_mul a b
    rw [Hp.out] at hab
    rw [hab] at Hhl
    clear hab h1 h2
    have Hlo := Lib.hid hlo
    by_cases hh : hi = 0
    · have h0 : (hi != 0) = false := by simp [hh]
      have Hpl : Hid (((p.natAbs : Nat) : Int) = lo) := by have := Hhl.out; rw [hh] at this; show _ = _; omega
      clear hh
      by_cases h3 : lo ≤ 9223372036854775807
      · go_wp2
        · have hne : (!decide (a < 0) == decide (b < 0)) = true := by assumption
          have h4 : p ≤ 0 := hs.out.1 (by intro e; simp [e] at hne)
          have hpl := Hpl.out
          rw [Exit.jump_ret]
          go_ret2
          exact ⟨ret2 (by rw [told_yes (by unfold fits; omega)]; simp; omega), Below.refl _ _⟩
        · have hne : (!decide (a < 0) == decide (b < 0)) = false := by assumption
          have h4 : 0 ≤ p := hs.out.2 (by simpa using hne)
          have hpl := Hpl.out
          rw [Exit.jump_ret]
          go_ret2
          exact ⟨ret2 (by rw [told_yes (by unfold fits; omega)]; simp; omega), Below.refl _ _⟩
      · have h3' : 9223372036854775808 ≤ lo := by omega
        clear h3
        go_wp2
        · have hne : (!decide (a < 0) == decide (b < 0)) = true := by assumption
          have h4 : p ≤ 0 := hs.out.1 (by intro e; simp [e] at hne)
          have h5 : lo = 9223372036854775808 := by assumption
          have hpl := Hpl.out
          rw [Exit.jump_ret]
          go_ret2
          exact ⟨ret2 (by rw [told_yes (by unfold fits; omega)]; simp; omega), Below.refl _ _⟩
        · have hne : (!decide (a < 0) == decide (b < 0)) = false := by assumption
          have h4 : 0 ≤ p := hs.out.2 (by simpa using hne)
          have hpl := Hpl.out
          have hnf : ¬ fits p := by unfold fits; omega
          go_step3
          go_wp2
          rw [Exit.jump_ret]
          go_ret2
          exact ⟨ret2 (by rw [told_no hnf]), Below.refl _ _⟩
        · have h5 : ¬ lo = 9223372036854775808 := by assumption
          have hpl := Hpl.out
          have hnf : ¬ fits p := by unfold fits; omega
          go_step3
          go_wp2
          rw [Exit.jump_ret]
          go_ret2
          exact ⟨ret2 (by rw [told_no hnf]), Below.refl _ _⟩
    · have h0 : (hi != 0) = true := by simpa using hh
      have hnf : Hid (¬ fits p) := by have := Hhl.out; have := Hlo.out; show ¬ fits p; unfold fits; omega
      go_wp2
      go_step3
      exact ⟨rfl, rfl, hnf, _, _, _, _, _, _, _, _, _, _, _, _, _, _, _, _, _, _, _, _, _, _, _, _, _, _, _, _, _, _, _, _, _, _, _, _, _, _, _, _, _, _, _, _, rfl⟩
  · rintro a' w' ⟨rfl, hnf, u0, u1, u2, u3, u4, u5, u6, u7, u8, u9, u10, u11, u12, u13, u14, u15, u16, u17, u18, u19, u20, u21, u22, u23, u24, u25, u26, u27, u28, u29, u30, u31, u32, u33, u34, u35, u36, u37, u38, u39, u40, u41, u42, u43, rfl⟩
    go_wp2
    rw [Exit.jump_ret]
    go_ret2
    exact ⟨ret2 (by rw [told_no hnf.out]), Below.refl _ _⟩
end Go.Proofs.Ythinpabeineahaa

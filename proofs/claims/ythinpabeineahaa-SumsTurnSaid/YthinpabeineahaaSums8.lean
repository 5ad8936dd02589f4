/-
  Sums and products turn about.
-/
import Derived.Test.YthinpabeineahaaSums6
set_option maxHeartbeats 4000000
set_option maxRecDepth 10000
namespace Go.Proofs.Ythinpabeineahaa
open Go Go.RowKit

theorem turn_core (a b c n e k g x o y p z q s r : Int) (w : World)
    (c1 : Hid (∀ W : World, Calls Try.prog 7 #[.int .i64 a, .int .i64 b] W fun e' w' => e' = .returned (.tuple #[.int .i64 n, .int .i64 e]) ∧ Kept W w'))
    (c2 : Hid (∀ W : World, Calls Try.prog 7 #[.int .i64 b, .int .i64 a] W fun e' w' => e' = .returned (.tuple #[.int .i64 n, .int .i64 e]) ∧ Kept W w'))
    (c3 : Hid (∀ W : World, Calls Try.prog 9 #[.int .i64 a, .int .i64 b] W fun e' w' => e' = .returned (.tuple #[.int .i64 k, .int .i64 g]) ∧ Kept W w'))
    (c4 : Hid (∀ W : World, Calls Try.prog 9 #[.int .i64 b, .int .i64 a] W fun e' w' => e' = .returned (.tuple #[.int .i64 k, .int .i64 g]) ∧ Kept W w'))
    (c5 : Hid (∀ W : World, Calls Try.prog 9 #[.int .i64 n, .int .i64 c] W fun e' w' => e' = .returned (.tuple #[.int .i64 x, .int .i64 o]) ∧ Kept W w'))
    (c6 : Hid (∀ W : World, Calls Try.prog 9 #[.int .i64 a, .int .i64 c] W fun e' w' => e' = .returned (.tuple #[.int .i64 y, .int .i64 p]) ∧ Kept W w'))
    (c7 : Hid (∀ W : World, Calls Try.prog 9 #[.int .i64 b, .int .i64 c] W fun e' w' => e' = .returned (.tuple #[.int .i64 z, .int .i64 q]) ∧ Kept W w'))
    (c8 : Hid (∀ W : World, Calls Try.prog 7 #[.int .i64 y, .int .i64 z] W fun e' w' => e' = .returned (.tuple #[.int .i64 s, .int .i64 r]) ∧ Kept W w'))
    (F1 : (e == 0) = false ∨ ((e == 0) = true ∧ (wrap64 (n - a) != b) = false))
    (F2 : (g == 0) = false ∨ ((g == 0) = true ∧ (a != 0) = false) ∨ ((g == 0) = true ∧ (a != 0) = true ∧ (a != -1) = false) ∨ ((g == 0) = true ∧ (a != 0) = true ∧ (a != -1) = true ∧ ¬ a = 0 ∧ (wrap64 (k.tdiv a) != b) = false ∧ (k.tmod a != 0) = false))
    (F3 : Hid (e = 0 → o = 0 → p = 0 → q = 0 → r = 0 ∧ s = x)) :
    Calls Try.prog 4 #[.int .i64 a, .int .i64 b, .int .i64 c] w fun e w' => e = .returned (.bool true) ∧ Kept w w' := by
  rcases F1 with F1 | ⟨F1, F1'⟩ <;> rcases F2 with F2 | ⟨F2, F2'⟩ | ⟨F2, F2', F2''⟩ | ⟨F2, F2', F2'', F2z, F2d, F2m⟩
  all_goals (
    go_enter Try.func4, Try.ntmps4
    go_wp2_with fail
    refine (awake_any _).mono ?_
    rintro e w1 ⟨rfl, hk1⟩
    have Hk1 := Lib.hid hk1
    clear hk1
    go_wp2_with fail
    refine (c1.out _).mono ?_
    rintro e w2 ⟨rfl, hk⟩
    have Hk2 := Lib.hid (Hk1.out.then hk)
    clear hk
    go_wp2_with fail
    refine (c2.out _).mono ?_
    rintro e w3 ⟨rfl, hk⟩
    have Hk3 := Lib.hid (Hk2.out.then hk)
    clear hk
    go_wp2_with fail
    refine (c3.out _).mono ?_
    rintro e w4 ⟨rfl, hk⟩
    have Hk4 := Lib.hid (Hk3.out.then hk)
    clear hk
    go_wp2_with fail
    refine (c4.out _).mono ?_
    rintro e w5 ⟨rfl, hk⟩
    have Hk5 := Lib.hid (Hk4.out.then hk)
    clear hk
    go_wp2_with fail
    refine (c5.out _).mono ?_
    rintro e w6 ⟨rfl, hk⟩
    have Hk6 := Lib.hid (Hk5.out.then hk)
    clear hk
    go_wp2_with fail
    refine (c6.out _).mono ?_
    rintro e w7 ⟨rfl, hk⟩
    have Hk7 := Lib.hid (Hk6.out.then hk)
    clear hk
    go_wp2_with fail
    refine (c7.out _).mono ?_
    rintro e w8 ⟨rfl, hk⟩
    have Hk8 := Lib.hid (Hk7.out.then hk)
    clear hk
    go_wp2_with fail
    refine (c8.out _).mono ?_
    rintro e w9 ⟨rfl, hk⟩
    have Hk9 := Lib.hid (Hk8.out.then hk)
    clear hk
    go_wp2_with fail
    all_goals (
      go_ret
      refine ⟨ret_bool ?_, Hk9.out⟩
      have h3 := F3.out
      simp_all))

theorem fits_wrap {n : Int} (h : fits n) : wrap64 n = n := by unfold fits at h; unfold wrap64; omega

theorem told_snd {n : Int} : ((told n).2 = 0 ∧ fits n ∧ (told n).1 = n) ∨ ((told n).2 = 6 ∧ ¬ fits n) := by
  by_cases h : fits n
  · exact .inl ⟨by rw [told_yes h], h, by rw [told_yes h]⟩
  · exact .inr ⟨by rw [told_no h], h⟩

theorem told_fits (n : Int) : fits (told n).1 := by
  by_cases h : fits n
  · rw [told_yes h]; exact h
  · rw [told_no h]; exact ⟨by omega, by omega⟩

theorem turn_any (a b c : Int) (w : World) (ha : fits a) (hb : fits b) (hc : fits c) :
    Calls Try.prog 4 #[.int .i64 a, .int .i64 b, .int .i64 c] w fun e w' => e = .returned (.bool true) ∧ Kept w w' := by
  refine turn_core a b c (told (a + b)).1 (told (a + b)).2 (told (a * b)).1 (told (a * b)).2 (told ((told (a + b)).1 * c)).1 (told ((told (a + b)).1 * c)).2 (told (a * c)).1 (told (a * c)).2 (told (b * c)).1 (told (b * c)).2
    (told ((told (a * c)).1 + (told (b * c)).1)).1 (told ((told (a * c)).1 + (told (b * c)).1)).2 w
    (fun W => add_any a b W ha hb) (fun W => by rw [Int.add_comm a b]; exact add_any b a W hb ha) (fun W => mul_any a b W ha hb) (fun W => by rw [Int.mul_comm a b]; exact mul_any b a W hb ha)
    (fun W => mul_any _ c W (told_fits _) hc) (fun W => mul_any a c W ha hc) (fun W => mul_any b c W hb hc) (fun W => add_any _ _ W (told_fits _) (told_fits _)) ?_ ?_ ?_
  · rcases @told_snd (a + b) with ⟨h1, h2, h3⟩ | ⟨h1, h2⟩
    · refine .inr ⟨by rw [h1]; rfl, ?_⟩
      rw [h3, show a + b - a = b from by omega, fits_wrap hb]
      simp
    · exact .inl (by rw [h1]; rfl)
  · rcases @told_snd (a * b) with ⟨h1, h2, h3⟩ | ⟨h1, h2⟩
    · refine .inr ?_
      by_cases a0 : a = 0
      · exact .inl ⟨by rw [h1]; rfl, by simp [a0]⟩
      refine .inr ?_
      by_cases a1 : a = -1
      · exact .inl ⟨by rw [h1]; rfl, by simp [a0], by simp [a1]⟩
      refine .inr ⟨by rw [h1]; rfl, by simp [a0], by simp [a1], a0, ?_, ?_⟩
      · rw [h3, Int.mul_tdiv_cancel_left b a0, fits_wrap hb]
        simp
      · rw [h3, Int.mul_tmod_right]
        simp
    · exact .inl (by rw [h1]; rfl)
  · intro he ho hp hq
    rcases @told_snd (a + b) with ⟨h1, h2, h3⟩ | ⟨h1, h2⟩
    · rw [h3] at ho ⊢
      rcases @told_snd ((a + b) * c) with ⟨h4, h5, h6⟩ | ⟨h4, h5⟩
      · rcases @told_snd (a * c) with ⟨h7, h8, h9⟩ | ⟨h7, h8⟩
        · rcases @told_snd (b * c) with ⟨h10, h11, h12⟩ | ⟨h10, h11⟩
          · rw [h9, h12, h6, ← Int.add_mul, told_yes h5]
            exact ⟨rfl, rfl⟩
          · omega
        · omega
      · omega
    · omega
end Go.Proofs.Ythinpabeineahaa

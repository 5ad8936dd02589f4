/-
  Of two rels that are each other's contrary just one holds.
-/
import Derived.Test.YthinpabeineahaaSums6
set_option maxHeartbeats 1000000
set_option maxRecDepth 10000
namespace Go.Proofs.Ythinpabeineahaa
open Go Go.RowKit

theorem holdsK (a r b : Int) (W : World) : Calls Try.prog 13 #[.int .i64 a, .int .i64 r, .int .i64 b] W fun e w' => e = .returned (.bool (holdsB a r b)) ∧ Kept W w' :=
  (holds_any a r b W).mono fun _ _ ⟨he, hw⟩ => ⟨he, hw ▸ Below.refl _ _⟩

theorem rels_core (a b : Int) (w : World) (p0 p2 : Bool)
    (h0 : holdsB a 0 b = p0) (h1 : holdsB a 1 b = !p0) (h2 : holdsB a 2 b = p2) (h3 : holdsB a 3 b = (p2 || p0)) (h4 : holdsB a 4 b = !(p2 || p0)) (h5 : holdsB a 5 b = !p2)
    (g0 : holdsB b 0 a = p0) (g4 : holdsB b 4 a = p2) :
    Calls Try.prog 5 #[.int .i64 a, .int .i64 b] w fun e w' => e = .returned (.bool true) ∧ Kept w w' := by
  have i0 : ∀ w : World, (Instr.index 32 (.agg #[.int .i64 0, .int .i64 1, .int .i64 2, .int .i64 5, .int .i64 3, .int .i64 4]) (.int .i64 0)).run Try.prog w = .ok (.agg #[.int .i64 0, .int .i64 1]) w := fun _ => by kernel_rfl
  have i1 : ∀ w : World, (Instr.index 32 (.agg #[.int .i64 0, .int .i64 1, .int .i64 2, .int .i64 5, .int .i64 3, .int .i64 4]) (.int .i64 1)).run Try.prog w = .ok (.agg #[.int .i64 2, .int .i64 5]) w := fun _ => by kernel_rfl
  have i2 : ∀ w : World, (Instr.index 32 (.agg #[.int .i64 0, .int .i64 1, .int .i64 2, .int .i64 5, .int .i64 3, .int .i64 4]) (.int .i64 2)).run Try.prog w = .ok (.agg #[.int .i64 3, .int .i64 4]) w := fun _ => by kernel_rfl
  go_enter Try.func5, Try.ntmps5
  go_wp2_with fail
  refine (awake_any _).mono ?_
  rintro e w1 ⟨rfl, hk1⟩
  have Hk1 := Lib.hid hk1
  clear hk1
  go_wp2_with fail
  go_loopw [13] (fun v wr => ∃ k : Nat, k ≤ 3 ∧ v = .int .i64 k ∧ Hid (Kept w wr)) (fun v _ => 3 - (intOf v).toNat)
  case atStart => exact ⟨0, by omega, rfl, Hk1.out⟩
  case round =>
    obtain ⟨k, hk, rfl, Hkw⟩ := hrel
    have hk4 : k = 0 ∨ k = 1 ∨ k = 2 ∨ k = 3 := by omega
    rcases hk4 with rfl | rfl | rfl | rfl
    · go_wp2_with fail
      refine wp_region_quiet_below (by kernel_rfl) (by kernel_rfl) ?_
      repeat (any_goals (first | go_big_quiet_step (((go_at_call 13; exact Calls.regrown_of (holdsK _ _ _ _)))) | quiet_step (((go_at_call 13; exact Calls.regrown_of (holdsK _ _ _ _)))) | (refine wpQuiet_step (fun K hK => ?_); go_simp; split <;> (refine hK _ ?_; clear hK K))))
      all_goals (refine wpQuiet_nil ?_; intro w1 hw'; replace hw' := Kept.regrown hw')
      have Hk2 := Lib.hid hw'
      clear hw'
      go_wp2_with fail
      all_goals first
        | (exfalso; cases p0 <;> cases p2 <;> simp_all; done)
        | exact ⟨⟨1, by omega, rfl, Hkw.out.then ((Kept.newBlock (Below.refl _ _) _).then Hk2.out)⟩, by simp [intOf]⟩
    · go_wp2_with fail
      refine wp_region_quiet_below (by kernel_rfl) (by kernel_rfl) ?_
      repeat (any_goals (first | go_big_quiet_step (((go_at_call 13; exact Calls.regrown_of (holdsK _ _ _ _)))) | quiet_step (((go_at_call 13; exact Calls.regrown_of (holdsK _ _ _ _)))) | (refine wpQuiet_step (fun K hK => ?_); go_simp; split <;> (refine hK _ ?_; clear hK K))))
      all_goals (refine wpQuiet_nil ?_; intro w1 hw'; replace hw' := Kept.regrown hw')
      have Hk2 := Lib.hid hw'
      clear hw'
      go_wp2_with fail
      all_goals first
        | (exfalso; cases p0 <;> cases p2 <;> simp_all; done)
        | exact ⟨⟨2, by omega, rfl, Hkw.out.then ((Kept.newBlock (Below.refl _ _) _).then Hk2.out)⟩, by simp [intOf]⟩
    · go_wp2_with fail
      refine wp_region_quiet_below (by kernel_rfl) (by kernel_rfl) ?_
      repeat (any_goals (first | go_big_quiet_step (((go_at_call 13; exact Calls.regrown_of (holdsK _ _ _ _)))) | quiet_step (((go_at_call 13; exact Calls.regrown_of (holdsK _ _ _ _)))) | (refine wpQuiet_step (fun K hK => ?_); go_simp; split <;> (refine hK _ ?_; clear hK K))))
      all_goals (refine wpQuiet_nil ?_; intro w1 hw'; replace hw' := Kept.regrown hw')
      have Hk2 := Lib.hid hw'
      clear hw'
      go_wp2_with fail
      all_goals first
        | (exfalso; cases p0 <;> cases p2 <;> simp_all; done)
        | exact ⟨⟨3, by omega, rfl, Hkw.out.then ((Kept.newBlock (Below.refl _ _) _).then Hk2.out)⟩, by simp [intOf]⟩
    · go_wp2_with (go_at_call 13; refine (holds_any _ _ _ _).mono ?_; rintro e w' ⟨rfl, rfl⟩)
      all_goals
        go_ret
        exact ⟨ret_bool (by cases p0 <;> cases p2 <;> simp_all), Hkw.out⟩

theorem rels_any (a b : Int) (w : World) :
    Calls Try.prog 5 #[.int .i64 a, .int .i64 b] w fun e w' => e = .returned (.bool true) ∧ Kept w w' := by
  refine rels_core a b w (decide (a = b)) (decide (a < b)) ?_ ?_ ?_ ?_ ?_ ?_ ?_ ?_
  all_goals
    rw [Bool.eq_iff_iff]
    simp [holdsB]
    try omega
end Go.Proofs.Ythinpabeineahaa

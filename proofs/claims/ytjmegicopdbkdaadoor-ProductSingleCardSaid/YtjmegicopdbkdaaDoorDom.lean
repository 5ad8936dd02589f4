/-
  Contracts of the package dom.
-/
import Derived.Test.YtjmegicopdbkdaaDoorBits2
set_option maxHeartbeats 1000000
set_option maxRecDepth 10000
namespace Go.Proofs.YtjmegicopdbkdaaDoor
open Go Go.RowKit Pl

theorem box2_0 (w : World) (v0 v1 : Value) (t : TypeId) : (w.alloc (.cells #[v0, v1] t)).cell? ⟨w.heap.size, 0, none⟩ = some v0 := by simp [go_sem]
theorem box2_1 (w : World) (v0 v1 : Value) (t : TypeId) : (w.alloc (.cells #[v0, v1] t)).cell? ⟨w.heap.size, 1, none⟩ = some v1 := by simp [go_sem]

theorem may_bad {xs : List Int} {L k n : Nat} (hlen : xs.length = n) (hk : k < n) (h : okAt xs k = false) : false = mayB xs L := by
  simp [mayB, hlen, okUpto_bad h hk]
theorem okAt_named {xs : List Int} {k : Nat} {x y : Int} (hx : xs.getD k 0 = x) (hy : xs.getD (k - 1) 0 = y) :
    okAt xs k = (decide (-1048576 ≤ x) && decide (x ≤ 1048576) && (decide (k = 0) || decide (y < x))) := by
  unfold okAt; rw [hx, hy]

theorem may_any (A : Option Addr) (n c : Nat) (L : Nat) (xs : List Int) (w : World) (hS : Ints w A n xs) (hL : L < 2 ^ 64) :
    Calls Tryd.prog 28 #[.agg #[.slice A n c, .int .u64 L]] w fun e w' => e = .returned (.bool (mayB xs L)) ∧ Kept w w' := by
  have Hlen := Lib.hid hS.len
  have hsm := hS.small
  by_cases hn : n ≤ 64
  · have hd : decide ((64 : Int) < n) = false := by simp; omega
    by_cases hLn : L < 2 ^ n
    · have hb : (bits BinOp.andNot IntKind.u64 (L : Int) ((fst n : Nat) : Int) != 0) = false := by rw [andNot_ne hL hn]; simp [hLn]
      have HL := Lib.hid hLn
      clear hLn
      go_enter Tryd.func28, Tryd.ntmps28
      go_wp2
      refine wp_region_quiet_below (by kernel_rfl) (by kernel_rfl) ?_
      repeat (any_goals (first | go_big_quiet_step (((go_at_call 59; exact Calls.regrown_of (first_any _ _)))) | quiet_step (((go_at_call 59; exact Calls.regrown_of (first_any _ _)))) | (refine wpQuiet_step (fun K hK => ?_); go_simp; split <;> (refine hK _ ?_; clear hK K))))
      all_goals (refine wpQuiet_nil ?_; intro w1 hw'; replace hw' := Kept.regrown hw')
      have hb0 := hw'.cellAt (box2_0 w (.slice A n c) (.int .u64 L) _)
      have Hw1 := Lib.hid hw'
      have Hk := Lib.hid ((Kept.newBlock (Below.refl _ _) _).then hw')
      clear hw'
      go_wp2
      go_loopw [22] (fun v wr => ∃ k : Nat, k ≤ n ∧ v = .int .i64 k ∧ Kept w1 wr ∧ Hid (okUpto xs k = true)) (fun v _ => n - (intOf v).toNat)
      case atStart => exact ⟨0, Nat.zero_le _, rfl, Below.refl _ _, rfl⟩
      case round =>
        obtain ⟨k, hk, rfl, hkw, hok⟩ := hrel
        by_cases hlt : k < n
        · have hSr := hS.kept (Hk.out.then hkw)
          clear hb0
          have hb0 := (Hw1.out.then hkw).cellAt (box2_0 w (.slice A n c) (.int .u64 L) _)
          obtain ⟨a, rfl, hblk⟩ := hSr.addr (by omega)
          obtain ⟨x, Hx, hck, _⟩ := hSr.named k hlt
          obtain ⟨y, Hy, hck1, _⟩ := hSr.named (k - 1) (by omega)
          have Hkw := Lib.hid hkw
          clear hkw hS hSr
          go_wp2
          all_goals first
            | (go_ret; exact ⟨ret_bool (may_bad Hlen.out hlt (by rw [okAt_named Hx.out Hy.out]; simp; omega)), Hk.out.then Hkw.out⟩)
            | (go_roundw
               case rel => (repeat apply Exists.intro); exact ⟨⟨k + 1, by omega, by go_num, Hkw.out, by show okUpto xs (k + 1) = true; rw [okUpto_succ, hok.out, okAt_named Hx.out Hy.out]; simp; omega⟩, rfl⟩
               case measure => simp [intOf]; omega)
        · go_wp2
          go_ret
          refine ⟨ret_bool ?_, Hk.out.then hkw⟩
          have e : k = n := by omega
          rw [e] at hok
          simp [mayB, Hlen.out, hok.out, HL.out]
          omega
    · have hb : (bits BinOp.andNot IntKind.u64 (L : Int) ((fst n : Nat) : Int) != 0) = true := by rw [andNot_ne hL hn]; simp [hLn]
      go_enter Tryd.func28, Tryd.ntmps28
      go_wp2
      refine wp_region_quiet_below (by kernel_rfl) (by kernel_rfl) ?_
      repeat (any_goals (first | go_big_quiet_step (((go_at_call 59; exact Calls.regrown_of (first_any _ _)))) | quiet_step (((go_at_call 59; exact Calls.regrown_of (first_any _ _)))) | (refine wpQuiet_step (fun K hK => ?_); go_simp; split <;> (refine hK _ ?_; clear hK K))))
      all_goals (refine wpQuiet_nil ?_; intro w1 hw'; replace hw' := Kept.regrown hw')
      have Hk := Lib.hid ((Kept.newBlock (Below.refl _ _) _).then hw')
      clear hw'
      go_wp2
      go_ret
      exact ⟨ret_bool (by simp [mayB, Hlen.out, hLn]), Hk.out⟩
  · have hd : decide ((64 : Int) < n) = true := by simp; omega
    go_enter Tryd.func28, Tryd.ntmps28
    go_wp2
    refine wp_region_quiet_below (by kernel_rfl) (by kernel_rfl) ?_
    repeat (any_goals (first | go_big_quiet_step ((fail)) | quiet_step ((fail)) | (refine wpQuiet_step (fun K hK => ?_); go_simp; split <;> (refine hK _ ?_; clear hK K))))
    all_goals (refine wpQuiet_nil ?_; intro w1 hw'; replace hw' := Kept.regrown hw')
    have Hk := Lib.hid ((Kept.newBlock (Below.refl _ _) _).then hw')
    clear hw'
    go_wp2
    go_ret
    exact ⟨ret_bool (by simp [mayB, Hlen.out, hn]), Hk.out⟩
end Go.Proofs.YtjmegicopdbkdaaDoor

/-
  Contracts of the package bits: First, Between, Next and their kin.
-/
import Derived.Test.YtjmegicopdbkdaaDoorProg
import Derived.Test.YtjmegicopdbkdaaDoorBase
import Derived.Test.YtjmegicopdbkdaaDoorPlain
set_option maxHeartbeats 400000
namespace Go.Proofs.YtjmegicopdbkdaaDoor
open Go Go.RowKit Pl

theorem ret_u64 {a b : Int} (h : a = b) : Ending.returned (.int .u64 a) = .returned (.int .u64 b) := by rw [h]
theorem ret_i64 {a b : Int} (h : a = b) : Ending.returned (.int .i64 a) = .returned (.int .i64 b) := by rw [h]
theorem ret_bool {a b : Bool} (h : a = b) : Ending.returned (.bool a) = .returned (.bool b) := by rw [h]

theorem wrap_pow {n : Nat} (h : n < 64) : IntKind.u64.wrap (IntKind.u64.wrap (2 ^ n) - 1) = ((fst n : Nat) : Int) := by
  rw [fst_small (by omega)]
  have h1 : (2 : Nat) ^ n < 2 ^ 64 := Nat.pow_lt_pow_right (by decide) h
  have h2 : 0 < (2 : Nat) ^ n := Nat.two_pow_pos n
  have e : ((2 : Int) ^ n) = ((2 ^ n : Nat) : Int) := by simp
  rw [e, IntKind.wrap_u64, IntKind.wrap_u64]
  omega

theorem andNot_fst {L n : Nat} (hL : L < 2 ^ 64) : bits BinOp.andNot IntKind.u64 (L : Int) ((fst n : Nat) : Int) = ((less L (fst n) : Nat) : Int) :=
  u64_andNot_nat L (fst n) hL (fst_lt n)
theorem andNot_ne {L n : Nat} (hL : L < 2 ^ 64) (hn : n ≤ 64) : (bits BinOp.andNot IntKind.u64 (L : Int) ((fst n : Nat) : Int) != 0) = !decide (L < 2 ^ n) := by
  rw [andNot_fst hL]
  have := less_fst_zero hL hn
  by_cases h : L < 2 ^ n
  · simp [this.2 h, h]
  · have h1 : less L (fst n) ≠ 0 := fun e => h (this.1 e)
    simp [h, h1]

theorem first_any (n : Int) (w : World) :
    Calls Tryd.prog 59 #[.int .i64 n] w fun e w' => e = .returned (.int .u64 (fst n.toNat : Nat)) ∧ Kept w w' := by
  go_enter Tryd.func59, Tryd.ntmps59
  go_wp2
  · go_ret
    have h : n ≤ 0 := by assumption
    have e : n.toNat = 0 := by omega
    exact ⟨ret_u64 (by rw [e]; rfl), Below.refl _ _⟩
  · go_ret
    have h : 64 ≤ n := by assumption
    exact ⟨ret_u64 (by rw [fst_big (by omega)]; rfl), Below.refl _ _⟩
  · go_ret
    have h : n < 64 := by assumption
    exact ⟨ret_u64 (wrap_pow (by omega)), Below.refl _ _⟩
end Go.Proofs.YtjmegicopdbkdaaDoor

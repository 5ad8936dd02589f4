/-
  Contracts of the package bits: the least, the greatest, the next one; sets between ends; the set of a list.
-/
import Derived.Test.YtjmegicopdbkdaaDoorBits
import Derived.Test.YtjmegicopdbkdaaDoorShelf
import Derived.Lib.BitFns
set_option maxHeartbeats 400000
set_option maxRecDepth 10000
namespace Go.Proofs.YtjmegicopdbkdaaDoor
open Go Go.RowKit Pl

/-- The library's table lies as its initialiser lays it. -/
def Tab (w : World) : Prop := TabAt 0 Lib.deBruijn64tab w
theorem Tab.kept {w w' : World} (h : Tab w) (hk : Kept w w') : Tab w' := fun j hj => hk.cellAt (h j hj)

/-- The least one; -1, if there is none. -/
def lo (b : Nat) : Int := if b = 0 then -1 else (Lib.ctz 64 b : Nat)

theorem least_any (b : Nat) (w : World) (hb : b < 2 ^ 64) (hT : Tab w) :
    Calls Tryd.prog 87 #[.int .u64 b] w fun e w' => e = .returned (.int .i64 (lo b)) ∧ w = w' := by
  by_cases h0 : b = 0
  · subst h0
    go_enter Tryd.func87, Tryd.ntmps87
    go_wp2_with fail
    go_ret
    exact ⟨rfl, rfl⟩
  · have hz : ((b : Int) == 0) = false := by simp; omega
    have e : lo b = (Lib.ctz 64 b : Nat) := if_neg h0
    rw [e]
    have HT := Lib.hid hT
    clear hT e h0
    go_enter Tryd.func87, Tryd.ntmps87
    go_wp2_with (go_at_call 93; refine (Tryd.bits_TrailingZeros64 b hb _ (fun _ => HT.out)).mono ?_; rintro e w' ⟨rfl, rfl⟩)
    go_ret
    exact ⟨rfl, rfl⟩

theorem bitLenAux_le : ∀ (f x : Nat), Lib.bitLenAux f x ≤ f
  | 0, _ => by simp [Lib.bitLenAux]
  | f + 1, x => by
    have := bitLenAux_le f (x / 2)
    simp only [Lib.bitLenAux]
    split <;> omega
theorem bitLen_le (b : Nat) : Lib.bitLen b ≤ 64 := bitLenAux_le 64 b

theorem first_quiet (n : Int) (w : World) :
    Calls Tryd.prog 59 #[.int .i64 n] w fun e w' => e = .returned (.int .u64 (fst n.toNat : Nat)) ∧ w = w' := by
  go_enter Tryd.func59, Tryd.ntmps59
  go_wp2
  · go_ret
    have h : n ≤ 0 := by assumption
    have e : n.toNat = 0 := by omega
    exact ⟨ret_u64 (by rw [e]; rfl), rfl⟩
  · go_ret
    have h : 64 ≤ n := by assumption
    exact ⟨ret_u64 (by rw [fst_big (by omega)]; rfl), rfl⟩
  · go_ret
    have h : n < 64 := by assumption
    exact ⟨ret_u64 (wrap_pow (by omega)), rfl⟩

/-- All from low to high, of 0 to 63. -/
def btw (low high : Int) : Nat := mkSet (fun k => decide (low ≤ (k : Int)) && decide ((k : Int) ≤ high)) 64

theorem less_fst_fst (a b : Nat) : less (fst a) (fst b) = mkSet (fun k => decide (k < a) && !decide (k < b)) 64 := by
  rw [less_eq (fst_lt a) (fst_lt b)]
  refine mkSet_congr fun k hk => ?_
  simp [testBit_fst, hk]

/-- The set of those of a list that are from 0 to 63. -/
def ofL (l : List Int) : Nat := mkSet (fun k => l.contains (k : Int)) 64
theorem ofL_lt (l : List Int) : ofL l < 2 ^ 64 := mkSet_lt _ _
theorem ofL_snoc_in {l : List Int} {k : Nat} (hk : k < 64) : ofL (l ++ [(k : Int)]) = ofL l ||| 2 ^ k := by
  apply Nat.eq_of_testBit_eq
  intro i
  rw [Nat.testBit_or, ofL, ofL, testBit_mkSet, testBit_mkSet, Nat.testBit_two_pow]
  by_cases hi : i < 64
  · rw [Bool.eq_iff_iff]
    by_cases e : k = i
    · simp [hi, e]
    · simp [hi, e]
      intro h
      omega
  · have : ¬ k = i := by omega
    simp [hi, this]
theorem ofL_snoc_out {l : List Int} {x : Int} (hx : x < 0 ∨ 63 < x) : ofL (l ++ [x]) = ofL l := by
  refine mkSet_congr fun k hk => ?_
  rw [Bool.eq_iff_iff]
  simp
  omega

theorem take_succ_getD {l : List Int} {k : Nat} {x : Int} (hk : k < l.length) (hx : l.getD k 0 = x) : l.take (k + 1) = l.take k ++ [x] := by
  rw [List.take_add_one, List.getElem?_eq_getElem hk]
  rw [List.getD_eq_getElem?_getD, List.getElem?_eq_getElem hk] at hx
  have hx' : l[k] = x := by simpa using hx
  rw [hx']
  rfl

theorem or_pow {b k : Nat} (hb : b < 2 ^ 64) (hk : k < 64) : bits BinOp.or IntKind.u64 (b : Int) (IntKind.u64.wrap (2 ^ k)) = ((b ||| 2 ^ k : Nat) : Int) := by
  have h1 : (2 : Nat) ^ k < 2 ^ 64 := Nat.pow_lt_pow_right (by decide) hk
  have e : IntKind.u64.wrap (2 ^ k) = ((2 ^ k : Nat) : Int) := by
    have e : ((2 : Int) ^ k) = ((2 ^ k : Nat) : Int) := by simp
    rw [e, IntKind.wrap_u64]
    generalize (2 : Nat) ^ k = p at *
    omega
  rw [e]
  exact u64_or_nat b (2 ^ k) hb h1

theorem of_any (A : Option Addr) (n c : Nat) (l : List Int) (w : World) (hl : Ints w A n l) :
    Calls Tryd.prog 81 #[.slice A n c] w fun e w' => e = .returned (.int .u64 (ofL l : Nat)) ∧ w = w' := by
  have Hl := Lib.hid hl
  have hs1 := hl.small
  clear hl
  go_enter Tryd.func81, Tryd.ntmps81
  go_wp2
  go_loop [3, 8] (fun u v => ∃ k : Nat, k ≤ n ∧ v = .int .i64 k ∧ ∃ b : Nat, u = .int .u64 b ∧ Hid (b = ofL (l.take k))) (fun _ v => n - (intOf v).toNat)
  case atStart => exact ⟨0, Nat.zero_le _, rfl, 0, rfl, by show 0 = ofL []; decide⟩
  case round =>
    obtain ⟨k, hk, rfl, b, rfl, Hb⟩ := hrel
    by_cases hlt : k < n
    · obtain ⟨a, rfl, hba⟩ := Hl.out.addr (by omega)
      obtain ⟨x, Hx, hcx, hx1, hx2⟩ := Hl.out.named k hlt
      have hlen := Hl.out.len
      have ht := take_succ_getD (by omega) Hx.out
      by_cases hin : 0 ≤ x ∧ x < 64
      · obtain ⟨y, rfl⟩ := Int.eq_ofNat_of_zero_le hin.1
        have hy : y < 64 := by omega
        have ho := or_pow (b := b) (by rw [Hb.out]; exact ofL_lt _) hy
        have Hn : Hid (b ||| 2 ^ y = ofL (l.take (k + 1))) := by
          show b ||| 2 ^ y = ofL (l.take (k + 1))
          rw [ht, ofL_snoc_in hy, Hb.out]
        clear hlen ht hin
        generalize b ||| 2 ^ y = b2 at *
        go_wp2
        go_round
        case rel => exact ⟨k + 1, by omega, by go_num, b2, by simp [*], Hn⟩
        case measure => simp [intOf]; omega
      · have Hn : Hid (b = ofL (l.take (k + 1))) := by
          show b = ofL (l.take (k + 1))
          rw [ht, ofL_snoc_out (by omega), Hb.out]
        clear hlen ht
        by_cases h0 : 0 ≤ x
        · have h1 : ¬ x < 64 := fun h => hin ⟨h0, h⟩
          clear hin
          go_wp2
          go_round
          case rel => exact ⟨k + 1, by omega, by go_num, b, rfl, Hn⟩
          case measure => simp [intOf]; omega
        · clear hin
          go_wp2
          go_round
          case rel => exact ⟨k + 1, by omega, by go_num, b, rfl, Hn⟩
          case measure => simp [intOf]; omega
    · go_wp2
      go_ret
      have e : k = n := by omega
      rw [e] at Hb
      exact ⟨ret_u64 (by rw [Hb.out, ← Hl.out.len, List.take_length]), rfl⟩
end Go.Proofs.YtjmegicopdbkdaaDoor

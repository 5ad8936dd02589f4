/-
  The laws of the bits: the walks.
-/
import Derived.Test.YthddanjmnifloaaDoorBitsPlain
set_option maxHeartbeats 1000000
set_option maxRecDepth 10000
namespace Go.Proofs.YthddanjmnifloaaDoor
open Go Go.RowKit Pl

theorem c_count5 (w : World) : Calls Tryd.prog 17 #[.int .u64 5] w fun e w' => e = .returned (.int .i64 2) ∧ w = w' := by
  have h := count_any 5 w (by decide)
  rw [show (elems 5).length = 2 by decide +kernel] at h
  exact h
theorem c_least4 (w : World) (hT : Tab w) : Calls Tryd.prog 18 #[.int .u64 4] w fun e w' => e = .returned (.int .i64 2) ∧ w = w' := by
  have h := least_any 4 w (by decide) hT
  rw [show lo 4 = 2 by decide +kernel] at h
  exact h
theorem c_least0 (w : World) (hT : Tab w) : Calls Tryd.prog 18 #[.int .u64 0] w fun e w' => e = .returned (.int .i64 (-1)) ∧ w = w' := by
  have h := least_any 0 w (by decide) hT
  rw [show lo 0 = -1 by decide +kernel] at h
  exact h
theorem c_greatest5 (w : World) : Calls Tryd.prog 19 #[.int .u64 5] w fun e w' => e = .returned (.int .i64 2) ∧ w = w' := by
  have h := greatest_any 5 w (by decide)
  rw [show (Lib.bitLen 5 : Int) - 1 = 2 by decide +kernel] at h
  exact h
theorem c_greatest0 (w : World) : Calls Tryd.prog 19 #[.int .u64 0] w fun e w' => e = .returned (.int .i64 (-1)) ∧ w = w' := by
  have h := greatest_any 0 w (by decide)
  rw [show (Lib.bitLen 0 : Int) - 1 = -1 by decide +kernel] at h
  exact h
theorem c_next5 (w : World) (hT : Tab w) : Calls Tryd.prog 20 #[.int .u64 5, .int .i64 1] w fun e w' => e = .returned (.int .i64 2) ∧ w = w' := by
  have h := next_any 5 1 w (by decide) hT
  rw [show lo (less 5 (fst (1 : Int).toNat)) = 2 by decide +kernel] at h
  exact h
theorem c_first3 (w : World) : Calls Tryd.prog 24 #[.int .i64 3] w fun e w' => e = .returned (.int .u64 7) ∧ w = w' := by
  have h := first_quiet 3 w
  rw [show fst (3 : Int).toNat = 7 by decide +kernel] at h
  exact h
theorem c_between (w : World) : Calls Tryd.prog 25 #[.int .i64 1, .int .i64 3] w fun e w' => e = .returned (.int .u64 14) ∧ w = w' := by
  have h := between_any 1 3 w
  rw [show btw 1 3 = 14 by decide +kernel] at h
  exact h
theorem c_list5 (w : World) (hT : Tab w) : Calls Tryd.prog 23 #[.int .u64 5] w fun e w' => ∃ A c, e = .returned (.slice A 2 c) ∧ Ints w' A 2 [0, 2] ∧ Kept w w' := by
  have h := list_any 5 w (by decide) hT
  rw [show elemsI 5 = [0, 2] by decide +kernel] at h
  exact h.mono fun e w' ⟨A, c, h1, h2, h3, _⟩ => ⟨A, c, h1, h2, h3⟩
theorem c_same (A B : Option Addr) (c d : Nat) (w : World) (hA : Ints w A 2 [0, 2]) (hB : Ints w B 2 [0, 2]) : Calls Tryd.prog 22 #[.slice A 2 c, .slice B 2 d] w fun e w' => e = .returned (.bool true) ∧ Kept w w' := by
  have h := rsame_any A B 2 2 c d [0, 2] [0, 2] w hA hB
  simpa using h
theorem c_of (A : Option Addr) (c : Nat) (w : World) (hA : Ints w A 3 [2, 0, 99]) : Calls Tryd.prog 26 #[.slice A 3 c] w fun e w' => e = .returned (.int .u64 5) ∧ w = w' := by
  have h := of_any A 3 c [2, 0, 99] w hA
  rw [show ofL [2, 0, 99] = 5 by decide +kernel] at h
  exact h
theorem lit2 (w : World) (t : TypeId) (fr : Nat × Nat) : Ints (w.alloc (.cells #[.int .i64 0, .int .i64 2] t fr)) (some ⟨w.heap.size, 0, none⟩) 2 [0, 2] :=
  Ints.of_cells (xs := [0, 2]) (heap_new _ _) (by decide) (by decide) rfl
theorem lit3 (w : World) (t : TypeId) (fr : Nat × Nat) : Ints (w.alloc (.cells #[.int .i64 2, .int .i64 0, .int .i64 99] t fr)) (some ⟨w.heap.size, 0, none⟩) 3 [2, 0, 99] :=
  Ints.of_cells (xs := [2, 0, 99]) (heap_new _ _) (by decide) (by decide) rfl

theorem awake02 (w : World) (hT : Tab w) : Calls Tryd.prog 14 #[] w fun e w' => e = .returned (.bool true) ∧ Kept w w' := by
  have HT := Lib.hid hT
  clear hT
  go_enter Tryd.func14, Tryd.ntmps14
  go_wp2_with (first
    | (go_at_call 17; refine (c_count5 _).mono ?_; rintro e w' ⟨rfl, rfl⟩)
    | (go_at_call 18; first | (refine (c_least4 _ HT.out).mono ?_; rintro e w' ⟨rfl, rfl⟩) | (refine (c_least0 _ HT.out).mono ?_; rintro e w' ⟨rfl, rfl⟩))
    | (go_at_call 19; first | (refine (c_greatest5 _).mono ?_; rintro e w' ⟨rfl, rfl⟩) | (refine (c_greatest0 _).mono ?_; rintro e w' ⟨rfl, rfl⟩))
    | (go_at_call 20; refine (c_next5 _ HT.out).mono ?_; rintro e w' ⟨rfl, rfl⟩)
    | (go_at_call 24; refine (c_first3 _).mono ?_; rintro e w' ⟨rfl, rfl⟩)
    | (go_at_call 25; refine (c_between _).mono ?_; rintro e w' ⟨rfl, rfl⟩)
    | (go_at_call 23; refine (c_list5 _ HT.out).mono ?_; rintro e w1 ⟨A, c, rfl, hI, hk⟩; have HI := Lib.hid hI; have Hk := Lib.hid hk; clear hI hk)
    | (go_at_call 22; refine (c_same _ _ _ _ _ (HI.out.kept (Kept.box _ _)) (lit2 _ _ _)).mono ?_; rintro e w2 ⟨rfl, hk2⟩; have Hk2 := Lib.hid (Hk.out.then ((Kept.box _ _).then hk2)); clear hk2)
    | (go_at_call 26; refine (c_of _ _ _ (lit3 _ _ _)).mono ?_; rintro e w3 ⟨rfl, rfl⟩))
  go_ret
  exact ⟨rfl, Hk2.out.then (Kept.box _ _)⟩

theorem xor_nat {a : Nat} (ha : a < 2 ^ 64) : fst 64 ^^^ a = 18446744073709551615 - a := by
  have e1 : 18446744073709551615 - a = 2 ^ 64 - (a + 1) := by omega
  rw [e1]
  apply Nat.eq_of_testBit_eq
  intro i
  rw [Nat.testBit_xor, Nat.testBit_two_pow_sub_succ ha, testBit_fst]
  by_cases hi : i < 64
  · simp [hi]
  · have h2 : (2 : Nat) ^ 64 ≤ 2 ^ i := Nat.pow_le_pow_right (by decide) (by omega)
    have h3 : a.testBit i = false := Nat.testBit_lt_two_pow (Nat.lt_of_lt_of_le ha h2)
    rw [h3]
    simp [hi]
theorem fst64 : fst 64 = 18446744073709551615 := by decide +kernel
theorem xor_all {a : Nat} (ha : a < 2 ^ 64) : bits BinOp.xor IntKind.u64 IntKind.u64.max (a : Int) = ((18446744073709551615 - a : Nat) : Int) := by
  have h := u64_xor_nat 18446744073709551615 a (by decide) ha
  rw [← fst64, xor_nat ha] at h
  exact h

theorem parts_core (a b : Nat) (low high : Int) (w : World) (ha : a < 2 ^ 64) (hb : b < 2 ^ 64) (hT : Tab w) (h8 : -9223372036854775808 ≤ high) (U : Nat) (hU : btw low high = less U (fst low.toNat)) (hUl : U < 2 ^ 64)
    (hcase : (64 ≤ high ∧ U = fst 64) ∨ (high < 0 ∧ U = 0) ∨ (0 ≤ high ∧ high < 64 ∧ U = fst (high + 1).toNat)) :
    Calls Tryd.prog 5 #[.int .u64 a, .int .u64 b, .int .i64 low, .int .i64 high] w fun e w' => e = .returned (.bool true) ∧ Kept w w' := by
  have HT := Lib.hid hT
  have hor := u64_or_nat a b ha hb
  have hand := u64_and_nat a b ha hb
  have h1 := count_or a b
  have h2 := count_not ha
  have c1 := elems_length_le a
  have c2 := elems_length_le b
  have c3 := elems_length_le (a ||| b)
  have c4 := elems_length_le (a &&& b)
  have Ho := fun W => count_any (a ||| b) W (Nat.or_lt_two_pow ha hb)
  have Hn := fun W => count_any (a &&& b) W (Nat.lt_of_le_of_lt Nat.and_le_left ha)
  have Ha := fun W => count_any a W ha
  have Hb := fun W => count_any b W hb
  have Hc := fun W => count_any (18446744073709551615 - a) W (by omega)
  rw [← xor_all ha] at Hc
  have HO := Lib.hid Ho
  have HN := Lib.hid Hn
  have HA := Lib.hid Ha
  have HB := Lib.hid Hb
  have HC := Lib.hid Hc
  clear Ho Hn Ha Hb Hc hT
  generalize (elems (a ||| b)).length = n1 at *
  generalize (elems (a &&& b)).length = n2 at *
  generalize (elems a).length = n3 at *
  generalize (elems b).length = n4 at *
  generalize (elems (18446744073709551615 - a)).length = n5 at *
  generalize a ||| b = x1 at *
  generalize a &&& b = x2 at *
  have e1 : ((n1 : Int) != (n3 : Int) + (n4 : Int) - (n2 : Int)) = false := by simp; omega
  have e2 : ((n5 : Int) != 64 - (n3 : Int)) = false := by simp; omega
  clear h1 h2
  have hfin : bits BinOp.andNot IntKind.u64 (U : Int) ((fst low.toNat : Nat) : Int) = ((btw low high : Nat) : Int) := by
    rw [hU]; exact u64_andNot_nat U _ hUl (fst_lt _)
  have F64 : Hid (∀ W, Calls Tryd.prog 24 #[.int .i64 64] W fun e w' => e = .returned (.int .u64 (fst 64 : Nat)) ∧ W = w') := fun W => first_quiet 64 W
  have HBt : Hid (∀ W, Calls Tryd.prog 25 #[.int .i64 low, .int .i64 high] W fun e w' => e = .returned (.int .u64 (btw low high : Nat)) ∧ W = w') := fun W => between_any low high W
  clear hU
  generalize btw low high = bt at *
  have HA2 := HA
  have HL : Hid (∀ W, Calls Tryd.prog 24 #[.int .i64 low] W fun e w' => e = .returned (.int .u64 (fst low.toNat : Nat)) ∧ W = w') := fun W => first_quiet low W
  have HH : Hid (∀ W, Calls Tryd.prog 24 #[.int .i64 (high + 1)] W fun e w' => e = .returned (.int .u64 (fst (high + 1).toNat : Nat)) ∧ W = w') := fun W => first_quiet (high + 1) W
  generalize fst low.toNat = fl at *
  rcases hcase with ⟨hc, hU1⟩ | ⟨hc, hU1⟩ | ⟨hc, hc2, hU1⟩
  · rw [← hU1] at F64
    clear hU1 HH
    go_enter Tryd.func5, Tryd.ntmps5
    go_wp2_with (first
      | (go_at_call 14; refine (awake02 _ HT.out).mono ?_; rintro e w1 ⟨rfl, hk⟩; have Hk := Lib.hid hk; clear hk)
      | (go_at_call 17; first | (have h1 := HO; clear HO; refine (h1.out _).mono ?_; clear h1; rintro e w' ⟨rfl, rfl⟩) | (have h1 := HA; clear HA; refine (h1.out _).mono ?_; clear h1; rintro e w' ⟨rfl, rfl⟩) | (have h1 := HB; clear HB; refine (h1.out _).mono ?_; clear h1; rintro e w' ⟨rfl, rfl⟩) | (have h1 := HN; clear HN; refine (h1.out _).mono ?_; clear h1; rintro e w' ⟨rfl, rfl⟩) | (have h1 := HC; clear HC; refine (h1.out _).mono ?_; clear h1; rintro e w' ⟨rfl, rfl⟩) | (have h1 := HA2; clear HA2; refine (h1.out _).mono ?_; clear h1; rintro e w' ⟨rfl, rfl⟩))
      | (go_at_call 24; first | (have h1 := F64; clear F64; refine (h1.out _).mono ?_; clear h1; rintro e w' ⟨rfl, rfl⟩) | (have h1 := HL; clear HL; refine (h1.out _).mono ?_; clear h1; rintro e w' ⟨rfl, rfl⟩))
      | (go_at_call 25; refine (HBt.out _).mono ?_; rintro e w' ⟨rfl, rfl⟩))
    go_ret
    exact ⟨rfl, Hk.out⟩
  · subst hU1
    have hfin0 : bits BinOp.andNot IntKind.u64 0 (fl : Int) = (bt : Int) := hfin
    clear HH hfin
    generalize fst 64 = f64 at *
    go_enter Tryd.func5, Tryd.ntmps5
    go_wp2_with (first
      | (go_at_call 14; refine (awake02 _ HT.out).mono ?_; rintro e w1 ⟨rfl, hk⟩; have Hk := Lib.hid hk; clear hk)
      | (go_at_call 17; first | (have h1 := HO; clear HO; refine (h1.out _).mono ?_; clear h1; rintro e w' ⟨rfl, rfl⟩) | (have h1 := HA; clear HA; refine (h1.out _).mono ?_; clear h1; rintro e w' ⟨rfl, rfl⟩) | (have h1 := HB; clear HB; refine (h1.out _).mono ?_; clear h1; rintro e w' ⟨rfl, rfl⟩) | (have h1 := HN; clear HN; refine (h1.out _).mono ?_; clear h1; rintro e w' ⟨rfl, rfl⟩) | (have h1 := HC; clear HC; refine (h1.out _).mono ?_; clear h1; rintro e w' ⟨rfl, rfl⟩) | (have h1 := HA2; clear HA2; refine (h1.out _).mono ?_; clear h1; rintro e w' ⟨rfl, rfl⟩))
      | (go_at_call 24; first | (have h1 := F64; clear F64; refine (h1.out _).mono ?_; clear h1; rintro e w' ⟨rfl, rfl⟩) | (have h1 := HL; clear HL; refine (h1.out _).mono ?_; clear h1; rintro e w' ⟨rfl, rfl⟩))
      | (go_at_call 25; refine (HBt.out _).mono ?_; rintro e w' ⟨rfl, rfl⟩))
    go_ret
    exact ⟨rfl, Hk.out⟩
  · rw [← hU1] at HH
    clear hU1
    generalize fst 64 = f64 at *
    go_enter Tryd.func5, Tryd.ntmps5
    go_wp2_with (first
      | (go_at_call 14; refine (awake02 _ HT.out).mono ?_; rintro e w1 ⟨rfl, hk⟩; have Hk := Lib.hid hk; clear hk)
      | (go_at_call 17; first | (have h1 := HO; clear HO; refine (h1.out _).mono ?_; clear h1; rintro e w' ⟨rfl, rfl⟩) | (have h1 := HA; clear HA; refine (h1.out _).mono ?_; clear h1; rintro e w' ⟨rfl, rfl⟩) | (have h1 := HB; clear HB; refine (h1.out _).mono ?_; clear h1; rintro e w' ⟨rfl, rfl⟩) | (have h1 := HN; clear HN; refine (h1.out _).mono ?_; clear h1; rintro e w' ⟨rfl, rfl⟩) | (have h1 := HC; clear HC; refine (h1.out _).mono ?_; clear h1; rintro e w' ⟨rfl, rfl⟩) | (have h1 := HA2; clear HA2; refine (h1.out _).mono ?_; clear h1; rintro e w' ⟨rfl, rfl⟩))
      | (go_at_call 24; first | (have h1 := F64; clear F64; refine (h1.out _).mono ?_; clear h1; rintro e w' ⟨rfl, rfl⟩) | (have h1 := HH; clear HH; refine (h1.out _).mono ?_; clear h1; rintro e w' ⟨rfl, rfl⟩) | (have h1 := HL; clear HL; refine (h1.out _).mono ?_; clear h1; rintro e w' ⟨rfl, rfl⟩))
      | (go_at_call 25; refine (HBt.out _).mono ?_; rintro e w' ⟨rfl, rfl⟩))
    go_ret
    exact ⟨rfl, Hk.out⟩

theorem parts_any (a b : Nat) (low high : Int) (w : World) (ha : a < 2 ^ 64) (hb : b < 2 ^ 64) (hT : Tab w) (h8 : -9223372036854775808 ≤ high) :
    Calls Tryd.prog 5 #[.int .u64 a, .int .u64 b, .int .i64 low, .int .i64 high] w fun e w' => e = .returned (.bool true) ∧ Kept w w' := by
  by_cases h1 : 64 ≤ high
  · exact parts_core a b low high w ha hb hT h8 (fst 64) (btw_big h1) (fst_lt _) (.inl ⟨h1, rfl⟩)
  · by_cases h2 : high < 0
    · exact parts_core a b low high w ha hb hT h8 0 (btw_neg h2) (by decide) (.inr (.inl ⟨h2, rfl⟩))
    · exact parts_core a b low high w ha hb hT h8 (fst (high + 1).toNat) (btw_mid (by omega) (by omega)) (fst_lt _) (.inr (.inr ⟨by omega, by omega, rfl⟩))
end Go.Proofs.YthddanjmnifloaaDoor

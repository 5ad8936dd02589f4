/-
  The three statements' own calls.
-/
import Derived.Test.YthinpabeineahaaSums6
set_option maxHeartbeats 400000
set_option maxRecDepth 10000
namespace Go.Proofs.Ythinpabeineahaa
open Go Go.RowKit

theorem tells_any (a b rel : Int) (A B : Option Addr) (n c n' c' : Nat) (l m : List Int) (w : World) (ha : fits a) (hb : fits b) (hl : Ints w A n l) (hm : Ints w B n' m) :
    Calls Try.prog 3 #[.int .i64 a, .int .i64 b, .int .i64 rel, .slice A n c, .slice B n' c'] w fun e w' => e = .returned (.bool true) ∧ Kept w w' := by
  have Hl := Lib.hid hl
  have Hm := Lib.hid hm
  clear hl hm
  have Ha := Lib.hid ha
  have Hb := Lib.hid hb
  clear ha hb
  by_cases hbig : ¬ (n ≤ 200 ∧ n' ≤ 200)
  · by_cases h1 : n ≤ 200
    · have h2 : ¬ n' ≤ 200 := fun h => hbig ⟨h1, h⟩
      clear hbig
      go_enter Try.func3, Try.ntmps3
      go_wp2_with fail
      refine (awake_any _).mono ?_
      rintro e w1 ⟨rfl, hk1⟩
      have Hk1 := Lib.hid hk1
      clear hk1
      go_wp2_with fail
      all_goals
        go_ret
        exact ⟨rfl, Hk1.out⟩
    · clear hbig
      go_enter Try.func3, Try.ntmps3
      go_wp2_with fail
      refine (awake_any _).mono ?_
      rintro e w1 ⟨rfl, hk1⟩
      have Hk1 := Lib.hid hk1
      clear hk1
      go_wp2_with fail
      all_goals
        go_ret
        exact ⟨rfl, Hk1.out⟩
  · have h1 : n ≤ 200 := by omega
    have h2 : n' ≤ 200 := by omega
    clear hbig
    go_enter Try.func3, Try.ntmps3
    go_wp2_with fail
    refine (awake_any _).mono ?_
    rintro e w1 ⟨rfl, hk1⟩
    have Hk1 := Lib.hid hk1
    clear hk1
    go_wp2_with fail
    refine (add_any _ _ _ Ha.out Hb.out).mono ?_
    rintro e w2 ⟨rfl, hk⟩
    have Hk2 := Lib.hid (Hk1.out.then hk)
    clear hk
    go_wp2_with fail
    refine (radd_any _ _ _ Ha.out Hb.out).mono ?_
    rintro e w3 ⟨rfl, hk⟩
    have Hk3 := Lib.hid (Hk2.out.then hk)
    clear hk
    go_wp2_with fail
    refine (mul_any _ _ _ Ha.out Hb.out).mono ?_
    rintro e w4 ⟨rfl, hk⟩
    have Hk4 := Lib.hid (Hk3.out.then hk)
    clear hk
    go_wp2_with fail
    refine (rmul_all _ _ _ Ha.out Hb.out).mono ?_
    rintro e w5 ⟨rfl, hk⟩
    have Hk5 := Lib.hid (Hk4.out.then hk)
    clear hk
    go_wp2_with fail
    refine (dot_any _ _ _ _ _ _ l m _ (Hl.out.kept Hk5.out) (Hm.out.kept Hk5.out)).mono ?_
    rintro e w6 ⟨rfl, hk⟩
    have Hk6 := Lib.hid (Hk5.out.then hk)
    clear hk
    go_wp2_with fail
    refine (rdot_any _ _ _ _ _ _ l m _ (Hl.out.kept Hk6.out) (Hm.out.kept Hk6.out)).mono ?_
    rintro e w7 ⟨rfl, hk⟩
    have Hk7 := Lib.hid (Hk6.out.then hk)
    clear hk
    go_wp2_with (first
      | (go_at_call 13; refine (holds_any _ _ _ _).mono ?_; rintro e w' ⟨rfl, rfl⟩)
      | (go_at_call 14; refine (rholds_any _ _ _ _).mono ?_; rintro e w' ⟨rfl, rfl⟩))
    go_ret
    exact ⟨by simp, Hk7.out⟩
end Go.Proofs.Ythinpabeineahaa

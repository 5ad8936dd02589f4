/-
  Contracts of the package model: what a product, and variables that differ, may be; Right of these kinds.
-/
import Derived.Test.YtjmegicopdbkdaaDoorModel3
import Derived.Test.YtjmegicopdbkdaaDoorGo
set_option maxHeartbeats 1000000
set_option maxRecDepth 10000
namespace Go.Proofs.YtjmegicopdbkdaaDoor
open Go Go.RowKit Pl

def prodB (C : ConB) (V : Int) : Bool := variablesB C V 3 3 && bareB C 0 0
def diffB (C : ConB) (V : Int) : Bool := variablesB C V 2 8 && bareB C 0 0
theorem lookprod_any (K R Ct : Int) (A1 A2 A3 : Option Addr) (n1 c1 n2 c2 n3 c3 : Nat) (C : ConB) (V : Int) (w : World) (hC : ConIn w K R Ct A1 A2 A3 n1 c1 n2 c2 n3 c3 C) :
    Calls Tryd.prog 53 #[.agg #[.int .i64 K, .slice A1 n1 c1, .slice A2 n2 c2, .int .i64 R, .int .i64 Ct, .slice A3 n3 c3, .int .i64 V]] w fun e w' => e = .returned (.bool (prodB C V)) ∧ Kept w w' := by
  have HC := Lib.hid hC
  clear hC
  go_enter Tryd.func53, Tryd.ntmps53
  go_wp2_with fail
  refine (variables_any K R Ct A1 A2 A3 n1 c1 n2 c2 n3 c3 C V 3 3 _ (HC.out.kept (Kept.box _ _))).mono ?_
  rintro e w1 ⟨rfl, hk⟩
  have Hb := Lib.hid (hk.heapAt (box_look w K R Ct V A1 A2 A3 n1 c1 n2 c2 n3 c3))
  have Hk := Lib.hid ((Kept.box _ _).then hk)
  have hb0 := cell_at Hb.out 0
  have hb1 := cell_at Hb.out 1
  have hb2 := cell_at Hb.out 2
  have hb3 := cell_at Hb.out 3
  have hb4 := cell_at Hb.out 4
  have hb5 := cell_at Hb.out 5
  have hb6 := cell_at Hb.out 6
  simp only [List.getElem?_toArray, List.getElem?_cons_zero, List.getElem?_cons_succ] at hb0 hb1 hb2 hb3 hb4 hb5 hb6
  have HB : Hid (prodB C V = (variablesB C V 3 3 && bareB C 0 0)) := rfl
  clear hk
  generalize variablesB C V 3 3 = b at HB
  cases b with
  | false =>
    go_wp2_with fail
    go_ret
    exact ⟨ret_bool (by rw [HB.out]; simp), Hk.out⟩
  | true =>
    go_wp2_with fail
    refine (bare_any K R Ct A1 A2 A3 n1 c1 n2 c2 n3 c3 C V 0 0 _ (HC.out.kept Hk.out)).mono ?_
    rintro e w2 ⟨rfl, hk2⟩
    have Hk2 := Lib.hid (Hk.out.then hk2)
    clear hk2 hb0 hb1 hb2 hb3 hb4 hb5 hb6
    generalize bareB C 0 0 = d at HB
    go_wp2_with fail
    go_ret
    exact ⟨ret_bool (by rw [HB.out]; simp), Hk2.out⟩
theorem lookproduct_q {R Ct V : Int} {A1 A2 A3 : Option Addr} {n1 c1 n2 c2 n3 c3 : Nat} {C : ConB} (W : World) (h : ConIn W 2 R Ct A1 A2 A3 n1 c1 n2 c2 n3 c3 C) : Calls Tryd.prog 53 #[.agg #[.int .i64 2, .slice A1 n1 c1, .slice A2 n2 c2, .int .i64 R, .int .i64 Ct, .slice A3 n3 c3, .int .i64 V]] W fun e w' => e = .returned (.bool (prodB C V)) ∧ Kept W w' := lookprod_any 2 R Ct A1 A2 A3 n1 c1 n2 c2 n3 c3 C V W h
theorem right_prod (K R Ct : Int) (A1 A2 A3 : Option Addr) (n1 c1 n2 c2 n3 c3 : Nat) (C : ConB) (V : Int) (w : World) (hC : ConIn w K R Ct A1 A2 A3 n1 c1 n2 c2 n3 c3 C) (hK : K = 2) :
    Calls Tryd.prog 25 #[.agg #[.int .i64 K, .slice A1 n1 c1, .slice A2 n2 c2, .int .i64 R, .int .i64 Ct, .slice A3 n3 c3], .int .i64 V] w fun e w' => e = .returned (.bool (prodB C V)) ∧ Kept w w' := by
  subst hK
  have HC := Lib.hid hC
  clear hC
  go_enter Tryd.func25, Tryd.ntmps25
  go_wp2_with fail
  have HQ : Hid (∀ W, ConIn W 2 R Ct A1 A2 A3 n1 c1 n2 c2 n3 c3 C → Calls Tryd.prog 53 #[.agg #[.int .i64 2, .slice A1 n1 c1, .slice A2 n2 c2, .int .i64 R, .int .i64 Ct, .slice A3 n3 c3, .int .i64 V]] W fun e w' => e = .returned (.bool (prodB C V)) ∧ Kept W w') := fun W h => lookproduct_q W h
  generalize hb : prodB C V = b at HQ
  have HC2 := Lib.hid (HC.out.kept ((Kept.box w (.cells #[.int .i64 2, .slice A1 n1 c1, .slice A2 n2 c2, .int .i64 R, .int .i64 Ct, .slice A3 n3 c3] 24)).newBlock (.cells #[.func (.func 52) #[] #[], .func (.func 53) #[] #[], .func (.func 54) #[] #[], .func (.func 55) #[] #[], .func (.func 56) #[] #[], .func (.func 57) #[] #[]] 77)))
  refine wp_region_quiet_below (by kernel_rfl) (by kernel_rfl) ?_
  repeat (any_goals (first | go_big_quiet_step (((go_at_call 53; exact Calls.regrown_of (HQ.out _ (HC2.out.kept (below_regrown _ _ _)))))) | quiet_step (((go_at_call 53; exact Calls.regrown_of (HQ.out _ (HC2.out.kept (below_regrown _ _ _)))))) | (refine wpQuiet_step (fun K hK => ?_); go_simp; split <;> (refine hK _ ?_; clear hK K))))
  all_goals (refine wpQuiet_nil ?_; intro w1 hw'; replace hw' := Kept.regrown hw')
  have Hk := Lib.hid (((Kept.box _ _).newBlock _).then hw')
  clear hw'
  go_wp2_with fail
  go_ret
  subst hb
  exact ⟨ret_bool (by simp), Hk.out⟩


theorem lookdiff_any (K R Ct : Int) (A1 A2 A3 : Option Addr) (n1 c1 n2 c2 n3 c3 : Nat) (C : ConB) (V : Int) (w : World) (hC : ConIn w K R Ct A1 A2 A3 n1 c1 n2 c2 n3 c3 C) :
    Calls Tryd.prog 56 #[.agg #[.int .i64 K, .slice A1 n1 c1, .slice A2 n2 c2, .int .i64 R, .int .i64 Ct, .slice A3 n3 c3, .int .i64 V]] w fun e w' => e = .returned (.bool (diffB C V)) ∧ Kept w w' := by
  have HC := Lib.hid hC
  clear hC
  go_enter Tryd.func56, Tryd.ntmps56
  go_wp2_with fail
  refine (variables_any K R Ct A1 A2 A3 n1 c1 n2 c2 n3 c3 C V 2 8 _ (HC.out.kept (Kept.box _ _))).mono ?_
  rintro e w1 ⟨rfl, hk⟩
  have Hb := Lib.hid (hk.heapAt (box_look w K R Ct V A1 A2 A3 n1 c1 n2 c2 n3 c3))
  have Hk := Lib.hid ((Kept.box _ _).then hk)
  have hb0 := cell_at Hb.out 0
  have hb1 := cell_at Hb.out 1
  have hb2 := cell_at Hb.out 2
  have hb3 := cell_at Hb.out 3
  have hb4 := cell_at Hb.out 4
  have hb5 := cell_at Hb.out 5
  have hb6 := cell_at Hb.out 6
  simp only [List.getElem?_toArray, List.getElem?_cons_zero, List.getElem?_cons_succ] at hb0 hb1 hb2 hb3 hb4 hb5 hb6
  have HB : Hid (diffB C V = (variablesB C V 2 8 && bareB C 0 0)) := rfl
  clear hk
  generalize variablesB C V 2 8 = b at HB
  cases b with
  | false =>
    go_wp2_with fail
    go_ret
    exact ⟨ret_bool (by rw [HB.out]; simp), Hk.out⟩
  | true =>
    go_wp2_with fail
    refine (bare_any K R Ct A1 A2 A3 n1 c1 n2 c2 n3 c3 C V 0 0 _ (HC.out.kept Hk.out)).mono ?_
    rintro e w2 ⟨rfl, hk2⟩
    have Hk2 := Lib.hid (Hk.out.then hk2)
    clear hk2 hb0 hb1 hb2 hb3 hb4 hb5 hb6
    generalize bareB C 0 0 = d at HB
    go_wp2_with fail
    go_ret
    exact ⟨ret_bool (by rw [HB.out]; simp), Hk2.out⟩
theorem lookdiffer_q {R Ct V : Int} {A1 A2 A3 : Option Addr} {n1 c1 n2 c2 n3 c3 : Nat} {C : ConB} (W : World) (h : ConIn W 5 R Ct A1 A2 A3 n1 c1 n2 c2 n3 c3 C) : Calls Tryd.prog 56 #[.agg #[.int .i64 5, .slice A1 n1 c1, .slice A2 n2 c2, .int .i64 R, .int .i64 Ct, .slice A3 n3 c3, .int .i64 V]] W fun e w' => e = .returned (.bool (diffB C V)) ∧ Kept W w' := lookdiff_any 5 R Ct A1 A2 A3 n1 c1 n2 c2 n3 c3 C V W h
theorem right_diff (K R Ct : Int) (A1 A2 A3 : Option Addr) (n1 c1 n2 c2 n3 c3 : Nat) (C : ConB) (V : Int) (w : World) (hC : ConIn w K R Ct A1 A2 A3 n1 c1 n2 c2 n3 c3 C) (hK : K = 5) :
    Calls Tryd.prog 25 #[.agg #[.int .i64 K, .slice A1 n1 c1, .slice A2 n2 c2, .int .i64 R, .int .i64 Ct, .slice A3 n3 c3], .int .i64 V] w fun e w' => e = .returned (.bool (diffB C V)) ∧ Kept w w' := by
  subst hK
  have HC := Lib.hid hC
  clear hC
  go_enter Tryd.func25, Tryd.ntmps25
  go_wp2_with fail
  have HQ : Hid (∀ W, ConIn W 5 R Ct A1 A2 A3 n1 c1 n2 c2 n3 c3 C → Calls Tryd.prog 56 #[.agg #[.int .i64 5, .slice A1 n1 c1, .slice A2 n2 c2, .int .i64 R, .int .i64 Ct, .slice A3 n3 c3, .int .i64 V]] W fun e w' => e = .returned (.bool (diffB C V)) ∧ Kept W w') := fun W h => lookdiffer_q W h
  generalize hb : diffB C V = b at HQ
  have HC2 := Lib.hid (HC.out.kept ((Kept.box w (.cells #[.int .i64 5, .slice A1 n1 c1, .slice A2 n2 c2, .int .i64 R, .int .i64 Ct, .slice A3 n3 c3] 24)).newBlock (.cells #[.func (.func 52) #[] #[], .func (.func 53) #[] #[], .func (.func 54) #[] #[], .func (.func 55) #[] #[], .func (.func 56) #[] #[], .func (.func 57) #[] #[]] 77)))
  refine wp_region_quiet_below (by kernel_rfl) (by kernel_rfl) ?_
  repeat (any_goals (first | go_big_quiet_step (((go_at_call 56; exact Calls.regrown_of (HQ.out _ (HC2.out.kept (below_regrown _ _ _)))))) | quiet_step (((go_at_call 56; exact Calls.regrown_of (HQ.out _ (HC2.out.kept (below_regrown _ _ _)))))) | (refine wpQuiet_step (fun K hK => ?_); go_simp; split <;> (refine hK _ ?_; clear hK K))))
  all_goals (refine wpQuiet_nil ?_; intro w1 hw'; replace hw' := Kept.regrown hw')
  have Hk := Lib.hid (((Kept.box _ _).newBlock _).then hw')
  clear hw'
  go_wp2_with fail
  go_ret
  subst hb
  exact ⟨ret_bool (by simp), Hk.out⟩


theorem prodB_right {C : ConB} {V : Int} (hk : C.kind = 2) : prodB C V = rightB C V := by
  unfold rightB
  simp only [hk]
  unfold prodB variablesB bareB plainR
  simp only [hk]
  rw [Bool.eq_iff_iff]
  simp
  constructor
  · rintro ⟨⟨⟨h1, h2⟩, h3⟩, ⟨⟨⟨h4, h5⟩, h6⟩, h7⟩, h9⟩
    refine ⟨h3, ⟨⟨⟨⟨h4, h5⟩, h6⟩, h9⟩, by simp [h7]⟩, by omega, h7⟩
  · rintro ⟨h1, ⟨⟨⟨⟨h2, h3⟩, h4⟩, h5⟩, h6⟩, h7, h8⟩
    refine ⟨⟨⟨by omega, by omega⟩, h1⟩, ⟨⟨⟨h2, h3⟩, h4⟩, h8⟩, h5⟩
theorem diffB_right {C : ConB} {V : Int} (hk : C.kind = 5) : diffB C V = rightB C V := by
  unfold rightB
  simp only [hk]
  unfold diffB variablesB bareB plainR
  simp only [hk]
  rw [Bool.eq_iff_iff]
  simp
  constructor
  · rintro ⟨⟨⟨h1, h2⟩, h3⟩, ⟨⟨⟨h4, h5⟩, h6⟩, h7⟩, h9⟩
    refine ⟨h3, ⟨⟨⟨⟨h4, h5⟩, h6⟩, h9⟩, by simp [h7]⟩, ⟨by omega, by omega⟩, h7⟩
  · rintro ⟨h1, ⟨⟨⟨⟨h2, h3⟩, h4⟩, h5⟩, h6⟩, ⟨h7, h8⟩, h9⟩
    refine ⟨⟨⟨by omega, by omega⟩, h1⟩, ⟨⟨⟨h2, h3⟩, h4⟩, h9⟩, h5⟩
theorem right2_any (K R Ct : Int) (A1 A2 A3 : Option Addr) (n1 c1 n2 c2 n3 c3 : Nat) (C : ConB) (V : Int) (w : World) (hC : ConIn w K R Ct A1 A2 A3 n1 c1 n2 c2 n3 c3 C) (hK : K = 2) :
    Calls Tryd.prog 25 #[.agg #[.int .i64 K, .slice A1 n1 c1, .slice A2 n2 c2, .int .i64 R, .int .i64 Ct, .slice A3 n3 c3], .int .i64 V] w fun e w' => e = .returned (.bool (rightB C V)) ∧ Kept w w' := by
  have h := right_prod K R Ct A1 A2 A3 n1 c1 n2 c2 n3 c3 C V w hC hK
  rwa [prodB_right (hC.kind.trans hK)] at h
theorem right5_any (K R Ct : Int) (A1 A2 A3 : Option Addr) (n1 c1 n2 c2 n3 c3 : Nat) (C : ConB) (V : Int) (w : World) (hC : ConIn w K R Ct A1 A2 A3 n1 c1 n2 c2 n3 c3 C) (hK : K = 5) :
    Calls Tryd.prog 25 #[.agg #[.int .i64 K, .slice A1 n1 c1, .slice A2 n2 c2, .int .i64 R, .int .i64 Ct, .slice A3 n3 c3], .int .i64 V] w fun e w' => e = .returned (.bool (rightB C V)) ∧ Kept w w' := by
  have h := right_diff K R Ct A1 A2 A3 n1 c1 n2 c2 n3 c3 C V w hC hK
  rwa [diffB_right (hC.kind.trans hK)] at h
end Go.Proofs.YtjmegicopdbkdaaDoor

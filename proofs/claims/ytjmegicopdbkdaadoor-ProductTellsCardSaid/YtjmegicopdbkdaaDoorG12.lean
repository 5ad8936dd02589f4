/-
  Contracts and plain laws that the card rests on, part 12.
-/
import Derived.Test.YtjmegicopdbkdaaDoorG6
import Derived.Test.YtjmegicopdbkdaaDoorG7
import Derived.Test.YtjmegicopdbkdaaDoorG4
import Derived.Test.YtjmegicopdbkdaaDoorG11
import Derived.Test.YtjmegicopdbkdaaDoorG9
import Derived.Test.YtjmegicopdbkdaaDoorG5
set_option maxHeartbeats 1000000
set_option maxRecDepth 10000
namespace Go.Proofs.YtjmegicopdbkdaaDoor
open Go Go.RowKit Pl

def prodB (C : ConB) (V : Int) : Bool := variablesB C V 3 3 && bareB C 0 0
def diffB (C : ConB) (V : Int) : Bool := variablesB C V 2 8 && bareB C 0 0
theorem lookprod_any (K R Ct : Int) (A1 A2 A3 : Option Addr) (n1 c1 n2 c2 n3 c3 : Nat) (C : ConB) (V : Int) (w : World) (hC : ConIn w K R Ct A1 A2 A3 n1 c1 n2 c2 n3 c3 C) :
    Calls Tryd.prog 53 #[.agg #[.int .i64 K, .slice A1 n1 c1, .slice A2 n2 c2, .int .i64 R, .int .i64 Ct, .slice A3 n3 c3, .int .i64 V]] w fun e w' => e = .returned (.bool (prodB C V)) ∧ Kept w w' := by
  have HC := Lib.hid hC
  clear hC
  go_enter Tryd.func53, Tryd.ntmps53
  go_wp2_with fail
  refine (variables_any K R Ct A1 A2 A3 n1 c1 n2 c2 n3 c3 C V 3 3 _ (HC.out.kept (Kept.box _ _))).mono ?_
  rintro e w1 ⟨rfl, hk⟩
  have Hb := Lib.hid (hk.heapAt (box_look w K R Ct V A1 A2 A3 n1 c1 n2 c2 n3 c3))
  have Hk := Lib.hid ((Kept.box _ _).then hk)
  have hb0 := cell_at Hb.out 0
  have hb1 := cell_at Hb.out 1
  have hb2 := cell_at Hb.out 2
  have hb3 := cell_at Hb.out 3
  have hb4 := cell_at Hb.out 4
  have hb5 := cell_at Hb.out 5
  have hb6 := cell_at Hb.out 6
  simp only [List.getElem?_toArray, List.getElem?_cons_zero, List.getElem?_cons_succ] at hb0 hb1 hb2 hb3 hb4 hb5 hb6
  have HB : Hid (prodB C V = (variablesB C V 3 3 && bareB C 0 0)) := rfl
  clear hk
  generalize variablesB C V 3 3 = b at HB
  cases b with
  | false =>
    go_wp2_with fail
    go_ret
    exact ⟨ret_bool (by rw [HB.out]; simp), Hk.out⟩
  | true =>
    go_wp2_with fail
    refine (bare_any K R Ct A1 A2 A3 n1 c1 n2 c2 n3 c3 C V 0 0 _ (HC.out.kept Hk.out)).mono ?_
    rintro e w2 ⟨rfl, hk2⟩
    have Hk2 := Lib.hid (Hk.out.then hk2)
    clear hk2 hb0 hb1 hb2 hb3 hb4 hb5 hb6
    generalize bareB C 0 0 = d at HB
    go_wp2_with fail
    go_ret
    exact ⟨ret_bool (by rw [HB.out]; simp), Hk2.out⟩
theorem lookproduct_q {R Ct V : Int} {A1 A2 A3 : Option Addr} {n1 c1 n2 c2 n3 c3 : Nat} {C : ConB} (W : World) (h : ConIn W 2 R Ct A1 A2 A3 n1 c1 n2 c2 n3 c3 C) : Calls Tryd.prog 53 #[.agg #[.int .i64 2, .slice A1 n1 c1, .slice A2 n2 c2, .int .i64 R, .int .i64 Ct, .slice A3 n3 c3, .int .i64 V]] W fun e w' => e = .returned (.bool (prodB C V)) ∧ Kept W w' := lookprod_any 2 R Ct A1 A2 A3 n1 c1 n2 c2 n3 c3 C V W h
theorem right_prod (K R Ct : Int) (A1 A2 A3 : Option Addr) (n1 c1 n2 c2 n3 c3 : Nat) (C : ConB) (V : Int) (w : World) (hC : ConIn w K R Ct A1 A2 A3 n1 c1 n2 c2 n3 c3 C) (hK : K = 2) :
    Calls Tryd.prog 25 #[.agg #[.int .i64 K, .slice A1 n1 c1, .slice A2 n2 c2, .int .i64 R, .int .i64 Ct, .slice A3 n3 c3], .int .i64 V] w fun e w' => e = .returned (.bool (prodB C V)) ∧ Kept w w' := by
  subst hK
  have HC := Lib.hid hC
  clear hC
  go_enter Tryd.func25, Tryd.ntmps25
  go_wp2_with fail
  have HQ : Hid (∀ W, ConIn W 2 R Ct A1 A2 A3 n1 c1 n2 c2 n3 c3 C → Calls Tryd.prog 53 #[.agg #[.int .i64 2, .slice A1 n1 c1, .slice A2 n2 c2, .int .i64 R, .int .i64 Ct, .slice A3 n3 c3, .int .i64 V]] W fun e w' => e = .returned (.bool (prodB C V)) ∧ Kept W w') := fun W h => lookproduct_q W h
  generalize hb : prodB C V = b at HQ
  have HC2 := Lib.hid (HC.out.kept ((Kept.box w (.cells #[.int .i64 2, .slice A1 n1 c1, .slice A2 n2 c2, .int .i64 R, .int .i64 Ct, .slice A3 n3 c3] 24)).newBlock (.cells #[.func (.func 52) #[] #[], .func (.func 53) #[] #[], .func (.func 54) #[] #[], .func (.func 55) #[] #[], .func (.func 56) #[] #[], .func (.func 57) #[] #[]] 77)))
  refine wp_region_quiet_below (by kernel_rfl) (by kernel_rfl) ?_
  repeat (any_goals (first | go_big_quiet_step (((go_at_call 53; exact Calls.regrown_of (HQ.out _ (HC2.out.kept (below_regrown _ _ _)))))) | quiet_step (((go_at_call 53; exact Calls.regrown_of (HQ.out _ (HC2.out.kept (below_regrown _ _ _)))))) | (refine wpQuiet_step (fun K hK => ?_); go_simp; split <;> (refine hK _ ?_; clear hK K))))
  all_goals (refine wpQuiet_nil ?_; intro w1 hw'; replace hw' := Kept.regrown hw')
  have Hk := Lib.hid (((Kept.box _ _).newBlock _).then hw')
  clear hw'
  go_wp2_with fail
  go_ret
  subst hb
  exact ⟨ret_bool (by simp), Hk.out⟩


theorem lookdiff_any (K R Ct : Int) (A1 A2 A3 : Option Addr) (n1 c1 n2 c2 n3 c3 : Nat) (C : ConB) (V : Int) (w : World) (hC : ConIn w K R Ct A1 A2 A3 n1 c1 n2 c2 n3 c3 C) :
    Calls Tryd.prog 56 #[.agg #[.int .i64 K, .slice A1 n1 c1, .slice A2 n2 c2, .int .i64 R, .int .i64 Ct, .slice A3 n3 c3, .int .i64 V]] w fun e w' => e = .returned (.bool (diffB C V)) ∧ Kept w w' := by
  have HC := Lib.hid hC
  clear hC
  go_enter Tryd.func56, Tryd.ntmps56
  go_wp2_with fail
  refine (variables_any K R Ct A1 A2 A3 n1 c1 n2 c2 n3 c3 C V 2 8 _ (HC.out.kept (Kept.box _ _))).mono ?_
  rintro e w1 ⟨rfl, hk⟩
  have Hb := Lib.hid (hk.heapAt (box_look w K R Ct V A1 A2 A3 n1 c1 n2 c2 n3 c3))
  have Hk := Lib.hid ((Kept.box _ _).then hk)
  have hb0 := cell_at Hb.out 0
  have hb1 := cell_at Hb.out 1
  have hb2 := cell_at Hb.out 2
  have hb3 := cell_at Hb.out 3
  have hb4 := cell_at Hb.out 4
  have hb5 := cell_at Hb.out 5
  have hb6 := cell_at Hb.out 6
  simp only [List.getElem?_toArray, List.getElem?_cons_zero, List.getElem?_cons_succ] at hb0 hb1 hb2 hb3 hb4 hb5 hb6
  have HB : Hid (diffB C V = (variablesB C V 2 8 && bareB C 0 0)) := rfl
  clear hk
  generalize variablesB C V 2 8 = b at HB
  cases b with
  | false =>
    go_wp2_with fail
    go_ret
    exact ⟨ret_bool (by rw [HB.out]; simp), Hk.out⟩
  | true =>
    go_wp2_with fail
    refine (bare_any K R Ct A1 A2 A3 n1 c1 n2 c2 n3 c3 C V 0 0 _ (HC.out.kept Hk.out)).mono ?_
    rintro e w2 ⟨rfl, hk2⟩
    have Hk2 := Lib.hid (Hk.out.then hk2)
    clear hk2 hb0 hb1 hb2 hb3 hb4 hb5 hb6
    generalize bareB C 0 0 = d at HB
    go_wp2_with fail
    go_ret
    exact ⟨ret_bool (by rw [HB.out]; simp), Hk2.out⟩
theorem lookdiffer_q {R Ct V : Int} {A1 A2 A3 : Option Addr} {n1 c1 n2 c2 n3 c3 : Nat} {C : ConB} (W : World) (h : ConIn W 5 R Ct A1 A2 A3 n1 c1 n2 c2 n3 c3 C) : Calls Tryd.prog 56 #[.agg #[.int .i64 5, .slice A1 n1 c1, .slice A2 n2 c2, .int .i64 R, .int .i64 Ct, .slice A3 n3 c3, .int .i64 V]] W fun e w' => e = .returned (.bool (diffB C V)) ∧ Kept W w' := lookdiff_any 5 R Ct A1 A2 A3 n1 c1 n2 c2 n3 c3 C V W h
theorem right_diff (K R Ct : Int) (A1 A2 A3 : Option Addr) (n1 c1 n2 c2 n3 c3 : Nat) (C : ConB) (V : Int) (w : World) (hC : ConIn w K R Ct A1 A2 A3 n1 c1 n2 c2 n3 c3 C) (hK : K = 5) :
    Calls Tryd.prog 25 #[.agg #[.int .i64 K, .slice A1 n1 c1, .slice A2 n2 c2, .int .i64 R, .int .i64 Ct, .slice A3 n3 c3], .int .i64 V] w fun e w' => e = .returned (.bool (diffB C V)) ∧ Kept w w' := by
  subst hK
  have HC := Lib.hid hC
  clear hC
  go_enter Tryd.func25, Tryd.ntmps25
  go_wp2_with fail
  have HQ : Hid (∀ W, ConIn W 5 R Ct A1 A2 A3 n1 c1 n2 c2 n3 c3 C → Calls Tryd.prog 56 #[.agg #[.int .i64 5, .slice A1 n1 c1, .slice A2 n2 c2, .int .i64 R, .int .i64 Ct, .slice A3 n3 c3, .int .i64 V]] W fun e w' => e = .returned (.bool (diffB C V)) ∧ Kept W w') := fun W h => lookdiffer_q W h
  generalize hb : diffB C V = b at HQ
  have HC2 := Lib.hid (HC.out.kept ((Kept.box w (.cells #[.int .i64 5, .slice A1 n1 c1, .slice A2 n2 c2, .int .i64 R, .int .i64 Ct, .slice A3 n3 c3] 24)).newBlock (.cells #[.func (.func 52) #[] #[], .func (.func 53) #[] #[], .func (.func 54) #[] #[], .func (.func 55) #[] #[], .func (.func 56) #[] #[], .func (.func 57) #[] #[]] 77)))
  refine wp_region_quiet_below (by kernel_rfl) (by kernel_rfl) ?_
  repeat (any_goals (first | go_big_quiet_step (((go_at_call 56; exact Calls.regrown_of (HQ.out _ (HC2.out.kept (below_regrown _ _ _)))))) | quiet_step (((go_at_call 56; exact Calls.regrown_of (HQ.out _ (HC2.out.kept (below_regrown _ _ _)))))) | (refine wpQuiet_step (fun K hK => ?_); go_simp; split <;> (refine hK _ ?_; clear hK K))))
  all_goals (refine wpQuiet_nil ?_; intro w1 hw'; replace hw' := Kept.regrown hw')
  have Hk := Lib.hid (((Kept.box _ _).newBlock _).then hw')
  clear hw'
  go_wp2_with fail
  go_ret
  subst hb
  exact ⟨ret_bool (by simp), Hk.out⟩


theorem prodB_right {C : ConB} {V : Int} (hk : C.kind = 2) : prodB C V = rightB C V := by
  unfold rightB
  simp only [hk]
  unfold prodB variablesB bareB plainR
  simp only [hk]
  rw [Bool.eq_iff_iff]
  simp
  constructor
  · rintro ⟨⟨⟨h1, h2⟩, h3⟩, ⟨⟨⟨h4, h5⟩, h6⟩, h7⟩, h9⟩
    refine ⟨h3, ⟨⟨⟨⟨h4, h5⟩, h6⟩, h9⟩, by simp [h7]⟩, by omega, h7⟩
  · rintro ⟨h1, ⟨⟨⟨⟨h2, h3⟩, h4⟩, h5⟩, h6⟩, h7, h8⟩
    refine ⟨⟨⟨by omega, by omega⟩, h1⟩, ⟨⟨⟨h2, h3⟩, h4⟩, h8⟩, h5⟩
theorem diffB_right {C : ConB} {V : Int} (hk : C.kind = 5) : diffB C V = rightB C V := by
  unfold rightB
  simp only [hk]
  unfold diffB variablesB bareB plainR
  simp only [hk]
  rw [Bool.eq_iff_iff]
  simp
  constructor
  · rintro ⟨⟨⟨h1, h2⟩, h3⟩, ⟨⟨⟨h4, h5⟩, h6⟩, h7⟩, h9⟩
    refine ⟨h3, ⟨⟨⟨⟨h4, h5⟩, h6⟩, h9⟩, by simp [h7]⟩, ⟨by omega, by omega⟩, h7⟩
  · rintro ⟨h1, ⟨⟨⟨⟨h2, h3⟩, h4⟩, h5⟩, h6⟩, ⟨h7, h8⟩, h9⟩
    refine ⟨⟨⟨by omega, by omega⟩, h1⟩, ⟨⟨⟨h2, h3⟩, h4⟩, h9⟩, h5⟩
theorem right2_any (K R Ct : Int) (A1 A2 A3 : Option Addr) (n1 c1 n2 c2 n3 c3 : Nat) (C : ConB) (V : Int) (w : World) (hC : ConIn w K R Ct A1 A2 A3 n1 c1 n2 c2 n3 c3 C) (hK : K = 2) :
    Calls Tryd.prog 25 #[.agg #[.int .i64 K, .slice A1 n1 c1, .slice A2 n2 c2, .int .i64 R, .int .i64 Ct, .slice A3 n3 c3], .int .i64 V] w fun e w' => e = .returned (.bool (rightB C V)) ∧ Kept w w' := by
  have h := right_prod K R Ct A1 A2 A3 n1 c1 n2 c2 n3 c3 C V w hC hK
  rwa [prodB_right (hC.kind.trans hK)] at h
theorem right5_any (K R Ct : Int) (A1 A2 A3 : Option Addr) (n1 c1 n2 c2 n3 c3 : Nat) (C : ConB) (V : Int) (w : World) (hC : ConIn w K R Ct A1 A2 A3 n1 c1 n2 c2 n3 c3 C) (hK : K = 5) :
    Calls Tryd.prog 25 #[.agg #[.int .i64 K, .slice A1 n1 c1, .slice A2 n2 c2, .int .i64 R, .int .i64 Ct, .slice A3 n3 c3], .int .i64 V] w fun e w' => e = .returned (.bool (rightB C V)) ∧ Kept w w' := by
  have h := right_diff K R Ct A1 A2 A3 n1 c1 n2 c2 n3 c3 C V w hC hK
  rwa [diffB_right (hC.kind.trans hK)] at h
end Go.Proofs.YtjmegicopdbkdaaDoor

set_option maxHeartbeats 1000000
namespace Go.Proofs.YtjmegicopdbkdaaDoor
open Go Go.RowKit Pl

/-- What a step hands back. -/
def StepPost (r : Option (List DomB)) (w : World) (e : Ending) (w' : World) : Prop :=
  match r with
  | Option.none => e = .returned (.tuple #[.slice Option.none 0 0, .int .i64 1]) ∧ Kept w w'
  | some ds => ∃ A c, e = .returned (.tuple #[.slice A ds.length c, .int .i64 0]) ∧ Doms w' A ds.length ds ∧ Kept w w'

theorem info_dom : (Tryd.prog.info? 47).map (fun i => (i.zero, i.size, i.bytes)) = some (some (.agg #[.slice Option.none 0 0, .int .u64 0]), 2, 32) := by kernel_rfl
end Go.Proofs.YtjmegicopdbkdaaDoor

set_option maxHeartbeats 4000000
set_option maxRecDepth 10000
namespace Go.Proofs.YtjmegicopdbkdaaDoor
open Go Go.RowKit Go.Maps Pl

/-- The numbers that are marked at a place. -/
def keysOf (P : List (Int × Int)) (j : Nat) : List Int := if j = 0 then P.map (·.1) else if j = 1 then P.map (·.2) else P.map fun p => p.1 * p.2
theorem keys_contains {X Y Z : List Int} {j n : Nat} (hj : j < 3) (hn : X.length = n) (x : Int) : (keysOf (pairsU X Y Z n) j).contains x = prodL X Y Z j x := by
  rw [Bool.eq_iff_iff, List.contains_iff_mem, prodL_iff hj]
  have hm : ∀ p, p ∈ pairsU X Y Z n ↔ p.1 ∈ X ∧ p.2 ∈ Y ∧ p.1 * p.2 ∈ Z := fun p => by
    rw [mem_pairsU (by omega), List.take_of_length_le (by omega)]
  have h3 : j = 0 ∨ j = 1 ∨ j = 2 := by omega
  unfold keysOf
  rcases h3 with rfl | rfl | rfl
  · rw [if_pos rfl, List.mem_map]
    constructor
    · rintro ⟨p, hp, rfl⟩
      obtain ⟨h1, h2, h3⟩ := (hm p).1 hp
      exact ⟨p.1, p.2, _, h1, h2, h3, rfl, rfl⟩
    · rintro ⟨a, b, c, h1, h2, h3, e, e2⟩
      exact ⟨(a, b), (hm _).2 ⟨h1, h2, by rw [e]; exact h3⟩, e2⟩
  · rw [if_neg (by decide), if_pos rfl, List.mem_map]
    constructor
    · rintro ⟨p, hp, rfl⟩
      obtain ⟨h1, h2, h3⟩ := (hm p).1 hp
      exact ⟨p.1, p.2, _, h1, h2, h3, rfl, rfl⟩
    · rintro ⟨a, b, c, h1, h2, h3, e, e2⟩
      exact ⟨(a, b), (hm _).2 ⟨h1, h2, by rw [e]; exact h3⟩, e2⟩
  · rw [if_neg (by decide), if_neg (by decide), List.mem_map]
    constructor
    · rintro ⟨p, hp, rfl⟩
      obtain ⟨h1, h2, h3⟩ := (hm p).1 hp
      exact ⟨p.1, p.2, _, h1, h2, h3, rfl, rfl⟩
    · rintro ⟨a, b, c, h1, h2, h3, e, e2⟩
      exact ⟨(a, b), (hm _).2 ⟨h1, h2, by rw [e]; exact h3⟩, e.trans e2⟩

/-- The array of the three maps stands there. -/
def KeepsAt (wr : World) (Kb nM : Nat) (PP : List (Int × Int)) (W : World) : Prop :=
  Kept wr W ∧ wr.heap.size ≤ Kb ∧ Kb < W.heap.size ∧ ∀ j, j < 3 → ∃ Mj, W.cell? ⟨Kb, j, Option.none⟩ = some (.map (some Mj)) ∧ wr.heap.size ≤ Mj ∧ Marks W Mj nM (keysOf PP j)
theorem Marks.at {w : World} {M n : Nat} {K : List Int} (h : Marks w M n K) : ∃ es cl, w.heap[M]? = some (.map es cl) := by
  obtain ⟨D, ⟨es, clock, hb, F, hs, hD⟩, hx⟩ := h
  exact ⟨_, _, hb⟩
theorem keepsAt_heap {wr W : World} {Kb M0 M1 M2 nM : Nat} {PP : List (Int × Int)} (hk : Kept wr W) (hKb : wr.heap.size ≤ Kb) (hm : Keeps W M0 M1 M2 nM PP) (h0 : wr.heap.size ≤ M0) (h1 : wr.heap.size ≤ M1) (h2 : wr.heap.size ≤ M2)
    (hb : W.heap[Kb]? = some (.cells #[.map (some M0), .map (some M1), .map (some M2)] 54)) : KeepsAt wr Kb nM PP W := by
  refine ⟨hk, hKb, lt_at hb, fun j hj => ?_⟩
  have h3 : j = 0 ∨ j = 1 ∨ j = 2 := by omega
  rcases h3 with rfl | rfl | rfl
  · exact ⟨M0, by rw [cell_at hb]; rfl, h0, hm.1⟩
  · exact ⟨M1, by rw [cell_at hb]; rfl, h1, hm.2.1⟩
  · exact ⟨M2, by rw [cell_at hb]; rfl, h2, hm.2.2⟩
theorem keepsAt_set {wr W : World} {Kb M0 M1 M2 nM : Nat} {PP : List (Int × Int)} {x0 x1 x2 : Value} (hk : Kept wr W) (hKb : wr.heap.size ≤ Kb) (hm : Keeps W M0 M1 M2 nM PP) (h0 : wr.heap.size ≤ M0) (h1 : wr.heap.size ≤ M1) (h2 : wr.heap.size ≤ M2)
    (hb : W.heap[Kb]? = some (.cells #[x0, x1, x2] 54)) : KeepsAt wr Kb nM PP (((W.setCell ⟨Kb, 0, Option.none⟩ (.map (some M0))).setCell ⟨Kb, 1, Option.none⟩ (.map (some M1))).setCell ⟨Kb, 2, Option.none⟩ (.map (some M2))) := by
  have hB : KeptBut Kb W (((W.setCell ⟨Kb, 0, Option.none⟩ (.map (some M0))).setCell ⟨Kb, 1, Option.none⟩ (.map (some M1))).setCell ⟨Kb, 2, Option.none⟩ (.map (some M2))) :=
    ((KeptBut.set _ (a := ⟨Kb, 0, Option.none⟩) rfl _).then (KeptBut.set _ (a := ⟨Kb, 1, Option.none⟩) rfl _)).then (KeptBut.set _ (a := ⟨Kb, 2, Option.none⟩) rfl _)
  have hne : ∀ {M K}, Marks W M nM K → M ≠ Kb := fun h e => by
    obtain ⟨es, cl, hh⟩ := h.at
    rw [e, hb] at hh
    cases hh
  refine keepsAt_heap (M0 := M0) (M1 := M1) (M2 := M2) (((KeptBut.of hk Kb).then hB).kept hKb) hKb ⟨hm.1.but hB (hne hm.1), hm.2.1.but hB (hne hm.2.1), hm.2.2.but hB (hne hm.2.2)⟩ h0 h1 h2 ?_
  have e0 : (W.setCell ⟨Kb, 0, Option.none⟩ (.map (some M0))).heap[Kb]? = some (.cells #[.map (some M0), x1, x2] 54 (0, 0)) := by rw [heap_setCell_same W Kb 0 _ _ _ hb]; rfl
  have e1 : ((W.setCell ⟨Kb, 0, Option.none⟩ (.map (some M0))).setCell ⟨Kb, 1, Option.none⟩ (.map (some M1))).heap[Kb]? = some (.cells #[.map (some M0), .map (some M1), x2] 54 (0, 0)) := by rw [heap_setCell_same _ Kb 1 _ _ _ e0]; rfl
  rw [heap_setCell_same _ Kb 2 _ _ _ e1]; rfl

theorem prodstep_any (K R Ct : Int) (A1 A2 A3 : Option Addr) (n1 c1 n2 c2 n3 c3 : Nat) (C : ConB) (A : Option Addr) (n c : Nat) (ds : List DomB) (w : World) (hC : ConIn w K R Ct A1 A2 A3 n1 c1 n2 c2 n3 c3 C) (hS : Doms w A n ds) (hT : Tab w) (hn : n ≤ 1000) :
    Calls Tryd.prog 13 #[.agg #[.int .i64 K, .slice A1 n1 c1, .slice A2 n2 c2, .int .i64 R, .int .i64 Ct, .slice A3 n3 c3], .slice A n c] w (StepPost (if goK 2 C ds = true then some (stepB (varsKp C.vars (prodG C ds) C.vars.length) ds) else Option.none) w) := by
  have HC := Lib.hid hC
  have HS := Lib.hid hS
  have HT := Lib.hid hT
  have Hlen := Lib.hid hS.len
  have hKk := hC.kind
  clear hC hS hT
  by_cases g1 : ¬ K = 2
  · have hd : (K != 2) = true := by simpa using g1
    have hgo : goK 2 C ds = false := by unfold goK; rw [hKk]; simp [g1]
    rw [hgo]
    go_enter Tryd.func13, Tryd.ntmps13
    go_wp2_with fail
    go_ret2
    exact ⟨rfl, Kept.box _ _⟩
  have g1 := Classical.not_not.1 g1
  subst g1
  have HR : Hid (∀ W, ConIn W 2 R Ct A1 A2 A3 n1 c1 n2 c2 n3 c3 C → Calls Tryd.prog 25 #[.agg #[.int .i64 2, .slice A1 n1 c1, .slice A2 n2 c2, .int .i64 R, .int .i64 Ct, .slice A3 n3 c3], .int .i64 n] W fun e w' => e = .returned (.bool (rightB C n)) ∧ Kept W w') := fun W hW => right2_any 2 R Ct A1 A2 A3 n1 c1 n2 c2 n3 c3 C n W hW rfl
  have HA : Hid (∀ W, Doms W A n ds → Calls Tryd.prog 26 #[.slice A n c, .func (.func 27) #[] #[]] W fun e w' => e = .returned (.bool (!allMay ds)) ∧ Kept W w') := fun W hW => prod_contains_any A n c ds W hW
  have Hgo : Hid (goK 2 C ds = (rightB C n && allMay ds)) := by
    show _ = _
    unfold goK; rw [hKk, Hlen.out]; simp
  generalize hb1 : rightB C n = b1 at HR Hgo
  generalize hb2 : allMay ds = b2 at HA Hgo
  have Hb1 := Lib.hid hb1
  have Hb2 := Lib.hid hb2
  have Hkk := Lib.hid hKk
  clear hb1 hb2 hKk
  rw [Hgo.out]
  clear Hgo
  cases b1 with
  | false =>
    go_enter Tryd.func13, Tryd.ntmps13
    go_wp2_with fail
    refine (HR.out _ (HC.out.kept (Kept.box _ _))).mono ?_
    rintro e w1 ⟨rfl, hk⟩
    have Hk := Lib.hid ((Kept.box _ _).then hk)
    clear hk
    go_wp2_with fail
    go_ret2
    exact ⟨rfl, Hk.out⟩
  | true =>
    cases b2 with
    | false =>
      go_enter Tryd.func13, Tryd.ntmps13
      go_wp2_with fail
      refine (HR.out _ (HC.out.kept (Kept.box _ _))).mono ?_
      rintro e w1 ⟨rfl, hk⟩
      have Hk := Lib.hid ((Kept.box _ _).then hk)
      clear hk
      go_wp2_with fail
      refine (HA.out _ (HS.out.kept Hk.out)).mono ?_
      rintro e w2 ⟨rfl, hk⟩
      have Hk2 := Lib.hid (Hk.out.then hk)
      clear hk
      go_wp2_with fail
      go_ret2
      exact ⟨rfl, Hk2.out⟩
    | true =>
      go_enter Tryd.func13, Tryd.ntmps13
      go_wp2_with fail
      refine (HR.out _ (HC.out.kept (Kept.box _ _))).mono ?_
      rintro e w1 ⟨rfl, hk⟩
      have Hcon := Lib.hid (hk.heapAt (heap_new w _))
      have Hk := Lib.hid ((Kept.box _ _).then hk)
      clear hk
      go_wp2_with fail
      refine (HA.out _ (HS.out.kept Hk.out)).mono ?_
      rintro e w2 ⟨rfl, hk⟩
      have Hcon2 := Lib.hid (hk.heapAt Hcon.out)
      have Hk2 := Lib.hid (Hk.out.then hk)
      clear hk
      go_wp2_with fail
      go_loopw [6, 31] (fun u v wr => ∃ k : Nat, k ≤ n ∧ v = .int .i64 k ∧ Hid (OwnD wr w2.heap.size u (ds.take k)) ∧ Hid (Kept w2 wr)) (fun _ v _ => n - (intOf v).toNat)
      case atStart => exact ⟨0, Nat.zero_le _, rfl, OwnD.nil _ _, Kept.same _⟩
      case round =>
        obtain ⟨k, hk, rfl, HO, Hkw⟩ := hrel
        by_cases hlt : k < n
        · have hSr := HS.out.kept (Hk2.out.then Hkw.out)
          obtain ⟨a, rfl, hblk⟩ := hSr.addr (by omega)
          obtain ⟨xs, L, B, m, cB, Hd, hc1, hc2, HI, hL⟩ := hSr.named k hlt
          have Hmay : Hid (mayB xs L = true) := by
            have := allMay_at Hb2.out (show k < ds.length by have := Hlen.out; omega)
            have h2 := Hd.out
            unfold nilD at h2
            rw [h2] at this
            exact this
          have hm64 : m ≤ 100000 := by have := mayB_len Hmay.out; have := HI.out.len; omega
          obtain ⟨vs, hown, hd⟩ := HO.out
          have hkl : (ds.take k).length = k := by rw [List.length_take]; have := Hlen.out; omega
          rw [hkl] at hown hd
          have Hown := Lib.hid hown
          have Hdd := Lib.hid hd
          have Hul : Hid (∀ i, u6.ownBlock = some i → w2.heap.size ≤ i ∧ i < wr.heap.size) := hown.lt
          have hszr := Hkw.out.size
          obtain ⟨i0, hi, hz0, hz1, hz2⟩ := info_parts info_dom
          clear hSr hown hd
          go_wp2_with fail
          have hlow : wr.heap.size < (wr.alloc (.cells #[.slice B m cB, .int .u64 L] 47)).heap.size := by simp
          go_region_held3 (fun W => W.cell? ⟨wr.heap.size, 0, none⟩ = some (.slice B m cB) ∧ W.cell? ⟨wr.heap.size, 1, none⟩ = some (.int .u64 L)) (first | go_keep | (exact ⟨hkC.cellAt (box2_0 _ _ _ _), hkC.cellAt (box2_1 _ _ _ _)⟩) | (exact ⟨hgrow.cell ((Kept.box _ _).cellAt (hkC.cellAt (box2_0 _ _ _ _))) (fun e => by have := Hul.out _ e.symm; simp at this), hgrow.cell ((Kept.box _ _).cellAt (hkC.cellAt (box2_1 _ _ _ _))) (fun e => by have := Hul.out _ e.symm; simp at this)⟩))
            (first
              | (go_at_call 29; refine (clone_any B m cB xs _ (HI.out.kept ((Kept.box _ _).then (Kept.drewn _))) hm64).mono ?_; rintro e wC ⟨B', c', rfl, hIB, hkC, hfB⟩)
              | (refine step_append_lies _ (by rfl) _ _ _ (by rfl) w2.heap.size 47 i0 _ 2 32 Tryd.underlying25 hi hz0 hz1 hz2 rfl (by omega) u6 k vs (by rfl) (own_kept Hown.out ((((Kept.box _ _).then (Kept.drewn _)).then hkC).newBlock _)) ⟨wC.heap.size, 0, none⟩ 1 1 [.slice B' m c', .int .u64 L] (by rfl) (by rfl) (World.news_of_block (cs := #[.slice B' m c', .int .u64 L]) (t := 47) (fr := (0, 0)) (heap_alloc_new wC _)) (by simp [Value.oneCell']) (by omega) (by unfold maxLen; omega) (by omega) (by have := hkC.size; simp at this ⊢; omega) (wC.heap.size + 1) (by simp) ?_; intro gg cap w3 hown3 hgrow hat hlt3))
          go_wp2
          go_roundw
          case rel =>
            refine ⟨k + 1, by omega, by go_num, ?_, ?_⟩
            · show OwnD w3 _ _ _
              rw [take_dom (by have := Hlen.out; omega) Hd.out]
              have hk2 := ((Kept.box wr (.cells #[.slice B m cB, .int .u64 L] 47)).then (Kept.drewn _)).then hkC
              have := OwnD.snoc (ds := ds.take k) (d := (xs, L)) (w1 := wC.alloc (.cells #[.slice B' m c', .int .u64 L] 47)) (B := B') (m := m) (c := c') (by rw [hkl]; exact own_kept Hown.out (hk2.newBlock _)) ?_ (hIB.kept (Kept.box _ _)) ?_ hL (by rw [hkl]; exact hown3) hgrow ?_
              · rw [hkl] at this; exact this
              · rw [hkl]
                intro j hj
                obtain ⟨hl, B1, m1, c1', e1, e2, e3, e4⟩ := Hdd.out j hj
                exact ⟨hl, B1, m1, c1', e1, e2, e3.kept (hk2.newBlock _), e4⟩
              · intro _ a' ha'
                have h5 := hfB a' ha'
                have h6 : wr.heap.size + 1 ≤ a'.block := by simpa using h5
                exact fun e => by have := Hul.out _ e; omega
              · rcases hat with h | h
                · exact Or.inl h
                · exact Or.inr (by rw [h]; simp)
            · show Kept w2 w3
              have hk2 := ((Kept.box wr (.cells #[.slice B m cB, .int .u64 L] 47)).then (Kept.drewn _)).then hkC
              exact (Hkw.out.then (hk2.newBlock _)).grown hgrow (by have := Hkw.out.size; have := hkC.size; simp at this ⊢; omega) (fun i hi => (Hul.out i hi).1)
          case measure => simp [intOf]; omega
        · have e : k = n := by omega
          subst e
          have HOn : Hid (OwnD wr w2.heap.size u6 ds) := by
            have := HO.out
            rwa [List.take_of_length_le (by have := Hlen.out; omega)] at this
          clear HO HA HR
          have hvl3 := product_parts Hkk.out Hb1.out
          have Hvo := Lib.hid (rightB_vars Hb1.out)
          have Hvl := Lib.hid HC.out.vars.len
          have Hvl3 := Lib.hid hvl3
          have hn13 : n1 = 3 := by have := Hvl.out; omega
          subst hn13
          have HKr := Lib.hid (Hk2.out.then Hkw.out)
          have hrng : ∀ i, i < 3 → ∃ p : Nat, C.vars.getD i 0 = (p : Nat) ∧ p < k := fun i hi => by
            obtain ⟨h1, h2⟩ := varsOk_rng Hvo.out (i := i) (by omega)
            obtain ⟨p, hp⟩ := Int.eq_ofNat_of_zero_le h1
            exact ⟨p, hp, by omega⟩
          obtain ⟨p0, hp0, hp0k⟩ := hrng 0 (by omega)
          obtain ⟨p1, hp1, hp1k⟩ := hrng 1 (by omega)
          obtain ⟨p2, hp2, hp2k⟩ := hrng 2 (by omega)
          have Hp0 := Lib.hid hp0
          have Hp1 := Lib.hid hp1
          have Hp2 := Lib.hid hp2
          have hkp : 0 < k := by omega
          obtain ⟨A6, c6, rfl⟩ := HOn.out.parts
          obtain ⟨vs, hown, _⟩ := HOn.out
          obtain ⟨g, cap, hg, hgb, hglr⟩ := hown.form (by have := Hlen.out; omega)
          cases hg
          rw [Hlen.out] at HOn ⊢
          obtain ⟨bv, ov, rfl, hcv0⟩ := (HC.out.vars.kept HKr.out).plain (by omega)
          obtain ⟨a, rfl, hba⟩ := HS.out.addr hkp
          have hv0 := hcv0 0 (by omega)
          have hv1 := hcv0 1 (by omega)
          have hv2 := hcv0 2 (by omega)
          rw [hp0] at hv0
          rw [hp1] at hv1
          rw [hp2] at hv2
          simp only [Nat.add_zero] at hv0
          obtain ⟨xs0, L0, B0, m0, cB0, Hd0, hc00, hc01, HI0, hL0⟩ := (HS.out.kept HKr.out).named p0 hp0k
          obtain ⟨xs1, L1, B1, m1, cB1, Hd1, hc10, hc11, HI1, hL1⟩ := (HS.out.kept HKr.out).named p1 hp1k
          obtain ⟨xs2, L2, B2, m2, cB2, Hd2, hc20, hc21, HI2, hL2⟩ := (HS.out.kept HKr.out).named p2 hp2k
          have HTr := Lib.hid (HT.out.kept HKr.out)
          have HL0 : Hid (∀ W, Kept wr W → Calls Tryd.prog 31 #[.agg #[.slice B0 m0 cB0, .int .u64 L0]] W (ListPost (listB xs0 L0) W)) := fun W hW => dlist_any B0 m0 cB0 L0 xs0 W (HI0.out.kept hW) hL0 (HTr.out.kept hW)
          have HL1 : Hid (∀ W, Kept wr W → Calls Tryd.prog 31 #[.agg #[.slice B1 m1 cB1, .int .u64 L1]] W (ListPost (listB xs1 L1) W)) := fun W hW => dlist_any B1 m1 cB1 L1 xs1 W (HI1.out.kept hW) hL1 (HTr.out.kept hW)
          have HL2 : Hid (∀ W, Kept wr W → Calls Tryd.prog 31 #[.agg #[.slice B2 m2 cB2, .int .u64 L2]] W (ListPost (listB xs2 L2) W)) := fun W hW => dlist_any B2 m2 cB2 L2 xs2 W (HI2.out.kept hW) hL2 (HTr.out.kept hW)
          obtain ⟨G, hG⟩ : ∃ G : Nat → Int → Bool, G = prodG C ds := ⟨_, rfl⟩
          have HG : Hid (∀ j x, j < 3 → (keysOf (pairsU (listB xs0 L0) (listB xs1 L1) (listB xs2 L2) (listB xs0 L0).length) j).contains x = G j x) := fun j x hj => by
            rw [keys_contains hj rfl, hG]
            unfold prodG leftOf
            rw [hp0, hp1, hp2, Int.toNat_natCast, Int.toNat_natCast, Int.toNat_natCast, Hd0.out, Hd1.out, Hd2.out]
          have HGe := Lib.hid hG
          have HTry : Hid (∀ W A0 A1' A2' d0 d1 d2, Ints W A0 (listB xs0 L0).length (listB xs0 L0) → Ints W A1' (listB xs1 L1).length (listB xs1 L1) → Ints W A2' (listB xs2 L2).length (listB xs2 L2) →
              Calls Tryd.prog 30 #[.slice A0 (listB xs0 L0).length d0, .slice A1' (listB xs1 L1).length d1, .slice A2' (listB xs2 L2).length d2] W (TryPost (pairsU (listB xs0 L0) (listB xs1 L1) (listB xs2 L2) (listB xs0 L0).length) W)) := fun W A0 A1' A2' d0 d1 d2 h0 h1 h2 =>
            try_any A0 A1' A2' _ _ _ d0 d1 d2 _ _ _ W h0 h1 h2 (listB_length _ _) (listB_length _ _) (listB_length _ _) (listB_rng _ _) (listB_rng _ _) ((listB_sorted _ _).imp (fun h => by omega))
          generalize listB xs0 L0 = l0 at *
          generalize listB xs1 L1 = l1 at *
          generalize listB xs2 L2 = l2 at *
          obtain ⟨PP, hPP⟩ : ∃ PP, PP = pairsU l0 l1 l2 l0.length := ⟨_, rfl⟩
          rw [← hPP] at HTry HG
          have HSf : Hid (∀ W, Kept wr W → W.cell? ⟨bv, ov, Option.none⟩ = some (.int .i64 p0) ∧ W.cell? ⟨bv, ov + 1, Option.none⟩ = some (.int .i64 p1) ∧ W.cell? ⟨bv, ov + 2, Option.none⟩ = some (.int .i64 p2)
              ∧ W.cell? (a.add (p0 * 2)) = some (.slice B0 m0 cB0) ∧ W.cell? ⟨a.block, (a.add (p0 * 2)).off + 1, Option.none⟩ = some (.int .u64 L0)
              ∧ W.cell? (a.add (p1 * 2)) = some (.slice B1 m1 cB1) ∧ W.cell? ⟨a.block, (a.add (p1 * 2)).off + 1, Option.none⟩ = some (.int .u64 L1)
              ∧ W.cell? (a.add (p2 * 2)) = some (.slice B2 m2 cB2) ∧ W.cell? ⟨a.block, (a.add (p2 * 2)).off + 1, Option.none⟩ = some (.int .u64 L2)) := fun W hW =>
            ⟨hW.cellAt hv0, hW.cellAt hv1, hW.cellAt hv2, hW.cellAt hc00, hW.cellAt hc01, hW.cellAt hc10, hW.cellAt hc11, hW.cellAt hc20, hW.cellAt hc21⟩
          have HSs : Hid (∀ (W : World) (Kb : Nat) (x0 x1 x2 : Value), Kept wr W → wr.heap.size ≤ Kb → ∀ W', W' = (((W.setCell ⟨Kb, 0, Option.none⟩ x0).setCell ⟨Kb, 1, Option.none⟩ x1).setCell ⟨Kb, 2, Option.none⟩ x2) → W'.cell? ⟨bv, ov, Option.none⟩ = some (.int .i64 p0) ∧ W'.cell? ⟨bv, ov + 1, Option.none⟩ = some (.int .i64 p1) ∧ W'.cell? ⟨bv, ov + 2, Option.none⟩ = some (.int .i64 p2)
              ∧ W'.cell? (a.add (p0 * 2)) = some (.slice B0 m0 cB0) ∧ W'.cell? ⟨a.block, (a.add (p0 * 2)).off + 1, Option.none⟩ = some (.int .u64 L0)
              ∧ W'.cell? (a.add (p1 * 2)) = some (.slice B1 m1 cB1) ∧ W'.cell? ⟨a.block, (a.add (p1 * 2)).off + 1, Option.none⟩ = some (.int .u64 L1)
              ∧ W'.cell? (a.add (p2 * 2)) = some (.slice B2 m2 cB2) ∧ W'.cell? ⟨a.block, (a.add (p2 * 2)).off + 1, Option.none⟩ = some (.int .u64 L2)) := fun W Kb x0 x1 x2 hW hKb W' e => by
            subst e
            exact
            HSf.out _ ((((KeptBut.of hW Kb).then (((KeptBut.set _ (a := ⟨Kb, 0, Option.none⟩) rfl _).then (KeptBut.set _ (a := ⟨Kb, 1, Option.none⟩) rfl _)).then (KeptBut.set _ (a := ⟨Kb, 2, Option.none⟩) rfl _)))).kept hKb)
          have hb := Hkw.out.heapAt Hcon2.out
          have b0 := cell_at hb 0
          have b1 := cell_at hb 1
          have b2 := cell_at hb 2
          have b3 := cell_at hb 3
          have b4 := cell_at hb 4
          have b5 := cell_at hb 5
          simp only [List.getElem?_toArray, List.getElem?_cons_zero, List.getElem?_cons_succ] at b0 b1 b2 b3 b4 b5
          clear hb
          clear hown hG hrng hcv0 hp0 hp1 hp2 hvl3 hPP
          go_upto_region 10 with fail
          clear hv0 hv1 hv2 hc00 hc01 hc10 hc11 hc20 hc21 b0 b1 b2 b3 b4 b5
          go_cut [10] (fun s10 wx => ∃ Kb nM : Nat, s10 = .pointer (some ⟨Kb, 0, Option.none⟩) ∧ Hid (KeepsAt wr Kb nM PP wx))
          case first =>
            go_region_held3 (fun W => W.cell? ⟨bv, ov, Option.none⟩ = some (.int .i64 p0) ∧ W.cell? ⟨bv, ov + 1, Option.none⟩ = some (.int .i64 p1) ∧ W.cell? ⟨bv, ov + 2, Option.none⟩ = some (.int .i64 p2)
                ∧ W.cell? (a.add (p0 * 2)) = some (.slice B0 m0 cB0) ∧ W.cell? ⟨a.block, (a.add (p0 * 2)).off + 1, Option.none⟩ = some (.int .u64 L0)
                ∧ W.cell? (a.add (p1 * 2)) = some (.slice B1 m1 cB1) ∧ W.cell? ⟨a.block, (a.add (p1 * 2)).off + 1, Option.none⟩ = some (.int .u64 L1)
                ∧ W.cell? (a.add (p2 * 2)) = some (.slice B2 m2 cB2) ∧ W.cell? ⟨a.block, (a.add (p2 * 2)).off + 1, Option.none⟩ = some (.int .u64 L2))
              (first
                | with_reducible exact HSf.out _ (HkD.out.newBlock _)
                | with_reducible exact HSf.out _ HkD.out
                | with_reducible exact HSf.out _ (HkC.out.newBlock _)
                | with_reducible exact HSf.out _ HkC.out
                | with_reducible exact HSf.out _ (HkB.out.newBlock _)
                | with_reducible exact HSf.out _ HkB.out
                | with_reducible exact HSf.out _ (HkA.out.newBlock _)
                | with_reducible exact HSf.out _ HkA.out
                | with_reducible exact HSf.out _ ((Kept.drewn _).newBlock _)
                | with_reducible exact HSf.out _ ((Kept.box _ _).then (Kept.drewn _))
                | with_reducible exact HSf.out _ (Kept.drewn _)
                | with_reducible exact HSs.out _ _ _ _ _ HkD.out (by first | exact Nat.le_refl _ | omega) _ rfl
                | with_reducible exact HSs.out _ _ _ _ _ (HkD.out.newBlock _) (by first | exact Nat.le_refl _ | omega) _ rfl)
              (first
                | (go_at_call 30; refine (HTry.out _ AA0 BB0 CC0 _ _ _ (by first | with_reducible exact hIA.kept (HAB.out.then HBC.out) | with_reducible exact (hIA.kept (HAB.out.then HBC.out)).kept (Kept.box _ _)) (by first | with_reducible exact hIB.kept HBC.out | with_reducible exact (hIB.kept HBC.out).kept (Kept.box _ _)) (by first | with_reducible exact hIC | with_reducible exact hIC.kept (Kept.box _ _))).mono ?_; rintro e WD ⟨M0, M1, M2, nM, rfl, hKp, hM0, hM1, hM2, hkD⟩; (first | (have HCD : Hid (Kept WC WD) := Lib.hid (by with_reducible exact hkD)) | (have HCD : Hid (Kept WC WD) := Lib.hid (by with_reducible exact (Kept.box _ _).then hkD); have HbK := Lib.hid (hkD.heapAt (heap_new WC _)))); (first | (have HbK := Lib.hid (HCD.out.heapAt HbK.out)) | skip); have HkD : Hid (Kept wr WD) := HkC.out.then HCD.out; have hsD := HCD.out.size; (first | (have q0 := cell_at HbK.out 0; have q1 := cell_at HbK.out 1; have q2 := cell_at HbK.out 2; have f0 := frozen_at HbK.out 0; have f1 := frozen_at HbK.out 1; have f2 := frozen_at HbK.out 2; have hlK := lt_at HbK.out; simp only [List.getElem?_toArray, List.getElem?_cons_zero, List.getElem?_cons_succ] at q0 q1 q2) | skip))
                | (go_at_call 31; refine (HL2.out _ (by first | with_reducible exact HkB.out | with_reducible exact HkB.out.newBlock _)).mono ?_; rintro e WC ⟨CC0, dC, rfl, hIC, hkC, _⟩; (first | (have HBC : Hid (Kept WB WC) := Lib.hid (by with_reducible exact hkC)) | (have HBC : Hid (Kept WB WC) := Lib.hid (by with_reducible exact (Kept.box _ _).then hkC); have HbK := Lib.hid (hkC.heapAt (heap_new WB _)))); (first | (have HbK := Lib.hid (HBC.out.heapAt HbK.out)) | skip); have HkC : Hid (Kept wr WC) := HkB.out.then HBC.out; have hsC := HBC.out.size)
                | (go_at_call 31; refine (HL1.out _ (by first | with_reducible exact HkA.out | with_reducible exact HkA.out.newBlock _)).mono ?_; rintro e WB ⟨BB0, dB, rfl, hIB, hkB, _⟩; (first | (have HAB : Hid (Kept WA WB) := Lib.hid (by with_reducible exact hkB)) | (have HAB : Hid (Kept WA WB) := Lib.hid (by with_reducible exact (Kept.box _ _).then hkB); have HbK := Lib.hid (hkB.heapAt (heap_new WA _)))); (first | (have HbK := Lib.hid (HAB.out.heapAt HbK.out)) | skip); have HkB : Hid (Kept wr WB) := HkA.out.then HAB.out; have hsB := HAB.out.size)
                | (go_at_call 31; refine (HL0.out _ (by first | with_reducible exact Kept.drewn _ | with_reducible exact (Kept.box _ _).then (Kept.drewn _))).mono ?_; rintro e WA ⟨AA0, dA, rfl, hIA, hkA, _⟩; (first | (have HkA : Hid (Kept wr WA) := Lib.hid (by with_reducible exact (Kept.drewn _).then hkA)) | (have HkA : Hid (Kept wr WA) := Lib.hid (by with_reducible exact ((Kept.box _ _).then (Kept.drewn _)).then hkA); have HbK := Lib.hid (hkA.heapAt ((Kept.drewn _).heapAt (heap_new wr _))))); have hsA := HkA.out.size))
            all_goals go_wp2_with fail
            all_goals go_meet
            all_goals (
              have hM0' : wr.heap.size ≤ M0 := by first | omega | (simp only [World.size_alloc] at hM0; omega)
              have hM1' : wr.heap.size ≤ M1 := by first | omega | (simp only [World.size_alloc] at hM1; omega)
              have hM2' : wr.heap.size ≤ M2 := by first | omega | (simp only [World.size_alloc] at hM2; omega)
              first
                | exact ⟨_, nM, rfl, keepsAt_set HkD.out (by omega) hKp hM0' hM1' hM2' HbK.out⟩
                | exact ⟨WD.heap.size, nM, rfl, keepsAt_heap (M0 := M0) (M1 := M1) (M2 := M2) (HkD.out.newBlock _) (by omega) ⟨hKp.1.kept (Kept.box _ _), hKp.2.1.kept (Kept.box _ _), hKp.2.2.kept (Kept.box _ _)⟩ hM0' hM1' hM2' (heap_new _ _)⟩)
          case rest =>
            obtain ⟨Kb, nM, rfl, HKA⟩ := hcut
            obtain ⟨hkA, hKb1, hKb2, _⟩ := HKA.out
            have HK23 := Lib.hid (Hkw.out.then hkA)
            have HO3 := Lib.hid (HOn.out.kept hkA)
            have hg3 : g < wc.heap.size := by have := hkA.size; omega
            have hgr : g < wr.heap.size := hglr
            have hKg : g < Kb := by omega
            obtain ⟨wR, hwR⟩ : ∃ wR : World, wR = wr := ⟨_, rfl⟩
            subst hwR
            have hb2 := Hk2.out.size
            clear hkA HOn HKr Hkw
            go_wp2_with fail
            go_loopw [71] (fun u wq => ∃ j : Nat, j ≤ 3 ∧ u = .int .i64 j ∧ Hid (OwnD wq w2.heap.size (.slice (some ⟨g, 0, Option.none⟩) k c6) (stepB (varsKp C.vars G j) ds)) ∧ Hid (KeptBut g wc wq)) (fun u _ => 3 - (intOf u).toNat)
            case atStart => exact ⟨0, Nat.zero_le _, rfl, by rw [stepB_varsKp_zero Hb2.out]; exact HO3.out, KeptBut.refl _ _⟩
            case round =>
              obtain ⟨j, hj, rfl, HOq, Hkq⟩ := hrel
              obtain ⟨wo, hwo⟩ : ∃ wo : World, wo = wr := ⟨_, rfl⟩
              subst hwo
              have HQ2 := Lib.hid (((KeptBut.of HK23.out g).then Hkq.out).kept hgb)
              have HQ := Lib.hid (Hk2.out.then HQ2.out)
              by_cases hlt : j < 3
              · obtain ⟨v, Hv1, hcv, _, _⟩ := (HC.out.vars.kept HQ.out).named j hlt
                rw [add_plain] at hcv
                obtain ⟨hv0, hv1⟩ := varsOk_rng Hvo.out (i := j) (by have := Hvl.out; omega)
                rw [Hv1.out] at hv0 hv1
                obtain ⟨p, rfl⟩ := Int.eq_ofNat_of_zero_le hv0
                have hpn : p < k := by omega
                obtain ⟨xs, L, B, m, cB, Hd, hc1, hc2, HI, hL⟩ := (HS.out.kept HQ.out).named p hpn
                have hszq := HQ.out.size
                have hszq3 := Hkq.out.size
                have hbar : a.block < wo.heap.size := by omega
                have hbvr : bv < wo.heap.size := by have := (HC.out.vars.kept HQ.out).block (by omega); exact this
                go_wp2_with fail
                refine (dlist_any B m cB L xs _ HI.out hL (HT.out.kept HQ.out)).mono ?_
                rintro e W2 ⟨Bl, cl, rfl, hIl, hkl, hfl⟩
                have Hfl := Lib.hid hfl
                have HkW := Lib.hid hkl
                have hm64 := listB_length xs L
                have Hlist : Hid (listB (ds.getD p ([], 0)).1 (ds.getD p ([], 0)).2 = listB xs L) := by
                  show _ = _
                  have h := Hd.out
                  unfold nilD at h
                  rw [h]
                have hszW := hkl.size
                have HOm : Hid (OwnD W2 w2.heap.size (.slice (some ⟨g, 0, Option.none⟩) k c6) (midB C.vars G ds j p 0)) := by
                  show OwnD _ _ _ _
                  rw [midB_zero (by have := Hlen.out; omega) Hb2.out]
                  exact HOq.out.kept HkW.out
                have HBW := Lib.hid (Hkq.out.then (KeptBut.of HkW.out g))
                have hIl2 : Ints W2 Bl (listB xs L).length (listB xs L) := hIl
                generalize listB xs L = l2 at *
                generalize hm2 : l2.length = m2 at *
                have HIl := Lib.hid hIl2
                have Hm2 := Lib.hid hm2
                obtain ⟨Mj, hmc, hmb, hmk⟩ := HKA.out.2.2.2 j hlt
                have Hmc := Lib.hid (HBW.out.cellAt hmc (by show Kb ≠ g; omega))
                have Hmk := Lib.hid (hmk.but HBW.out (by omega))
                have hMg : Mj ≠ g := by omega
                have HGj : Hid (∀ x, (keysOf PP j).contains x = G j x) := fun x => HG.out j x hlt
                generalize keysOf PP j = Kj at *
                clear hIl hIl2 hkl hfl hm2 hcv hc1 hc2 hv0 hmc hmk
                go_wp2_with fail
                go_loopw [82] (fun u wz => ∃ q : Nat, q ≤ m2 ∧ u = .int .i64 q ∧ Hid (OwnD wz w2.heap.size (.slice (some ⟨g, 0, Option.none⟩) k c6) (midB C.vars G ds j p q)) ∧ Hid (KeptBut g W2 wz)) (fun u _ => m2 - (intOf u).toNat)
                case atStart => exact ⟨0, Nat.zero_le _, rfl, HOm.out, KeptBut.refl _ _⟩
                case round =>
                  obtain ⟨q, hq, rfl, HOz, Hkz⟩ := hrel
                  have HB3 := Lib.hid (HBW.out.then Hkz.out)
                  have HZ2 := Lib.hid (((KeptBut.of HK23.out g).then HB3.out).kept hgb)
                  have HZ := Lib.hid (Hk2.out.then HZ2.out)
                  by_cases hltq : q < m2
                  · have hIz := HIl.out.keptBut0 Hkz.out (fun _ b hb => by have := Hfl.out b hb; omega)
                    obtain ⟨bl, rfl, hbl⟩ := hIz.addr (by omega)
                    obtain ⟨y, Hy, hcy, hy1, hy2⟩ := hIz.named q hltq
                    have hszz := Hkz.out.size
                    have hmc := Hkz.out.cellAt Hmc.out (by show Kb ≠ g; omega)
                    have hKbz : Kb < wr.heap.size := World.block_lt_of_cell? wr _ hmc
                    obtain ⟨DD, hown, hDD⟩ := Hmk.out.but Hkz.out hMg
                    obtain ⟨cc, hrun, hat, hwc⟩ := hown.lookup_int lawInt Tryd.underlying52 Tryd.underlying3 (zeroInt _) (keyI (y := y) (by omega))
                    have hcf : DataW.lit (H := Unit) (.int .i64 cc) = .lit (.int .i64 ((if Kj.contains y = true then 1 else 0 : Nat) : Int)) := hat.symm.trans (hDD y)
                    rw [HGj.out y] at hcf
                    have Hnext : Hid (G j y = true → midB C.vars G ds j p (q + 1) = midB C.vars G ds j p q) := fun h => midB_yes (by rw [Hlist.out, Hm2.out]; exact hltq) (by rw [Hlist.out]; exact Hy.out) h
                    have Hnext2 : Hid (G j y = false → midB C.vars G ds j p (q + 1) = (midB C.vars G ds j p q).set p (keepD (fun x => x != y) ((midB C.vars G ds j p q).getD p ([], 0)))) := fun h => midB_no (by have := Hlen.out; omega) (by rw [Hlist.out, Hm2.out]; exact hltq) (by rw [Hlist.out]; exact Hy.out) h
                    generalize G j y = b at hcf Hnext Hnext2
                    clear hIz hat hwc hown hDD
                    cases b with
                    | true =>
                      have hc1 : cc = 1 := by simpa using hcf
                      subst hc1
                      clear hcf
                      go_wp2_with fail
                      go_roundw
                      case rel => exact ⟨q + 1, by omega, by go_num, by rw [Hnext.out (by first | rfl | trivial)]; exact HOz.out, Hkz.out⟩
                      case measure => simp [intOf]; omega
                    | false =>
                      have hc1 : cc = 0 := by simpa using hcf
                      subst hc1
                      clear hcf
                      have Hn9 := Lib.hid (Hnext2.out (by first | rfl | trivial))
                      have HO4 := HOz
                      have Hl4 : Hid ((midB C.vars G ds j p q).length = k) := by show _ = _; rw [midB_length]; exact Hlen.out
                      obtain ⟨xs2, L2, B2, mm2, cB2, Hd2, s1, s2, HI2, hL2, HB2, s3, s4⟩ := HO4.out.named Hl4.out p hpn
                      have Hm4 : Hid (mayB xs2 L2 = true) := by
                        show _ = _
                        have h1 := midB_may (vars := C.vars) (g := G) (ds := ds) (j := j) (p := p) (m := q) (by have := Hlen.out; omega) Hb2.out
                        have h2 := Hd2.out
                        unfold nilD at h2
                        rw [h2] at h1
                        exact h1
                      obtain ⟨d9, hd9⟩ : ∃ d9, d9 = keepD (fun x => x != y) (xs2, L2) := ⟨_, rfl⟩
                      have Hn8 : Hid (midB C.vars G ds j p (q + 1) = (midB C.vars G ds j p q).set p d9) := by
                        show _ = _
                        rw [Hn9.out, hd9]
                        have h2 := Hd2.out
                        unfold nilD at h2
                        rw [h2]
                      have HT4 := Lib.hid (HT.out.kept HZ.out)
                      have Hc : Hid (∀ W, Kept wr W → Calls Tryd.prog 32 #[.agg #[.slice B2 mm2 cB2, .int .u64 L2], .int .i64 y] W
                          fun e w' => ∃ A' c', e = .returned (.agg #[.slice A' mm2 c', .int .u64 (d9.2 : Nat)]) ∧ Ints w' A' mm2 d9.1 ∧ Kept W w' ∧ Fresh W A') := fun W hW => by
                        have h := domless_any B2 mm2 cB2 L2 xs2 y W (HI2.out.kept hW) hL2 (HT4.out.kept hW) Hm4.out
                        rw [← hd9] at h
                        refine h.mono ?_
                        rintro e w' ⟨A', c', he, h1, h2, h3⟩
                        have hl : d9.1.length = mm2 := by rw [hd9]; exact HI2.out.len
                        rw [hl] at he h1
                        exact ⟨A', c', he, h1, h2, h3⟩
                      have Hd9 : Hid (d9.2 < 2 ^ 64) := by show _ < _; rw [hd9]; exact keepD_lt _ _
                      have hg4 : g < wr.heap.size := by omega
                      have HF : Hid (∀ (W7 : World) (A7 : Option Addr) (c7 : Nat), Ints W7 A7 mm2 d9.1 → Kept wr W7 → Fresh wr A7 →
                          OwnD ((W7.setCell ⟨g, p * 2, Option.none⟩ (.slice A7 mm2 c7)).setCell ⟨g, p * 2 + 1, Option.none⟩ (.int .u64 (d9.2 : Nat))) w2.heap.size (.slice (some ⟨g, 0, Option.none⟩) k c6) (midB C.vars G ds j p (q + 1)) ∧
                          KeptBut g W2 ((W7.setCell ⟨g, p * 2, Option.none⟩ (.slice A7 mm2 c7)).setCell ⟨g, p * 2 + 1, Option.none⟩ (.int .u64 (d9.2 : Nat)))) := by
                        intro W7 A7 c7 hI7 hk7 hA7
                        have hO8 := (HO4.out.kept hk7).set Hl4.out hpn (d := d9) (B := A7) (m := mm2) (c := c7) hI7 (fun _ b hb => by have := hA7 b hb; omega) Hd9.out
                        rw [← Hn8.out] at hO8
                        exact ⟨hO8, (Hkz.out.then (KeptBut.of hk7 g)).then ((KeptBut.set _ (a := ⟨g, p * 2, Option.none⟩) rfl _).then (KeptBut.set _ (a := ⟨g, p * 2 + 1, Option.none⟩) rfl _))⟩
                      clear hd9
                      go_wp2_with fail
                      refine (Hc.out _ (Kept.same _)).mono ?_
                      rintro e W7 ⟨A7, c7, rfl, hI7, hk7, hA7⟩
                      have HI7 := Lib.hid hI7
                      have HK7 := Lib.hid hk7
                      have HA7 : Hid (Fresh wr A7) := hA7
                      obtain ⟨_, _, _, _, _, _, t1, t2, _, _, _, t3, t4⟩ := (HO4.out.kept hk7).named Hl4.out p hpn
                      clear hI7 hk7 hA7 hrun hmc s1 s2 s3 s4
                      go_wp2_with fail
                      go_roundw
                      case rel =>
                        obtain ⟨hD, hK⟩ := HF.out _ _ _ HI7.out HK7.out HA7.out
                        exact ⟨q + 1, by omega, by go_num, hD, hK⟩
                      case measure => simp [intOf]; omega
                  · have e : q = m2 := by omega
                    subst e
                    have HOe : Hid (OwnD wr w2.heap.size (.slice (some ⟨g, 0, Option.none⟩) k c6) (stepB (varsKp C.vars G (j + 1)) ds)) := by
                      show OwnD _ _ _ _
                      rw [← midB_end (p := p) (m := q) (by have := Hlen.out; omega) Hb2.out Hv1.out (by rw [Hlist.out]; exact Hm2.out)]
                      exact HOz.out
                    clear HOz HOm
                    go_wp2_with fail
                    go_roundw
                    case rel => exact ⟨j + 1, by omega, by go_num, HOe.out, HB3.out⟩
                    case measure => simp [intOf]; omega
              · have e : j = 3 := by omega
                subst e
                have Hsl : Hid ((stepB (varsKp C.vars G 3) ds).length = k) := by show _ = _; rw [stepB_length]; exact Hlen.out
                have Hres : Hid (stepB (varsKp C.vars (prodG C ds) C.vars.length) ds = stepB (varsKp C.vars G 3) ds) := by show _ = _; rw [Hvl.out, HGe.out]
                generalize stepB (varsKp C.vars G 3) ds = res at *
                have HD := Lib.hid (HOq.out.doms Hsl.out (by omega))
                clear HOq
                go_wp2_with fail
                go_ret2
                exact ⟨_, c6, by rw [Hres.out, Hsl.out]; rfl, by rw [Hres.out, Hsl.out]; exact HD.out, HQ.out⟩
end Go.Proofs.YtjmegicopdbkdaaDoor

set_option maxHeartbeats 1000000
set_option maxRecDepth 10000
namespace Go.Proofs.YtjmegicopdbkdaaDoor
open Go Go.RowKit Pl

theorem prodstep_law (K R Ct : Int) (A1 A2 A3 : Option Addr) (n1 c1 n2 c2 n3 c3 : Nat) (C : ConB) (A : Option Addr) (n c : Nat) (ds : List DomB) (w : World) (hC : ConIn w K R Ct A1 A2 A3 n1 c1 n2 c2 n3 c3 C) (hS : Doms w A n ds) (hT : Tab w) (hn : n ≤ 1000) :
    Calls Tryd.prog 13 #[.agg #[.int .i64 K, .slice A1 n1 c1, .slice A2 n2 c2, .int .i64 R, .int .i64 Ct, .slice A3 n3 c3], .slice A n c] w (StepPost (if prodGo C ds = true then some (stepB (prodKp C ds) ds) else Option.none) w) := prodstep_any K R Ct A1 A2 A3 n1 c1 n2 c2 n3 c3 C A n c ds w hC hS hT hn
end Go.Proofs.YtjmegicopdbkdaaDoor

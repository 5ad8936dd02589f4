/-
  The law ProductSound of the package product.
-/
import Derived.Test.YtjmegicopdbkdaaDoorLaw13
import Derived.Test.YtjmegicopdbkdaaDoorProdLaws
import Derived.Test.YtjmegicopdbkdaaDoorHolds2
set_option maxHeartbeats 1000000
set_option maxRecDepth 10000
namespace Go.Proofs.YtjmegicopdbkdaaDoor
open Go Go.RowKit Pl

theorem sound13_any (K R Ct : Int) (A1 A2 A3 : Option Addr) (n1 c1 n2 c2 n3 c3 : Nat) (C : ConB) (A B : Option Addr) (n c m d : Nat) (ds : List DomB) (row : List Int) (w : World) (hC : ConIn w K R Ct A1 A2 A3 n1 c1 n2 c2 n3 c3 C) (hS : Doms w A n ds) (hI : Ints w B m row) (hT : Tab w) :
    Calls Tryd.prog 4 #[.agg #[.int .i64 K, .slice A1 n1 c1, .slice A2 n2 c2, .int .i64 R, .int .i64 Ct, .slice A3 n3 c3], .slice A n c, .slice B m d] w fun e w' => e = .returned (.bool true) ∧ Kept w w' := by
  have HC := Lib.hid hC
  have HS := Lib.hid hS
  have HI := Lib.hid hI
  have HT := Lib.hid hT
  have Hlen := Lib.hid hS.len
  have HlR := Lib.hid hI.len
  clear hC hS hI hT
  have hhB : ∀ W, Kept (w.alloc (.cells #[.int .i64 K, .slice A1 n1 c1, .slice A2 n2 c2, .int .i64 R, .int .i64 Ct, .slice A3 n3 c3] 24)) W → W.heap[w.heap.size]? = some (.cells #[.int .i64 K, .slice A1 n1 c1, .slice A2 n2 c2, .int .i64 R, .int .i64 Ct, .slice A3 n3 c3] 24) := fun W h => h.heapAt (heap_new _ _)
  have HB := Lib.hid hhB
  clear hhB
  go_enter Tryd.func4, Tryd.ntmps4
  go_wp2_with fail
  refine (awake13 _ (HT.out.kept (Kept.box _ _))).mono ?_
  rintro e W1 ⟨rfl, hk1⟩
  have hb := HB.out W1 hk1
  have b0 := cell_at hb 0
  have b1 := cell_at hb 1
  have b2 := cell_at hb 2
  have b3 := cell_at hb 3
  have b4 := cell_at hb 4
  have b5 := cell_at hb 5
  simp only [List.getElem?_toArray, List.getElem?_cons_zero, List.getElem?_cons_succ] at b0 b1 b2 b3 b4 b5
  clear hb
  have Hk1 := Lib.hid hk1
  have HK1 := Lib.hid ((Kept.box _ _).then hk1)
  clear hk1
  go_wp2_with fail
  refine (large_any K R Ct A1 A2 A3 n1 c1 n2 c2 n3 c3 C A n c ds _ (HC.out.kept HK1.out) (HS.out.kept HK1.out)).mono ?_
  rintro e W2 ⟨bl, rfl, hn, hk2⟩
  clear b0 b1 b2 b3 b4 b5
  have hb := HB.out W2 (Hk1.out.then hk2)
  have b0 := cell_at hb 0
  have b1 := cell_at hb 1
  have b2 := cell_at hb 2
  have b3 := cell_at hb 3
  have b4 := cell_at hb 4
  have b5 := cell_at hb 5
  simp only [List.getElem?_toArray, List.getElem?_cons_zero, List.getElem?_cons_succ] at b0 b1 b2 b3 b4 b5
  clear hb
  have Hk2 := Lib.hid (Hk1.out.then hk2)
  have HK2 := Lib.hid (HK1.out.then hk2)
  clear hk2
  cases bl with
  | true =>
    clear b0 b1 b2 b3 b4 b5
    go_wp2_with fail
    go_ret
    exact ⟨rfl, HK2.out⟩
  | false =>
    have hn20 : n ≤ 20 := hn rfl
    clear hn
    go_wp2_with fail
    have H1 := prodstep_law K R Ct A1 A2 A3 n1 c1 n2 c2 n3 c3 C A n c ds _ (HC.out.kept HK2.out) (HS.out.kept HK2.out) (HT.out.kept HK2.out) (by omega)
    cases hg : prodGo C ds with
    | false =>
      rw [if_neg (by rw [hg]; decide)] at H1
      refine H1.mono ?_
      rintro e W3 ⟨rfl, hk3⟩
      have HK3 := Lib.hid (HK2.out.then hk3)
      clear H1 hk3 b0 b1 b2 b3 b4 b5
      go_wp2_with fail
      go_ret
      exact ⟨rfl, HK3.out⟩
    | true =>
      obtain ⟨hk4, hB4, hm4⟩ := prodGo_parts hg
      have Hg := Lib.hid hg
      have Hm4 := Lib.hid hm4
      have hK4 : K = 2 := HC.out.kind.symm.trans hk4
      subst hK4
      rw [if_pos hg] at H1
      refine H1.mono ?_
      rintro e W3 ⟨Aa, ca, rfl, hDa, hk3⟩
      have Hk3 := Lib.hid (Hk2.out.then hk3)
      have HK3 := Lib.hid (HK2.out.then hk3)
      have HDa := Lib.hid hDa
      rw [Hlen.out] at hB4
      have hR4 := hB4
      have HH : Hid (m = n → withinB row 1048576 = true → ∀ W, Kept w W → Calls Tryd.prog 20 #[.agg #[.int .i64 2, .slice A1 n1 c1, .slice A2 n2 c2, .int .i64 R, .int .i64 Ct, .slice A3 n3 c3], .slice B m d] W fun e w' => e = .returned (.bool (holdsP C row)) ∧ Kept W w') := fun h hwr W hW =>
        holds2_any 2 R Ct A1 A2 A3 n1 c1 n2 c2 n3 c3 C B m d row W (HC.out.kept hW) (HI.out.kept hW) rfl (by rw [h]; exact hR4) hwr
      have HR11 : Hid (∀ W O, Kept w W → W.heap[O]? = some (.cells #[.int .i64 2, .slice A1 n1 c1, .slice A2 n2 c2, .int .i64 R, .int .i64 Ct, .slice A3 n3 c3] 24) → Calls Tryd.prog 19 #[.slice (some ⟨O, 0, Option.none⟩) 1 1, .slice B m d] W fun e w' => e = .returned (.bool (withinB row 1048576 && rightB C m)) ∧ Kept W w') := fun W O hW hO =>
        rr1_any 2 R Ct A1 A2 A3 n1 c1 n2 c2 n3 c3 C O B m d row W hO (HC.out.kept hW) (HI.out.kept hW)
      clear H1 hk3 hDa b0 b1 b2 b3 b4 b5 hB4 hR4 hg hm4
      have hb := HB.out W3 Hk3.out
      have b0 := cell_at hb 0
      have b1 := cell_at hb 1
      have b2 := cell_at hb 2
      have b3 := cell_at hb 3
      have b4 := cell_at hb 4
      have b5 := cell_at hb 5
      simp only [List.getElem?_toArray, List.getElem?_cons_zero, List.getElem?_cons_succ] at b0 b1 b2 b3 b4 b5
      clear hb
      go_wp2_with fail
      refine (within_any _ _ _ _ _ _ _ _ _ HDa.out (HS.out.kept HK3.out)).mono ?_
      rw [step_within Hm4.out]
      rintro e W4 ⟨rfl, hk4⟩
      have Hk4 := Lib.hid (Hk3.out.then hk4)
      have HK4 := Lib.hid (HK3.out.then hk4)
      have HDa4 := Lib.hid (HDa.out.kept hk4)
      clear hk4 b0 b1 b2 b3 b4 b5
      have hb := HB.out W4 Hk4.out
      have b0 := cell_at hb 0
      have b1 := cell_at hb 1
      have b2 := cell_at hb 2
      have b3 := cell_at hb 3
      have b4 := cell_at hb 4
      have b5 := cell_at hb 5
      simp only [List.getElem?_toArray, List.getElem?_cons_zero, List.getElem?_cons_succ] at b0 b1 b2 b3 b4 b5
      clear hb
      go_wp2_with fail
      refine (left_any _ _ _ _ _ _ _ _ _ (HI.out.kept HK4.out) (HS.out.kept HK4.out)).mono ?_
      have Hsnd : Hid (leftL row ds = true → holdsP C row = true → leftL row (stepB (prodKp C ds) ds) = true) := fun h1 h2 => prod_sound Hg.out h1 h2
      have Hmn : Hid (leftL row ds = true → m = n) := fun h => by
        have := (leftL_iff.1 h).1
        rw [HlR.out, Hlen.out] at this
        exact this
      generalize leftL row ds = q1 at *
      rintro e W5 ⟨rfl, hk5⟩
      have Hk5 := Lib.hid (Hk4.out.then hk5)
      have HK5 := Lib.hid (HK4.out.then hk5)
      have HDa5 := Lib.hid (HDa4.out.kept hk5)
      clear hk5 b0 b1 b2 b3 b4 b5
      cases q1 with
      | false =>
        go_wp2_with fail
        go_ret
        exact ⟨rfl, HK5.out⟩
      | true =>
        have Hmn2 := Lib.hid (Hmn.out (by first | rfl | trivial))
        have hb := HB.out W5 Hk5.out
        have b0 := cell_at hb 0
        have b1 := cell_at hb 1
        have b2 := cell_at hb 2
        have b3 := cell_at hb 3
        have b4 := cell_at hb 4
        have b5 := cell_at hb 5
        simp only [List.getElem?_toArray, List.getElem?_cons_zero, List.getElem?_cons_succ] at b0 b1 b2 b3 b4 b5
        clear hb
        go_wp2_with fail
        refine (HR11.out _ _ (HK5.out.then (Kept.box _ _)) (heap_new _ _)).mono ?_
        have Hwq : Hid ((withinB row 1048576 && rightB C m) = true → withinB row 1048576 = true) := fun h => (Bool.and_eq_true_iff.1 h).1
        generalize (withinB row 1048576 && rightB C m) = q2 at *
        rintro e W6 ⟨rfl, hk6⟩
        have Hk6 := Lib.hid (Hk5.out.then ((Kept.box _ _).then hk6))
        have HK6 := Lib.hid (HK5.out.then ((Kept.box _ _).then hk6))
        have HDa6 := Lib.hid (HDa5.out.kept ((Kept.box _ _).then hk6))
        clear hk6 b0 b1 b2 b3 b4 b5
        cases q2 with
        | false =>
          go_wp2_with fail
          go_ret
          exact ⟨rfl, HK6.out⟩
        | true =>
          have hb := HB.out W6 Hk6.out
          have b0 := cell_at hb 0
          have b1 := cell_at hb 1
          have b2 := cell_at hb 2
          have b3 := cell_at hb 3
          have b4 := cell_at hb 4
          have b5 := cell_at hb 5
          simp only [List.getElem?_toArray, List.getElem?_cons_zero, List.getElem?_cons_succ] at b0 b1 b2 b3 b4 b5
          clear hb
          go_wp2_with fail
          refine (HH.out Hmn2.out (Hwq.out (by first | rfl | trivial)) _ HK6.out).mono ?_
          generalize holdsP C row = q3 at *
          rintro e W7 ⟨rfl, hk7⟩
          have HK7 := Lib.hid (HK6.out.then hk7)
          have HDa7 := Lib.hid (HDa6.out.kept hk7)
          clear hk7 b0 b1 b2 b3 b4 b5
          cases q3 with
          | false =>
            go_wp2_with fail
            go_ret
            exact ⟨rfl, HK7.out⟩
          | true =>
            have Hs := Lib.hid (Hsnd.out (by first | rfl | trivial) (by first | rfl | trivial))
            go_wp2_with fail
            refine (left_any _ _ _ _ _ _ _ _ _ (HI.out.kept HK7.out) HDa7.out).mono ?_
            rw [Hs.out]
            rintro e W8 ⟨rfl, hk8⟩
            have HK8 := Lib.hid (HK7.out.then hk8)
            clear hk8
            go_wp2_with fail
            go_ret
            exact ⟨rfl, HK8.out⟩
end Go.Proofs.YtjmegicopdbkdaaDoor

/-
  Contracts and plain laws that the card rests on, part 15.
-/
import Derived.Test.YtjmegicopdbkdaaDoorH14
set_option maxHeartbeats 1000000
set_option maxRecDepth 10000
namespace Go.Proofs.YtjmegicopdbkdaaDoor
open Go Go.RowKit Pl

theorem falls15_any (K R Ct : Int) (A1 A2 A3 : Option Addr) (n1 c1 n2 c2 n3 c3 : Nat) (C : ConB) (A B : Option Addr) (n c m d : Nat) (ds : List DomB) (ms : List Nat) (w : World) (hC : ConIn w K R Ct A1 A2 A3 n1 c1 n2 c2 n3 c3 C) (hS : Doms w A n ds) (hM : Words w B m ms) (hT : Tab w) :
    Calls Tryd.prog 9 #[.agg #[.int .i64 K, .slice A1 n1 c1, .slice A2 n2 c2, .int .i64 R, .int .i64 Ct, .slice A3 n3 c3], .slice A n c, .slice B m d] w fun e w' => e = .returned (.bool true) ∧ Kept w w' := by
  have HC := Lib.hid hC
  have HS := Lib.hid hS
  have HM := Lib.hid hM
  have HT := Lib.hid hT
  have Hlen := Lib.hid hS.len
  clear hC hS hM hT
  have hhB : ∀ W, Kept (w.alloc (.cells #[.int .i64 K, .slice A1 n1 c1, .slice A2 n2 c2, .int .i64 R, .int .i64 Ct, .slice A3 n3 c3] 24)) W → W.heap[w.heap.size]? = some (.cells #[.int .i64 K, .slice A1 n1 c1, .slice A2 n2 c2, .int .i64 R, .int .i64 Ct, .slice A3 n3 c3] 24) := fun W h => h.heapAt (heap_new _ _)
  have HB := Lib.hid hhB
  clear hhB
  go_enter Tryd.func9, Tryd.ntmps9
  go_wp2_with fail
  refine (awake15 _ (HT.out.kept (Kept.box _ _))).mono ?_
  rintro e W1 ⟨rfl, hk1⟩
  have hb := HB.out W1 hk1
  have b0 := cell_at hb 0
  have b1 := cell_at hb 1
  have b2 := cell_at hb 2
  have b3 := cell_at hb 3
  have b4 := cell_at hb 4
  have b5 := cell_at hb 5
  simp only [List.getElem?_toArray, List.getElem?_cons_zero, List.getElem?_cons_succ] at b0 b1 b2 b3 b4 b5
  clear hb
  have Hk1 := Lib.hid hk1
  have HK1 := Lib.hid ((Kept.box _ _).then hk1)
  clear hk1
  go_wp2_with fail
  refine (large_any K R Ct A1 A2 A3 n1 c1 n2 c2 n3 c3 C A n c ds _ (HC.out.kept HK1.out) (HS.out.kept HK1.out)).mono ?_
  rintro e W2 ⟨bl, rfl, hn, hk2⟩
  clear b0 b1 b2 b3 b4 b5
  have hb := HB.out W2 (Hk1.out.then hk2)
  have b0 := cell_at hb 0
  have b1 := cell_at hb 1
  have b2 := cell_at hb 2
  have b3 := cell_at hb 3
  have b4 := cell_at hb 4
  have b5 := cell_at hb 5
  simp only [List.getElem?_toArray, List.getElem?_cons_zero, List.getElem?_cons_succ] at b0 b1 b2 b3 b4 b5
  clear hb
  have Hk2 := Lib.hid (Hk1.out.then hk2)
  have HK2 := Lib.hid (HK1.out.then hk2)
  clear hk2
  cases bl with
  | true =>
    clear b0 b1 b2 b3 b4 b5
    go_wp2_with fail
    go_ret
    exact ⟨rfl, HK2.out⟩
  | false =>
    have hn := hn rfl
    have HF := Lib.hid (few_fewer ds ms n)
    go_wp2_with fail
    have HStep : Hid (∀ (ds' : List DomB) (A' : Option Addr) (c' : Nat) W, Kept w W → Doms W A' n ds' → Calls Tryd.prog 23 #[.agg #[.int .i64 K, .slice A1 n1 c1, .slice A2 n2 c2, .int .i64 R, .int .i64 Ct, .slice A3 n3 c3], .slice A' n c'] W (StepPost (if diffGo C ds' = true then some (stepB (diffKp C ds') ds') else Option.none) W)) := fun ds' A' c' W hW hD =>
      diffstep_law K R Ct A1 A2 A3 n1 c1 n2 c2 n3 c3 C A' n c' ds' W (HC.out.kept hW) hD (HT.out.kept hW) (by omega)
    have Hfl : Hid ((fewUpto ds ms n).length = n) := by show _ = _; rw [fewUpto_length]; exact Hlen.out
    have HFew : Hid (∀ W, Kept w W → Calls Tryd.prog 21 #[.slice A n c, .slice B m d] W fun e w' => ∃ A' c', e = .returned (.slice A' n c') ∧ Doms w' A' n (fewUpto ds ms n) ∧ Kept W w') := fun W hW =>
      (fewer_any A B n c m d ds ms W (HS.out.kept hW) (HM.out.kept hW) (by omega)).mono fun e w' ⟨A', c', he, hD, hk⟩ => ⟨A', c', by rw [he, Hfl.out], by rw [Hfl.out] at hD; exact hD, hk⟩
    have H1 := HStep.out ds A c _ HK2.out (HS.out.kept HK2.out)
    cases hg : diffGo C ds with
    | false =>
      rw [if_neg (by rw [hg]; decide)] at H1
      refine H1.mono ?_
      rintro e W3 ⟨rfl, hk3⟩
      have Hk3 := Lib.hid (Hk2.out.then hk3)
      have HK3 := Lib.hid (HK2.out.then hk3)
      clear H1 hk3 b0 b1 b2 b3 b4 b5
      have hb := HB.out W3 Hk3.out
      have b0 := cell_at hb 0
      have b1 := cell_at hb 1
      have b2 := cell_at hb 2
      have b3 := cell_at hb 3
      have b4 := cell_at hb 4
      have b5 := cell_at hb 5
      simp only [List.getElem?_toArray, List.getElem?_cons_zero, List.getElem?_cons_succ] at b0 b1 b2 b3 b4 b5
      clear hb
      go_wp2_with fail
      cases hg2 : diffGo C (fewUpto ds ms n) with
      | false =>
        go_region_held3 (fun W => (W.cell? ⟨w.heap.size, 0, Option.none⟩ = some (.int .i64 K) ∧ W.cell? ⟨w.heap.size, 1, Option.none⟩ = some (.slice A1 n1 c1) ∧ W.cell? ⟨w.heap.size, 2, Option.none⟩ = some (.slice A2 n2 c2) ∧ W.cell? ⟨w.heap.size, 3, Option.none⟩ = some (.int .i64 R) ∧ W.cell? ⟨w.heap.size, 4, Option.none⟩ = some (.int .i64 Ct) ∧ W.cell? ⟨w.heap.size, 5, Option.none⟩ = some (.slice A3 n3 c3))) (first | go_keep | exact conbox6 (HB.out _ (Hk3.out.then ((Kept.drewn _).then hk4))) | exact conbox6 (HB.out _ (Hk3.out.then (((Kept.drewn _).then hk4).then hk5))))
          (first
            | (go_at_call 21; refine (HFew.out _ (HK3.out.then (Kept.drewn _))).mono ?_; rintro e W4 ⟨A4, c4, rfl, hD4, hk4⟩)
            | (go_at_call 23; have H2 := HStep.out _ A4 c4 _ (HK3.out.then ((Kept.drewn _).then hk4)) hD4; rw [if_neg (by rw [hg2]; decide)] at H2; refine H2.mono ?_; rintro e W5 ⟨rfl, hk5⟩))
        have HK5 := Lib.hid (HK3.out.then (((Kept.drewn _).then hk4).then hk5))
        clear b0 b1 b2 b3 b4 b5
        go_wp2_with fail
        go_ret
        exact ⟨rfl, HK5.out⟩
      | true =>
        go_region_held3 (fun W => (W.cell? ⟨w.heap.size, 0, Option.none⟩ = some (.int .i64 K) ∧ W.cell? ⟨w.heap.size, 1, Option.none⟩ = some (.slice A1 n1 c1) ∧ W.cell? ⟨w.heap.size, 2, Option.none⟩ = some (.slice A2 n2 c2) ∧ W.cell? ⟨w.heap.size, 3, Option.none⟩ = some (.int .i64 R) ∧ W.cell? ⟨w.heap.size, 4, Option.none⟩ = some (.int .i64 Ct) ∧ W.cell? ⟨w.heap.size, 5, Option.none⟩ = some (.slice A3 n3 c3))) (first | go_keep | exact conbox6 (HB.out _ (Hk3.out.then ((Kept.drewn _).then hk4))) | exact conbox6 (HB.out _ (Hk3.out.then (((Kept.drewn _).then hk4).then hk5))))
          (first
            | (go_at_call 21; refine (HFew.out _ (HK3.out.then (Kept.drewn _))).mono ?_; rintro e W4 ⟨A4, c4, rfl, hD4, hk4⟩)
            | (go_at_call 23; have H2 := HStep.out _ A4 c4 _ (HK3.out.then ((Kept.drewn _).then hk4)) hD4; rw [if_pos hg2] at H2; refine H2.mono ?_; rintro e W5 ⟨A5, c5, rfl, hD5, hk5⟩))
        have HK5 := Lib.hid (HK3.out.then (((Kept.drewn _).then hk4).then hk5))
        clear b0 b1 b2 b3 b4 b5
        go_wp2_with fail
        go_ret
        exact ⟨rfl, HK5.out⟩
    | true =>
      have Hw := Lib.hid (diff_falls HF.out hg)
      have hg2 := diff_go_less HF.out hg
      rw [if_pos hg] at H1
      refine H1.mono ?_
      rintro e W3 ⟨Aa, ca, rfl, hDa, hk3⟩
      have Hk3 := Lib.hid (Hk2.out.then hk3)
      have HK3 := Lib.hid (HK2.out.then hk3)
      have HDa := Lib.hid hDa
      clear H1 hk3 hDa b0 b1 b2 b3 b4 b5
      have hb := HB.out W3 Hk3.out
      have b0 := cell_at hb 0
      have b1 := cell_at hb 1
      have b2 := cell_at hb 2
      have b3 := cell_at hb 3
      have b4 := cell_at hb 4
      have b5 := cell_at hb 5
      simp only [List.getElem?_toArray, List.getElem?_cons_zero, List.getElem?_cons_succ] at b0 b1 b2 b3 b4 b5
      clear hb
      go_wp2_with fail
      go_region_held3 (fun W => (W.cell? ⟨w.heap.size, 0, Option.none⟩ = some (.int .i64 K) ∧ W.cell? ⟨w.heap.size, 1, Option.none⟩ = some (.slice A1 n1 c1) ∧ W.cell? ⟨w.heap.size, 2, Option.none⟩ = some (.slice A2 n2 c2) ∧ W.cell? ⟨w.heap.size, 3, Option.none⟩ = some (.int .i64 R) ∧ W.cell? ⟨w.heap.size, 4, Option.none⟩ = some (.int .i64 Ct) ∧ W.cell? ⟨w.heap.size, 5, Option.none⟩ = some (.slice A3 n3 c3))) (first | go_keep | exact conbox6 (HB.out _ (Hk3.out.then ((Kept.drewn _).then hk4))) | exact conbox6 (HB.out _ (Hk3.out.then (((Kept.drewn _).then hk4).then hk5))))
        (first
          | (go_at_call 21; refine (HFew.out _ (HK3.out.then (Kept.drewn _))).mono ?_; rintro e W4 ⟨A4, c4, rfl, hD4, hk4⟩)
          | (go_at_call 23; have H2 := HStep.out _ A4 c4 _ (HK3.out.then ((Kept.drewn _).then hk4)) hD4; rw [if_pos hg2] at H2; refine H2.mono ?_; rintro e W5 ⟨A5, c5, rfl, hD5, hk5⟩))
      have HK5 := Lib.hid (HK3.out.then (((Kept.drewn _).then hk4).then hk5))
      have HDa5 := Lib.hid (HDa.out.kept (((Kept.drewn _).then hk4).then hk5))
      have HD5 := Lib.hid hD5
      clear b0 b1 b2 b3 b4 b5 hD4 hk4 hD5 hk5
      go_wp2_with fail
      refine (within_any _ _ _ _ _ _ _ _ _ HD5.out HDa5.out).mono ?_
      rw [Hw.out]
      rintro e W6 ⟨rfl, hk6⟩
      have HK6 := Lib.hid (HK5.out.then hk6)
      clear hk6
      go_wp2_with fail
      go_ret
      exact ⟨rfl, HK6.out⟩
end Go.Proofs.YtjmegicopdbkdaaDoor

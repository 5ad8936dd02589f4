/-
  The law ElementFalls of the package element.
-/
import Derived.Test.YthddanjmnifloaaDoorLaw14
import Derived.Test.YthddanjmnifloaaDoorLawsPlain
set_option maxHeartbeats 1000000
set_option maxRecDepth 10000
namespace Go.Proofs.YthddanjmnifloaaDoor
open Go Go.RowKit Pl

theorem isE_sub {nums vals vals' : List Int} {x : Int} (h : ∀ v ∈ vals', v ∈ vals) (hx : isE nums vals' x = true) : isE nums vals x = true := by
  unfold isE at *
  simp only [Bool.and_eq_true, List.contains_iff_mem] at *
  exact ⟨hx.1, h _ hx.2⟩
theorem cntE_pos {nums vals l : List Int} {v : Int} : 0 < cntE nums vals l v ↔ ∃ i ∈ l, isE nums vals i = true ∧ nums.getD i.toNat 0 = v := by
  unfold cntE
  rw [List.length_pos_iff_exists_mem]
  constructor
  · rintro ⟨i, hi⟩
    rw [List.mem_filter] at hi
    simp only [Bool.and_eq_true, beq_iff_eq] at hi
    exact ⟨i, hi.1, hi.2⟩
  · rintro ⟨i, hi, h1, h2⟩
    exact ⟨i, List.mem_filter.2 ⟨hi, by simp only [Bool.and_eq_true, beq_iff_eq]; exact ⟨h1, h2⟩⟩⟩

theorem elemB_vars {C : ConB} {n : Nat} (h : elemB C n = true) : C.vars.length = 2 ∧ (0 ≤ C.vars.getD 0 0 ∧ C.vars.getD 0 0 < n) ∧ (0 ≤ C.vars.getD 1 0 ∧ C.vars.getD 1 0 < n) ∧ C.vars.getD 0 0 ≠ C.vars.getD 1 0 := by
  unfold elemB variablesB at h
  simp only [Bool.and_eq_true, decide_eq_true_eq] at h
  obtain ⟨⟨⟨h1, h2⟩, h3⟩, _⟩ := h
  have hl : C.vars.length = 2 := by omega
  exact ⟨hl, varsOk_rng h3 (by omega), varsOk_rng h3 (by omega), varsOk_ne h3 (show 1 < C.vars.length by omega) (by omega)⟩

theorem elemGo_parts {C : ConB} {ds : List DomB} (h : elemGo C ds = true) : C.kind = 4 ∧ elemB C ds.length = true ∧ allMay ds = true := by
  unfold elemGo at h
  simp only [Bool.and_eq_true, decide_eq_true_eq] at h
  exact ⟨h.1.1, h.1.2, h.2⟩

theorem elem_go_less {C : ConB} {vs us : List DomB} (h : Fewer vs us) (hg : elemGo C us = true) : elemGo C vs = true := by
  obtain ⟨h1, h2, h3⟩ := elemGo_parts hg
  unfold elemGo
  rw [h.len, h2, h.may h3]
  simp [h1]

theorem elem_falls {C : ConB} {vs us : List DomB} (h : Fewer vs us) (hg : elemGo C us = true) : withinL (stepB (elemKp C vs) vs) (stepB (elemKp C us) us) = true := by
  obtain ⟨_, h2, hm⟩ := elemGo_parts hg
  obtain ⟨_, hp, hq, _⟩ := elemB_vars h2
  refine step_falls h hm fun i hi v hv hk => ?_
  have hsub : ∀ x ∈ listB (vs.getD (C.vars.getD 1 0).toNat nilD).1 (vs.getD (C.vars.getD 1 0).toNat nilD).2, x ∈ listB (us.getD (C.vars.getD 1 0).toNat nilD).1 (us.getD (C.vars.getD 1 0).toNat nilD).2 := fun x hx => h.mem hm (by omega) hx
  unfold elemKp at *
  split
  · rename_i e
    rw [if_pos e] at hk
    exact isE_sub hsub hk
  · rename_i e
    rw [if_neg e] at hk
    split
    · rename_i e2
      rw [if_pos e2] at hk
      rw [decide_eq_true_eq] at hk ⊢
      obtain ⟨j, hj, k1, k2⟩ := cntE_pos.1 hk
      exact cntE_pos.2 ⟨j, h.mem hm (by omega) hj, isE_sub hsub k1, k2⟩
    · rfl

theorem box_con (w : World) (K R Ct : Int) (A1 A2 A3 : Option Addr) (n1 c1 n2 c2 n3 c3 : Nat) : (w.alloc (.cells #[.int .i64 K, .slice A1 n1 c1, .slice A2 n2 c2, .int .i64 R, .int .i64 Ct, .slice A3 n3 c3] 37)).heap[w.heap.size]? = some (.cells #[.int .i64 K, .slice A1 n1 c1, .slice A2 n2 c2, .int .i64 R, .int .i64 Ct, .slice A3 n3 c3] 37) := heap_new _ _

theorem conbox6 {W : World} {O : Nat} {v0 v1 v2 v3 v4 v5 : Value} {t : TypeId} {fr : Nat × Nat} (h : W.heap[O]? = some (.cells #[v0, v1, v2, v3, v4, v5] t fr)) : W.cell? ⟨O, 0, Option.none⟩ = some v0 ∧ W.cell? ⟨O, 1, Option.none⟩ = some v1 ∧ W.cell? ⟨O, 2, Option.none⟩ = some v2 ∧ W.cell? ⟨O, 3, Option.none⟩ = some v3 ∧ W.cell? ⟨O, 4, Option.none⟩ = some v4 ∧ W.cell? ⟨O, 5, Option.none⟩ = some v5 :=
  ⟨cell_at h 0, cell_at h 1, cell_at h 2, cell_at h 3, cell_at h 4, cell_at h 5⟩

theorem falls14_any (K R Ct : Int) (A1 A2 A3 : Option Addr) (n1 c1 n2 c2 n3 c3 : Nat) (C : ConB) (A B : Option Addr) (n c m d : Nat) (ds : List DomB) (ms : List Nat) (w : World) (hC : ConIn w K R Ct A1 A2 A3 n1 c1 n2 c2 n3 c3 C) (hS : Doms w A n ds) (hM : Words w B m ms) (hT : Tab w) :
    Calls Tryd.prog 8 #[.agg #[.int .i64 K, .slice A1 n1 c1, .slice A2 n2 c2, .int .i64 R, .int .i64 Ct, .slice A3 n3 c3], .slice A n c, .slice B m d] w fun e w' => e = .returned (.bool true) ∧ Kept w w' := by
  have HC := Lib.hid hC
  have HS := Lib.hid hS
  have HM := Lib.hid hM
  have HT := Lib.hid hT
  have Hlen := Lib.hid hS.len
  clear hC hS hM hT
  have hhB : ∀ W, Kept (w.alloc (.cells #[.int .i64 K, .slice A1 n1 c1, .slice A2 n2 c2, .int .i64 R, .int .i64 Ct, .slice A3 n3 c3] 37)) W → W.heap[w.heap.size]? = some (.cells #[.int .i64 K, .slice A1 n1 c1, .slice A2 n2 c2, .int .i64 R, .int .i64 Ct, .slice A3 n3 c3] 37) := fun W h => h.heapAt (heap_new _ _)
  have HB := Lib.hid hhB
  clear hhB
  go_enter Tryd.func8, Tryd.ntmps8
  go_wp2_with fail
  refine (awake14 _ (HT.out.kept (Kept.box _ _))).mono ?_
  rintro e W1 ⟨rfl, hk1⟩
  have hb := HB.out W1 hk1
  have b0 := cell_at hb 0
  have b1 := cell_at hb 1
  have b2 := cell_at hb 2
  have b3 := cell_at hb 3
  have b4 := cell_at hb 4
  have b5 := cell_at hb 5
  simp only [List.getElem?_toArray, List.getElem?_cons_zero, List.getElem?_cons_succ] at b0 b1 b2 b3 b4 b5
  clear hb
  have Hk1 := Lib.hid hk1
  have HK1 := Lib.hid ((Kept.box _ _).then hk1)
  clear hk1
  go_wp2_with fail
  refine (large_any K R Ct A1 A2 A3 n1 c1 n2 c2 n3 c3 C A n c ds _ (HC.out.kept HK1.out) (HS.out.kept HK1.out)).mono ?_
  rintro e W2 ⟨bl, rfl, hn, hk2⟩
  clear b0 b1 b2 b3 b4 b5
  have hb := HB.out W2 (Hk1.out.then hk2)
  have b0 := cell_at hb 0
  have b1 := cell_at hb 1
  have b2 := cell_at hb 2
  have b3 := cell_at hb 3
  have b4 := cell_at hb 4
  have b5 := cell_at hb 5
  simp only [List.getElem?_toArray, List.getElem?_cons_zero, List.getElem?_cons_succ] at b0 b1 b2 b3 b4 b5
  clear hb
  have Hk2 := Lib.hid (Hk1.out.then hk2)
  have HK2 := Lib.hid (HK1.out.then hk2)
  clear hk2
  cases bl with
  | true =>
    clear b0 b1 b2 b3 b4 b5
    go_wp2_with fail
    go_ret
    exact ⟨rfl, HK2.out⟩
  | false =>
    have hn := hn rfl
    have HF := Lib.hid (few_fewer ds ms n)
    go_wp2_with fail
    have HStep : Hid (∀ (ds' : List DomB) (A' : Option Addr) (c' : Nat) W, Kept w W → Doms W A' n ds' → Calls Tryd.prog 30 #[.agg #[.int .i64 K, .slice A1 n1 c1, .slice A2 n2 c2, .int .i64 R, .int .i64 Ct, .slice A3 n3 c3], .slice A' n c'] W (StepPost (if elemGo C ds' = true then some (stepB (elemKp C ds') ds') else Option.none) W)) := fun ds' A' c' W hW hD =>
      elemstep_any K R Ct A1 A2 A3 n1 c1 n2 c2 n3 c3 C A' n c' ds' W (HC.out.kept hW) hD (HT.out.kept hW) (by omega)
    have Hfl : Hid ((fewUpto ds ms n).length = n) := by show _ = _; rw [fewUpto_length]; exact Hlen.out
    have HFew : Hid (∀ W, Kept w W → Calls Tryd.prog 38 #[.slice A n c, .slice B m d] W fun e w' => ∃ A' c', e = .returned (.slice A' n c') ∧ Doms w' A' n (fewUpto ds ms n) ∧ Kept W w') := fun W hW =>
      (fewer_any A B n c m d ds ms W (HS.out.kept hW) (HM.out.kept hW) (by omega)).mono fun e w' ⟨A', c', he, hD, hk⟩ => ⟨A', c', by rw [he, Hfl.out], by rw [Hfl.out] at hD; exact hD, hk⟩
    have H1 := HStep.out ds A c _ HK2.out (HS.out.kept HK2.out)
    cases hg : elemGo C ds with
    | false =>
      rw [if_neg (by rw [hg]; decide)] at H1
      refine H1.mono ?_
      rintro e W3 ⟨rfl, hk3⟩
      have Hk3 := Lib.hid (Hk2.out.then hk3)
      have HK3 := Lib.hid (HK2.out.then hk3)
      clear H1 hk3 b0 b1 b2 b3 b4 b5
      have hb := HB.out W3 Hk3.out
      have b0 := cell_at hb 0
      have b1 := cell_at hb 1
      have b2 := cell_at hb 2
      have b3 := cell_at hb 3
      have b4 := cell_at hb 4
      have b5 := cell_at hb 5
      simp only [List.getElem?_toArray, List.getElem?_cons_zero, List.getElem?_cons_succ] at b0 b1 b2 b3 b4 b5
      clear hb
      go_wp2_with fail
      cases hg2 : elemGo C (fewUpto ds ms n) with
      | false =>
        go_region_held3 (fun W => (W.cell? ⟨w.heap.size, 0, Option.none⟩ = some (.int .i64 K) ∧ W.cell? ⟨w.heap.size, 1, Option.none⟩ = some (.slice A1 n1 c1) ∧ W.cell? ⟨w.heap.size, 2, Option.none⟩ = some (.slice A2 n2 c2) ∧ W.cell? ⟨w.heap.size, 3, Option.none⟩ = some (.int .i64 R) ∧ W.cell? ⟨w.heap.size, 4, Option.none⟩ = some (.int .i64 Ct) ∧ W.cell? ⟨w.heap.size, 5, Option.none⟩ = some (.slice A3 n3 c3))) (first | go_keep | exact conbox6 (HB.out _ (Hk3.out.then ((Kept.drewn _).then hk4))) | exact conbox6 (HB.out _ (Hk3.out.then (((Kept.drewn _).then hk4).then hk5))))
          (first
            | (go_at_call 38; refine (HFew.out _ (HK3.out.then (Kept.drewn _))).mono ?_; rintro e W4 ⟨A4, c4, rfl, hD4, hk4⟩)
            | (go_at_call 30; have H2 := HStep.out _ A4 c4 _ (HK3.out.then ((Kept.drewn _).then hk4)) hD4; rw [if_neg (by rw [hg2]; decide)] at H2; refine H2.mono ?_; rintro e W5 ⟨rfl, hk5⟩))
        have HK5 := Lib.hid (HK3.out.then (((Kept.drewn _).then hk4).then hk5))
        clear b0 b1 b2 b3 b4 b5
        go_wp2_with fail
        go_ret
        exact ⟨rfl, HK5.out⟩
      | true =>
        go_region_held3 (fun W => (W.cell? ⟨w.heap.size, 0, Option.none⟩ = some (.int .i64 K) ∧ W.cell? ⟨w.heap.size, 1, Option.none⟩ = some (.slice A1 n1 c1) ∧ W.cell? ⟨w.heap.size, 2, Option.none⟩ = some (.slice A2 n2 c2) ∧ W.cell? ⟨w.heap.size, 3, Option.none⟩ = some (.int .i64 R) ∧ W.cell? ⟨w.heap.size, 4, Option.none⟩ = some (.int .i64 Ct) ∧ W.cell? ⟨w.heap.size, 5, Option.none⟩ = some (.slice A3 n3 c3))) (first | go_keep | exact conbox6 (HB.out _ (Hk3.out.then ((Kept.drewn _).then hk4))) | exact conbox6 (HB.out _ (Hk3.out.then (((Kept.drewn _).then hk4).then hk5))))
          (first
            | (go_at_call 38; refine (HFew.out _ (HK3.out.then (Kept.drewn _))).mono ?_; rintro e W4 ⟨A4, c4, rfl, hD4, hk4⟩)
            | (go_at_call 30; have H2 := HStep.out _ A4 c4 _ (HK3.out.then ((Kept.drewn _).then hk4)) hD4; rw [if_pos hg2] at H2; refine H2.mono ?_; rintro e W5 ⟨A5, c5, rfl, hD5, hk5⟩))
        have HK5 := Lib.hid (HK3.out.then (((Kept.drewn _).then hk4).then hk5))
        clear b0 b1 b2 b3 b4 b5
        go_wp2_with fail
        go_ret
        exact ⟨rfl, HK5.out⟩
    | true =>
      have Hw := Lib.hid (elem_falls HF.out hg)
      have hg2 := elem_go_less HF.out hg
      rw [if_pos hg] at H1
      refine H1.mono ?_
      rintro e W3 ⟨Aa, ca, rfl, hDa, hk3⟩
      have Hk3 := Lib.hid (Hk2.out.then hk3)
      have HK3 := Lib.hid (HK2.out.then hk3)
      have HDa := Lib.hid hDa
      clear H1 hk3 hDa b0 b1 b2 b3 b4 b5
      have hb := HB.out W3 Hk3.out
      have b0 := cell_at hb 0
      have b1 := cell_at hb 1
      have b2 := cell_at hb 2
      have b3 := cell_at hb 3
      have b4 := cell_at hb 4
      have b5 := cell_at hb 5
      simp only [List.getElem?_toArray, List.getElem?_cons_zero, List.getElem?_cons_succ] at b0 b1 b2 b3 b4 b5
      clear hb
      go_wp2_with fail
      go_region_held3 (fun W => (W.cell? ⟨w.heap.size, 0, Option.none⟩ = some (.int .i64 K) ∧ W.cell? ⟨w.heap.size, 1, Option.none⟩ = some (.slice A1 n1 c1) ∧ W.cell? ⟨w.heap.size, 2, Option.none⟩ = some (.slice A2 n2 c2) ∧ W.cell? ⟨w.heap.size, 3, Option.none⟩ = some (.int .i64 R) ∧ W.cell? ⟨w.heap.size, 4, Option.none⟩ = some (.int .i64 Ct) ∧ W.cell? ⟨w.heap.size, 5, Option.none⟩ = some (.slice A3 n3 c3))) (first | go_keep | exact conbox6 (HB.out _ (Hk3.out.then ((Kept.drewn _).then hk4))) | exact conbox6 (HB.out _ (Hk3.out.then (((Kept.drewn _).then hk4).then hk5))))
        (first
          | (go_at_call 38; refine (HFew.out _ (HK3.out.then (Kept.drewn _))).mono ?_; rintro e W4 ⟨A4, c4, rfl, hD4, hk4⟩)
          | (go_at_call 30; have H2 := HStep.out _ A4 c4 _ (HK3.out.then ((Kept.drewn _).then hk4)) hD4; rw [if_pos hg2] at H2; refine H2.mono ?_; rintro e W5 ⟨A5, c5, rfl, hD5, hk5⟩))
      have HK5 := Lib.hid (HK3.out.then (((Kept.drewn _).then hk4).then hk5))
      have HDa5 := Lib.hid (HDa.out.kept (((Kept.drewn _).then hk4).then hk5))
      have HD5 := Lib.hid hD5
      clear b0 b1 b2 b3 b4 b5 hD4 hk4 hD5 hk5
      go_wp2_with fail
      refine (within_any _ _ _ _ _ _ _ _ _ HD5.out HDa5.out).mono ?_
      rw [Hw.out]
      rintro e W6 ⟨rfl, hk6⟩
      have HK6 := Lib.hid (HK5.out.then hk6)
      clear hk6
      go_wp2_with fail
      go_ret
      exact ⟨rfl, HK6.out⟩
end Go.Proofs.YthddanjmnifloaaDoor

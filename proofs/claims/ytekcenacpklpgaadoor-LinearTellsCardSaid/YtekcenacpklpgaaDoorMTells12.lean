/-
  Contracts and plain laws that the card rests on, part 12.
-/
import Derived.Test.YtekcenacpklpgaaDoorMTells7
import Derived.Test.YtekcenacpklpgaaDoorMTells8
import Derived.Test.YtekcenacpklpgaaDoorMTells9
import Derived.Test.YtekcenacpklpgaaDoorMTells11
import Derived.Test.YtekcenacpklpgaaDoorMTells3
set_option maxHeartbeats 6000000
set_option maxRecDepth 10000
namespace Go.Proofs.YtekcenacpklpgaaDoor
open Go Go.RowKit Pl

theorem linGo_right (C : ConB) (ds : List DomB) : ((decide (C.kind = 1) || decide (C.kind = 3)) && allMay ds && rightB C ds.length) = linGo C ds := by
  unfold linGo
  cases allMay ds <;> cases rightB C ds.length <;> simp

theorem rstep12_any (K R Ct : Int) (A1 A2 A3 : Option Addr) (n1 c1 n2 c2 n3 c3 : Nat) (C : ConB) (A : Option Addr) (n c : Nat) (ds : List DomB) (w : World) (hC : ConIn w K R Ct A1 A2 A3 n1 c1 n2 c2 n3 c3 C) (hS : Doms w A n ds) (hn : n ≤ 1000) :
    Calls Tryd.prog 11 #[.agg #[.int .i64 K, .slice A1 n1 c1, .slice A2 n2 c2, .int .i64 R, .int .i64 Ct, .slice A3 n3 c3], .slice A n c] w (StepPost (if linGo C ds = true then some (stepB (linKp C ds) ds) else Option.none) w) := by
  obtain ⟨i0, hi, hz0, hz1, hz2⟩ := info_parts info_ints
  obtain ⟨j0, hj, hy0, hy1, hy2⟩ := info_parts info_int
  have HC := Lib.hid hC
  have HS := Lib.hid hS
  have Hlen := Lib.hid hS.len
  have Hl1 := Lib.hid hC.vars.len
  have Hl2 := Lib.hid hC.coefs.len
  have hrc := hC.rc
  clear hC hS
  have HB : Hid (∀ wr, Kept (w.alloc (.cells #[.int .i64 K, .slice A1 n1 c1, .slice A2 n2 c2, .int .i64 R, .int .i64 Ct, .slice A3 n3 c3] 24)) wr → wr.heap[w.heap.size]? = some (.cells #[.int .i64 K, .slice A1 n1 c1, .slice A2 n2 c2, .int .i64 R, .int .i64 Ct, .slice A3 n3 c3] 24)) := fun wr h => h.heapAt (heap_new _ _)
  have Hb : Hid (((decide (C.kind = 1) || decide (C.kind = 3)) && allMay ds && rightB C n) = linGo C ds) := by show _ = _; rw [← Hlen.out]; exact linGo_right C ds
  have HR : Hid (∀ (b : Bool), linGo C ds = b → ∀ (O : Nat) (W : World), Kept w W → W.heap[O]? = some (.cells #[.int .i64 1, .int .i64 3] 3) → Calls Tryd.prog 31 #[.agg #[.int .i64 K, .slice A1 n1 c1, .slice A2 n2 c2, .int .i64 R, .int .i64 Ct, .slice A3 n3 c3], .slice A n c, .slice (some ⟨O, 0, Option.none⟩) 2 2] W fun e w' => e = .returned (.bool b) ∧ Kept W w') := fun b hb O W hW hO => by
    have := rright12b_any K R Ct A1 A2 A3 n1 c1 n2 c2 n3 c3 C O A n c ds W (HC.out.kept hW) (HS.out.kept hW) hO
    rwa [Hb.out, hb] at this
  by_cases hg : ¬ linGo C ds = true
  · rw [if_neg hg]
    have HR2 := Lib.hid (HR.out false (by simpa using hg))
    clear Hb HR
    go_enter Tryd.func11, Tryd.ntmps11
    go_wp2_with fail
    refine (HR2.out _ _ ((Kept.box _ _).newBlock _) (heap_new2 _ _ _)).mono ?_
    rintro e W1 ⟨rfl, hk1⟩
    have HK1 := Lib.hid (((Kept.box _ _).newBlock _).then hk1)
    clear hk1
    go_wp2_with fail
    go_ret2
    exact ⟨rfl, HK1.out⟩
  · have hg := Classical.not_not.1 hg
    rw [if_pos hg]
    have HR2 := Lib.hid (HR.out true hg)
    obtain ⟨hkk, hB4, hm4⟩ := linGo_parts hg
    have Hkk := Lib.hid hkk
    have HB4 := Lib.hid hB4
    have Hm4 := Lib.hid hm4
    have hvo0 := rightB_vars hB4
    have Hvo0 := Lib.hid hvo0
    have Hvo : Hid (varsOk C.vars n = true) := by show _ = _; rw [← Hlen.out]; exact hvo0
    have hn19 : 1 ≤ n1 ∧ n1 ≤ 9 := by have := rightB_len hB4; have := Hl1.out; omega
    have hn0 : 0 < n := by
      have h1 := varsOk_rng Hvo.out (i := 0) (by have := Hl1.out; omega)
      omega
    obtain ⟨ls0, hls⟩ : ∃ ls, ls = listsOf ds := ⟨_, rfl⟩
    have Hls0 := Lib.hid hls
    have Hll0 : Hid (ls0.length = n) := by show _ = _; rw [hls, lists_len]; exact Hlen.out
    have Hsl : Hid ((stepB (linKp C ds) ds).length = n) := by show _ = _; rw [stepB_length]; exact Hlen.out
    have Hq : Hid (wipedS C.vars ls0 n1 = wipedB C ds n1) := by show _ = _; rw [← Hl1.out, hls]; exact wipedS_wiped hvo0
    have HLs : Hid (∀ W, Doms W A n ds → Calls Tryd.prog 33 #[.slice A n c] W (ListsPost ls0 W)) := fun W hW => by rw [hls]; exact rlists_any A n c ds W hW hn
    have H640 : Hid (∀ j, (ls0.getD j []).length ≤ 64 ∧ ∀ x ∈ ls0.getD j [], -1048576 ≤ x ∧ x ≤ 1048576) := fun j => by
      rw [hls]
      by_cases hj : j < ds.length
      · rw [listsOf_getD ds hj]; exact ⟨listB_length _ _, listB_rng _ _⟩
      · rw [List.getD_eq_getElem?_getD, List.getElem?_eq_none (by rw [lists_len]; omega)]; simp
    clear Hb HR hkk hB4 hm4 hvo0 hls hg
    go_enter Tryd.func11, Tryd.ntmps11
    go_wp2_with fail
    refine (HR2.out _ _ ((Kept.box _ _).newBlock _) (heap_new2 _ _ _)).mono ?_
    rintro e W1 ⟨rfl, hk1⟩
    have HK1 := Lib.hid (((Kept.box _ _).newBlock _).then hk1)
    have Hk1 := Lib.hid ((Kept.box _ _).then hk1)
    clear hk1 HR2
    have hb := HB.out W1 Hk1.out
    have b0 := cell_at hb 0
    have b1 := cell_at hb 1
    have b2 := cell_at hb 2
    have b3 := cell_at hb 3
    have b4 := cell_at hb 4
    have b5 := cell_at hb 5
    simp only [List.getElem?_toArray, List.getElem?_cons_zero, List.getElem?_cons_succ] at b0 b1 b2 b3 b4 b5
    clear hb
    go_wp2_with fail
    go_region_held3 (fun W => (W.cell? ⟨w.heap.size, 0, Option.none⟩ = some (.int .i64 K) ∧ W.cell? ⟨w.heap.size, 1, Option.none⟩ = some (.slice A1 n1 c1) ∧ W.cell? ⟨w.heap.size, 2, Option.none⟩ = some (.slice A2 n2 c2) ∧ W.cell? ⟨w.heap.size, 3, Option.none⟩ = some (.int .i64 R) ∧ W.cell? ⟨w.heap.size, 4, Option.none⟩ = some (.int .i64 Ct) ∧ W.cell? ⟨w.heap.size, 5, Option.none⟩ = some (.slice A3 n3 c3))) (first | go_keep | exact conbox6 (HB.out _ (Hk1.out.then ((Kept.drewn _).then hk2))) | exact conbox6 (HB.out _ (Hk1.out.then (((Kept.drewn _).then hk2).then hk3))))
      (first
        | (go_at_call 33; refine (HLs.out _ (HS.out.kept (HK1.out.then (Kept.drewn _)))).mono ?_; rintro e W2 ⟨Al, cl, rfl, hLL, hk2⟩; rw [Hll0.out] at hLL ⊢)
        | (go_at_call 32; refine (rwiped_any K R Ct A1 A2 A3 n1 c1 n2 c2 n3 c3 C Al n cl ls0 W2 (HC.out.kept (HK1.out.then ((Kept.drewn _).then hk2))) hLL Hvo.out hn0 hn).mono ?_; rintro e W3 ⟨A3', c3', rfl, hL3, hk3⟩))
    have HL3 := Lib.hid hL3
    have HK3 := Lib.hid (HK1.out.then (((Kept.drewn _).then hk2).then hk3))
    have Hk3 := Lib.hid (Hk1.out.then (((Kept.drewn _).then hk2).then hk3))
    clear b0 b1 b2 b3 b4 b5 hk2 hk3 hL3 hLL HLs
    have HKeep : Hid (∀ (fl : List (List Int)) (W : World) (A' : Option Addr) (c' : Nat), Kept w W → LL W A' n fl → stepB (fun i x => (fl.getD i []).contains x) ds = stepB (linKp C ds) ds → Calls Tryd.prog 34 #[.slice A n c, .slice A' n c'] W (DomsPost (stepB (linKp C ds) ds) W)) := fun fl W A' c' hW hL he => by
      have h := rkeeps_any (fun i' x => (fl.getD i' []).contains x) A A' n c c' ds fl W (HS.out.kept hW) hL Hm4.out (fun _ _ => rfl) hn
      rwa [he] at h
    rw [Hq.out] at HL3 ⊢
    cases hqq : wipedB C ds n1 with
    | true =>
      have Hres := Lib.hid (rl_none Hl1.out Hvo0.out Hm4.out hqq)
      rw [← Hls0.out] at Hres
      rw [hqq, if_pos rfl] at HL3
      have HQ := Lib.hid (HKeep.out _ W3 A3' c3' HK3.out HL3.out Hres.out)
      clear Hres HKeep hqq
      generalize stepB (linKp C ds) ds = res at *
      go_wp2_with fail
      refine HQ.out.mono ?_
      rintro e W9 ⟨A9, c9, rfl, hD9, hk9⟩
      rw [Hsl.out] at hD9 ⊢
      have HD9 := Lib.hid hD9
      have HK9 := Lib.hid (HK3.out.then hk9)
      clear hD9 hk9
      go_wp2_with fail
      go_ret2
      exact ⟨A9, c9, by rw [Hsl.out]; rfl, by rw [Hsl.out]; exact HD9.out, HK9.out⟩
    | false =>
      have Hw := Lib.hid hqq
      rw [hqq, if_neg (by decide)] at HL3
      have Hpos : Hid (∀ i, i < n1 → 0 < (leftOf C ds i).length) := wipedB_iff.1 hqq
      clear hqq
      obtain ⟨a3, _, _, _, _, ha3, hba3, _, _, _⟩ := HL3.out.named 0 hn0
      subst ha3
      have hb := HB.out W3 Hk3.out
      have b0 := cell_at hb 0
      have b1 := cell_at hb 1
      have b2 := cell_at hb 2
      have b3 := cell_at hb 3
      have b4 := cell_at hb 4
      have b5 := cell_at hb 5
      simp only [List.getElem?_toArray, List.getElem?_cons_zero, List.getElem?_cons_succ] at b0 b1 b2 b3 b4 b5
      clear hb
      have hlb : w.heap.size < W3.heap.size := World.block_lt_of_cell? W3 _ b0
      by_cases gK : K = 1
      · have hdK : (K == 1) = true := by simp [gK]
        have Hk1' : Hid (C.kind = 1) := HC.out.kind.trans gK
        have hso := linear_parts Hk1'.out HB4.out
        have Hres := Lib.hid (rl_sum Hl1.out Hk1'.out Hvo0.out Hm4.out Hw.out)
        have HSum := Lib.hid (rlsum_any K R Ct A1 A2 A3 n1 c1 n2 c2 n3 c3 C A1 n1 c1 C.vars R (some a3) n c3' ls0 W3 (HC.out.kept HK3.out) (HC.out.vars.kept HK3.out) HL3.out (by have := hso.len; have := Hl1.out; have := Hl2.out; omega) (by have := hso.most; have := Hl1.out; omega) hso.bnd Hvo.out
          (fun i hi => ⟨by rw [Hls0.out, lsAt_left Hvo0.out (by have := Hl1.out; omega)]; exact Hpos.out i hi, (H640.out _).1, (H640.out _).2⟩) (by have := hso.rel0; rwa [HC.out.rel] at this) (by have := hso.rel5; rwa [HC.out.rel] at this) hn0 hn)
        rw [← Hls0.out, HC.out.rel] at Hres
        clear gK hso Hpos
        go_wp2_with fail
        refine HSum.out.mono ?_
        rintro e W5 ⟨g, cg, rfl, hO5, hg2, hg3, hk5⟩
        have HK5 := Lib.hid (HK3.out.then hk5)
        have Hfl : Hid ((setU C.vars ls0 (sumG C.coefs (lsAt C.vars ls0) n1 R C.const) n1).length = n) := by show _ = _; rw [setU_length]; exact Hll0.out
        have HQ := Lib.hid (HKeep.out _ W5 (some ⟨g, 0, Option.none⟩) cg HK5.out (hO5.lists Hfl.out (by omega)) Hres.out)
        clear hO5 hk5 b0 b1 b2 b3 b4 b5 hlb Hres HKeep HSum
        generalize stepB (linKp C ds) ds = res at *
        go_wp2_with fail
        refine HQ.out.mono ?_
        rintro e W9 ⟨A9, c9, rfl, hD9, hk9⟩
        rw [Hsl.out] at hD9 ⊢
        have HD9 := Lib.hid hD9
        have HK9 := Lib.hid (HK5.out.then hk9)
        clear hD9 hk9
        go_wp2_with fail
        go_ret2
        exact ⟨A9, c9, by rw [Hsl.out]; rfl, by rw [Hsl.out]; exact HD9.out, HK9.out⟩
      · have hdK : (K == 1) = false := by simp [gK]
        have Hk3' : Hid (C.kind = 3) := Hkk.out.resolve_left (fun h => gK (HC.out.kind.symm.trans h))
        have hso := iff_parts Hk3'.out HB4.out
        have Hso := Lib.hid hso
        have hn2 : 2 ≤ n1 := by have := hso.least; have := Hl1.out; omega
        have Hn2 : Hid (n2 = n1 - 1) := by have := hso.len; have := Hl1.out; have := Hl2.out; show _ = _; omega
        have Hr0 : Hid (0 ≤ R) := by have := hso.rel0; rwa [HC.out.rel] at this
        have Hr5 : Hid (R ≤ 5) := by have := hso.rel5; rwa [HC.out.rel] at this
        obtain ⟨bv, ov, hA1, hcvv⟩ := HC.out.vars.plain (by omega)
        subst hA1
        have hcv0 := hcvv 0 (by have := Hl1.out; omega)
        simp only [Nat.add_zero] at hcv0
        obtain ⟨hv0, hv1⟩ := varsOk_rng Hvo.out (i := 0) (by have := Hl1.out; omega)
        obtain ⟨p, hp⟩ := Int.eq_ofNat_of_zero_le hv0
        rw [hp] at hcv0 hv1
        have hpn : p < n := by omega
        have Hp := Lib.hid hp
        have Hcv0 := Lib.hid hcv0
        have hcap := HC.out.cap1
        have HV := Lib.hid (HC.out.vars.rest hn2)
        have Hvr : Hid (varsOk (C.vars.drop 1) n = true) := varsOk_drop Hvo.out
        have HVl : Hid ((C.vars.drop 1).length = n1 - 1) := by show _ = _; rw [List.length_drop, Hl1.out]
        obtain ⟨al, l, Bl, ml, clp, hal, hbal, Hl, hclp, HIl⟩ := HL3.out.named p hpn
        cases hal
        have Hclp := Lib.hid hclp
        have Hleft : Hid (leftOf C ds 0 = l) := by
          show _ = _
          rw [← lsAt_left Hvo0.out (by have := Hl1.out; omega), ← Hls0.out]
          unfold lsAt
          rw [Hp.out, Int.toNat_natCast, Hl.out]
        have Hrp : Hid (∀ i, i < n1 - 1 → 0 < (lsAt (C.vars.drop 1) ls0 i).length ∧ (lsAt (C.vars.drop 1) ls0 i).length ≤ 64 ∧ ∀ x ∈ lsAt (C.vars.drop 1) ls0 i, -1048576 ≤ x ∧ x ≤ 1048576) := fun i hi =>
          ⟨by rw [Hls0.out, lsAt_rest Hvo0.out (by have := Hl1.out; omega)]; exact Hpos.out (i + 1) (by omega), (H640.out _).1, (H640.out _).2⟩
        have HSum : Hid (∀ rel W, 0 ≤ rel → rel ≤ 5 → Kept W3 W → Calls Tryd.prog 35 #[.agg #[.int .i64 K, .slice (some ⟨bv, ov, Option.none⟩) n1 c1, .slice A2 n2 c2, .int .i64 R, .int .i64 Ct, .slice A3 n3 c3], .slice (some ⟨bv, ov + 1, Option.none⟩) (n1 - 1) (c1 - 1), .int .i64 rel, .slice (some a3) n c3'] W
            (OwnLPost n (setU (C.vars.drop 1) ls0 (sumG C.coefs (lsAt (C.vars.drop 1) ls0) (n1 - 1) rel C.const) (n1 - 1)) W)) := fun rel W hr0 hr5 hW =>
          rlsum_any K R Ct (some ⟨bv, ov, Option.none⟩) A2 A3 n1 c1 n2 c2 n3 c3 C (some ⟨bv, ov + 1, Option.none⟩) (n1 - 1) (c1 - 1) (C.vars.drop 1) rel (some a3) n c3' ls0 W (HC.out.kept (HK3.out.then hW)) (HV.out.kept (HK3.out.then hW)) (HL3.out.kept hW) Hn2.out (by omega) hso.bnd Hvr.out Hrp.out hr0 hr5 hn0 hn
        have HEnd : Hid (∀ W, Kept W3 W → Calls Tryd.prog 39 #[.slice (some ⟨bv, ov + 1, Option.none⟩) (n1 - 1) (c1 - 1), .slice A2 n2 c2, .slice (some a3) n c3', .int .i64 (-1)] W
            fun e w' => e = .returned (.tuple #[.int .i64 (lowBut C.coefs (restOf C ds) (-1) (n1 - 1)), .int .i64 (highBut C.coefs (restOf C ds) (-1) (n1 - 1))]) ∧ Kept W w') := fun W hW => by
          have h := rends_any (some ⟨bv, ov + 1, Option.none⟩) (n1 - 1) (c1 - 1) (C.vars.drop 1) A2 c2 C.coefs (some a3) n c3' ls0 (-1) W (HV.out.kept (HK3.out.then hW)) (by have h2 := HC.out.coefs.kept (HK3.out.then hW); rw [Hn2.out] at h2; exact h2) (HL3.out.kept hW) (by omega) hso.bnd (fun i hi => varsOk_rng Hvr.out (by rw [HVl.out]; exact hi)) (fun i hi => ⟨(Hrp.out i hi).1, (Hrp.out i hi).2.2⟩)
          have hc := ends_congr (cs := C.coefs) (ls := lsAt (C.vars.drop 1) ls0) (ms := restOf C ds) (but := -1) (j := n1 - 1) (fun i hi => by rw [Hls0.out]; exact lsAt_rest Hvo0.out (by have := Hl1.out; omega))
          rw [hc.1, hc.2, ← Hn2.out] at h
          rw [← Hn2.out]
          exact h
        have HNone : Hid (∀ W, Kept W3 W → Calls Tryd.prog 37 #[.agg #[.int .i64 K, .slice (some ⟨bv, ov, Option.none⟩) n1 c1, .slice A2 n2 c2, .int .i64 R, .int .i64 Ct, .slice A3 n3 c3], .slice (some a3) n c3'] W (OwnLPost n (noneU C.vars ls0 n1) W)) := fun W hW =>
          rnone_any K R Ct (some ⟨bv, ov, Option.none⟩) A2 A3 n1 c1 n2 c2 n3 c3 C (some a3) n c3' ls0 W (HC.out.kept (HK3.out.then hW)) (HL3.out.kept hW) Hvo.out hn0 hn
        obtain ⟨h, hh⟩ : ∃ h : Int → Bool, h = fun v => l.contains v := ⟨_, rfl⟩
        have HHas : Hid (∀ v W, Kept W3 W → Calls Tryd.prog 36 #[.slice Bl ml clp, .int .i64 v] W fun e w' => e = .returned (.bool (h v)) ∧ W = w') := fun v W hW => by
          rw [hh]; exact rlhas_any Bl ml clp l v W (HIl.out.kept hW)
        have Hy : Hid ((leftOf C ds 0).contains 1 = h 1) := by show _ = _; rw [Hleft.out, hh]
        have Hz : Hid ((leftOf C ds 0).contains 0 = h 0) := by show _ = _; rw [Hleft.out, hh]
        have Hfin : Hid (∀ (rs : List (List Int)) (fl : List Int), rs.length = n → (∀ v ∈ leftOf C ds 0, fl.contains v = iffG C ds 0 v) → (∀ q, ∀ v ∈ (listsOf ds).getD q [], (rs.getD q []).contains v = varsKp (C.vars.drop 1) (fun i x => iffG C ds (i + 1) x) (C.vars.drop 1).length q v) →
            stepB (fun i x => ((rs.set p fl).getD i []).contains x) ds = stepB (linKp C ds) ds) := fun rs fl h1 h2 h3 => by
          have h9 := rl_iff (C := C) (ds := ds) (rs := rs) (fl := fl) Hk3'.out Hvo0.out Hm4.out (by rw [Hl1.out]; exact Hw.out) (by have := Hl1.out; omega) (by have := Hlen.out; omega) h2 h3
          rw [Hp.out, Int.toNat_natCast] at h9
          exact h9
        have hcvW := HK3.out.cellAt Hcv0.out
        have hbvW : bv < W3.heap.size := World.block_lt_of_cell? W3 _ hcvW
        have h1n : (1 : Int) ≤ (n1 : Int) := by omega
        have h0n : (0 : Int) < (n1 : Int) := by omega
        have h1c : (n1 : Int) ≤ (c1 : Int) := by omega
        obtain ⟨us, hvl, hvc, hvo, hvd⟩ := HL3.out.row hn0
        have Hvd := Lib.hid hvd
        have Hvc := Lib.hid hvc
        have HR0 : Hid ((W3.alloc (.cells #[] 22)).ownsRow W3.heap.size 22 1 (.slice (some ⟨W3.heap.size, 0, Option.none⟩) 0 0) 0 []) := own_empty (heap_new _ _) (Nat.le_refl _)
        clear hh gK hso hp hcv0 hv0 hv1 hcvv hvd hvc Hpos
        generalize hyy : h 1 = y at *
        generalize hzz : h 0 = z at *
        cases y with
        | false =>
          cases z with
          | false =>
            have Hres := Lib.hid (rl_ff (n1 := n1) Hl1.out Hk3'.out Hvo0.out Hm4.out Hw.out (fun i x hx => iffG_ff Hy.out Hz.out i hx))
            rw [← Hls0.out] at Hres
            go_wp2_with (first
              | (go_at_call 36; refine (HHas.out _ _ (Kept.same _)).mono ?_; rintro e w9 ⟨rfl, rfl⟩)
              | (at_builtin; refine wpList_append_own _ rfl _ _ 60 rfl W3.heap.size 22 i0 (.slice Option.none 0 0) 1 24 Tryd.underlying60 hi hz0 hz1 hz2 rfl (by decide) _ _ _ rfl HR0.out a3 n c3' us rfl hvl (fun j u hu => (Kept.box W3 _).cellAt (Hvc.out j u hu)) hvo (by unfold maxLen; omega) (by omega) (by simp) ?_; intro v' w4 hown' hgrow _; rw [Nat.zero_add, List.nil_append] at hown'; obtain ⟨g0, cap0, rfl, hgb0, hgl0⟩ := hown'.form hn0; have HK4 : Hid (Kept W3 w4) := (Kept.box _ (.cells #[] 22)).grown hgrow (by simp) (fun i hi => by simp [Act.eval, Value.ownBlock] at hi; omega); obtain ⟨d0, d1, d2, d3, d4, d5⟩ := conbox6 (HB.out w4 (Hk3.out.then HK4.out)); have hlb4 : w.heap.size < w4.heap.size := World.block_lt_of_cell? w4 _ d0))
            have HO4 : Hid (OwnL w4 W3.heap.size (.slice (some ⟨g0, 0, Option.none⟩) n cap0) ls0) := by
              refine ⟨us, by rw [Hll0.out]; exact hown', fun j hj => ?_⟩
              rw [Hll0.out] at hj
              obtain ⟨B', m', c', e1, e3⟩ := Hvd.out j hj
              refine ⟨B', m', c', e1, e3.kept HK4.out, fun hm a' ha' e => ?_⟩
              subst ha'
              have := e3.block hm
              simp only [Value.ownBlock, Option.some.injEq] at e
              omega
            have hs4 := HK4.out.size
            clear hown' hgrow hvo hvl b0 b1 b2 b3 b4 b5 hlb hcvW hbvW HR0 Hvd Hvc HHas hyy hzz
            refine (HNone.out w4 HK4.out).mono ?_
            rintro e W5 ⟨g, cg, rfl, hO5, hg2, hg3, hk5⟩
            have HK5 := Lib.hid ((HK3.out.then HK4.out).then hk5)
            have Hfl : Hid ((noneU C.vars ls0 n1).length = n) := by show _ = _; rw [noneU_length]; exact Hll0.out
            have HQ := Lib.hid (HKeep.out _ W5 (some ⟨g, 0, Option.none⟩) cg HK5.out (hO5.lists Hfl.out (by omega)) Hres.out)
            clear hO5 hk5 d0 d1 d2 d3 d4 d5 hlb4 Hres HKeep HSum Hfin
            generalize stepB (linKp C ds) ds = res at *
            go_wp2_with fail
            refine HQ.out.mono ?_
            rintro e W9 ⟨A9, c9, rfl, hD9, hk9⟩
            rw [Hsl.out] at hD9 ⊢
            have HD9 := Lib.hid hD9
            have HK9 := Lib.hid (HK5.out.then hk9)
            clear hD9 hk9
            go_wp2_with fail
            go_ret2
            exact ⟨A9, c9, by rw [Hsl.out]; rfl, by rw [Hsl.out]; exact HD9.out, HK9.out⟩
          | true =>
            go_wp2_with (first
              | (go_at_call 36; refine (HHas.out _ _ (Kept.same _)).mono ?_; rintro e w9 ⟨rfl, rfl⟩)
              | (at_builtin; refine wpList_append_own _ rfl _ _ 60 rfl W3.heap.size 22 i0 (.slice Option.none 0 0) 1 24 Tryd.underlying60 hi hz0 hz1 hz2 rfl (by decide) _ _ _ rfl HR0.out a3 n c3' us rfl hvl (fun j u hu => (Kept.box W3 _).cellAt (Hvc.out j u hu)) hvo (by unfold maxLen; omega) (by omega) (by simp) ?_; intro v' w4 hown' hgrow _; rw [Nat.zero_add, List.nil_append] at hown'; obtain ⟨g0, cap0, rfl, hgb0, hgl0⟩ := hown'.form hn0; have HK4 : Hid (Kept W3 w4) := (Kept.box _ (.cells #[] 22)).grown hgrow (by simp) (fun i hi => by simp [Act.eval, Value.ownBlock] at hi; omega); obtain ⟨d0, d1, d2, d3, d4, d5⟩ := conbox6 (HB.out w4 (Hk3.out.then HK4.out)); have hlb4 : w.heap.size < w4.heap.size := World.block_lt_of_cell? w4 _ d0))
            have HO4 : Hid (OwnL w4 W3.heap.size (.slice (some ⟨g0, 0, Option.none⟩) n cap0) ls0) := by
              refine ⟨us, by rw [Hll0.out]; exact hown', fun j hj => ?_⟩
              rw [Hll0.out] at hj
              obtain ⟨B', m', c', e1, e3⟩ := Hvd.out j hj
              refine ⟨B', m', c', e1, e3.kept HK4.out, fun hm a' ha' e => ?_⟩
              subst ha'
              have := e3.block hm
              simp only [Value.ownBlock, Option.some.injEq] at e
              omega
            have hs4 := HK4.out.size
            clear hown' hgrow hvo hvl b0 b1 b2 b3 b4 b5 hlb hcvW hbvW HR0 Hvd Hvc HHas hyy hzz
            have hcr : 0 ≤ contraB R ∧ contraB R ≤ 5 := ⟨(contra_rng Hr0.out Hr5.out).1, (contra_rng Hr0.out Hr5.out).2.1⟩
            have HCo : Hid (∀ W, Calls Tryd.prog 38 #[.int .i64 R] W fun e w' => e = .returned (.int .i64 (contraB R)) ∧ Kept W w') := fun W => rcontrary_any R W Hr0.out Hr5.out
            have HSu := Lib.hid (fun W hW => HSum.out (contraB R) W hcr.1 hcr.2 (HK4.out.then hW))
            have Hrs : Hid (∀ q, ∀ v ∈ (listsOf ds).getD q [], ((setU (C.vars.drop 1) ls0 (sumG C.coefs (lsAt (C.vars.drop 1) ls0) (n1 - 1) (contraB R) C.const) (n1 - 1)).getD q []).contains v = varsKp (C.vars.drop 1) (fun i x => iffG C ds (i + 1) x) (C.vars.drop 1).length q v) := fun q v hv => by
              rw [Hls0.out]
              refine rl_rest Hvo0.out HVl.out ?_ q v hv
              rw [iffG_ft Hy.out Hz.out, Hl1.out, HC.out.rel]
            have Hrl : Hid ((setU (C.vars.drop 1) ls0 (sumG C.coefs (lsAt (C.vars.drop 1) ls0) (n1 - 1) (contraB R) C.const) (n1 - 1)).length = n) := by show _ = _; rw [setU_length]; exact Hll0.out
            generalize setU (C.vars.drop 1) ls0 (sumG C.coefs (lsAt (C.vars.drop 1) ls0) (n1 - 1) (contraB R) C.const) (n1 - 1) = rs at *
            go_region_held3 (fun W => W.cell? ⟨w.heap.size, 0, Option.none⟩ = some (.int .i64 K) ∧ W.cell? ⟨w.heap.size, 1, Option.none⟩ = some (.slice (some ⟨bv, ov, Option.none⟩) n1 c1) ∧ W.cell? ⟨w.heap.size, 2, Option.none⟩ = some (.slice A2 n2 c2) ∧ W.cell? ⟨w.heap.size, 3, Option.none⟩ = some (.int .i64 R) ∧ W.cell? ⟨w.heap.size, 4, Option.none⟩ = some (.int .i64 Ct) ∧ W.cell? ⟨w.heap.size, 5, Option.none⟩ = some (.slice A3 n3 c3))
              (first | go_keep | exact conbox6 (HB.out _ ((Hk3.out.then HK4.out).then ((Kept.drewn _).then hk6))) | exact conbox6 (HB.out _ ((Hk3.out.then HK4.out).then (((Kept.drewn _).then hk6).then hk7))))
              (first
                | (go_at_call 38; refine (HCo.out _).mono ?_; rintro e W6 ⟨rfl, hk6⟩)
                | (go_at_call 35; refine (HSu.out _ ((Kept.drewn _).then hk6)).mono ?_; rintro e W5 ⟨g, cap, rfl, hO5, hg2, hg3, hk7⟩))
            have HO5 := Lib.hid hO5
            have HK45 := Lib.hid (((Kept.drewn w4).then hk6).then hk7)
            have hgw3 : W3.heap.size ≤ g := by have := hk6.size; simp at this; omega
            have hg5 : g < W5.heap.size := hg3
            clear hO5 hk6 hk7 d0 d1 d2 d3 d4 d5 hlb4 HSu HSum HNone HCo hg2 hg3
            have HKx := Lib.hid (HK4.out.then HK45.out)
            have hb := HB.out W5 (Hk3.out.then HKx.out)
            have b0 := cell_at hb 0
            have b1 := cell_at hb 1
            have b2 := cell_at hb 2
            have b3 := cell_at hb 3
            have b4 := cell_at hb 4
            have b5 := cell_at hb 5
            simp only [List.getElem?_toArray, List.getElem?_cons_zero, List.getElem?_cons_succ] at b0 b1 b2 b3 b4 b5
            clear hb
            have hlb : w.heap.size < W5.heap.size := World.block_lt_of_cell? W5 _ b0
            go_wp2_with fail
            refine (HEnd.out _ HKx.out).mono ?_
            rintro e W6 ⟨rfl, hk6⟩
            have HK6 := Lib.hid (HKx.out.then hk6)
            have HO6 := Lib.hid (HO5.out.kept hk6)
            have hs6 := hk6.size
            have Hfill : Hid (∀ v ∈ leftOf C ds 0, (fillF false true (mayL (lowBut C.coefs (restOf C ds) (-1) (n1 - 1)) (highBut C.coefs (restOf C ds) (-1) (n1 - 1)) R Ct) (mayL (lowBut C.coefs (restOf C ds) (-1) (n1 - 1)) (highBut C.coefs (restOf C ds) (-1) (n1 - 1)) (contraB R) Ct)).contains v = iffG C ds 0 v) := fun v hv => by
              have h9 := fillF_contains (C := C) (ds := ds) (m := n1 - 1) (by rw [Hl1.out]) Hy.out Hz.out hv
              rw [HC.out.rel, HC.out.const] at h9
              exact h9
            clear hk6 HEnd HK45 HO5 b0 b1 b2 b3 b4 b5 hlb
            have hb := HB.out W6 (Hk3.out.then HK6.out)
            have b0 := cell_at hb 0
            have b1 := cell_at hb 1
            have b2 := cell_at hb 2
            have b3 := cell_at hb 3
            have b4 := cell_at hb 4
            have b5 := cell_at hb 5
            simp only [List.getElem?_toArray, List.getElem?_cons_zero, List.getElem?_cons_succ] at b0 b1 b2 b3 b4 b5
            clear hb
            have hlb : w.heap.size < W6.heap.size := World.block_lt_of_cell? W6 _ b0
            generalize lowBut C.coefs (restOf C ds) (-1) (n1 - 1) = lo at *
            generalize highBut C.coefs (restOf C ds) (-1) (n1 - 1) = hi' at *
            have HCc : Hid (∀ W, Calls Tryd.prog 38 #[.int .i64 R] W fun e w' => e = .returned (.int .i64 (contraB R)) ∧ Kept W w') := fun W => rcontrary_any R W Hr0.out Hr5.out
            have HMc : Hid (∀ W, Calls Tryd.prog 40 #[.int .i64 lo, .int .i64 hi', .int .i64 (contraB R), .int .i64 Ct] W fun e w' => e = .returned (.bool (mayL lo hi' (contraB R) Ct)) ∧ Kept W w') := fun W => (rmay_any12 lo hi' (contraB R) Ct W (contra_rng Hr0.out Hr5.out).1 (contra_rng Hr0.out Hr5.out).2.1).mono fun _ _ ⟨h1, h2⟩ => ⟨h1, h2 ▸ Kept.same _⟩
            generalize hb2 : mayL lo hi' (contraB R) Ct = m2 at *
            generalize hb1 : mayL lo hi' R Ct = m1 at *
            clear hb1 hb2
            generalize contraB R = R' at *
            have HKf : Hid (Kept W6 (W6.alloc (.cells #[] 3))) := Kept.box _ _
            have HFf : Hid ((W6.alloc (.cells #[] 3)).ownsRow W6.heap.size 3 1 (.slice (some ⟨W6.heap.size, 0, Option.none⟩) 0 0) 0 ([].map (Value.int .i64))) := own_empty (heap_new _ _) (Nat.le_refl _)
            go_wp2_with fail
            refine wp_region_quiet_below (by kernel_rfl) (by kernel_rfl) ?_
            repeat (any_goals (first | go_big_quiet_step ((first | (go_at_call 38; exact Calls.regrown_of (HCc.out _)) | (go_at_call 40; exact Calls.regrown_of (HMc.out _)))) | quiet_step ((first | (go_at_call 38; exact Calls.regrown_of (HCc.out _)) | (go_at_call 40; exact Calls.regrown_of (HMc.out _)))) | (refine wpQuiet_step (fun K hK => ?_); go_simp; split <;> (refine hK _ ?_; clear hK K))))
            all_goals (refine wpQuiet_nil ?_; intro w1 hw'; replace hw' := Kept.regrown hw')
            all_goals try (exfalso; omega)
            obtain ⟨wq, hwq⟩ : ∃ wq : World, wq = w1 := ⟨_, rfl⟩
            subst hwq
            have HKq : Hid (Kept W6 wq) := HKf.out.then hw'
            have HFq : Hid (wq.ownsRow W6.heap.size 3 1 (.slice (some ⟨W6.heap.size, 0, Option.none⟩) 0 0) 0 ([].map (Value.int .i64))) := own_kept HFf.out hw'
            clear hw' b0 b1 b2 b3 b4 b5 hlb HFf HKf
            cases m2 with
            | false =>
              have Hcxq := Lib.hid (HB.out wq ((Hk3.out.then HK6.out).then HKq.out))
              obtain ⟨e0q, e1q, e2q, e3q, e4q, e5q⟩ := conbox6 Hcxq.out
              have hcvq := ((HK3.out.then HK6.out).then HKq.out).cellAt Hcv0.out
              have hbvq : bv < wq.heap.size := World.block_lt_of_cell? _ _ hcvq
              have hlbq : w.heap.size < wq.heap.size := lt_at Hcxq.out
              obtain ⟨⟨vvq, hccq⟩, hfzq⟩ := (HO6.out.kept HKq.out).at Hrl.out p hpn
              have hszq := HKq.out.size
              have hggq : g < wq.heap.size := by omega
              go_wp2_with fail
              have hset := (HO6.out.kept HKq.out).set Hrl.out hpn (B := (some ⟨W6.heap.size, 0, Option.none⟩)) (m := 0) (c := 0) (l := []) ⟨rfl, by omega, by simp, fun h => absurd h (Nat.lt_irrefl 0)⟩ (fun h => absurd h (Nat.lt_irrefl 0))
              have HK8 : Hid (Kept w (wq.setCell ⟨g, p, Option.none⟩ (.slice (some ⟨W6.heap.size, 0, Option.none⟩) 0 0))) := ((KeptBut.of ((HK3.out.then HK6.out).then HKq.out) g).then (KeptBut.set _ (a := ⟨g, p, Option.none⟩) rfl _)).kept (by have := HK3.out.size; omega)
              have Hsl2 : Hid ((rs.set p []).length = n) := by show _ = _; rw [List.length_set]; exact Hrl.out
              have HQ := Lib.hid (HKeep.out _ _ (some ⟨g, 0, Option.none⟩) cap HK8.out (hset.lists Hsl2.out (by omega)) (Hfin.out rs [] Hrl.out Hfill.out Hrs.out))
              clear hset HKeep Hfin Hfill Hrs e0q e1q e2q e3q e4q e5q hcvq hbvq hlbq hccq hfzq
              generalize stepB (linKp C ds) ds = res at *
              refine HQ.out.mono ?_
              rintro e W9 ⟨A9, c9, rfl, hD9, hk9⟩
              rw [Hsl.out] at hD9 ⊢
              have HD9 := Lib.hid hD9
              have HK9 := Lib.hid (HK8.out.then hk9)
              clear hD9 hk9
              go_wp2_with fail
              go_ret2
              exact ⟨A9, c9, by rw [Hsl.out]; rfl, by rw [Hsl.out]; exact HD9.out, HK9.out⟩
            | true =>
              have Hcxq := Lib.hid (HB.out wq ((Hk3.out.then HK6.out).then HKq.out))
              obtain ⟨e0q, e1q, e2q, e3q, e4q, e5q⟩ := conbox6 Hcxq.out
              have hcvq := ((HK3.out.then HK6.out).then HKq.out).cellAt Hcv0.out
              have hbvq : bv < wq.heap.size := World.block_lt_of_cell? _ _ hcvq
              have hlbq : w.heap.size < wq.heap.size := lt_at Hcxq.out
              obtain ⟨⟨vvq, hccq⟩, hfzq⟩ := (HO6.out.kept HKq.out).at Hrl.out p hpn
              have hszq := HKq.out.size
              have hggq : g < wq.heap.size := by omega
              go_wp2_with (first | (at_builtin; refine wpList_append_own _ rfl _ _ 22 rfl W6.heap.size 3 j0 (.int .i64 0) 1 8 Tryd.underlying22 hj hy0 hy1 hy2 rfl (by decide) _ _ _ rfl (HFq.out.alloc _) ⟨wq.heap.size, 0, none⟩ 1 1 [.int .i64 0] rfl rfl (cell_one_new _ _ _) (by simp [Value.oneCell']) (by unfold maxLen; omega) (by omega) (by simp; omega) ?_; intro ua wa howna hgrowa _; have HKa : Hid (Kept W6 wa) := HKq.out.appended HFq.out (Nat.le_refl _) hgrowa; have HFa : Hid (wa.ownsRow W6.heap.size 3 1 ua 1 ([0].map (Value.int .i64))) := Lib.hid (by simpa using howna); obtain ⟨Aa, ca, rfl, hIa, hfa⟩ := Ints.of_own HFa.out (by decide); have HIa := Lib.hid hIa; have Hfa := Lib.hid hfa; clear howna hgrowa hIa hfa; have Hcxa := Lib.hid (HB.out wa ((Hk3.out.then HK6.out).then HKa.out)); obtain ⟨e0a, e1a, e2a, e3a, e4a, e5a⟩ := conbox6 Hcxa.out; have hcva := ((HK3.out.then HK6.out).then HKa.out).cellAt Hcv0.out; have hbva : bv < wa.heap.size := World.block_lt_of_cell? _ _ hcva; have hlba : w.heap.size < wa.heap.size := lt_at Hcxa.out; obtain ⟨⟨vva, hcca⟩, hfza⟩ := (HO6.out.kept HKa.out).at Hrl.out p hpn; have hsza := HKa.out.size; have hgga : g < wa.heap.size := by omega))
              have hset := (HO6.out.kept HKa.out).set Hrl.out hpn (B := Aa) (m := 1) (c := ca) (l := [0]) HIa.out (fun _ a' ha' => by have := Hfa.out a' ha'; omega)
              have HK8 : Hid (Kept w (wa.setCell ⟨g, p, Option.none⟩ (.slice Aa 1 ca))) := ((KeptBut.of ((HK3.out.then HK6.out).then HKa.out) g).then (KeptBut.set _ (a := ⟨g, p, Option.none⟩) rfl _)).kept (by have := HK3.out.size; omega)
              have Hsl2 : Hid ((rs.set p [0]).length = n) := by show _ = _; rw [List.length_set]; exact Hrl.out
              have HQ := Lib.hid (HKeep.out _ _ (some ⟨g, 0, Option.none⟩) cap HK8.out (hset.lists Hsl2.out (by omega)) (Hfin.out rs [0] Hrl.out Hfill.out Hrs.out))
              clear hset HKeep Hfin Hfill Hrs e0q e1q e2q e3q e4q e5q hcvq hbvq hlbq hccq hfzq e0a e1a e2a e3a e4a e5a hcva hbva hlba hcca hfza
              generalize stepB (linKp C ds) ds = res at *
              refine HQ.out.mono ?_
              rintro e W9 ⟨A9, c9, rfl, hD9, hk9⟩
              rw [Hsl.out] at hD9 ⊢
              have HD9 := Lib.hid hD9
              have HK9 := Lib.hid (HK8.out.then hk9)
              clear hD9 hk9
              go_wp2_with fail
              go_ret2
              exact ⟨A9, c9, by rw [Hsl.out]; rfl, by rw [Hsl.out]; exact HD9.out, HK9.out⟩
        | true =>
          cases z with
          | false =>
            go_wp2_with (first
              | (go_at_call 36; refine (HHas.out _ _ (Kept.same _)).mono ?_; rintro e w9 ⟨rfl, rfl⟩)
              | (at_builtin; refine wpList_append_own _ rfl _ _ 60 rfl W3.heap.size 22 i0 (.slice Option.none 0 0) 1 24 Tryd.underlying60 hi hz0 hz1 hz2 rfl (by decide) _ _ _ rfl HR0.out a3 n c3' us rfl hvl (fun j u hu => (Kept.box W3 _).cellAt (Hvc.out j u hu)) hvo (by unfold maxLen; omega) (by omega) (by simp) ?_; intro v' w4 hown' hgrow _; rw [Nat.zero_add, List.nil_append] at hown'; obtain ⟨g0, cap0, rfl, hgb0, hgl0⟩ := hown'.form hn0; have HK4 : Hid (Kept W3 w4) := (Kept.box _ (.cells #[] 22)).grown hgrow (by simp) (fun i hi => by simp [Act.eval, Value.ownBlock] at hi; omega); obtain ⟨d0, d1, d2, d3, d4, d5⟩ := conbox6 (HB.out w4 (Hk3.out.then HK4.out)); have hlb4 : w.heap.size < w4.heap.size := World.block_lt_of_cell? w4 _ d0))
            have HO4 : Hid (OwnL w4 W3.heap.size (.slice (some ⟨g0, 0, Option.none⟩) n cap0) ls0) := by
              refine ⟨us, by rw [Hll0.out]; exact hown', fun j hj => ?_⟩
              rw [Hll0.out] at hj
              obtain ⟨B', m', c', e1, e3⟩ := Hvd.out j hj
              refine ⟨B', m', c', e1, e3.kept HK4.out, fun hm a' ha' e => ?_⟩
              subst ha'
              have := e3.block hm
              simp only [Value.ownBlock, Option.some.injEq] at e
              omega
            have hs4 := HK4.out.size
            clear hown' hgrow hvo hvl b0 b1 b2 b3 b4 b5 hlb hcvW hbvW HR0 Hvd Hvc HHas hyy hzz
            have HSu := Lib.hid (HSum.out R w4 Hr0.out Hr5.out HK4.out)
            have Hrs : Hid (∀ q, ∀ v ∈ (listsOf ds).getD q [], ((setU (C.vars.drop 1) ls0 (sumG C.coefs (lsAt (C.vars.drop 1) ls0) (n1 - 1) R C.const) (n1 - 1)).getD q []).contains v = varsKp (C.vars.drop 1) (fun i x => iffG C ds (i + 1) x) (C.vars.drop 1).length q v) := fun q v hv => by
              rw [Hls0.out]
              refine rl_rest Hvo0.out HVl.out ?_ q v hv
              rw [iffG_tf Hy.out Hz.out, Hl1.out, HC.out.rel]
            have Hrl : Hid ((setU (C.vars.drop 1) ls0 (sumG C.coefs (lsAt (C.vars.drop 1) ls0) (n1 - 1) R C.const) (n1 - 1)).length = n) := by show _ = _; rw [setU_length]; exact Hll0.out
            generalize setU (C.vars.drop 1) ls0 (sumG C.coefs (lsAt (C.vars.drop 1) ls0) (n1 - 1) R C.const) (n1 - 1) = rs at *
            refine HSu.out.mono ?_
            rintro e W5 ⟨g, cap, rfl, hO5, hg2, hg3, hk7⟩
            have HO5 := Lib.hid hO5
            have HK45 := Lib.hid hk7
            have hgw3 : W3.heap.size ≤ g := by omega
            have hg5 : g < W5.heap.size := hg3
            clear hO5 hk7 d0 d1 d2 d3 d4 d5 hlb4 HSu HSum HNone hg2 hg3
            have HKx := Lib.hid (HK4.out.then HK45.out)
            have hb := HB.out W5 (Hk3.out.then HKx.out)
            have b0 := cell_at hb 0
            have b1 := cell_at hb 1
            have b2 := cell_at hb 2
            have b3 := cell_at hb 3
            have b4 := cell_at hb 4
            have b5 := cell_at hb 5
            simp only [List.getElem?_toArray, List.getElem?_cons_zero, List.getElem?_cons_succ] at b0 b1 b2 b3 b4 b5
            clear hb
            have hlb : w.heap.size < W5.heap.size := World.block_lt_of_cell? W5 _ b0
            go_wp2_with fail
            refine (HEnd.out _ HKx.out).mono ?_
            rintro e W6 ⟨rfl, hk6⟩
            have HK6 := Lib.hid (HKx.out.then hk6)
            have HO6 := Lib.hid (HO5.out.kept hk6)
            have hs6 := hk6.size
            have Hfill : Hid (∀ v ∈ leftOf C ds 0, (fillF true false (mayL (lowBut C.coefs (restOf C ds) (-1) (n1 - 1)) (highBut C.coefs (restOf C ds) (-1) (n1 - 1)) R Ct) (mayL (lowBut C.coefs (restOf C ds) (-1) (n1 - 1)) (highBut C.coefs (restOf C ds) (-1) (n1 - 1)) (contraB R) Ct)).contains v = iffG C ds 0 v) := fun v hv => by
              have h9 := fillF_contains (C := C) (ds := ds) (m := n1 - 1) (by rw [Hl1.out]) Hy.out Hz.out hv
              rw [HC.out.rel, HC.out.const] at h9
              exact h9
            clear hk6 HEnd HK45 HO5 b0 b1 b2 b3 b4 b5 hlb
            have hb := HB.out W6 (Hk3.out.then HK6.out)
            have b0 := cell_at hb 0
            have b1 := cell_at hb 1
            have b2 := cell_at hb 2
            have b3 := cell_at hb 3
            have b4 := cell_at hb 4
            have b5 := cell_at hb 5
            simp only [List.getElem?_toArray, List.getElem?_cons_zero, List.getElem?_cons_succ] at b0 b1 b2 b3 b4 b5
            clear hb
            have hlb : w.heap.size < W6.heap.size := World.block_lt_of_cell? W6 _ b0
            generalize lowBut C.coefs (restOf C ds) (-1) (n1 - 1) = lo at *
            generalize highBut C.coefs (restOf C ds) (-1) (n1 - 1) = hi' at *
            have HMr : Hid (∀ W, Calls Tryd.prog 40 #[.int .i64 lo, .int .i64 hi', .int .i64 R, .int .i64 Ct] W fun e w' => e = .returned (.bool (mayL lo hi' R Ct)) ∧ W = w') := fun W => rmay_any12 lo hi' R Ct W Hr0.out Hr5.out
            generalize hb2 : mayL lo hi' (contraB R) Ct = m2 at *
            generalize hb1 : mayL lo hi' R Ct = m1 at *
            clear hb1 hb2
            generalize contraB R = R' at *
            have HKf : Hid (Kept W6 (W6.alloc (.cells #[] 3))) := Kept.box _ _
            have HFf : Hid ((W6.alloc (.cells #[] 3)).ownsRow W6.heap.size 3 1 (.slice (some ⟨W6.heap.size, 0, Option.none⟩) 0 0) 0 ([].map (Value.int .i64))) := own_empty (heap_new _ _) (Nat.le_refl _)
            go_wp2_with fail
            refine wp_region_quiet_below (by kernel_rfl) (by kernel_rfl) ?_
            repeat (any_goals (first | go_big_quiet_step ((fail)) | quiet_step ((fail)) | (refine wpQuiet_step (fun K hK => ?_); go_simp; split <;> (refine hK _ ?_; clear hK K))))
            all_goals (refine wpQuiet_nil ?_; intro w1 hw'; replace hw' := Kept.regrown hw')
            all_goals try (exfalso; omega)
            obtain ⟨wq, hwq⟩ : ∃ wq : World, wq = w1 := ⟨_, rfl⟩
            subst hwq
            have HKq : Hid (Kept W6 wq) := HKf.out.then hw'
            have HFq : Hid (wq.ownsRow W6.heap.size 3 1 (.slice (some ⟨W6.heap.size, 0, Option.none⟩) 0 0) 0 ([].map (Value.int .i64))) := own_kept HFf.out hw'
            clear hw' b0 b1 b2 b3 b4 b5 hlb HFf HKf
            cases m1 with
            | false =>
              have Hcxq := Lib.hid (HB.out wq ((Hk3.out.then HK6.out).then HKq.out))
              obtain ⟨e0q, e1q, e2q, e3q, e4q, e5q⟩ := conbox6 Hcxq.out
              have hcvq := ((HK3.out.then HK6.out).then HKq.out).cellAt Hcv0.out
              have hbvq : bv < wq.heap.size := World.block_lt_of_cell? _ _ hcvq
              have hlbq : w.heap.size < wq.heap.size := lt_at Hcxq.out
              obtain ⟨⟨vvq, hccq⟩, hfzq⟩ := (HO6.out.kept HKq.out).at Hrl.out p hpn
              have hszq := HKq.out.size
              have hggq : g < wq.heap.size := by omega
              go_wp2_with (first | (go_at_call 40; refine (HMr.out _).mono ?_; rintro e w9 ⟨rfl, rfl⟩))
              have hset := (HO6.out.kept HKq.out).set Hrl.out hpn (B := (some ⟨W6.heap.size, 0, Option.none⟩)) (m := 0) (c := 0) (l := []) ⟨rfl, by omega, by simp, fun h => absurd h (Nat.lt_irrefl 0)⟩ (fun h => absurd h (Nat.lt_irrefl 0))
              have HK8 : Hid (Kept w (wq.setCell ⟨g, p, Option.none⟩ (.slice (some ⟨W6.heap.size, 0, Option.none⟩) 0 0))) := ((KeptBut.of ((HK3.out.then HK6.out).then HKq.out) g).then (KeptBut.set _ (a := ⟨g, p, Option.none⟩) rfl _)).kept (by have := HK3.out.size; omega)
              have Hsl2 : Hid ((rs.set p []).length = n) := by show _ = _; rw [List.length_set]; exact Hrl.out
              have HQ := Lib.hid (HKeep.out _ _ (some ⟨g, 0, Option.none⟩) cap HK8.out (hset.lists Hsl2.out (by omega)) (Hfin.out rs [] Hrl.out Hfill.out Hrs.out))
              clear hset HKeep Hfin Hfill Hrs e0q e1q e2q e3q e4q e5q hcvq hbvq hlbq hccq hfzq
              generalize stepB (linKp C ds) ds = res at *
              refine HQ.out.mono ?_
              rintro e W9 ⟨A9, c9, rfl, hD9, hk9⟩
              rw [Hsl.out] at hD9 ⊢
              have HD9 := Lib.hid hD9
              have HK9 := Lib.hid (HK8.out.then hk9)
              clear hD9 hk9
              go_wp2_with fail
              go_ret2
              exact ⟨A9, c9, by rw [Hsl.out]; rfl, by rw [Hsl.out]; exact HD9.out, HK9.out⟩
            | true =>
              have Hcxq := Lib.hid (HB.out wq ((Hk3.out.then HK6.out).then HKq.out))
              obtain ⟨e0q, e1q, e2q, e3q, e4q, e5q⟩ := conbox6 Hcxq.out
              have hcvq := ((HK3.out.then HK6.out).then HKq.out).cellAt Hcv0.out
              have hbvq : bv < wq.heap.size := World.block_lt_of_cell? _ _ hcvq
              have hlbq : w.heap.size < wq.heap.size := lt_at Hcxq.out
              obtain ⟨⟨vvq, hccq⟩, hfzq⟩ := (HO6.out.kept HKq.out).at Hrl.out p hpn
              have hszq := HKq.out.size
              have hggq : g < wq.heap.size := by omega
              go_wp2_with (first | (go_at_call 40; refine (HMr.out _).mono ?_; rintro e w9 ⟨rfl, rfl⟩) | (at_builtin; refine wpList_append_own _ rfl _ _ 22 rfl W6.heap.size 3 j0 (.int .i64 0) 1 8 Tryd.underlying22 hj hy0 hy1 hy2 rfl (by decide) _ _ _ rfl (HFq.out.alloc _) ⟨wq.heap.size, 0, none⟩ 1 1 [.int .i64 1] rfl rfl (cell_one_new _ _ _) (by simp [Value.oneCell']) (by unfold maxLen; omega) (by omega) (by simp; omega) ?_; intro ub wb hownb hgrowb _; have HKb : Hid (Kept W6 wb) := HKq.out.appended HFq.out (Nat.le_refl _) hgrowb; have HFb : Hid (wb.ownsRow W6.heap.size 3 1 ub 1 ([1].map (Value.int .i64))) := Lib.hid (by simpa using hownb); obtain ⟨Ab, cb, rfl, hIb, hfb⟩ := Ints.of_own HFb.out (by decide); have HIb := Lib.hid hIb; have Hfb := Lib.hid hfb; clear hownb hgrowb hIb hfb; have Hcxb := Lib.hid (HB.out wb ((Hk3.out.then HK6.out).then HKb.out)); obtain ⟨e0b, e1b, e2b, e3b, e4b, e5b⟩ := conbox6 Hcxb.out; have hcvb := ((HK3.out.then HK6.out).then HKb.out).cellAt Hcv0.out; have hbvb : bv < wb.heap.size := World.block_lt_of_cell? _ _ hcvb; have hlbb : w.heap.size < wb.heap.size := lt_at Hcxb.out; obtain ⟨⟨vvb, hccb⟩, hfzb⟩ := (HO6.out.kept HKb.out).at Hrl.out p hpn; have hszb := HKb.out.size; have hggb : g < wb.heap.size := by omega))
              have hset := (HO6.out.kept HKb.out).set Hrl.out hpn (B := Ab) (m := 1) (c := cb) (l := [1]) HIb.out (fun _ a' ha' => by have := Hfb.out a' ha'; omega)
              have HK8 : Hid (Kept w (wb.setCell ⟨g, p, Option.none⟩ (.slice Ab 1 cb))) := ((KeptBut.of ((HK3.out.then HK6.out).then HKb.out) g).then (KeptBut.set _ (a := ⟨g, p, Option.none⟩) rfl _)).kept (by have := HK3.out.size; omega)
              have Hsl2 : Hid ((rs.set p [1]).length = n) := by show _ = _; rw [List.length_set]; exact Hrl.out
              have HQ := Lib.hid (HKeep.out _ _ (some ⟨g, 0, Option.none⟩) cap HK8.out (hset.lists Hsl2.out (by omega)) (Hfin.out rs [1] Hrl.out Hfill.out Hrs.out))
              clear hset HKeep Hfin Hfill Hrs e0q e1q e2q e3q e4q e5q hcvq hbvq hlbq hccq hfzq e0b e1b e2b e3b e4b e5b hcvb hbvb hlbb hccb hfzb
              generalize stepB (linKp C ds) ds = res at *
              refine HQ.out.mono ?_
              rintro e W9 ⟨A9, c9, rfl, hD9, hk9⟩
              rw [Hsl.out] at hD9 ⊢
              have HD9 := Lib.hid hD9
              have HK9 := Lib.hid (HK8.out.then hk9)
              clear hD9 hk9
              go_wp2_with fail
              go_ret2
              exact ⟨A9, c9, by rw [Hsl.out]; rfl, by rw [Hsl.out]; exact HD9.out, HK9.out⟩
          | true =>
            go_wp2_with (first
              | (go_at_call 36; refine (HHas.out _ _ (Kept.same _)).mono ?_; rintro e w9 ⟨rfl, rfl⟩)
              | (at_builtin; refine wpList_append_own _ rfl _ _ 60 rfl W3.heap.size 22 i0 (.slice Option.none 0 0) 1 24 Tryd.underlying60 hi hz0 hz1 hz2 rfl (by decide) _ _ _ rfl HR0.out a3 n c3' us rfl hvl (fun j u hu => (Kept.box W3 _).cellAt (Hvc.out j u hu)) hvo (by unfold maxLen; omega) (by omega) (by simp) ?_; intro v' w4 hown' hgrow _; rw [Nat.zero_add, List.nil_append] at hown'; obtain ⟨g0, cap0, rfl, hgb0, hgl0⟩ := hown'.form hn0; have HK4 : Hid (Kept W3 w4) := (Kept.box _ (.cells #[] 22)).grown hgrow (by simp) (fun i hi => by simp [Act.eval, Value.ownBlock] at hi; omega); obtain ⟨d0, d1, d2, d3, d4, d5⟩ := conbox6 (HB.out w4 (Hk3.out.then HK4.out)); have hlb4 : w.heap.size < w4.heap.size := World.block_lt_of_cell? w4 _ d0))
            have HO4 : Hid (OwnL w4 W3.heap.size (.slice (some ⟨g0, 0, Option.none⟩) n cap0) ls0) := by
              refine ⟨us, by rw [Hll0.out]; exact hown', fun j hj => ?_⟩
              rw [Hll0.out] at hj
              obtain ⟨B', m', c', e1, e3⟩ := Hvd.out j hj
              refine ⟨B', m', c', e1, e3.kept HK4.out, fun hm a' ha' e => ?_⟩
              subst ha'
              have := e3.block hm
              simp only [Value.ownBlock, Option.some.injEq] at e
              omega
            have hs4 := HK4.out.size
            clear hown' hgrow hvo hvl b0 b1 b2 b3 b4 b5 hlb hcvW hbvW HR0 Hvd Hvc HHas hyy hzz
            have Hrs : Hid (∀ q, ∀ v ∈ (listsOf ds).getD q [], (ls0.getD q []).contains v = varsKp (C.vars.drop 1) (fun i x => iffG C ds (i + 1) x) (C.vars.drop 1).length q v) := fun q v hv => by
              rw [Hls0.out]
              exact rl_same (iffG_tt Hy.out Hz.out) q v hv
            obtain ⟨rs, hrs⟩ : ∃ rs, rs = ls0 := ⟨_, rfl⟩
            have Hrl : Hid (rs.length = n) := by show _ = _; rw [hrs]; exact Hll0.out
            have HO5 : Hid (OwnL w4 W3.heap.size (.slice (some ⟨g0, 0, Option.none⟩) n cap0) rs) := by rw [hrs]; exact HO4.out
            rw [← hrs] at Hrs
            have HK45 : Hid (Kept w4 w4) := Kept.same _
            have hgw3 : W3.heap.size ≤ g0 := hgb0
            have hg5 : g0 < w4.heap.size := hgl0
            obtain ⟨W5, hW5⟩ : ∃ W5 : World, W5 = w4 := ⟨_, rfl⟩
            rw [← hW5] at HO5 hg5
            have HK45 : Hid (Kept w4 W5) := by rw [hW5]; exact Kept.same _
            rw [← hW5]
            clear hrs hW5 d0 d1 d2 d3 d4 d5 hlb4 HSum HNone
            have HKx := Lib.hid (HK4.out.then HK45.out)
            refine (HEnd.out _ HKx.out).mono ?_
            rintro e W6 ⟨rfl, hk6⟩
            have HK6 := Lib.hid (HKx.out.then hk6)
            have HO6 := Lib.hid (HO5.out.kept hk6)
            have hs6 := hk6.size
            have Hfill : Hid (∀ v ∈ leftOf C ds 0, (fillF true true (mayL (lowBut C.coefs (restOf C ds) (-1) (n1 - 1)) (highBut C.coefs (restOf C ds) (-1) (n1 - 1)) R Ct) (mayL (lowBut C.coefs (restOf C ds) (-1) (n1 - 1)) (highBut C.coefs (restOf C ds) (-1) (n1 - 1)) (contraB R) Ct)).contains v = iffG C ds 0 v) := fun v hv => by
              have h9 := fillF_contains (C := C) (ds := ds) (m := n1 - 1) (by rw [Hl1.out]) Hy.out Hz.out hv
              rw [HC.out.rel, HC.out.const] at h9
              exact h9
            clear hk6 HEnd HK45 HO5
            have hb := HB.out W6 (Hk3.out.then HK6.out)
            have b0 := cell_at hb 0
            have b1 := cell_at hb 1
            have b2 := cell_at hb 2
            have b3 := cell_at hb 3
            have b4 := cell_at hb 4
            have b5 := cell_at hb 5
            simp only [List.getElem?_toArray, List.getElem?_cons_zero, List.getElem?_cons_succ] at b0 b1 b2 b3 b4 b5
            clear hb
            have hlb : w.heap.size < W6.heap.size := World.block_lt_of_cell? W6 _ b0
            generalize lowBut C.coefs (restOf C ds) (-1) (n1 - 1) = lo at *
            generalize highBut C.coefs (restOf C ds) (-1) (n1 - 1) = hi' at *
            have HCc : Hid (∀ W, Calls Tryd.prog 38 #[.int .i64 R] W fun e w' => e = .returned (.int .i64 (contraB R)) ∧ Kept W w') := fun W => rcontrary_any R W Hr0.out Hr5.out
            have HMc : Hid (∀ W, Calls Tryd.prog 40 #[.int .i64 lo, .int .i64 hi', .int .i64 (contraB R), .int .i64 Ct] W fun e w' => e = .returned (.bool (mayL lo hi' (contraB R) Ct)) ∧ Kept W w') := fun W => (rmay_any12 lo hi' (contraB R) Ct W (contra_rng Hr0.out Hr5.out).1 (contra_rng Hr0.out Hr5.out).2.1).mono fun _ _ ⟨h1, h2⟩ => ⟨h1, h2 ▸ Kept.same _⟩
            have HMr : Hid (∀ W, Calls Tryd.prog 40 #[.int .i64 lo, .int .i64 hi', .int .i64 R, .int .i64 Ct] W fun e w' => e = .returned (.bool (mayL lo hi' R Ct)) ∧ W = w') := fun W => rmay_any12 lo hi' R Ct W Hr0.out Hr5.out
            generalize hb2 : mayL lo hi' (contraB R) Ct = m2 at *
            generalize hb1 : mayL lo hi' R Ct = m1 at *
            clear hb1 hb2
            generalize contraB R = R' at *
            have HKf : Hid (Kept W6 (W6.alloc (.cells #[] 3))) := Kept.box _ _
            have HFf : Hid ((W6.alloc (.cells #[] 3)).ownsRow W6.heap.size 3 1 (.slice (some ⟨W6.heap.size, 0, Option.none⟩) 0 0) 0 ([].map (Value.int .i64))) := own_empty (heap_new _ _) (Nat.le_refl _)
            go_wp2_with fail
            refine wp_region_quiet_below (by kernel_rfl) (by kernel_rfl) ?_
            repeat (any_goals (first | go_big_quiet_step ((first | (go_at_call 38; exact Calls.regrown_of (HCc.out _)) | (go_at_call 40; exact Calls.regrown_of (HMc.out _)))) | quiet_step ((first | (go_at_call 38; exact Calls.regrown_of (HCc.out _)) | (go_at_call 40; exact Calls.regrown_of (HMc.out _)))) | (refine wpQuiet_step (fun K hK => ?_); go_simp; split <;> (refine hK _ ?_; clear hK K))))
            all_goals (refine wpQuiet_nil ?_; intro w1 hw'; replace hw' := Kept.regrown hw')
            all_goals try (exfalso; omega)
            obtain ⟨wq, hwq⟩ : ∃ wq : World, wq = w1 := ⟨_, rfl⟩
            subst hwq
            have HKq : Hid (Kept W6 wq) := HKf.out.then hw'
            have HFq : Hid (wq.ownsRow W6.heap.size 3 1 (.slice (some ⟨W6.heap.size, 0, Option.none⟩) 0 0) 0 ([].map (Value.int .i64))) := own_kept HFf.out hw'
            clear hw' b0 b1 b2 b3 b4 b5 hlb HFf HKf
            cases m2 with
            | false =>
              cases m1 with
              | false =>
                have Hcxq := Lib.hid (HB.out wq ((Hk3.out.then HK6.out).then HKq.out))
                obtain ⟨e0q, e1q, e2q, e3q, e4q, e5q⟩ := conbox6 Hcxq.out
                have hcvq := ((HK3.out.then HK6.out).then HKq.out).cellAt Hcv0.out
                have hbvq : bv < wq.heap.size := World.block_lt_of_cell? _ _ hcvq
                have hlbq : w.heap.size < wq.heap.size := lt_at Hcxq.out
                obtain ⟨⟨vvq, hccq⟩, hfzq⟩ := (HO6.out.kept HKq.out).at Hrl.out p hpn
                have hszq := HKq.out.size
                have hggq : g0 < wq.heap.size := by omega
                go_wp2_with (first | (go_at_call 40; refine (HMr.out _).mono ?_; rintro e w9 ⟨rfl, rfl⟩))
                have hset := (HO6.out.kept HKq.out).set Hrl.out hpn (B := (some ⟨W6.heap.size, 0, Option.none⟩)) (m := 0) (c := 0) (l := []) ⟨rfl, by omega, by simp, fun h => absurd h (Nat.lt_irrefl 0)⟩ (fun h => absurd h (Nat.lt_irrefl 0))
                have HK8 : Hid (Kept w (wq.setCell ⟨g0, p, Option.none⟩ (.slice (some ⟨W6.heap.size, 0, Option.none⟩) 0 0))) := ((KeptBut.of ((HK3.out.then HK6.out).then HKq.out) g0).then (KeptBut.set _ (a := ⟨g0, p, Option.none⟩) rfl _)).kept (by have := HK3.out.size; omega)
                have Hsl2 : Hid ((rs.set p []).length = n) := by show _ = _; rw [List.length_set]; exact Hrl.out
                have HQ := Lib.hid (HKeep.out _ _ (some ⟨g0, 0, Option.none⟩) cap0 HK8.out (hset.lists Hsl2.out (by omega)) (Hfin.out rs [] Hrl.out Hfill.out Hrs.out))
                clear hset HKeep Hfin Hfill Hrs e0q e1q e2q e3q e4q e5q hcvq hbvq hlbq hccq hfzq
                generalize stepB (linKp C ds) ds = res at *
                refine HQ.out.mono ?_
                rintro e W9 ⟨A9, c9, rfl, hD9, hk9⟩
                rw [Hsl.out] at hD9 ⊢
                have HD9 := Lib.hid hD9
                have HK9 := Lib.hid (HK8.out.then hk9)
                clear hD9 hk9
                go_wp2_with fail
                go_ret2
                exact ⟨A9, c9, by rw [Hsl.out]; rfl, by rw [Hsl.out]; exact HD9.out, HK9.out⟩
              | true =>
                have Hcxq := Lib.hid (HB.out wq ((Hk3.out.then HK6.out).then HKq.out))
                obtain ⟨e0q, e1q, e2q, e3q, e4q, e5q⟩ := conbox6 Hcxq.out
                have hcvq := ((HK3.out.then HK6.out).then HKq.out).cellAt Hcv0.out
                have hbvq : bv < wq.heap.size := World.block_lt_of_cell? _ _ hcvq
                have hlbq : w.heap.size < wq.heap.size := lt_at Hcxq.out
                obtain ⟨⟨vvq, hccq⟩, hfzq⟩ := (HO6.out.kept HKq.out).at Hrl.out p hpn
                have hszq := HKq.out.size
                have hggq : g0 < wq.heap.size := by omega
                go_wp2_with (first | (go_at_call 40; refine (HMr.out _).mono ?_; rintro e w9 ⟨rfl, rfl⟩) | (at_builtin; refine wpList_append_own _ rfl _ _ 22 rfl W6.heap.size 3 j0 (.int .i64 0) 1 8 Tryd.underlying22 hj hy0 hy1 hy2 rfl (by decide) _ _ _ rfl (HFq.out.alloc _) ⟨wq.heap.size, 0, none⟩ 1 1 [.int .i64 1] rfl rfl (cell_one_new _ _ _) (by simp [Value.oneCell']) (by unfold maxLen; omega) (by omega) (by simp; omega) ?_; intro ub wb hownb hgrowb _; have HKb : Hid (Kept W6 wb) := HKq.out.appended HFq.out (Nat.le_refl _) hgrowb; have HFb : Hid (wb.ownsRow W6.heap.size 3 1 ub 1 ([1].map (Value.int .i64))) := Lib.hid (by simpa using hownb); obtain ⟨Ab, cb, rfl, hIb, hfb⟩ := Ints.of_own HFb.out (by decide); have HIb := Lib.hid hIb; have Hfb := Lib.hid hfb; clear hownb hgrowb hIb hfb; have Hcxb := Lib.hid (HB.out wb ((Hk3.out.then HK6.out).then HKb.out)); obtain ⟨e0b, e1b, e2b, e3b, e4b, e5b⟩ := conbox6 Hcxb.out; have hcvb := ((HK3.out.then HK6.out).then HKb.out).cellAt Hcv0.out; have hbvb : bv < wb.heap.size := World.block_lt_of_cell? _ _ hcvb; have hlbb : w.heap.size < wb.heap.size := lt_at Hcxb.out; obtain ⟨⟨vvb, hccb⟩, hfzb⟩ := (HO6.out.kept HKb.out).at Hrl.out p hpn; have hszb := HKb.out.size; have hggb : g0 < wb.heap.size := by omega))
                have hset := (HO6.out.kept HKb.out).set Hrl.out hpn (B := Ab) (m := 1) (c := cb) (l := [1]) HIb.out (fun _ a' ha' => by have := Hfb.out a' ha'; omega)
                have HK8 : Hid (Kept w (wb.setCell ⟨g0, p, Option.none⟩ (.slice Ab 1 cb))) := ((KeptBut.of ((HK3.out.then HK6.out).then HKb.out) g0).then (KeptBut.set _ (a := ⟨g0, p, Option.none⟩) rfl _)).kept (by have := HK3.out.size; omega)
                have Hsl2 : Hid ((rs.set p [1]).length = n) := by show _ = _; rw [List.length_set]; exact Hrl.out
                have HQ := Lib.hid (HKeep.out _ _ (some ⟨g0, 0, Option.none⟩) cap0 HK8.out (hset.lists Hsl2.out (by omega)) (Hfin.out rs [1] Hrl.out Hfill.out Hrs.out))
                clear hset HKeep Hfin Hfill Hrs e0q e1q e2q e3q e4q e5q hcvq hbvq hlbq hccq hfzq e0b e1b e2b e3b e4b e5b hcvb hbvb hlbb hccb hfzb
                generalize stepB (linKp C ds) ds = res at *
                refine HQ.out.mono ?_
                rintro e W9 ⟨A9, c9, rfl, hD9, hk9⟩
                rw [Hsl.out] at hD9 ⊢
                have HD9 := Lib.hid hD9
                have HK9 := Lib.hid (HK8.out.then hk9)
                clear hD9 hk9
                go_wp2_with fail
                go_ret2
                exact ⟨A9, c9, by rw [Hsl.out]; rfl, by rw [Hsl.out]; exact HD9.out, HK9.out⟩
            | true =>
              cases m1 with
              | false =>
                have Hcxq := Lib.hid (HB.out wq ((Hk3.out.then HK6.out).then HKq.out))
                obtain ⟨e0q, e1q, e2q, e3q, e4q, e5q⟩ := conbox6 Hcxq.out
                have hcvq := ((HK3.out.then HK6.out).then HKq.out).cellAt Hcv0.out
                have hbvq : bv < wq.heap.size := World.block_lt_of_cell? _ _ hcvq
                have hlbq : w.heap.size < wq.heap.size := lt_at Hcxq.out
                obtain ⟨⟨vvq, hccq⟩, hfzq⟩ := (HO6.out.kept HKq.out).at Hrl.out p hpn
                have hszq := HKq.out.size
                have hggq : g0 < wq.heap.size := by omega
                go_wp2_with (first | (at_builtin; refine wpList_append_own _ rfl _ _ 22 rfl W6.heap.size 3 j0 (.int .i64 0) 1 8 Tryd.underlying22 hj hy0 hy1 hy2 rfl (by decide) _ _ _ rfl (HFq.out.alloc _) ⟨wq.heap.size, 0, none⟩ 1 1 [.int .i64 0] rfl rfl (cell_one_new _ _ _) (by simp [Value.oneCell']) (by unfold maxLen; omega) (by omega) (by simp; omega) ?_; intro ua wa howna hgrowa _; have HKa : Hid (Kept W6 wa) := HKq.out.appended HFq.out (Nat.le_refl _) hgrowa; have HFa : Hid (wa.ownsRow W6.heap.size 3 1 ua 1 ([0].map (Value.int .i64))) := Lib.hid (by simpa using howna); obtain ⟨Aa, ca, rfl, hIa, hfa⟩ := Ints.of_own HFa.out (by decide); have HIa := Lib.hid hIa; have Hfa := Lib.hid hfa; clear howna hgrowa hIa hfa; have Hcxa := Lib.hid (HB.out wa ((Hk3.out.then HK6.out).then HKa.out)); obtain ⟨e0a, e1a, e2a, e3a, e4a, e5a⟩ := conbox6 Hcxa.out; have hcva := ((HK3.out.then HK6.out).then HKa.out).cellAt Hcv0.out; have hbva : bv < wa.heap.size := World.block_lt_of_cell? _ _ hcva; have hlba : w.heap.size < wa.heap.size := lt_at Hcxa.out; obtain ⟨⟨vva, hcca⟩, hfza⟩ := (HO6.out.kept HKa.out).at Hrl.out p hpn; have hsza := HKa.out.size; have hgga : g0 < wa.heap.size := by omega) | (go_at_call 40; refine (HMr.out _).mono ?_; rintro e w9 ⟨rfl, rfl⟩))
                have hset := (HO6.out.kept HKa.out).set Hrl.out hpn (B := Aa) (m := 1) (c := ca) (l := [0]) HIa.out (fun _ a' ha' => by have := Hfa.out a' ha'; omega)
                have HK8 : Hid (Kept w (wa.setCell ⟨g0, p, Option.none⟩ (.slice Aa 1 ca))) := ((KeptBut.of ((HK3.out.then HK6.out).then HKa.out) g0).then (KeptBut.set _ (a := ⟨g0, p, Option.none⟩) rfl _)).kept (by have := HK3.out.size; omega)
                have Hsl2 : Hid ((rs.set p [0]).length = n) := by show _ = _; rw [List.length_set]; exact Hrl.out
                have HQ := Lib.hid (HKeep.out _ _ (some ⟨g0, 0, Option.none⟩) cap0 HK8.out (hset.lists Hsl2.out (by omega)) (Hfin.out rs [0] Hrl.out Hfill.out Hrs.out))
                clear hset HKeep Hfin Hfill Hrs e0q e1q e2q e3q e4q e5q hcvq hbvq hlbq hccq hfzq e0a e1a e2a e3a e4a e5a hcva hbva hlba hcca hfza
                generalize stepB (linKp C ds) ds = res at *
                refine HQ.out.mono ?_
                rintro e W9 ⟨A9, c9, rfl, hD9, hk9⟩
                rw [Hsl.out] at hD9 ⊢
                have HD9 := Lib.hid hD9
                have HK9 := Lib.hid (HK8.out.then hk9)
                clear hD9 hk9
                go_wp2_with fail
                go_ret2
                exact ⟨A9, c9, by rw [Hsl.out]; rfl, by rw [Hsl.out]; exact HD9.out, HK9.out⟩
              | true =>
                have Hcxq := Lib.hid (HB.out wq ((Hk3.out.then HK6.out).then HKq.out))
                obtain ⟨e0q, e1q, e2q, e3q, e4q, e5q⟩ := conbox6 Hcxq.out
                have hcvq := ((HK3.out.then HK6.out).then HKq.out).cellAt Hcv0.out
                have hbvq : bv < wq.heap.size := World.block_lt_of_cell? _ _ hcvq
                have hlbq : w.heap.size < wq.heap.size := lt_at Hcxq.out
                obtain ⟨⟨vvq, hccq⟩, hfzq⟩ := (HO6.out.kept HKq.out).at Hrl.out p hpn
                have hszq := HKq.out.size
                have hggq : g0 < wq.heap.size := by omega
                go_wp2_with (first | (at_builtin; refine wpList_append_own _ rfl _ _ 22 rfl W6.heap.size 3 j0 (.int .i64 0) 1 8 Tryd.underlying22 hj hy0 hy1 hy2 rfl (by decide) _ _ _ rfl (HFq.out.alloc _) ⟨wq.heap.size, 0, none⟩ 1 1 [.int .i64 0] rfl rfl (cell_one_new _ _ _) (by simp [Value.oneCell']) (by unfold maxLen; omega) (by omega) (by simp; omega) ?_; intro ua wa howna hgrowa _; have HKa : Hid (Kept W6 wa) := HKq.out.appended HFq.out (Nat.le_refl _) hgrowa; have HFa : Hid (wa.ownsRow W6.heap.size 3 1 ua 1 ([0].map (Value.int .i64))) := Lib.hid (by simpa using howna); obtain ⟨Aa, ca, rfl, hIa, hfa⟩ := Ints.of_own HFa.out (by decide); have HIa := Lib.hid hIa; have Hfa := Lib.hid hfa; clear howna hgrowa hIa hfa; have Hcxa := Lib.hid (HB.out wa ((Hk3.out.then HK6.out).then HKa.out)); obtain ⟨e0a, e1a, e2a, e3a, e4a, e5a⟩ := conbox6 Hcxa.out; have hcva := ((HK3.out.then HK6.out).then HKa.out).cellAt Hcv0.out; have hbva : bv < wa.heap.size := World.block_lt_of_cell? _ _ hcva; have hlba : w.heap.size < wa.heap.size := lt_at Hcxa.out; obtain ⟨⟨vva, hcca⟩, hfza⟩ := (HO6.out.kept HKa.out).at Hrl.out p hpn; have hsza := HKa.out.size; have hgga : g0 < wa.heap.size := by omega) | (go_at_call 40; refine (HMr.out _).mono ?_; rintro e w9 ⟨rfl, rfl⟩) | (at_builtin; refine wpList_append_own _ rfl _ _ 22 rfl W6.heap.size 3 j0 (.int .i64 0) 1 8 Tryd.underlying22 hj hy0 hy1 hy2 rfl (by decide) _ _ _ rfl (HFa.out.alloc _) ⟨wa.heap.size, 0, none⟩ 1 1 [.int .i64 1] rfl rfl (cell_one_new _ _ _) (by simp [Value.oneCell']) (by unfold maxLen; omega) (by omega) (by simp; omega) ?_; intro ub wb hownb hgrowb _; have HKb : Hid (Kept W6 wb) := HKa.out.appended HFa.out (Nat.le_refl _) hgrowb; have HFb : Hid (wb.ownsRow W6.heap.size 3 1 ub 2 ([0, 1].map (Value.int .i64))) := Lib.hid (by simpa using hownb); obtain ⟨Ab, cb, rfl, hIb, hfb⟩ := Ints.of_own HFb.out (by decide); have HIb := Lib.hid hIb; have Hfb := Lib.hid hfb; clear hownb hgrowb hIb hfb; have Hcxb := Lib.hid (HB.out wb ((Hk3.out.then HK6.out).then HKb.out)); obtain ⟨e0b, e1b, e2b, e3b, e4b, e5b⟩ := conbox6 Hcxb.out; have hcvb := ((HK3.out.then HK6.out).then HKb.out).cellAt Hcv0.out; have hbvb : bv < wb.heap.size := World.block_lt_of_cell? _ _ hcvb; have hlbb : w.heap.size < wb.heap.size := lt_at Hcxb.out; obtain ⟨⟨vvb, hccb⟩, hfzb⟩ := (HO6.out.kept HKb.out).at Hrl.out p hpn; have hszb := HKb.out.size; have hggb : g0 < wb.heap.size := by omega))
                have hset := (HO6.out.kept HKb.out).set Hrl.out hpn (B := Ab) (m := 2) (c := cb) (l := [0, 1]) HIb.out (fun _ a' ha' => by have := Hfb.out a' ha'; omega)
                have HK8 : Hid (Kept w (wb.setCell ⟨g0, p, Option.none⟩ (.slice Ab 2 cb))) := ((KeptBut.of ((HK3.out.then HK6.out).then HKb.out) g0).then (KeptBut.set _ (a := ⟨g0, p, Option.none⟩) rfl _)).kept (by have := HK3.out.size; omega)
                have Hsl2 : Hid ((rs.set p [0, 1]).length = n) := by show _ = _; rw [List.length_set]; exact Hrl.out
                have HQ := Lib.hid (HKeep.out _ _ (some ⟨g0, 0, Option.none⟩) cap0 HK8.out (hset.lists Hsl2.out (by omega)) (Hfin.out rs [0, 1] Hrl.out Hfill.out Hrs.out))
                clear hset HKeep Hfin Hfill Hrs e0q e1q e2q e3q e4q e5q hcvq hbvq hlbq hccq hfzq e0a e1a e2a e3a e4a e5a hcva hbva hlba hcca hfza e0b e1b e2b e3b e4b e5b hcvb hbvb hlbb hccb hfzb
                generalize stepB (linKp C ds) ds = res at *
                refine HQ.out.mono ?_
                rintro e W9 ⟨A9, c9, rfl, hD9, hk9⟩
                rw [Hsl.out] at hD9 ⊢
                have HD9 := Lib.hid hD9
                have HK9 := Lib.hid (HK8.out.then hk9)
                clear hD9 hk9
                go_wp2_with fail
                go_ret2
                exact ⟨A9, c9, by rw [Hsl.out]; rfl, by rw [Hsl.out]; exact HD9.out, HK9.out⟩
end Go.Proofs.YtekcenacpklpgaaDoor

set_option maxHeartbeats 1000000
set_option maxRecDepth 10000
namespace Go.Proofs.YtekcenacpklpgaaDoor
open Go Go.RowKit Pl

theorem lin_not_any (A : Option Addr) (n c L : Nat) (xs : List Int) (w : World) (hS : Ints w A n xs) (hL : L < 2 ^ 64) :
    Calls Tryd.prog 22 #[.agg #[.slice A n c, .int .u64 L]] w fun e w' => e = .returned (.bool (!mayB xs L)) ∧ Kept w w' := by
  have HS := Lib.hid hS
  have HL := Lib.hid hL
  clear hS hL
  go_enter Tryd.func22, Tryd.ntmps22
  go_wp2_with fail
  refine (may_any A n c L xs _ (HS.out.kept (Kept.box _ _)) HL.out).mono ?_
  rintro e w1 ⟨rfl, hk⟩
  have Hk := Lib.hid ((Kept.box _ _).then hk)
  clear hk
  generalize hb : mayB xs L = b
  go_wp2
  go_ret
  subst hb
  exact ⟨ret_bool rfl, Hk.out⟩

/-- Where the first one that may not be stands. -/
theorem lin_index_any (A : Option Addr) (n c : Nat) (ds : List DomB) (w : World) (hS : Doms w A n ds) :
    Calls Tryd.prog 51 #[.slice A n c, .func (.func 22) #[] #[]] w fun e w' => ∃ i : Int, e = .returned (.int .i64 i) ∧ (decide (0 ≤ i) = !allMay ds) ∧ Kept w w' := by
  have HS := Lib.hid hS
  have hsm := hS.small
  have Hlen := Lib.hid hS.len
  clear hS
  go_enter Tryd.func51, Tryd.ntmps51
  go_wp2_with fail
  go_loopw [8] (fun v wr => ∃ k : Nat, k ≤ n ∧ v = .int .i64 k ∧ Hid (Kept w wr) ∧ Hid (allMay (ds.take k) = true)) (fun v _ => n - (intOf v).toNat)
  case atStart => exact ⟨0, Nat.zero_le _, rfl, Below.refl _ _, rfl⟩
  case round =>
    obtain ⟨k, hk, rfl, Hkw, Hok⟩ := hrel
    by_cases hlt : k < n
    · have hSr := HS.out.kept Hkw.out
      obtain ⟨a, rfl, hblk⟩ := hSr.addr (by omega)
      obtain ⟨xs, L, B, m, cB, Hd, hc1, hc2, HI, hL⟩ := hSr.named k hlt
      have Hnext : Hid (allMay (ds.take (k + 1)) = mayB xs L) := allMay_take (by have := Hlen.out; omega) Hd.out Hok.out
      have HQ := Lib.hid (lin_not_any B m cB L xs wr HI.out hL)
      clear hSr
      generalize hm : mayB xs L = b at HQ Hnext
      clear hm
      go_wp2_with fail
      refine HQ.out.mono ?_
      rintro e w1 ⟨rfl, hk1⟩
      have Hk1 := Lib.hid (Hkw.out.then hk1)
      clear hk1 HQ
      cases b with
      | true =>
        simp only [Bool.not_true]
        go_wp2
        go_roundw
        case rel => exact ⟨k + 1, by omega, by go_num, Hk1.out, Hnext.out⟩
        case measure => simp [intOf]; omega
      | false =>
        simp only [Bool.not_false]
        go_wp2
        go_ret
        refine ⟨k, rfl, ?_, Hk1.out⟩
        rw [allMay_bad Hnext.out]
        simp
    · have e : k = n := by omega
      subst e
      have h2 : allMay ds = true := by have := Hok.out; rwa [List.take_of_length_le (by have := Hlen.out; omega)] at this
      go_wp2
      go_ret
      exact ⟨-1, rfl, by rw [h2]; decide, Hkw.out⟩

theorem lin_contains_any (A : Option Addr) (n c : Nat) (ds : List DomB) (w : World) (hS : Doms w A n ds) :
    Calls Tryd.prog 21 #[.slice A n c, .func (.func 22) #[] #[]] w fun e w' => e = .returned (.bool (!allMay ds)) ∧ Kept w w' := by
  have HS := Lib.hid hS
  clear hS
  go_enter Tryd.func21, Tryd.ntmps21
  go_wp2_with fail
  refine (lin_index_any A n c ds _ HS.out).mono ?_
  rintro e w1 ⟨i, rfl, hi, hk⟩
  have Hi := Lib.hid hi
  clear hi
  go_wp2
  go_ret
  exact ⟨ret_bool Hi.out, hk⟩
end Go.Proofs.YtekcenacpklpgaaDoor

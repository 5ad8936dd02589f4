/-
  Contracts and plain laws that the card rests on, part 13.
-/
import Derived.Test.YtjmegicopdbkdaaDoorL9
import Derived.Test.YtjmegicopdbkdaaDoorL10
import Derived.Test.YtjmegicopdbkdaaDoorL12
set_option maxHeartbeats 6000000
set_option maxRecDepth 10000
namespace Go.Proofs.YtjmegicopdbkdaaDoor
open Go Go.RowKit Pl

theorem OwnL.named {w : World} {base g n cap : Nat} {ls : List (List Int)} (h : OwnL w base (.slice (some ⟨g, 0, Option.none⟩) n cap) ls) (hn : ls.length = n) (p : Nat) (hp : p < n) :
    ∃ (l : List Int) (B : Option Addr) (m c : Nat), Hid (ls.getD p [] = l) ∧ w.cell? ⟨g, p, Option.none⟩ = some (.slice B m c) ∧ w.frozen? ⟨g, p, Option.none⟩ = false ∧ Hid (Ints w B m l) := by
  obtain ⟨vs, hown, hd⟩ := h
  subst hn
  obtain ⟨B, m, c, e1, e2, _⟩ := hd p hp
  exact ⟨_, B, m, c, rfl, by rw [hown.cellAt _ (by omega)]; exact e1, hown.frozenAt _, e2⟩
theorem addB_mem {acc : List Int} {v x : Int} {P : Int → Prop} (h : ∀ x ∈ acc, P x) (hv : P v) : x ∈ addB acc v → P x := fun hx => by
  rcases mem_addB.1 hx with h1 | rfl
  · exact h x h1
  · exact hv
theorem addAll_P {P : Int → Prop} {l acc : List Int} (h : ∀ x ∈ acc, P x) (hl : ∀ x ∈ l, P x) : ∀ x ∈ addAll acc l, P x := fun x hx => by
  rcases mem_addAll.1 hx with h1 | h1
  · exact h x h1
  · exact hl x h1
theorem allS_P {P : Int → Prop} {vars : List Int} {ls : List (List Int)} (h : ∀ q, ∀ x ∈ ls.getD q [], P x) (j : Nat) : ∀ x ∈ allS vars ls j, P x := by
  induction j with
  | zero => intro x hx; simp [allS_zero] at hx
  | succ j ih => rw [allS_succ]; exact addAll_P ih (h _)

theorem diff_few {C : ConB} {ds : List DomB} (hv : varsOk C.vars ds.length = true) (hm : allMay ds = true) {ls : List (List Int)} (hl : ls = listsOf ds) (hf : fewB C ds = true) :
    stepB (fun i x => ((noneU C.vars ls C.vars.length).getD i []).contains x) ds = stepB (diffKp C ds) ds := by
  subst hl
  refine stepB_congr hm fun i hi v hv2 => ?_
  have hmem : v ∈ (listsOf ds).getD i [] := by rw [listsOf_getD ds hi]; exact hv2
  have hll : (listsOf ds).length = ds.length := by unfold listsOf; rw [List.length_map]
  rw [noneU_keeps (by rw [hll]; exact hv) hmem]
  unfold diffKp
  congr 1
  funext k x
  unfold diffG
  rw [hf]; rfl
theorem diff_many {C : ConB} {ds : List DomB} (hv : varsOk C.vars ds.length = true) (hm : allMay ds = true) {ls : List (List Int)} (hl : ls = listsOf ds) (hf : fewB C ds = false) :
    stepB (fun i x => ((lessU C.vars ls C.vars.length C.vars.length).getD i []).contains x) ds = stepB (diffKp C ds) ds := by
  subst hl
  refine stepB_congr hm fun i hi v hv2 => ?_
  have hmem : v ∈ (listsOf ds).getD i [] := by rw [listsOf_getD ds hi]; exact hv2
  have hll : (listsOf ds).length = ds.length := by unfold listsOf; rw [List.length_map]
  show ((setU C.vars (listsOf ds) _ C.vars.length).getD i []).contains v = _
  rw [setU_keeps (by rw [hll]; exact hv) hmem]
  unfold diffKp
  have heq : ∀ k, k < C.vars.length → ∀ x, lessG C.vars (listsOf ds) C.vars.length k x = diffG C ds k x := fun k hk x => by
    show soloP _ _ _ _ _ = _
    rw [soloP_sole hv hk]
    unfold diffG
    rw [hf]; rfl
  rw [Bool.eq_iff_iff, varsKp_iff, varsKp_iff]
  constructor
  · intro h k hk e; rw [← heq k hk]; exact h k hk e
  · intro h k hk e; rw [heq k hk]; exact h k hk e

theorem rstep15_any (K R Ct : Int) (A1 A2 A3 : Option Addr) (n1 c1 n2 c2 n3 c3 : Nat) (C : ConB) (A : Option Addr) (n c : Nat) (ds : List DomB) (w : World) (hC : ConIn w K R Ct A1 A2 A3 n1 c1 n2 c2 n3 c3 C) (hS : Doms w A n ds) (hn : n ≤ 1000) :
    Calls Tryd.prog 24 #[.agg #[.int .i64 K, .slice A1 n1 c1, .slice A2 n2 c2, .int .i64 R, .int .i64 Ct, .slice A3 n3 c3], .slice A n c] w (StepPost (if diffGo C ds = true then some (stepB (diffKp C ds) ds) else Option.none) w) := by
  obtain ⟨i0, hi, hz0, hz1, hz2⟩ := info_parts info_int
  obtain ⟨j0, hj, hy0, hy1, hy2⟩ := info_parts info_ints
  have HC := Lib.hid hC
  have HS := Lib.hid hS
  have Hlen := Lib.hid hS.len
  have Hl1 := Lib.hid hC.vars.len
  clear hC hS
  have HB : Hid (∀ wr, Kept (w.alloc (.cells #[.int .i64 K, .slice A1 n1 c1, .slice A2 n2 c2, .int .i64 R, .int .i64 Ct, .slice A3 n3 c3] 24)) wr → wr.heap[w.heap.size]? = some (.cells #[.int .i64 K, .slice A1 n1 c1, .slice A2 n2 c2, .int .i64 R, .int .i64 Ct, .slice A3 n3 c3] 24)) := fun wr h => h.heapAt (heap_new _ _)
  have Hb : Hid ((decide (C.kind = 5) && allMay ds && rightB C n) = diffGo C ds) := by show _ = _; rw [← Hlen.out]; exact goK_right 5 C ds
  have HR : Hid (∀ (b : Bool), diffGo C ds = b → ∀ (O : Nat) (W : World), Kept w W → W.heap[O]? = some (.cells #[.int .i64 5] 3) → Calls Tryd.prog 33 #[.agg #[.int .i64 K, .slice A1 n1 c1, .slice A2 n2 c2, .int .i64 R, .int .i64 Ct, .slice A3 n3 c3], .slice A n c, .slice (some ⟨O, 0, Option.none⟩) 1 1] W fun e w' => e = .returned (.bool b) ∧ Kept W w') := fun b hb O W hW hO => by
    have := rright12_any K R Ct A1 A2 A3 n1 c1 n2 c2 n3 c3 C 5 O A n c ds W (HC.out.kept hW) (HS.out.kept hW) hO
    rwa [Hb.out, hb] at this
  by_cases hg : ¬ diffGo C ds = true
  · rw [if_neg hg]
    have HR2 := Lib.hid (HR.out false (by simpa using hg))
    clear Hb HR
    go_enter Tryd.func24, Tryd.ntmps24
    go_wp2_with fail
    refine (HR2.out _ _ ((Kept.box _ _).newBlock _) (heap_new2 _ _ _)).mono ?_
    rintro e W1 ⟨rfl, hk1⟩
    have HK1 := Lib.hid (((Kept.box _ _).newBlock _).then hk1)
    clear hk1
    go_wp2_with fail
    go_ret2
    exact ⟨rfl, HK1.out⟩
  · have hg := Classical.not_not.1 hg
    rw [if_pos hg]
    have HR2 := Lib.hid (HR.out true hg)
    obtain ⟨hk4, hB4, hm4⟩ := diffGo_parts hg
    have Hm4 := Lib.hid hm4
    have hvo0 := rightB_vars hB4
    have Hvo0 := Lib.hid hvo0
    have Hvo : Hid (varsOk C.vars n = true) := by show _ = _; rw [← Hlen.out]; exact hvo0
    have hv8 := diff_parts hk4 hB4
    have hn18 : 2 ≤ n1 ∧ n1 ≤ 8 := by have := Hl1.out; omega
    have hn0 : 0 < n := by
      have h1 := varsOk_rng Hvo.out (i := 0) (by omega)
      omega
    obtain ⟨ls0, hls⟩ : ∃ ls, ls = listsOf ds := ⟨_, rfl⟩
    have Hls0 := Lib.hid hls
    have Hll0 : Hid (ls0.length = n) := by show _ = _; rw [hls]; unfold listsOf; rw [List.length_map]; exact Hlen.out
    have Hsl : Hid ((stepB (diffKp C ds) ds).length = n) := by show _ = _; rw [stepB_length]; exact Hlen.out
    have Hq : Hid (wipedS C.vars ls0 n1 = wipedB C ds n1) := by show _ = _; rw [← Hl1.out, hls]; exact wipedS_wiped hvo0
    have HLs : Hid (∀ W, Doms W A n ds → Calls Tryd.prog 34 #[.slice A n c] W (ListsPost ls0 W)) := fun W hW => by rw [hls]; exact rlists_any A n c ds W hW hn
    have H640 : Hid (∀ j, (ls0.getD j []).length ≤ 64 ∧ ∀ x ∈ ls0.getD j [], -1048576 ≤ x ∧ x ≤ 1048576) := fun j => by
      rw [hls]
      by_cases hj : j < ds.length
      · rw [listsOf_getD ds hj]; exact ⟨listB_length _ _, listB_rng _ _⟩
      · rw [List.getD_eq_getElem?_getD, List.getElem?_eq_none (by unfold listsOf; rw [List.length_map]; omega)]; simp
    clear Hb HR hk4 hB4 hm4 hvo0 hls hg
    go_enter Tryd.func24, Tryd.ntmps24
    go_wp2_with fail
    refine (HR2.out _ _ ((Kept.box _ _).newBlock _) (heap_new2 _ _ _)).mono ?_
    rintro e W1 ⟨rfl, hk1⟩
    have HK1 := Lib.hid (((Kept.box _ _).newBlock _).then hk1)
    have Hk1 := Lib.hid ((Kept.box _ _).then hk1)
    clear hk1 HR2
    have hb := HB.out W1 Hk1.out
    have b0 := cell_at hb 0
    have b1 := cell_at hb 1
    have b2 := cell_at hb 2
    have b3 := cell_at hb 3
    have b4 := cell_at hb 4
    have b5 := cell_at hb 5
    simp only [List.getElem?_toArray, List.getElem?_cons_zero, List.getElem?_cons_succ] at b0 b1 b2 b3 b4 b5
    clear hb
    go_wp2_with fail
    go_region_held3 (fun W => (W.cell? ⟨w.heap.size, 0, Option.none⟩ = some (.int .i64 K) ∧ W.cell? ⟨w.heap.size, 1, Option.none⟩ = some (.slice A1 n1 c1) ∧ W.cell? ⟨w.heap.size, 2, Option.none⟩ = some (.slice A2 n2 c2) ∧ W.cell? ⟨w.heap.size, 3, Option.none⟩ = some (.int .i64 R) ∧ W.cell? ⟨w.heap.size, 4, Option.none⟩ = some (.int .i64 Ct) ∧ W.cell? ⟨w.heap.size, 5, Option.none⟩ = some (.slice A3 n3 c3))) (first | go_keep | exact conbox6 (HB.out _ (Hk1.out.then ((Kept.drewn _).then hk2))) | exact conbox6 (HB.out _ (Hk1.out.then (((Kept.drewn _).then hk2).then hk3))))
      (first
        | (go_at_call 34; refine (HLs.out _ (HS.out.kept (HK1.out.then (Kept.drewn _)))).mono ?_; rintro e W2 ⟨Al, cl, rfl, hLL, hk2⟩; rw [Hll0.out] at hLL ⊢)
        | (go_at_call 49; refine (rwiped_any K R Ct A1 A2 A3 n1 c1 n2 c2 n3 c3 C Al n cl ls0 W2 (HC.out.kept (HK1.out.then ((Kept.drewn _).then hk2))) hLL Hvo.out hn0 hn).mono ?_; rintro e W3 ⟨A3', c3', rfl, hL3, hk3⟩))
    have HL3 := Lib.hid hL3
    have HK3 := Lib.hid (HK1.out.then (((Kept.drewn _).then hk2).then hk3))
    have Hk3 := Lib.hid (Hk1.out.then (((Kept.drewn _).then hk2).then hk3))
    clear b0 b1 b2 b3 b4 b5 hk2 hk3 hL3 hLL HLs
    generalize hqq : wipedS C.vars ls0 n1 = q at *
    have Hqq := Lib.hid hqq
    clear hqq
    obtain ⟨ls, hls⟩ : ∃ ls, ls = (if q = true then noneU C.vars ls0 n1 else ls0) := ⟨_, rfl⟩
    have HL4 : Hid (LL W3 A3' n ls) := by show LL _ _ _ _; rw [hls]; exact HL3.out
    have Hls := Lib.hid hls
    have Hll : Hid (ls.length = n) := HL4.out.len
    have H64 : Hid (∀ j, (ls.getD j []).length ≤ 64 ∧ ∀ x ∈ ls.getD j [], -1048576 ≤ x ∧ x ≤ 1048576) := fun j => by
      rw [hls]
      split
      · by_cases h : ∃ i, i < n1 ∧ (C.vars.getD i 0).toNat = j
        · rw [noneU_in (fun k hk => by have := varsOk_rng Hvo.out (i := k) (by have := Hl1.out; omega); have := Hll0.out; omega) h]; simp
        · rw [noneU_out (fun k hk e => h ⟨k, hk, e⟩)]; exact H640.out j
      · exact H640.out j
    have Hnone : Hid (fewB C ds = true → stepB (fun i' x => ((noneU C.vars ls n1).getD i' []).contains x) ds = stepB (diffKp C ds) ds) := fun hf => by
      rw [← diff_few Hvo0.out Hm4.out Hls0.out hf, Hl1.out]
      congr 1
      funext i' x
      rw [hls]
      split
      · rw [noneU_noneU C.vars ls0 i' n1 (by rw [Hll0.out]; exact Hvo.out) Hl1.out.symm]
      · rfl
    have Hfew1 : Hid (q = true → fewB C ds = true) := fun h => by
      unfold fewB
      rw [Hl1.out, ← Hq.out, h]; rfl
    have Hfew2 : Hid (q = false → fewB C ds = decide ((allS C.vars ls n1).length < n1)) := fun h => by
      unfold fewB
      rw [Hl1.out, ← Hq.out, h, hls, h, if_neg (by decide), Hls0.out, allS_allU Hvo0.out (by have := Hl1.out; omega)]
      rfl
    have Hmany : Hid (q = false → fewB C ds = false → stepB (fun i' x => ((lessU C.vars ls n1 n1).getD i' []).contains x) ds = stepB (diffKp C ds) ds) := fun h hf => by
      rw [← diff_many Hvo0.out Hm4.out Hls0.out hf, Hl1.out, hls, h, if_neg (by decide)]
    have Hvol : Hid (varsOk C.vars ls.length = true) := by show _ = _; rw [Hll.out]; exact Hvo.out
    have HN : Hid (∀ W, Kept W3 W → Calls Tryd.prog 35 #[.agg #[.int .i64 K, .slice A1 n1 c1, .slice A2 n2 c2, .int .i64 R, .int .i64 Ct, .slice A3 n3 c3], .slice A3' n c3'] W (OwnLPost n (noneU C.vars ls n1) W)) := fun W hW =>
      rnone_any K R Ct A1 A2 A3 n1 c1 n2 c2 n3 c3 C A3' n c3' ls W (HC.out.kept (HK3.out.then hW)) (HL4.out.kept hW) Hvo.out hn0 hn
    have HKn : Hid (∀ W g cg base, Kept W3 W → fewB C ds = true → OwnL W base (.slice (some ⟨g, 0, Option.none⟩) n cg) (noneU C.vars ls n1) → Calls Tryd.prog 37 #[.slice A n c, .slice (some ⟨g, 0, Option.none⟩) n cg] W (DomsPost (stepB (diffKp C ds) ds) W)) := fun W g cg base hW hf hO => by
      have hl : (noneU C.vars ls n1).length = n := by rw [noneU_length]; exact Hll.out
      have h := rkeeps_any (fun i' x => ((noneU C.vars ls n1).getD i' []).contains x) A (some ⟨g, 0, Option.none⟩) n c cg ds (noneU C.vars ls n1) W (HS.out.kept (HK3.out.then hW)) (hO.lists hl (by omega)) Hm4.out (fun _ _ => rfl) hn
      rwa [Hnone.out hf] at h
    have HKm : Hid (∀ W g cg base, Kept W3 W → q = false → fewB C ds = false → OwnL W base (.slice (some ⟨g, 0, Option.none⟩) n cg) (lessU C.vars ls n1 n1) → Calls Tryd.prog 37 #[.slice A n c, .slice (some ⟨g, 0, Option.none⟩) n cg] W (DomsPost (stepB (diffKp C ds) ds) W)) := fun W g cg base hW hq hf hO => by
      have hl : (lessU C.vars ls n1 n1).length = n := by rw [setU_length]; exact Hll.out
      have h := rkeeps_any (fun i' x => ((lessU C.vars ls n1 n1).getD i' []).contains x) A (some ⟨g, 0, Option.none⟩) n c cg ds (lessU C.vars ls n1 n1) W (HS.out.kept (HK3.out.then hW)) (hO.lists hl (by omega)) Hm4.out (fun _ _ => rfl) hn
      rwa [Hmany.out hq hf] at h
    obtain ⟨a3, _, _, _, _, ha3, hba3, _, _, _⟩ := HL4.out.named 0 hn0
    subst ha3
    generalize stepB (diffKp C ds) ds = res at *
    clear hls HL3 Hnone Hmany
    have HAl : Hid (∀ j, (allS C.vars ls j).length ≤ 64 * j) := allS_len fun q => (H64.out q).1
    have HAr : Hid (∀ j, ∀ x ∈ allS C.vars ls j, -1048576 ≤ x ∧ x ≤ 1048576) := fun j => allS_P (P := fun x => -1048576 ≤ x ∧ x ≤ 1048576) (fun q => (H64.out q).2) j
    go_wp2_with fail
    go_loopw [8, 9] (fun u v wr => ∃ i : Nat, i ≤ n1 ∧ v = .int .i64 i ∧ Hid (wr.ownsRow W3.heap.size 3 1 u (allS C.vars ls i).length ((allS C.vars ls i).map (Value.int .i64))) ∧ Hid (Kept W3 wr)) (fun _ v _ => n1 - (intOf v).toNat)
    case atStart => exact ⟨0, Nat.zero_le _, rfl, own_empty (heap_new _ _) (Nat.le_refl _), Kept.box _ _⟩
    case round =>
      obtain ⟨i, hii, rfl, HOi, Hki⟩ := hrel
      obtain ⟨wi, hwi⟩ : ∃ wi : World, wi = wr := ⟨_, rfl⟩
      subst hwi
      have HKi := Lib.hid (HK3.out.then Hki.out)
      have hb := HB.out wi (Hk3.out.then Hki.out)
      have b0 := cell_at hb 0
      have b1 := cell_at hb 1
      have b2 := cell_at hb 2
      have b3 := cell_at hb 3
      have b4 := cell_at hb 4
      have b5 := cell_at hb 5
      simp only [List.getElem?_toArray, List.getElem?_cons_zero, List.getElem?_cons_succ] at b0 b1 b2 b3 b4 b5
      clear hb
      have hlb : w.heap.size < wi.heap.size := World.block_lt_of_cell? wi _ b0
      by_cases hlt : i < n1
      · obtain ⟨av, hav, hbv⟩ := HC.out.vars.addr (by omega)
        subst hav
        obtain ⟨v, Hv1, hcv0, _, _⟩ := HC.out.vars.named i hlt
        obtain ⟨hv0, hv1⟩ := varsOk_rng Hvo.out (i := i) (by have := Hl1.out; omega)
        rw [Hv1.out] at hv0 hv1
        obtain ⟨p, rfl⟩ := Int.eq_ofNat_of_zero_le hv0
        have hpn : p < n := by omega
        obtain ⟨al, l, Bl, ml, clp, hal, hbal2, Hl, hclp2, HIl⟩ := HL4.out.named p hpn
        cases hal
        have Hclp2 := Lib.hid hclp2
        have Hcv := Lib.hid hcv0
        have hml : ml ≤ 64 := by have := (H64.out p).1; rw [Hl.out] at this; have := HIl.out.len; omega
        have Hlm := Lib.hid HIl.out.len
        have HlsA : Hid (lsAt C.vars ls i = l) := by show _ = _; unfold lsAt; rw [Hv1.out, Int.toNat_natCast, Hl.out]
        have Hnx : Hid (allS C.vars ls (i + 1) = addAll (allS C.vars ls i) l) := by show _ = _; rw [allS_succ, HlsA.out]
        have HaL := Lib.hid (HAl.out i)
        have HaR := Lib.hid (HAr.out i)
        have HlR : Hid (∀ x ∈ l, -1048576 ≤ x ∧ x ≤ 1048576) := by have := (H64.out p).2; rw [Hl.out] at this; exact this
        clear hclp2 hcv0
        generalize allS C.vars ls i = acc at *
        go_wp2_with fail
        clear b0 b1 b2 b3 b4 b5 hbv hlb
        go_loopw [8, 10] (fun u v wz => ∃ k : Nat, k ≤ ml ∧ v = .int .i64 k ∧ Hid (wz.ownsRow W3.heap.size 3 1 u (addAll acc (l.take k)).length ((addAll acc (l.take k)).map (Value.int .i64))) ∧ Hid (Kept W3 wz)) (fun _ v _ => ml - (intOf v).toNat)
        case atStart => exact ⟨0, Nat.zero_le _, rfl, HOi.out, Hki.out⟩
        case round =>
          obtain ⟨k, hk, rfl, HOz, Hkz⟩ := hrel
          obtain ⟨wz, hwz⟩ : ∃ wz : World, wz = wr := ⟨_, rfl⟩
          subst hwz
          have HKz := Lib.hid (HK3.out.then Hkz.out)
          have hb := HB.out wz (Hk3.out.then Hkz.out)
          have b0 := cell_at hb 0
          have b1 := cell_at hb 1
          have b2 := cell_at hb 2
          have b3 := cell_at hb 3
          have b4 := cell_at hb 4
          have b5 := cell_at hb 5
          simp only [List.getElem?_toArray, List.getElem?_cons_zero, List.getElem?_cons_succ] at b0 b1 b2 b3 b4 b5
          clear hb
          have hlb2 : w.heap.size < wz.heap.size := World.block_lt_of_cell? wz _ b0
          have hclp := Hkz.out.cellAt Hclp2.out
          have hcv := HKz.out.cellAt Hcv.out
          have hbal : a3.block < wz.heap.size := by have := Hkz.out.size; omega
          have hbv : av.block < wz.heap.size := by have := World.block_lt_of_cell? wz _ hcv; rwa [add_block'] at this
          by_cases hltk : k < ml
          · obtain ⟨bl, hbl, hbb⟩ := HIl.out.addr (by omega)
            subst hbl
            obtain ⟨x, Hx, hcx, hx1, hx2⟩ := (HIl.out.kept Hkz.out).named k hltk
            have Htk : Hid (addAll acc (l.take (k + 1)) = addB (addAll acc (l.take k)) x) := by
              show _ = _
              rw [take_succ_getD (by have := Hlm.out; omega) Hx.out, addAll_snoc]
            have hxr := HlR.out x (by rw [← Hx.out, List.getD_eq_getElem?_getD, List.getElem?_eq_getElem (by have := Hlm.out; omega)]; exact List.getElem_mem _)
            have Har2 : Hid (∀ x ∈ addAll acc (l.take k), -1048576 ≤ x ∧ x ≤ 1048576) := addAll_P (P := fun x => -1048576 ≤ x ∧ x ≤ 1048576) HaR.out (fun x hx => HlR.out x (List.mem_of_mem_take hx))
            have hal2 : (addAll acc (l.take k)).length ≤ 1000 := by
              have h1 := addAll_len (l.take k) acc
              have h2 := HaL.out
              rw [List.length_take] at h1
              omega
            have hbl2 : bl.block < wz.heap.size := (HIl.out.kept Hkz.out).block (by omega)
            generalize addAll acc (l.take k) = ac at *
            obtain ⟨A', c', rfl, hI, hfr⟩ := Ints.of_own HOz.out (fun x hx => by have := Har2.out x hx; omega)
            have HI := Lib.hid hI
            have Hown := Lib.hid HOz.out
            have hbase := Lib.hid hI.len
            have hbs : Hid (∀ i, Value.ownBlock (.slice A' ac.length c') = some i → W3.heap.size ≤ i) := fun i hi => own_base HOz.out i hi
            clear hI hfr HOz
            go_wp2_with fail
            refine (rlbetween_any A' ac.length c' ac x x wz HI.out (by omega)).mono ?_
            rintro e w1 ⟨Ab, cb, rfl, hIb, hkb, hfb⟩
            have Hkb := Lib.hid hkb
            have Hlen0 := Lib.hid (inB_len ac x)
            generalize hqb : (ac.filter (inB x x)).length = qb at *
            have Hqb := Lib.hid hqb
            clear hIb hkb hfb hqb
            have Hown1 := Lib.hid (own_kept Hown.out Hkb.out)
            have Hk1z := Lib.hid (Hkz.out.then Hkb.out)
            have hs1 := Hk1z.out.size
            clear b0 b1 b2 b3 b4 b5 hclp hcv
            cases hcn : ac.contains x with
            | true =>
              have hd : ((qb : Int) == 0) = false := by
                have : ¬ qb = 0 := fun h => by have := Hlen0.out.1 h; rw [hcn] at this; cases this
                simp; omega
              have Htk2 : Hid (addAll acc (l.take (k + 1)) = ac) := by show _ = _; rw [Htk.out]; unfold addB; rw [hcn]; rfl
              go_wp2_with fail
              go_roundw
              case rel => exact ⟨k + 1, by omega, by go_num, by rw [Htk2.out]; exact Hown1.out, Hk1z.out⟩
              case measure => simp [intOf]; omega
            | false =>
              have hd : ((qb : Int) == 0) = true := by
                have : qb = 0 := Hlen0.out.2 hcn
                simp [this]
              have Htk2 : Hid (addAll acc (l.take (k + 1)) = ac ++ [x]) := by show _ = _; rw [Htk.out]; unfold addB; rw [hcn]; rfl
              go_wp2_with (at_builtin; refine wpList_append_own _ rfl _ _ 22 rfl W3.heap.size 3 i0 (.int .i64 0) 1 8 Tryd.underlying22 hi hz0 hz1 hz2 rfl (by decide) _ _ _ rfl (Hown1.out.alloc _) ⟨w1.heap.size, 0, none⟩ 1 1 [.int .i64 x] rfl rfl (cell_one_new _ _ _) (by simp [Value.oneCell']) (by unfold maxLen; omega) (by omega) (by simp; omega) ?_; intro v' w2 hown' hgrow _)
              have Hk2z : Hid (Kept W3 w2) := Hk1z.out.appended Hown1.out (Nat.le_refl _) hgrow
              go_roundw
              case rel => exact ⟨k + 1, by omega, by go_num, by rw [Htk2.out]; exact Lib.hid (by simpa using hown'), Hk2z.out⟩
              case measure => simp [intOf]; omega
          · have e : k = ml := by omega
            subst e
            have HOe : Hid (wz.ownsRow W3.heap.size 3 1 u8 (allS C.vars ls (i + 1)).length ((allS C.vars ls (i + 1)).map (Value.int .i64))) := by
              have h := HOz.out
              rw [List.take_of_length_le (by have := Hlm.out; omega), ← Hnx.out] at h
              exact h
            clear HOz
            go_wp2_with fail
            go_roundw
            case rel => exact ⟨i + 1, by omega, by go_num, HOe.out, Hkz.out⟩
            case measure => simp [intOf]; omega
      · have e : i = n1 := by omega
        subst e
        have HAr2 := Lib.hid (HAr.out i)
        have HAl2 := HAl.out i
        generalize allS C.vars ls i = acc at *
        obtain ⟨A8, c8, hu8, hI8, _⟩ := Ints.of_own HOi.out (fun x hx => by have := HAr2.out x hx; omega)
        subst hu8
        have HKe := Lib.hid hI8.small
        generalize hqa : acc.length = qa at *
        have Hqa := Lib.hid hqa
        clear hqa hI8 HOi HAr2
        have HNi := Lib.hid (HN.out wi Hki.out)
        by_cases hfew : fewB C ds = true
        · have Hfew := Lib.hid hfew
          have HT : Hid (∀ (b : Bool), b = q → b = false → decide (qa < i) = true) := fun b hb hf => by
            have h := Hfew2.out (by rw [← hb]; exact hf)
            rw [hfew] at h
            exact h.symm
          cases q with
          | true =>
            go_wp2_with fail
            refine HNi.out.mono ?_
            rintro e W5 ⟨g, cg, rfl, hO5, hg2, hg3, hk5⟩
            have HO5 := Lib.hid hO5
            have HK5 := Lib.hid (Hki.out.then hk5)
            clear hO5 hk5 b0 b1 b2 b3 b4 b5 hfew
            go_wp2_with fail
            refine (HKn.out W5 g cg _ HK5.out Hfew.out HO5.out).mono ?_
            rintro e W9 ⟨A9, c9, rfl, hD9, hk9⟩
            rw [Hsl.out] at hD9 ⊢
            have HD9 := Lib.hid hD9
            have HK9 := Lib.hid ((HK3.out.then HK5.out).then hk9)
            clear hD9 hk9
            go_wp2_with fail
            go_ret2
            exact ⟨A9, c9, by rw [Hsl.out]; rfl, by rw [Hsl.out]; exact HD9.out, HK9.out⟩
          | false =>
            have hd : decide (qa < i) = true := HT.out false rfl rfl
            clear hfew
            go_wp2_with fail
            refine HNi.out.mono ?_
            rintro e W5 ⟨g, cg, rfl, hO5, hg2, hg3, hk5⟩
            have HO5 := Lib.hid hO5
            have HK5 := Lib.hid (Hki.out.then hk5)
            clear hO5 hk5 b0 b1 b2 b3 b4 b5
            go_wp2_with fail
            refine (HKn.out W5 g cg _ HK5.out Hfew.out HO5.out).mono ?_
            rintro e W9 ⟨A9, c9, rfl, hD9, hk9⟩
            rw [Hsl.out] at hD9 ⊢
            have HD9 := Lib.hid hD9
            have HK9 := Lib.hid ((HK3.out.then HK5.out).then hk9)
            clear hD9 hk9
            go_wp2_with fail
            go_ret2
            exact ⟨A9, c9, by rw [Hsl.out]; rfl, by rw [Hsl.out]; exact HD9.out, HK9.out⟩
        · have hfew := Bool.not_eq_true _ ▸ hfew
          have Hfew := Lib.hid hfew
          cases q with
          | true => exact absurd (Hfew1.out rfl) (by rw [hfew]; decide)
          | false =>
            have hd : decide (qa < i) = false := by
              have h := Hfew2.out rfl
              rw [hfew] at h
              exact h.symm
            clear hfew
            have HLi := Lib.hid (HL4.out.kept Hki.out)
            obtain ⟨vs, hvl, hvc, hvo, hvd⟩ := HLi.out.row hn0
            have Hvd := Lib.hid hvd
            have Hvc := Lib.hid hvc
            clear hvd hvc
            have HR0 : Hid ((wi.alloc (.cells #[] 22)).ownsRow wi.heap.size 22 1 (.slice (some ⟨wi.heap.size, 0, Option.none⟩) 0 0) 0 []) := own_empty (heap_new _ _) (Nat.le_refl _)
            go_wp2_with (at_builtin; refine wpList_append_own _ rfl _ _ 59 rfl wi.heap.size 22 j0 (.slice Option.none 0 0) 1 24 Tryd.underlying59 hj hy0 hy1 hy2 rfl (by decide) _ _ _ rfl HR0.out a3 n c3' vs rfl hvl (fun j u hu => (Kept.box wi _).cellAt (Hvc.out j u hu)) hvo (by unfold maxLen; omega) (by omega) (by simp) ?_; intro v' w2 hown' hgrow _; rw [Nat.zero_add, List.nil_append] at hown'; obtain ⟨g, cap, rfl, hgb, hgl⟩ := hown'.form hn0)
            have HKx : Hid (Kept wi w2) := (Kept.box _ (.cells #[] 22)).grown hgrow (by simp) (fun i hi => by simp [Act.eval, Value.ownBlock] at hi; omega)
            have HO : Hid (OwnL w2 wi.heap.size (.slice (some ⟨g, 0, Option.none⟩) n cap) ls) := by
              refine ⟨vs, by rw [Hll.out]; exact hown', fun j hj => ?_⟩
              rw [Hll.out] at hj
              obtain ⟨B', m', c', e1, e3⟩ := Hvd.out j hj
              refine ⟨B', m', c', e1, e3.kept HKx.out, fun hm a' ha' e => ?_⟩
              subst ha'
              have := e3.block hm
              simp only [Value.ownBlock, Option.some.injEq] at e
              omega
            have HK2 := Lib.hid (Hki.out.then HKx.out)
            clear hown' hgrow hvo hvl b0 b1 b2 b3 b4 b5
            go_wp2_with fail
            go_loopw [13] (fun u wq => ∃ j : Nat, j ≤ i ∧ u = .int .i64 j ∧ Hid (OwnL wq wi.heap.size (.slice (some ⟨g, 0, Option.none⟩) n cap) (lessU C.vars ls i j)) ∧ Hid (KeptBut g w2 wq)) (fun u _ => i - (intOf u).toNat)
            case atStart => exact ⟨0, Nat.zero_le _, rfl, HO.out, KeptBut.refl _ _⟩
            case round =>
              obtain ⟨j, hji, rfl, HOj, Hkj⟩ := hrel
              obtain ⟨wj, hwj⟩ : ∃ wj : World, wj = wr := ⟨_, rfl⟩
              subst hwj
              have HKj2 := Lib.hid (((KeptBut.of HK2.out g).then Hkj.out).kept (by have := Hki.out.size; omega))
              have hb := HB.out wj (Hk3.out.then HKj2.out)
              have b0 := cell_at hb 0
              have b1 := cell_at hb 1
              have b2 := cell_at hb 2
              have b3 := cell_at hb 3
              have b4 := cell_at hb 4
              have b5 := cell_at hb 5
              simp only [List.getElem?_toArray, List.getElem?_cons_zero, List.getElem?_cons_succ] at b0 b1 b2 b3 b4 b5
              clear hb
              have hlbj : w.heap.size < wj.heap.size := World.block_lt_of_cell? wj _ b0
              by_cases hltj : j < i
              · obtain ⟨av, hav, hbv⟩ := HC.out.vars.addr (by omega)
                subst hav
                obtain ⟨v, Hv1, hcv0, _, _⟩ := HC.out.vars.named j hltj
                obtain ⟨hv0, hv1⟩ := varsOk_rng Hvo.out (i := j) (by have := Hl1.out; omega)
                rw [Hv1.out] at hv0 hv1
                obtain ⟨p, rfl⟩ := Int.eq_ofNat_of_zero_le hv0
                have hpn : p < n := by omega
                have Hcv := Lib.hid hcv0
                have HOm : Hid (OwnL wj wi.heap.size (.slice (some ⟨g, 0, Option.none⟩) n cap) (midU C.vars ls i j p 0)) := by
                  show OwnL _ _ _ _
                  rw [midU_zero Hvol.out (by have := Hl1.out; omega) Hv1.out]
                  exact HOj.out
                clear hcv0
                go_wp2_with fail
                clear b0 b1 b2 b3 b4 b5 hbv hlbj
                go_loopw [14] (fun u wz => ∃ k : Nat, k ≤ i ∧ u = .int .i64 k ∧ Hid (OwnL wz wi.heap.size (.slice (some ⟨g, 0, Option.none⟩) n cap) (midU C.vars ls i j p k)) ∧ Hid (KeptBut g w2 wz)) (fun u _ => i - (intOf u).toNat)
                case atStart => exact ⟨0, Nat.zero_le _, rfl, HOm.out, Hkj.out⟩
                case round =>
                  obtain ⟨k, hk, rfl, HOz, Hkz⟩ := hrel
                  obtain ⟨wz, hwz⟩ : ∃ wz : World, wz = wr := ⟨_, rfl⟩
                  subst hwz
                  have HKz3 := Lib.hid (((KeptBut.of HK2.out g).then Hkz.out).kept (by have := Hki.out.size; omega))
                  have HKz := Lib.hid (HK3.out.then HKz3.out)
                  have hb := HB.out wz (Hk3.out.then HKz3.out)
                  have b0 := cell_at hb 0
                  have b1 := cell_at hb 1
                  have b2 := cell_at hb 2
                  have b3 := cell_at hb 3
                  have b4 := cell_at hb 4
                  have b5 := cell_at hb 5
                  simp only [List.getElem?_toArray, List.getElem?_cons_zero, List.getElem?_cons_succ] at b0 b1 b2 b3 b4 b5
                  clear hb
                  have hlbz : w.heap.size < wz.heap.size := World.block_lt_of_cell? wz _ b0
                  have hszz := HKz3.out.size
                  by_cases hltk : k < i
                  · obtain ⟨v2, Hv2, hcv2, _, _⟩ := HC.out.vars.named k hltk
                    obtain ⟨hw0, hw1⟩ := varsOk_rng Hvo.out (i := k) (by have := Hl1.out; omega)
                    rw [Hv2.out] at hw0 hw1
                    obtain ⟨p2, rfl⟩ := Int.eq_ofNat_of_zero_le hw0
                    have hp2n : p2 < n := by omega
                    obtain ⟨al, l2, B2, m2, d2, hal, hbal2, Hl2, hcl2, HI2⟩ := HL4.out.named p2 hp2n
                    cases hal
                    have hcv2z := HKz.out.cellAt hcv2
                    have hcl2z := HKz3.out.cellAt hcl2
                    have hcvz := HKz.out.cellAt Hcv.out
                    have hbv : av.block < wz.heap.size := by have := World.block_lt_of_cell? wz _ hcvz; rwa [add_block'] at this
                    have hba3z : a3.block < wz.heap.size := by omega
                    have Hm2 := Lib.hid HI2.out.len
                    have hm2s := HI2.out.small
                    have HlsA : Hid (lsAt C.vars ls k = l2) := by show _ = _; unfold lsAt; rw [Hv2.out, Int.toNat_natCast, Hl2.out]
                    clear hcv2 hcl2
                    by_cases hkj : k = j
                    · have Hkj2 := Lib.hid hkj
                      have hd1 : ((k : Int) != (j : Int)) = false := by simp [hkj]
                      have Hnx : Hid (midU C.vars ls i j p (k + 1) = midU C.vars ls i j p k) := midU_no (.inl hkj)
                      clear hkj
                      go_wp2_with fail
                      go_roundw
                      case rel => exact ⟨k + 1, by omega, by go_num, by rw [Hnx.out]; exact HOz.out, Hkz.out⟩
                      case measure => simp [intOf]; omega
                    · have hd1 : ((k : Int) != (j : Int)) = true := by simp; omega
                      have Hkj2 := Lib.hid hkj
                      clear hkj
                      by_cases hm1 : m2 = 1
                      · subst hm1
                        obtain ⟨bo, hbo, hbb⟩ := HI2.out.addr (by omega)
                        subst hbo
                        obtain ⟨y, Hy, hcy, _, _⟩ := (HI2.out.kept HKz3.out).named 0 (by omega)
                        have hadd0 : bo.add 0 = bo := Addr.add_zero' bo
                        rw [hadd0] at hcy
                        have Hy2 : Hid (lsAt C.vars ls k = [y]) := by
                          show _ = _
                          rw [HlsA.out]
                          have h1 := Hm2.out
                          have h2 := Hy.out
                          match hl2 : l2 with
                          | [] => simp at h1
                          | [z] => simp [List.getD_eq_getElem?_getD] at h2; rw [h2]
                          | _ :: _ :: _ => simp at h1
                        have hml : (midU C.vars ls i j p k).length = n := by rw [midU_length]; exact Hll.out
                        obtain ⟨lo, Bo, mo, co, Hlo, hco, hfo, HIo⟩ := HOz.out.named hml p hpn
                        have hmo : mo ≤ 64 := by
                          have h1 := midU_at (vars := C.vars) (ls := ls) (m := i) (j := j) (p := p) (k := k) (by rw [Hll.out]; exact hpn)
                          rw [Hlo.out] at h1
                          have h2 := List.length_filter_le (soloP C.vars ls j k) (ls.getD p [])
                          rw [← h1] at h2
                          have := (H64.out p).1
                          have := HIo.out.len
                          omega
                        have Hnx : Hid (midU C.vars ls i j p (k + 1) = (midU C.vars ls i j p k).set p (lo.filter (neB y))) := by
                          show _ = _
                          rw [midU_yes (neB y) (fun _ => rfl) (by rw [Hll.out]; exact hpn) Hkj2.out Hy2.out, Hlo.out]
                        have HQ : Hid (∀ W, Kept wz W → Calls Tryd.prog 51 #[.slice Bo mo co, .int .i64 y] W (ListPost (lo.filter (neB y)) W)) := fun W hW => rlless_any Bo mo co lo y W (HIo.out.kept hW) (by omega)
                        have hg4 : g < wz.heap.size := by have := Hkz.out.size; omega
                        have hbo4 : bo.block < wz.heap.size := by omega
                        have HF : Hid (∀ (W7 : World) (A7 : Option Addr) (m7 c7 : Nat), m7 = (lo.filter (neB y)).length → Ints W7 A7 m7 (lo.filter (neB y)) → Kept wz W7 → Fresh wz A7 →
                            OwnL (W7.setCell ⟨g, p, Option.none⟩ (.slice A7 m7 c7)) wi.heap.size (.slice (some ⟨g, 0, Option.none⟩) n cap) (midU C.vars ls i j p (k + 1)) ∧
                            KeptBut g w2 (W7.setCell ⟨g, p, Option.none⟩ (.slice A7 m7 c7))) := by
                          intro W7 A7 m7 c7 hm7 hI7 hk7 hf7
                          have hO8 := (HOz.out.kept hk7).set hml hpn (l := lo.filter (neB y)) (B := A7) (m := m7) (c := c7) hI7 (fun hn a ha => by have := hf7 a ha; omega)
                          rw [← Hnx.out] at hO8
                          exact ⟨hO8, (Hkz.out.then (KeptBut.of hk7 g)).then (KeptBut.set _ (a := ⟨g, p, Option.none⟩) rfl _)⟩
                        have Hcon := Lib.hid (HB.out wz (Hk3.out.then HKz3.out))
                        have Hcvz := Lib.hid hcvz
                        have Hcy := Lib.hid hcy
                        have Hml := Lib.hid hml
                        have hgwi := lt_at (HB.out wi (Hk3.out.then Hki.out))
                        have hgwz : w.heap.size < g := by omega
                        have havw : av.block < w.heap.size := HC.out.vars.block (by omega)
                        have havg : av.block ≠ g := by omega
                        have hbow : bo.block < W3.heap.size := HI2.out.block (by omega)
                        have hwi3 := Hki.out.size
                        have hbog : bo.block ≠ g := by omega
                        clear hgwi havw hbow hwi3
                        generalize hlf : lo.filter (neB y) = lf at *
                        generalize hqf : lf.length = qf at *
                        have Hlf := Lib.hid hlf
                        have Hqf := Lib.hid hqf
                        clear hml hlf hqf
                        go_wp2_with fail
                        -- THE REGION
                        have HSf : Hid (∀ W, Kept wz W → W.cell? ⟨w.heap.size, 1, Option.none⟩ = some (.slice (some av) i c1) ∧ W.cell? (av.add j) = some (.int .i64 p) ∧ W.cell? bo = some (.int .i64 y)) := fun W hW => by
                          have e1 := cell_at (hW.heapAt Hcon.out) 1
                          simp only [List.getElem?_toArray, List.getElem?_cons_zero, List.getElem?_cons_succ] at e1
                          exact ⟨e1, hW.cellAt Hcvz.out, hW.cellAt Hcy.out⟩
                        have HSs : Hid (∀ W v, Kept wz W → (W.setCell ⟨g, p, Option.none⟩ v).cell? ⟨w.heap.size, 1, Option.none⟩ = some (.slice (some av) i c1) ∧ (W.setCell ⟨g, p, Option.none⟩ v).cell? (av.add j) = some (.int .i64 p) ∧ (W.setCell ⟨g, p, Option.none⟩ v).cell? bo = some (.int .i64 y)) := fun W v hW => by
                          obtain ⟨e1, e2, e3⟩ := HSf.out W hW
                          have hB := KeptBut.set W (a := ⟨g, p, Option.none⟩) (B := g) rfl v
                          exact ⟨hB.cellAt e1 (by show w.heap.size ≠ g; omega), hB.cellAt e2 (by rw [add_block']; omega), hB.cellAt e3 (by omega)⟩
                        refine wp_region_held_drew (S := fun W => W.cell? ⟨w.heap.size, 1, Option.none⟩ = some (.slice (some av) i c1) ∧ W.cell? (av.add j) = some (.int .i64 p) ∧ W.cell? bo = some (.int .i64 y)) (by kernel_rfl) (HSf.out _ (Kept.drewn _)) (fun hHeld => ?_)
                        refine wpAnyH_take (i := 0) (oi := _) (v := ?_) rfl (by kernel_rfl) (by decide +kernel) (by decide +kernel) (fun _ _ _ h => h) (Or.inl ⟨by rfl, ?_⟩) (by assumption) ?_
                        rotate_left
                        · ((intro W9 hSw; (try dsimp only at hSw)); ((go_simp) <;> (with_reducible rfl)))
                        try simp only [Act.put, List.setIfInBounds_toArray, List.set_cons_zero, List.set_cons_succ]
                        refine wpAnyH_take (i := 1) (oi := _) (v := ?_) rfl (by kernel_rfl) (by decide +kernel) (by decide +kernel) (fun _ _ _ h => h) (Or.inl ⟨by rfl, ?_⟩) (by assumption) ?_
                        rotate_left
                        · ((intro W9 hSw; (try dsimp only at hSw)); ((go_simp) <;> (with_reducible rfl)))
                        try simp only [Act.put, List.setIfInBounds_toArray, List.set_cons_zero, List.set_cons_succ]
                        refine wpAnyH_take (i := 2) (oi := _) (v := ?_) rfl (by kernel_rfl) (by decide +kernel) (by decide +kernel) (fun _ _ _ h => h) (Or.inl ⟨by rfl, ?_⟩) (by assumption) ?_
                        rotate_left
                        · ((intro W9 hSw; (try dsimp only at hSw)); ((go_simp) <;> (with_reducible rfl)))
                        try simp only [Act.put, List.setIfInBounds_toArray, List.set_cons_zero, List.set_cons_succ]
                        refine wpAnyH_take (i := 3) (oi := _) (v := ?_) rfl (by kernel_rfl) (by decide +kernel) (by decide +kernel) (fun _ _ _ h => h) (Or.inl ⟨by rfl, ?_⟩) (by assumption) ?_
                        rotate_left
                        · ((intro W9 hSw; (try dsimp only at hSw)); ((go_simp) <;> (with_reducible rfl)))
                        try simp only [Act.put, List.setIfInBounds_toArray, List.set_cons_zero, List.set_cons_succ]
                        refine wpAnyH_take (i := 4) (oi := _) (v := ?_) rfl (by kernel_rfl) (by decide +kernel) (by decide +kernel) (fun _ _ _ h => h) (Or.inl ⟨by rfl, ?_⟩) (by assumption) ?_
                        rotate_left
                        · ((intro W9 hSw; (try dsimp only at hSw)); ((go_simp) <;> (with_reducible rfl)))
                        try simp only [Act.put, List.setIfInBounds_toArray, List.set_cons_zero, List.set_cons_succ]
                        refine wpAnyH_take (i := 5) (oi := _) (v := ?_) rfl (by kernel_rfl) (by decide +kernel) (by decide +kernel) (fun _ _ _ h => h) (Or.inl ⟨by rfl, ?_⟩) (by assumption) ?_
                        rotate_left
                        · ((intro W9 hSw; (try dsimp only at hSw)); ((go_simp) <;> (with_reducible rfl)))
                        try simp only [Act.put, List.setIfInBounds_toArray, List.set_cons_zero, List.set_cons_succ]
                        refine wpAnyH_take (i := 6) (oi := _) (v := ?_) rfl (by kernel_rfl) (by decide +kernel) (by decide +kernel) (fun _ _ _ h => h) (Or.inl ⟨by rfl, ?_⟩) (by assumption) ?_
                        rotate_left
                        · ((intro W9 hSw; (try dsimp only at hSw)); ((go_simp) <;> (with_reducible rfl)))
                        try simp only [Act.put, List.setIfInBounds_toArray, List.set_cons_zero, List.set_cons_succ]
                        refine wpAnyH_take (i := 7) (oi := _) (v := ?_) rfl (by kernel_rfl) (by decide +kernel) (by decide +kernel) (fun _ _ _ h => h) (Or.inl ⟨by rfl, ?_⟩) (by assumption) ?_
                        rotate_left
                        · ((intro W9 hSw; (try dsimp only at hSw)); ((go_simp) <;> (with_reducible rfl)))
                        try simp only [Act.put, List.setIfInBounds_toArray, List.set_cons_zero, List.set_cons_succ]
                        refine wpAnyH_take (i := 8) (oi := _) (v := ?_) rfl (by kernel_rfl) (by decide +kernel) (by decide +kernel) (fun _ _ _ h => h) (Or.inl ⟨by rfl, ?_⟩) (by assumption) ?_
                        rotate_left
                        · ((intro W9 hSw; (try dsimp only at hSw)); ((go_simp) <;> (with_reducible rfl)))
                        try simp only [Act.put, List.setIfInBounds_toArray, List.set_cons_zero, List.set_cons_succ]
                        refine wpAnyH_take (i := 9) (oi := _) (v := ?_) rfl (by kernel_rfl) (by decide +kernel) (by decide +kernel) (fun _ _ _ h => h) (Or.inl ⟨by rfl, ?_⟩) (by assumption) ?_
                        rotate_left
                        · ((intro W9 hSw; (try dsimp only at hSw)); ((go_simp) <;> (with_reducible rfl)))
                        try simp only [Act.put, List.setIfInBounds_toArray, List.set_cons_zero, List.set_cons_succ]
                        refine wpAnyH_take (i := 10) (oi := _) (v := ?_) rfl (by kernel_rfl) (by decide +kernel) (by decide +kernel) (fun _ _ _ h => h) (Or.inl ⟨by rfl, ?_⟩) (by assumption) ?_
                        rotate_left
                        · ((intro W9 hSw; (try dsimp only at hSw)); ((go_simp) <;> (with_reducible rfl)))
                        try simp only [Act.put, List.setIfInBounds_toArray, List.set_cons_zero, List.set_cons_succ]
                        refine wpAnyH_take (i := 11) (oi := _) (v := ?_) rfl (by kernel_rfl) (by decide +kernel) (by decide +kernel) (fun _ _ _ h => h) (Or.inl ⟨by rfl, ?_⟩) (by assumption) ?_
                        rotate_left
                        · ((intro W9 hSw; (try dsimp only at hSw)); ((go_simp) <;> (with_reducible rfl)))
                        try simp only [Act.put, List.setIfInBounds_toArray, List.set_cons_zero, List.set_cons_succ]
                        refine wpAnyH_take (i := 12) (oi := _) (v := ?_) rfl (by kernel_rfl) (by decide +kernel) (by decide +kernel) (fun _ _ _ h => h) (Or.inl ⟨by rfl, ?_⟩) (by assumption) ?_
                        rotate_left
                        · ((intro W9 hSw; (try dsimp only at hSw)); ((go_simp) <;> (with_reducible rfl)))
                        try simp only [Act.put, List.setIfInBounds_toArray, List.set_cons_zero, List.set_cons_succ]
                        refine wpAnyH_take (i := 14) (oi := _) (v := ?_) rfl (by kernel_rfl) (by decide +kernel) (by decide +kernel) (fun _ _ _ h => h) (Or.inl ⟨by rfl, ?_⟩) (by assumption) ?_
                        rotate_left
                        · ((intro W9 hSw; (try dsimp only at hSw)); ((go_simp) <;> (with_reducible rfl)))
                        try simp only [Act.put, List.setIfInBounds_toArray, List.set_cons_zero, List.set_cons_succ]
                        refine wpAnyH_take (i := 15) (oi := _) (v := ?_) rfl (by kernel_rfl) (by decide +kernel) (by decide +kernel) (fun _ _ _ h => h) (Or.inl ⟨by rfl, ?_⟩) (by assumption) ?_
                        rotate_left
                        · ((intro W9 hSw; (try dsimp only at hSw)); ((go_simp) <;> (with_reducible rfl)))
                        try simp only [Act.put, List.setIfInBounds_toArray, List.set_cons_zero, List.set_cons_succ]
                        refine wpAnyH_take (i := 16) (oi := _) (v := ?_) rfl (by kernel_rfl) (by decide +kernel) (by decide +kernel) (fun _ _ _ h => h) (Or.inl ⟨by rfl, ?_⟩) (by assumption) ?_
                        rotate_left
                        · ((intro W9 hSw; (try dsimp only at hSw)); ((go_simp) <;> (with_reducible rfl)))
                        try simp only [Act.put, List.setIfInBounds_toArray, List.set_cons_zero, List.set_cons_succ]
                        refine wpAnyH_ready (rs := [13]) (by kernel_rfl) (by simp) ?_
                        refine AllReadyH.cons (o := _) rfl (fun K hK => ?_) AllReadyH.nil
                        go_simp
                        refine hK.out _ _ (HSf.out _ (Kept.drewn _)) (fun hHeld => ?_)
                        clear hK K
                        try simp only [Act.put, List.setIfInBounds_toArray, List.set_cons_zero, List.set_cons_succ]
                        refine wpAnyH_ready (rs := [17]) (by kernel_rfl) (by simp) ?_
                        refine AllReadyH.cons (o := _) rfl (fun K hK => ?_) AllReadyH.nil
                        go_simp
                        go_at_call 51
                        refine (HQ.out _ (Kept.drewn _)).mono ?_
                        rintro e W7 ⟨A7, c7, rfl, hI7, hk7, hf7⟩
                        rw [Hqf.out] at hI7 ⊢
                        have HI7 := Lib.hid hI7
                        have HK7 := Lib.hid ((Kept.drewn _).then hk7)
                        have HF7 : Hid (Fresh wz A7) := hf7
                        obtain ⟨_, _, _, _, _, t1, t3, _⟩ := (HOz.out.kept HK7.out).named Hml.out p hpn
                        have hg7 : g < W7.heap.size := by have := HK7.out.size; omega
                        clear hI7 hk7 hf7
                        refine hK.out _ _ (HSf.out _ HK7.out) (fun hHeld => ?_)
                        clear hK K
                        try simp only [Act.put, List.setIfInBounds_toArray, List.set_cons_zero, List.set_cons_succ]
                        refine wpAnyH_take (i := 18) (oi := _) (v := ?_) rfl (by kernel_rfl) (by decide +kernel) (by decide +kernel) (fun _ _ _ h => h) (Or.inl ⟨by rfl, ?_⟩) (by assumption) ?_
                        rotate_left
                        · ((intro W9 hSw; (try dsimp only at hSw)); ((go_simp) <;> (with_reducible rfl)))
                        try simp only [Act.put, List.setIfInBounds_toArray, List.set_cons_zero, List.set_cons_succ]
                        refine wpAnyH_ready (rs := [19]) (by kernel_rfl) (by simp) ?_
                        refine AllReadyH.cons (o := _) rfl (fun K hK => ?_) AllReadyH.nil
                        go_simp
                        refine hK.out _ _ (HSs.out _ _ HK7.out) (fun hHeld => ?_)
                        clear hK K
                        try simp only [Act.put, List.setIfInBounds_toArray, List.set_cons_zero, List.set_cons_succ]
                        refine wpAnyH_done (by kernel_rfl) ?_ _
                        go_wp2_with fail
                        go_roundw
                        case rel =>
                          obtain ⟨hD, hK⟩ := HF.out _ _ _ _ (by first | rfl | exact Hqf.out.symm) HI7.out HK7.out HF7.out
                          exact ⟨k + 1, by omega, by go_num, hD, hK⟩
                        case measure => simp [intOf]; omega
                      · have hd2 : ((m2 : Int) == 1) = false := by simp; omega
                        have Hnx : Hid (midU C.vars ls i j p (k + 1) = midU C.vars ls i j p k) := midU_no (.inr (by rw [HlsA.out, Hm2.out]; exact hm1))
                        clear hm1
                        go_wp2_with fail
                        go_roundw
                        case rel => exact ⟨k + 1, by omega, by go_num, by rw [Hnx.out]; exact HOz.out, Hkz.out⟩
                        case measure => simp [intOf]; omega
                  · have e : k = i := by omega
                    subst e
                    have HOe : Hid (OwnL wz wi.heap.size (.slice (some ⟨g, 0, Option.none⟩) n cap) (lessU C.vars ls k (j + 1))) := by
                      show OwnL _ _ _ _
                      rw [← midU_end Hv1.out]
                      exact HOz.out
                    clear HOz
                    go_wp2_with fail
                    go_roundw
                    case rel => exact ⟨j + 1, by omega, by go_num, HOe.out, Hkz.out⟩
                    case measure => simp [intOf]; omega
              · have e : j = i := by omega
                subst e
                have HQ := Lib.hid (HKm.out wj g cap _ HKj2.out (by first | rfl | trivial) Hfew.out HOj.out)
                go_wp2_with fail
                clear b0 b1 b2 b3 b4 b5
                refine HQ.out.mono ?_
                rintro e W9 ⟨A9, c9, rfl, hD9, hk9⟩
                rw [Hsl.out] at hD9 ⊢
                have HD9 := Lib.hid hD9
                have HK9 := Lib.hid ((HK3.out.then HKj2.out).then hk9)
                clear hD9 hk9
                go_wp2_with fail
                go_ret2
                exact ⟨A9, c9, by rw [Hsl.out]; rfl, by rw [Hsl.out]; exact HD9.out, HK9.out⟩
end Go.Proofs.YtjmegicopdbkdaaDoor

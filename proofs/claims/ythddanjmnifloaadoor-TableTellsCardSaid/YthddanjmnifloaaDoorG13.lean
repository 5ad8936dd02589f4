/-
  Contracts and plain laws that the card rests on, part 13.
-/
import Derived.Test.YthddanjmnifloaaDoorG9
import Derived.Test.YthddanjmnifloaaDoorG7
import Derived.Test.YthddanjmnifloaaDoorG10
import Derived.Test.YthddanjmnifloaaDoorG12
import Derived.Test.YthddanjmnifloaaDoorG4
import Derived.Test.YthddanjmnifloaaDoorG5
set_option maxHeartbeats 1000000
set_option maxRecDepth 10000
namespace Go.Proofs.YthddanjmnifloaaDoor
open Go Go.RowKit Pl

theorem Kept.grown_own {w0 w w' : World} {r : Option Nat} (h0 : Kept w0 w) (hg : w.grownBy w' r) (hs : w0.heap.size ≤ w.heap.size) (hr : ∀ i, r = some i → w0.heap.size ≤ i) : Kept w0 w' := h0.grown hg hs hr
theorem grown_at {w w' : World} {r : Option Nat} (hg : w.grownBy w' r) {O : Nat} {o : Obj} (h : w.heap[O]? = some o) (hr : some O ≠ r) : w'.heap[O]? = some o := (hg.block O (lt_at h) hr).trans h
theorem ints_news {W : World} {a : Addr} {n : Nat} {xs : List Int} (h : Ints W (some a) n xs) (j : Nat) (u : Value) (hu : (xs.map (Value.int .i64))[j]? = some u) : W.cell? (a.add j) = some u := by
  rw [List.getElem?_map] at hu
  have hj : j < xs.length := by
    by_cases h : j < xs.length
    · exact h
    · rw [List.getElem?_eq_none (by omega)] at hu; simp at hu
  obtain ⟨b, e, hc⟩ := h.cell (by have := h.len; omega)
  cases e
  rw [List.getElem?_eq_getElem hj] at hu
  simp only [Option.map_some, Option.some.injEq] at hu
  rw [hc j (by have := h.len; omega), ← hu, List.getD_eq_getElem?_getD, List.getElem?_eq_getElem hj]
  rfl
end Go.Proofs.YthddanjmnifloaaDoor

set_option maxHeartbeats 6000000
set_option maxRecDepth 10000
namespace Go.Proofs.YthddanjmnifloaaDoor
open Go Go.RowKit Pl

/-- Has a row of the first ones, whose numbers are all left, a value at a place? -/
def rtabU (C : ConB) (ls : List (List Int)) (i t : Nat) (x : Int) : Bool := (List.range t).any fun k => C.nums.getD (k * C.vars.length + i) 0 == x && aliveUpto C ls (k * C.vars.length) C.vars.length
theorem rtabU_succ (C : ConB) (ls : List (List Int)) (i t : Nat) (x : Int) : rtabU C ls i (t + 1) x = (rtabU C ls i t x || (C.nums.getD (t * C.vars.length + i) 0 == x && aliveUpto C ls (t * C.vars.length) C.vars.length)) := by
  unfold rtabU
  rw [List.range_succ, List.any_append]; simp
def rtabG (C : ConB) (ls : List (List Int)) (i : Nat) (x : Int) : Bool := rtabU C ls i (C.nums.length / C.vars.length) x

theorem rtabG_eq {C : ConB} {ds : List DomB} (hv : varsOk C.vars ds.length = true) {i : Nat} (hi : i < C.vars.length) (x : Int) : rtabG C (listsOf ds) i x = tabG C ds i x := by
  have hlive : ∀ k, k < C.nums.length / C.vars.length → aliveUpto C (listsOf ds) (k * C.vars.length) C.vars.length = liveRow C ds (chunk C.nums C.vars.length k) := fun k hk => by
    unfold aliveUpto liveRow liveUpto
    rw [Bool.eq_iff_iff, List.all_eq_true, List.all_eq_true]
    have hb : ∀ j, j < C.vars.length → ((listsOf ds).getD (C.vars.getD j 0).toNat []).contains (C.nums.getD (k * C.vars.length + j) 0) = (listB (ds.getD (C.vars.getD j 0).toNat nilD).1 (ds.getD (C.vars.getD j 0).toNat nilD).2).contains ((chunk C.nums C.vars.length k).getD j 0) := fun j hj => by
      have h1 := varsOk_rng hv hj
      rw [listsOf_getD ds (by omega)]
      unfold chunk
      rw [getD_take' _ hj, getD_drop']
    constructor
    · intro h j hj; rw [← hb j (List.mem_range.1 hj)]; exact h j hj
    · intro h j hj; rw [hb j (List.mem_range.1 hj)]; exact h j hj
  unfold rtabG rtabU
  rw [Bool.eq_iff_iff, List.any_eq_true, tabG_iff]
  constructor
  · rintro ⟨k, hk, h⟩
    rw [Bool.and_eq_true, beq_iff_eq, hlive k (List.mem_range.1 hk)] at h
    refine ⟨_, mem_rows.2 ⟨k, List.mem_range.1 hk, rfl, h.2⟩, ?_⟩
    unfold chunk
    rw [getD_take' _ hi, getD_drop']; exact h.1
  · rintro ⟨r, hr, hx⟩
    obtain ⟨k, hk, rfl, hl⟩ := mem_rows.1 hr
    refine ⟨k, List.mem_range.2 hk, ?_⟩
    rw [Bool.and_eq_true, beq_iff_eq, hlive k hk]
    unfold chunk at hx
    rw [getD_take' _ hi, getD_drop'] at hx
    exact ⟨hx, hl⟩

theorem OwnL.named {w : World} {base g n cap : Nat} {ls : List (List Int)} (h : OwnL w base (.slice (some ⟨g, 0, Option.none⟩) n cap) ls) (hn : ls.length = n) (p : Nat) (hp : p < n) :
    ∃ (l : List Int) (B : Option Addr) (m c : Nat), Hid (ls.getD p [] = l) ∧ w.cell? ⟨g, p, Option.none⟩ = some (.slice B m c) ∧ w.frozen? ⟨g, p, Option.none⟩ = false ∧ Hid (Ints w B m l) := by
  obtain ⟨vs, hown, hd⟩ := h
  subst hn
  obtain ⟨B, m, c, e1, e2, _⟩ := hd p hp
  exact ⟨_, B, m, c, rfl, by rw [hown.cellAt _ (by omega)]; exact e1, hown.frozenAt _, e2⟩

theorem rstep16_any (K R Ct : Int) (A1 A2 A3 : Option Addr) (n1 c1 n2 c2 n3 c3 : Nat) (C : ConB) (A : Option Addr) (n c : Nat) (ds : List DomB) (w : World) (hC : ConIn w K R Ct A1 A2 A3 n1 c1 n2 c2 n3 c3 C) (hS : Doms w A n ds) (hn : n ≤ 1000) :
    Calls Tryd.prog 41 #[.agg #[.int .i64 K, .slice A1 n1 c1, .slice A2 n2 c2, .int .i64 R, .int .i64 Ct, .slice A3 n3 c3], .slice A n c] w (StepPost (if tabGo C ds = true then some (stepB (tabKp C ds) ds) else Option.none) w) := by
  obtain ⟨i0, hi, hz0, hz1, hz2⟩ := info_parts info_int
  have HC := Lib.hid hC
  have HS := Lib.hid hS
  have Hlen := Lib.hid hS.len
  have Hl1 := Lib.hid hC.vars.len
  have Hl3 := Lib.hid hC.nums.len
  have hs3 := hC.nums.small
  clear hC hS
  have HB : Hid (∀ wr, Kept (w.alloc (.cells #[.int .i64 K, .slice A1 n1 c1, .slice A2 n2 c2, .int .i64 R, .int .i64 Ct, .slice A3 n3 c3] 37)) wr → wr.heap[w.heap.size]? = some (.cells #[.int .i64 K, .slice A1 n1 c1, .slice A2 n2 c2, .int .i64 R, .int .i64 Ct, .slice A3 n3 c3] 37)) := fun wr h => h.heapAt (heap_new _ _)
  have Hb : Hid ((decide (C.kind = 6) && allMay ds && rightB C n) = tabGo C ds) := by show _ = _; rw [← Hlen.out]; exact goK_right 6 C ds
  have HR : Hid (∀ (b : Bool), tabGo C ds = b → ∀ (O : Nat) (W : World), Kept w W → W.heap[O]? = some (.cells #[.int .i64 6] 3) → Calls Tryd.prog 57 #[.agg #[.int .i64 K, .slice A1 n1 c1, .slice A2 n2 c2, .int .i64 R, .int .i64 Ct, .slice A3 n3 c3], .slice A n c, .slice (some ⟨O, 0, Option.none⟩) 1 1] W fun e w' => e = .returned (.bool b) ∧ Kept W w') := fun b hb O W hW hO => by
    have := rright12_any K R Ct A1 A2 A3 n1 c1 n2 c2 n3 c3 C 6 O A n c ds W (HC.out.kept hW) (HS.out.kept hW) hO
    rwa [Hb.out, hb] at this
  by_cases hg : ¬ tabGo C ds = true
  · rw [if_neg hg]
    have HR2 := Lib.hid (HR.out false (by simpa using hg))
    clear Hb HR
    go_enter Tryd.func41, Tryd.ntmps41
    go_wp2_with fail
    refine (HR2.out _ _ ((Kept.box _ _).newBlock _) (heap_new2 _ _ _)).mono ?_
    rintro e W1 ⟨rfl, hk1⟩
    have HK1 := Lib.hid (((Kept.box _ _).newBlock _).then hk1)
    clear hk1
    go_wp2_with fail
    go_ret2
    exact ⟨rfl, HK1.out⟩
  · have hg := Classical.not_not.1 hg
    rw [if_pos hg]
    have HR2 := Lib.hid (HR.out true hg)
    obtain ⟨hk4, hB4, hm4⟩ := tabGo_parts hg
    have Hm4 := Lib.hid hm4
    have hvo0 := rightB_vars hB4
    have Hvo : Hid (varsOk C.vars n = true) := by show _ = _; rw [← Hlen.out]; exact hvo0
    obtain ⟨hv1, hv8, hnn, hdv⟩ := table_parts hk4 hB4
    have h0 : 0 < n1 := by have := Hl1.out; omega
    have hn18 : n1 ≤ 8 := by have := Hl1.out; omega
    have hn3 : n3 ≤ 96 := by have := Hl3.out; omega
    have hn0 : 0 < n := by
      have h1 := varsOk_rng Hvo.out (i := 0) (by omega)
      omega
    rw [Hl1.out, Hl3.out] at hdv
    obtain ⟨q, hq⟩ : ∃ q, n3 = q * n1 := ⟨n3 / n1, (Nat.div_mul_cancel (Nat.dvd_of_mod_eq_zero hdv)).symm⟩
    have Hq := Lib.hid hq
    have Hdiv : Hid (C.nums.length / C.vars.length = q) := by show _ = _; rw [Hl1.out, Hl3.out, hq, Nat.mul_div_cancel _ h0]
    obtain ⟨ls, hls⟩ : ∃ ls, ls = listsOf ds := ⟨_, rfl⟩
    have Hll : Hid (ls.length = n) := by show _ = _; rw [hls]; unfold listsOf; rw [List.length_map]; exact Hlen.out
    have Hvol : Hid (varsOk C.vars ls.length = true) := by show _ = _; rw [Hll.out]; exact Hvo.out
    have H64 : Hid (∀ j, (ls.getD j []).length ≤ 64) := fun j => by
      rw [hls]
      by_cases hj : j < ds.length
      · rw [listsOf_getD ds hj]; exact listB_length _ _
      · rw [List.getD_eq_getElem?_getD, List.getElem?_eq_none (by unfold listsOf; rw [List.length_map]; omega)]; simp
    obtain ⟨G, hG⟩ : ∃ G : Nat → Int → Bool, G = rtabG C ls := ⟨_, rfl⟩
    have HG : Hid (∀ i x, G i x = rtabU C ls i q x) := fun i x => by rw [hG]; unfold rtabG; rw [Hdiv.out]
    have Hres : Hid (stepB (fun i x => ((fillU C.vars ls G n1 n1).getD i []).contains x) ds = stepB (tabKp C ds) ds) := by
      show _ = _
      refine stepB_congr hm4 fun i hi v hv => ?_
      have hmem : v ∈ ls.getD i [] := by rw [hls, listsOf_getD ds hi]; exact hv
      rw [← Hl1.out, fillU_keeps Hvol.out hmem, hG, hls]
      unfold tabKp
      rw [Bool.eq_iff_iff, varsKp_iff, varsKp_iff]
      constructor
      · intro h k hk e; rw [← rtabG_eq hvo0 hk]; exact h k hk e
      · intro h k hk e; rw [rtabG_eq hvo0 hk]; exact h k hk e
    have Hsl : Hid ((stepB (tabKp C ds) ds).length = n) := by show _ = _; rw [stepB_length]; exact Hlen.out
    generalize stepB (tabKp C ds) ds = res at *
    have HLs : Hid (∀ W, Doms W A n ds → Calls Tryd.prog 58 #[.slice A n c] W (ListsPost ls W)) := fun W hW => by rw [hls]; exact rlists_any A n c ds W hW hn
    clear Hb HR hk4 hB4 hm4 hvo0 hv1 hv8 hnn hdv hq hG hls hg
    go_enter Tryd.func41, Tryd.ntmps41
    go_wp2_with fail
    refine (HR2.out _ _ ((Kept.box _ _).newBlock _) (heap_new2 _ _ _)).mono ?_
    rintro e W1 ⟨rfl, hk1⟩
    have HK1 := Lib.hid (((Kept.box _ _).newBlock _).then hk1)
    have Hk1 := Lib.hid ((Kept.box _ _).then hk1)
    clear hk1 HR2
    go_wp2_with fail
    refine (HLs.out W1 (HS.out.kept HK1.out)).mono ?_
    rintro e W2 ⟨Al, cl, rfl, hLL, hk2⟩
    rw [Hll.out] at hLL ⊢
    have HLL := Lib.hid hLL
    have HK2 := Lib.hid (HK1.out.then hk2)
    have Hk2 := Lib.hid (Hk1.out.then hk2)
    clear hLL hk2
    have hb := HB.out W2 Hk2.out
    have b0 := cell_at hb 0
    have b1 := cell_at hb 1
    have b2 := cell_at hb 2
    have b3 := cell_at hb 3
    have b4 := cell_at hb 4
    have b5 := cell_at hb 5
    simp only [List.getElem?_toArray, List.getElem?_cons_zero, List.getElem?_cons_succ] at b0 b1 b2 b3 b4 b5
    clear hb
    go_wp2_with fail
    refine (rnone_any K R Ct A1 A2 A3 n1 c1 n2 c2 n3 c3 C Al n cl ls W2 (HC.out.kept HK2.out) HLL.out Hvo.out hn0 hn).mono ?_
    rintro e W3 ⟨g, cg, rfl, hO3, hg2, hg3, hk3⟩
    have HO3 := Lib.hid hO3
    have HK3 := Lib.hid (HK2.out.then hk3)
    have Hk3 := Lib.hid (Hk2.out.then hk3)
    have HLL3 := Lib.hid (HLL.out.kept hk3)
    have HK23 := Lib.hid hk3
    clear hO3 hk3 b0 b1 b2 b3 b4 b5
    have hb := HB.out W3 Hk3.out
    have b0 := cell_at hb 0
    have b1 := cell_at hb 1
    have b2 := cell_at hb 2
    have b3 := cell_at hb 3
    have b4 := cell_at hb 4
    have b5 := cell_at hb 5
    simp only [List.getElem?_toArray, List.getElem?_cons_zero, List.getElem?_cons_succ] at b0 b1 b2 b3 b4 b5
    clear hb
    go_wp2_with fail
    clear b0 b1 b2 b3 b4 b5
    go_loopw [9] (fun u wq => ∃ i : Nat, i ≤ n1 ∧ u = .int .i64 i ∧ Hid (OwnL wq W2.heap.size (.slice (some ⟨g, 0, Option.none⟩) n cg) (fillU C.vars ls G n1 i)) ∧ Hid (KeptBut g W3 wq)) (fun u _ => n1 - (intOf u).toNat)
    case atStart => exact ⟨0, Nat.zero_le _, rfl, HO3.out, KeptBut.refl _ _⟩
    case round =>
      obtain ⟨i, hii, rfl, HOi, Hki⟩ := hrel
      obtain ⟨wi, hwi⟩ : ∃ wi : World, wi = wr := ⟨_, rfl⟩
      subst hwi
      have HKi2 := Lib.hid (((KeptBut.of HK23.out g).then Hki.out).kept hg2)
      have HKi := Lib.hid (HK2.out.then HKi2.out)
      have hb := HB.out wi (Hk2.out.then HKi2.out)
      have b0 := cell_at hb 0
      have b1 := cell_at hb 1
      have b2 := cell_at hb 2
      have b3 := cell_at hb 3
      have b4 := cell_at hb 4
      have b5 := cell_at hb 5
      simp only [List.getElem?_toArray, List.getElem?_cons_zero, List.getElem?_cons_succ] at b0 b1 b2 b3 b4 b5
      clear hb
      have hlb : w.heap.size < wi.heap.size := World.block_lt_of_cell? wi _ b0
      by_cases hlt : i < n1
      · obtain ⟨av, hav, hbv⟩ := (HC.out.vars.kept HKi.out).addr (by omega)
        subst hav
        obtain ⟨v, Hv1, hcv, _, _⟩ := (HC.out.vars.kept HKi.out).named i hlt
        obtain ⟨hv0, hv1⟩ := varsOk_rng Hvo.out (i := i) (by have := Hl1.out; omega)
        rw [Hv1.out] at hv0 hv1
        obtain ⟨p, rfl⟩ := Int.eq_ofNat_of_zero_le hv0
        have hpn : p < n := by omega
        obtain ⟨al, l, Bl, ml, clp, hal, hbal2, Hl, hclp2, HIl⟩ := HLL.out.named p hpn
        subst hal
        have Hclp2 := Lib.hid hclp2
        have hml : ml ≤ 64 := by have := H64.out p; rw [Hl.out] at this; have := HIl.out.len; omega
        have Hlm := Lib.hid HIl.out.len
        have hclp := HKi2.out.cellAt hclp2
        have hbal : al.block < wi.heap.size := by have := HKi2.out.size; omega
        have HOm : Hid (OwnL wi W2.heap.size (.slice (some ⟨g, 0, Option.none⟩) n cg) (midL C.vars ls G n1 i p 0)) := by
          show OwnL _ _ _ _
          have h := midL_zero (g := G) Hvol.out (by have := Hl1.out; omega) Hv1.out
          rw [Hl1.out] at h
          rw [h]; exact HOi.out
        clear hclp2
        go_wp2_with fail
        clear b0 b1 b2 b3 b4 b5 hcv hclp hbal hbv
        go_loopw [11] (fun u wz => ∃ k : Nat, k ≤ ml ∧ u = .int .i64 k ∧ Hid (OwnL wz W2.heap.size (.slice (some ⟨g, 0, Option.none⟩) n cg) (midL C.vars ls G n1 i p k)) ∧ Hid (KeptBut g W3 wz)) (fun u _ => ml - (intOf u).toNat)
        case atStart => exact ⟨0, Nat.zero_le _, rfl, HOm.out, Hki.out⟩
        case round =>
          obtain ⟨k, hk, rfl, HOz, Hkz⟩ := hrel
          obtain ⟨wz, hwz⟩ : ∃ wz : World, wz = wr := ⟨_, rfl⟩
          subst hwz
          have HKz2 := Lib.hid (((KeptBut.of HK23.out g).then Hkz.out).kept hg2)
          have HKz := Lib.hid (HK2.out.then HKz2.out)
          have hclp := HKz2.out.cellAt Hclp2.out
          have hszz := HKz2.out.size
          have hbal : al.block < wz.heap.size := by omega
          by_cases hltk : k < ml
          · obtain ⟨bl, hbl, hbb⟩ := HIl.out.addr (by omega)
            subst hbl
            obtain ⟨x, Hx, hcx, hx1, hx2⟩ := (HIl.out.kept HKz2.out).named k hltk
            have Hcx := Lib.hid hcx
            have Hclp := Lib.hid hclp
            go_wp2_with fail
            clear hcx hclp
            go_loopw [12, 13] (fun u v wx => ∃ t s : Nat, s ≤ n3 ∧ v = .int .i64 s ∧ Hid (s = t * n1) ∧ Hid (t ≤ q) ∧ u = .bool (rtabU C ls i t x) ∧ Hid (Kept wz wx)) (fun _ v _ => n3 - (intOf v).toNat)
            case atStart => exact ⟨0, 0, Nat.zero_le _, rfl, by show 0 = _; simp, Nat.zero_le _, rfl, Kept.same _⟩
            case round =>
              obtain ⟨t, s, hs, rfl, Hs, Ht, rfl, Hkx⟩ := hrel
              have HKx := Lib.hid (HKz.out.then Hkx.out)
              have hb := HB.out wr (Hk2.out.then (HKz2.out.then Hkx.out))
              have b0 := cell_at hb 0
              have b1 := cell_at hb 1
              have b2 := cell_at hb 2
              have b3 := cell_at hb 3
              have b4 := cell_at hb 4
              have b5 := cell_at hb 5
              simp only [List.getElem?_toArray, List.getElem?_cons_zero, List.getElem?_cons_succ] at b0 b1 b2 b3 b4 b5
              clear hb
              have hlb2 : w.heap.size < wr.heap.size := World.block_lt_of_cell? wr _ b0
              have hszx := Hkx.out.size
              by_cases hlts : s < n3
              · have hst : s + n1 ≤ n3 ∧ t < q := by
                  have h1 : t < q := by
                    rcases Nat.lt_or_ge t q with h | h
                    · exact h
                    · have h2 := Nat.mul_le_mul_right n1 h
                      have := Hq.out
                      have := Hs.out
                      omega
                  have h2 : (t + 1) * n1 ≤ q * n1 := Nat.mul_le_mul_right n1 h1
                  rw [Nat.add_mul, Nat.one_mul] at h2
                  have := Hq.out
                  have := Hs.out
                  omega
                obtain ⟨hsk, htq⟩ := hst
                have Hs1 : Hid (s + n1 = (t + 1) * n1) := by show _ = _; rw [Hs.out, Nat.add_mul, Nat.one_mul]
                obtain ⟨a3, ha3, hb30⟩ := HC.out.nums.addr (by omega)
                subst ha3
                obtain ⟨y, Hy, hcy, _, _⟩ := (HC.out.nums.kept HKx.out).named (s + i) (by omega)
                have hcx := Hkx.out.cellAt Hcx.out
                have hclp := Hkx.out.cellAt Hclp.out
                have hb3 : a3.block < wr.heap.size := by have := HKx.out.size; omega
                have hbal2 : al.block < wr.heap.size := by omega
                have hbl2 : bl.block < wr.heap.size := by omega
                have Hnx : Hid (rtabU C ls i (t + 1) x = (rtabU C ls i t x || (y == x && aliveUpto C ls s n1))) := by
                  show _ = _
                  rw [rtabU_succ, Hl1.out, ← Hs.out, Hy.out]
                have HQa : Hid (∀ W, Kept wr W → Calls Tryd.prog 72 #[.agg #[.int .i64 K, .slice (some av) n1 c1, .slice A2 n2 c2, .int .i64 R, .int .i64 Ct, .slice (some a3) n3 c3], .slice (some al) n cl, .int .i64 s] W fun e w' => e = .returned (.bool (aliveUpto C ls s n1)) ∧ Kept W w') := fun W hW =>
                  ralive_any K R Ct (some av) A2 (some a3) n1 c1 n2 c2 n3 c3 C (some al) n cl ls s W (HC.out.kept (HKx.out.then hW)) (HLL.out.kept (HKz2.out.then (Hkx.out.then hW))) Hvo.out hsk H64.out
                have hsi : IntKind.i64.wrap ((s : Int) + (i : Int)) = (s : Int) + (i : Int) := IntWalk.i64_in _ (by omega)
                have hsi2 : ((s : Int) + (i : Int)).toNat = s + i := by omega
                have hsn : IntKind.i64.wrap ((s : Int) + (n1 : Int)) = (s : Int) + (n1 : Int) := IntWalk.i64_in _ (by omega)
                generalize aliveUpto C ls s n1 = g2 at *
                generalize rtabU C ls i t x = q1 at *
                cases q1 with
                | true =>
                  go_wp2_with fail
                  refine wp_region_quiet_below (by kernel_rfl) (by kernel_rfl) ?_
                  repeat (any_goals (first | go_big_quiet_step (((go_at_call 72; exact Calls.regrown_of (HQa.out _ (below_regrown _ _ _))))) | quiet_step (((go_at_call 72; exact Calls.regrown_of (HQa.out _ (below_regrown _ _ _))))) | (refine wpQuiet_step (fun K hK => ?_); go_simp; split <;> (refine hK _ ?_; clear hK K))))
                  all_goals (refine wpQuiet_nil ?_; intro w1 hw'; replace hw' := Kept.regrown hw')
                  all_goals try (exfalso; omega)
                  have Hk9 := Lib.hid (Hkx.out.then hw')
                  clear hw' b0 b1 b2 b3 b4 b5 hcx hclp hcy hsi hsi2
                  go_wp2_with fail
                  go_roundw
                  case rel => exact ⟨t + 1, s + n1, by omega, by go_num, Hs1.out, htq, by rw [Hnx.out]; rfl, Hk9.out⟩
                  case measure => simp [intOf]; omega
                | false =>
                  by_cases hyx : y = x
                  · have hd5 : (y == x) = true := by simp [hyx]
                    have Hnx2 : Hid (rtabU C ls i (t + 1) x = g2) := by show _ = _; rw [Hnx.out, hd5]; simp
                    go_wp2_with fail
                    refine wp_region_quiet_below (by kernel_rfl) (by kernel_rfl) ?_
                    repeat (any_goals (first | go_big_quiet_step (((go_at_call 72; exact Calls.regrown_of (HQa.out _ (below_regrown _ _ _))))) | quiet_step (((go_at_call 72; exact Calls.regrown_of (HQa.out _ (below_regrown _ _ _))))) | (refine wpQuiet_step (fun K hK => ?_); go_simp; split <;> (refine hK _ ?_; clear hK K))))
                    all_goals (refine wpQuiet_nil ?_; intro w1 hw'; replace hw' := Kept.regrown hw')
                    all_goals try (exfalso; omega)
                    have Hk9 := Lib.hid (Hkx.out.then hw')
                    clear hw' b0 b1 b2 b3 b4 b5 hcx hclp hcy hsi hsi2
                    go_wp2_with fail
                    go_roundw
                    case rel => exact ⟨t + 1, s + n1, by omega, by go_num, Hs1.out, htq, by rw [Hnx2.out], Hk9.out⟩
                    case measure => simp [intOf]; omega
                  · have hd5 : (y == x) = false := by simp [hyx]
                    have Hnx2 : Hid (rtabU C ls i (t + 1) x = false) := by show _ = _; rw [Hnx.out, hd5]; simp
                    go_wp2_with fail
                    refine wp_region_quiet_below (by kernel_rfl) (by kernel_rfl) ?_
                    repeat (any_goals (first | go_big_quiet_step (((go_at_call 72; exact Calls.regrown_of (HQa.out _ (below_regrown _ _ _))))) | quiet_step (((go_at_call 72; exact Calls.regrown_of (HQa.out _ (below_regrown _ _ _))))) | (refine wpQuiet_step (fun K hK => ?_); go_simp; split <;> (refine hK _ ?_; clear hK K))))
                    all_goals (refine wpQuiet_nil ?_; intro w1 hw'; replace hw' := Kept.regrown hw')
                    all_goals try (exfalso; omega)
                    have Hk9 := Lib.hid (Hkx.out.then hw')
                    clear hw' b0 b1 b2 b3 b4 b5 hcx hclp hcy hsi hsi2
                    go_wp2_with fail
                    go_roundw
                    case rel => exact ⟨t + 1, s + n1, by omega, by go_num, Hs1.out, htq, by rw [Hnx2.out], Hk9.out⟩
                    case measure => simp [intOf]; omega
              · have e : s = n3 := by omega
                have etq : t = q := by
                  have h1 := Hq.out
                  have h2 := Hs.out
                  rw [e] at h2
                  exact Nat.eq_of_mul_eq_mul_right h0 (h2.symm.trans h1)
                have HGx : Hid (rtabU C ls i t x = G i x) := by show _ = _; rw [etq]; exact (HG.out i x).symm
                rw [HGx.out]
                clear etq HGx
                have Hgt : Hid (G i x = false → midL C.vars ls G n1 i p (k + 1) = midL C.vars ls G n1 i p k) := fun h => midL_no (by rw [Hl.out, Hlm.out]; exact hltk) (by rw [Hl.out]; exact Hx.out) h
                have Hgf : Hid (G i x = true → midL C.vars ls G n1 i p (k + 1) = (midL C.vars ls G n1 i p k).set p ((midL C.vars ls G n1 i p k).getD p [] ++ [x])) := fun h => midL_yes (by rw [Hll.out]; exact hpn) (by rw [Hl.out, Hlm.out]; exact hltk) (by rw [Hl.out]; exact Hx.out) h
                generalize G i x = gg at *
                have HBx := Lib.hid (Hkz.out.then (KeptBut.of Hkx.out g))
                have HOx := Lib.hid (HOz.out.kept Hkx.out)
                cases gg with
                | false =>
                  go_wp2_with fail
                  go_roundw
                  case rel => exact ⟨k + 1, by omega, by go_num, by rw [Hgt.out (by first | rfl | trivial)]; exact HOx.out, HBx.out⟩
                  case measure => simp [intOf]; omega
                | true =>
                  have Hmid := Lib.hid (Hgf.out (by first | rfl | trivial))
                  have Hml2 : Hid ((midL C.vars ls G n1 i p k).length = n) := by show _ = _; rw [midL_length]; exact Hll.out
                  obtain ⟨lo, Bo, mo, co, Hlo, hco, hfo, HIo⟩ := HOx.out.named Hml2.out p hpn
                  have hmo : mo ≤ 64 := by
                    have h1 := midL_at (vars := C.vars) (ls := ls) (g := G) (m := n1) (j := i) (p := p) (k := k) (by rw [Hll.out]; exact hpn)
                    rw [Hlo.out] at h1
                    have h2 : lo.length ≤ k := by rw [h1]; exact Nat.le_trans (List.length_filter_le _ _) (by rw [List.length_take]; omega)
                    have := HIo.out.len
                    omega
                  have Hmid2 : Hid (midL C.vars ls G n1 i p (k + 1) = (midL C.vars ls G n1 i p k).set p (lo ++ [x])) := by show _ = _; rw [Hmid.out, Hlo.out]
                  have hg9 : g < wr.heap.size := by have := HBx.out.size; omega
                  have HSf : Hid (∀ W, Kept wr W → W.cell? (al.add p) = some (.slice (some bl) ml clp) ∧ W.cell? (bl.add k) = some (.int .i64 x)) := fun W hW =>
                    ⟨hW.cellAt (Hkx.out.cellAt Hclp.out), hW.cellAt (Hkx.out.cellAt Hcx.out)⟩
                  have HSs : Hid (∀ W v, Kept wr W → (W.setCell ⟨g, p, Option.none⟩ v).cell? (al.add p) = some (.slice (some bl) ml clp) ∧ (W.setCell ⟨g, p, Option.none⟩ v).cell? (bl.add k) = some (.int .i64 x)) := fun W v hW =>
                    ⟨(KeptBut.set W (a := ⟨g, p, Option.none⟩) (B := g) rfl v).cellAt (HSf.out W hW).1 (by rw [add_block']; omega), (KeptBut.set W (a := ⟨g, p, Option.none⟩) (B := g) rfl v).cellAt (HSf.out W hW).2 (by rw [add_block']; omega)⟩
                  have HF : Hid (∀ (w4 : World) (g4 cap4 : Nat), w4.ownsRow wr.heap.size 3 1 (.slice (some ⟨g4, 0, Option.none⟩) (mo + 1) cap4) (mo + 1) ((lo ++ [x]).map (Value.int .i64)) → Kept wr w4 →
                      OwnL (w4.setCell ⟨g, p, Option.none⟩ (.slice (some ⟨g4, 0, Option.none⟩) (mo + 1) cap4)) W2.heap.size (.slice (some ⟨g, 0, Option.none⟩) n cg) (midL C.vars ls G n1 i p (k + 1)) ∧ KeptBut g W3 (w4.setCell ⟨g, p, Option.none⟩ (.slice (some ⟨g4, 0, Option.none⟩) (mo + 1) cap4))) := by
                    intro w4 g4 cap4 hown hk4
                    obtain ⟨A9, c9, e9, hI9, hb9⟩ := Ints.of_own hown (fun z hz => by
                      rw [List.mem_append, List.mem_singleton] at hz
                      rcases hz with h | h
                      · exact HIo.out.rng z h
                      · subst h; exact ⟨hx1, hx2⟩)
                    cases e9
                    have h := (HOx.out.kept hk4).set (c := cap4) Hml2.out hpn hI9 (fun _ a ha => by have := hb9 a ha; omega)
                    rw [← Hmid2.out] at h
                    exact ⟨h, (HBx.out.then (KeptBut.of hk4 g)).then (KeptBut.set _ (a := ⟨g, p, Option.none⟩) rfl _)⟩
                  obtain ⟨hcl9, hcx9⟩ := HSf.out wr (Kept.same _)
                  have hla9 : al.block < wr.heap.size := by have := World.block_lt_of_cell? wr _ hcl9; rwa [add_block'] at this
                  have hlb9 : bl.block < wr.heap.size := by have := World.block_lt_of_cell? wr _ hcx9; rwa [add_block'] at this
                  rcases Nat.eq_zero_or_pos mo with hm0 | hm0
                  · subst hm0
                    have hlo0 : lo = [] := List.eq_nil_of_length_eq_zero HIo.out.len
                    subst hlo0
                    go_wp2_with fail
                    go_region_law (first
                        | (refine step_append_zero (by rfl) _ _ (by rfl) _ _ _ _ rfl (by rfl) (by rfl) ?_)
                        | (refine step_append_lies _ (by rfl) _ _ _ (by rfl) wr.heap.size 3 i0 _ 1 8 Tryd.underlying23 hi hz0 hz1 hz2 rfl (by omega) (.slice (some ⟨wr.heap.size, 0, Option.none⟩) 0 0) 0 [] (by rfl) (own_empty ((Kept.box _ _).heapAt (heap_new wr.drew _)) (Nat.le_refl _)) ⟨wr.heap.size + 1, 0, Option.none⟩ 1 1 [.int .i64 x] (by rfl) (by rfl) (World.news_of_block (cs := #[.int .i64 x]) (t := 3) (fr := (0, 0)) (heap_new2 wr.drew _ _)) (by simp [Value.oneCell']) (by omega) (by unfold maxLen; omega) (by omega) (by first | (simp; done) | (simp; omega)) (wr.heap.size + 2) (by first | (simp; done) | (simp; omega)) ?_; intro g4 cap4 w4 hown4 hgrow4 hat4 hlt4; have HKp4 : Hid (Kept wr w4) := Kept.grown_own (((Kept.drewn wr).newBlock _).newBlock _) hgrow4 (by first | (simp; done) | (simp; omega)) (fun i hi => by simp [Value.ownBlock] at hi; omega); obtain ⟨⟨v4, hc4⟩, hf4⟩ := (HOx.out.kept HKp4.out).at Hml2.out p hpn)
                        | (refine step_append_lies _ (by rfl) _ _ _ (by rfl) wr.heap.size 3 i0 _ 1 8 Tryd.underlying23 hi hz0 hz1 hz2 rfl (by omega) (.slice (some ⟨wr.heap.size + 1, 0, Option.none⟩) 0 0) 0 [] (by rfl) (own_empty (heap_new2 wr.drew _ _) (Nat.le_succ _)) ⟨wr.heap.size, 0, Option.none⟩ 1 1 [.int .i64 x] (by rfl) (by rfl) (World.news_of_block (cs := #[.int .i64 x]) (t := 3) (fr := (0, 0)) ((Kept.box _ _).heapAt (heap_new wr.drew _))) (by simp [Value.oneCell']) (by omega) (by unfold maxLen; omega) (by omega) (by first | (simp; done) | (simp; omega)) (wr.heap.size + 2) (by first | (simp; done) | (simp; omega)) ?_; intro g4 cap4 w4 hown4 hgrow4 hat4 hlt4; have HKp4 : Hid (Kept wr w4) := Kept.grown_own (((Kept.drewn wr).newBlock _).newBlock _) hgrow4 (by first | (simp; done) | (simp; omega)) (fun i hi => by simp [Value.ownBlock] at hi; omega); obtain ⟨⟨v4, hc4⟩, hf4⟩ := (HOx.out.kept HKp4.out).at Hml2.out p hpn))
                    all_goals go_wp2_with fail
                    all_goals (
                      go_roundw
                      case rel =>
                        have h9 := HF.out w4 g4 cap4 (by simpa using hown4) HKp4.out
                        exact ⟨k + 1, by omega, by go_num, h9.1, h9.2⟩
                      case measure => simp [intOf]; omega)
                  · obtain ⟨bo, hbo, hbob⟩ := HIo.out.addr hm0
                    subst hbo
                    have Hnews : Hid (∀ W, Kept wr W → ∀ (j : Nat) (u : Value), (lo.map (Value.int .i64))[j]? = some u → W.cell? (bo.add j) = some u) := fun W hW j u hu => ints_news (HIo.out.kept hW) j u hu
                    have Hnl : Hid ((lo.map (Value.int .i64)).length = mo * 1) := by show _ = _; rw [List.length_map, Nat.mul_one]; exact HIo.out.len
                    have Hn1 : Hid (∀ u ∈ lo.map (Value.int .i64), u.oneCell' = true) := fun u hu => by
                      rw [List.mem_map] at hu
                      obtain ⟨_, _, rfl⟩ := hu
                      rfl
                    go_wp2_with fail
                    go_region_law (first
                        | (refine step_append_lies _ (by rfl) _ _ _ (by rfl) wr.heap.size 3 i0 _ 1 8 Tryd.underlying23 hi hz0 hz1 hz2 rfl (by omega) (.slice (some ⟨wr.heap.size, 0, Option.none⟩) 0 0) 0 [] (by rfl) (own_empty (heap_new wr.drew _) (Nat.le_refl _)) bo mo co (lo.map (Value.int .i64)) (by rfl) Hnl.out (Hnews.out _ ((Kept.drewn wr).newBlock _)) Hn1.out hm0 (by unfold maxLen; omega) (by omega) (by first | (simp; done) | (simp; omega)) (wr.heap.size + 1) (by first | (simp; done) | (simp; omega)) ?_; intro g3 cap3 w3 hown3 hgrow3 hat3 hlt3; have hown3' := hown3; rw [Nat.zero_add, List.nil_append] at hown3'; have HKp3 : Hid (Kept wr w3) := Kept.grown_own ((Kept.drewn wr).newBlock _) hgrow3 (by first | (simp; done) | (simp; omega)) (fun i hi => by simp [Value.ownBlock] at hi; omega); obtain ⟨hs3a, hs3b⟩ := HSf.out _ HKp3.out; have hl3a : al.block < w3.heap.size := (by have := HKp3.out.size; omega); have hl3b : bl.block < w3.heap.size := (by have := HKp3.out.size; omega))
                        | (refine step_append_lies _ (by rfl) _ _ _ (by rfl) wr.heap.size 3 i0 _ 1 8 Tryd.underlying23 hi hz0 hz1 hz2 rfl (by omega) (.slice (some ⟨wr.heap.size, 0, Option.none⟩) 0 0) 0 [] (by rfl) (own_empty ((Kept.box _ _).heapAt (heap_new wr.drew _)) (Nat.le_refl _)) bo mo co (lo.map (Value.int .i64)) (by rfl) Hnl.out (Hnews.out _ (((Kept.drewn wr).newBlock _).newBlock _)) Hn1.out hm0 (by unfold maxLen; omega) (by omega) (by first | (simp; done) | (simp; omega)) (wr.heap.size + 2) (by first | (simp; done) | (simp; omega)) ?_; intro g3 cap3 w3 hown3 hgrow3 hat3 hlt3; have hown3' := hown3; rw [Nat.zero_add, List.nil_append] at hown3'; have HKp3 : Hid (Kept wr w3) := Kept.grown_own (((Kept.drewn wr).newBlock _).newBlock _) hgrow3 (by first | (simp; done) | (simp; omega)) (fun i hi => by simp [Value.ownBlock] at hi; omega); obtain ⟨hs3a, hs3b⟩ := HSf.out _ HKp3.out; have hl3a : al.block < w3.heap.size := (by have := HKp3.out.size; omega); have hl3b : bl.block < w3.heap.size := (by have := HKp3.out.size; omega))
                        | (refine step_append_lies _ (by rfl) _ _ _ (by rfl) wr.heap.size 3 i0 _ 1 8 Tryd.underlying23 hi hz0 hz1 hz2 rfl (by omega) (.slice (some ⟨wr.heap.size + 1, 0, Option.none⟩) 0 0) 0 [] (by rfl) (own_empty (heap_new2 wr.drew _ _) (Nat.le_succ _)) bo mo co (lo.map (Value.int .i64)) (by rfl) Hnl.out (Hnews.out _ (((Kept.drewn wr).newBlock _).newBlock _)) Hn1.out hm0 (by unfold maxLen; omega) (by omega) (by first | (simp; done) | (simp; omega)) (wr.heap.size + 2) (by first | (simp; done) | (simp; omega)) ?_; intro g3 cap3 w3 hown3 hgrow3 hat3 hlt3; have hown3' := hown3; rw [Nat.zero_add, List.nil_append] at hown3'; have HKp3 : Hid (Kept wr w3) := Kept.grown_own (((Kept.drewn wr).newBlock _).newBlock _) hgrow3 (by first | (simp; done) | (simp; omega)) (fun i hi => by simp [Value.ownBlock] at hi; omega); obtain ⟨hs3a, hs3b⟩ := HSf.out _ HKp3.out; have hl3a : al.block < w3.heap.size := (by have := HKp3.out.size; omega); have hl3b : bl.block < w3.heap.size := (by have := HKp3.out.size; omega))
                        | (refine step_append_lies _ (by rfl) _ _ _ (by rfl) wr.heap.size 3 i0 _ 1 8 Tryd.underlying23 hi hz0 hz1 hz2 rfl (by omega) (.slice (some ⟨g3, 0, Option.none⟩) (0 + mo) cap3) (0 + mo) ([] ++ lo.map (Value.int .i64)) (by rfl) (hown3.alloc _) ⟨w3.heap.size, 0, Option.none⟩ 1 1 [.int .i64 x] (by rfl) (by rfl) (World.news_of_block (cs := #[.int .i64 x]) (t := 3) (fr := (0, 0)) (heap_new w3 _)) (by simp [Value.oneCell']) (by omega) (by unfold maxLen; omega) (by omega) (by have := HKp3.out.size; simp; omega) _ rfl ?_; intro g4 cap4 w4 hown4 hgrow4 hat4 hlt4; have HKp4 : Hid (Kept wr w4) := Kept.grown_own (HKp3.out.newBlock _) hgrow4 (by have := HKp3.out.size; simp; omega) (fun i hi => own_base hown3 i hi); obtain ⟨⟨v4, hc4⟩, hf4⟩ := (HOx.out.kept HKp4.out).at Hml2.out p hpn)
                        | (refine step_append_lies _ (by rfl) _ _ _ (by rfl) wr.heap.size 3 i0 _ 1 8 Tryd.underlying23 hi hz0 hz1 hz2 rfl (by omega) (.slice (some ⟨g3, 0, Option.none⟩) (0 + mo) cap3) (0 + mo) ([] ++ lo.map (Value.int .i64)) (by rfl) (hown3) ⟨wr.heap.size + 1, 0, Option.none⟩ 1 1 [.int .i64 x] (by rfl) (by rfl) (World.news_of_block (cs := #[.int .i64 x]) (t := 3) (fr := (0, 0)) (grown_at hgrow3 (heap_new2 wr.drew _ _) (by simp [Value.ownBlock]))) (by simp [Value.oneCell']) (by omega) (by unfold maxLen; omega) (by omega) (by have := HKp3.out.size; omega) _ rfl ?_; intro g4 cap4 w4 hown4 hgrow4 hat4 hlt4; have HKp4 : Hid (Kept wr w4) := Kept.grown_own (HKp3.out) hgrow4 (by have := HKp3.out.size; simp; omega) (fun i hi => own_base hown3 i hi); obtain ⟨⟨v4, hc4⟩, hf4⟩ := (HOx.out.kept HKp4.out).at Hml2.out p hpn)
                        | (refine step_append_lies _ (by rfl) _ _ _ (by rfl) wr.heap.size 3 i0 _ 1 8 Tryd.underlying23 hi hz0 hz1 hz2 rfl (by omega) (.slice (some ⟨g3, 0, Option.none⟩) (0 + mo) cap3) (0 + mo) ([] ++ lo.map (Value.int .i64)) (by rfl) (hown3) ⟨wr.heap.size, 0, Option.none⟩ 1 1 [.int .i64 x] (by rfl) (by rfl) (World.news_of_block (cs := #[.int .i64 x]) (t := 3) (fr := (0, 0)) (grown_at hgrow3 ((Kept.box _ _).heapAt (heap_new wr.drew _)) (by simp [Value.ownBlock]))) (by simp [Value.oneCell']) (by omega) (by unfold maxLen; omega) (by omega) (by have := HKp3.out.size; omega) _ rfl ?_; intro g4 cap4 w4 hown4 hgrow4 hat4 hlt4; have HKp4 : Hid (Kept wr w4) := Kept.grown_own (HKp3.out) hgrow4 (by have := HKp3.out.size; simp; omega) (fun i hi => own_base hown3 i hi); obtain ⟨⟨v4, hc4⟩, hf4⟩ := (HOx.out.kept HKp4.out).at Hml2.out p hpn)
                        | (refine step_append_lies _ (by rfl) _ _ _ (by rfl) wr.heap.size 3 i0 _ 1 8 Tryd.underlying23 hi hz0 hz1 hz2 rfl (by omega) (.slice (some ⟨g3, 0, Option.none⟩) mo cap3) mo (lo.map (Value.int .i64)) (by rfl) (hown3'.alloc _) ⟨w3.heap.size, 0, Option.none⟩ 1 1 [.int .i64 x] (by rfl) (by rfl) (World.news_of_block (cs := #[.int .i64 x]) (t := 3) (fr := (0, 0)) (heap_new w3 _)) (by simp [Value.oneCell']) (by omega) (by unfold maxLen; omega) (by omega) (by have := HKp3.out.size; simp; omega) _ rfl ?_; intro g4 cap4 w4 hown4 hgrow4 hat4 hlt4; have HKp4 : Hid (Kept wr w4) := Kept.grown_own (HKp3.out.newBlock _) hgrow4 (by have := HKp3.out.size; simp; omega) (fun i hi => own_base hown3 i hi); obtain ⟨⟨v4, hc4⟩, hf4⟩ := (HOx.out.kept HKp4.out).at Hml2.out p hpn)
                        | (refine step_append_lies _ (by rfl) _ _ _ (by rfl) wr.heap.size 3 i0 _ 1 8 Tryd.underlying23 hi hz0 hz1 hz2 rfl (by omega) (.slice (some ⟨g3, 0, Option.none⟩) mo cap3) mo (lo.map (Value.int .i64)) (by rfl) (hown3') ⟨wr.heap.size + 1, 0, Option.none⟩ 1 1 [.int .i64 x] (by rfl) (by rfl) (World.news_of_block (cs := #[.int .i64 x]) (t := 3) (fr := (0, 0)) (grown_at hgrow3 (heap_new2 wr.drew _ _) (by simp [Value.ownBlock]))) (by simp [Value.oneCell']) (by omega) (by unfold maxLen; omega) (by omega) (by have := HKp3.out.size; omega) _ rfl ?_; intro g4 cap4 w4 hown4 hgrow4 hat4 hlt4; have HKp4 : Hid (Kept wr w4) := Kept.grown_own (HKp3.out) hgrow4 (by have := HKp3.out.size; simp; omega) (fun i hi => own_base hown3 i hi); obtain ⟨⟨v4, hc4⟩, hf4⟩ := (HOx.out.kept HKp4.out).at Hml2.out p hpn)
                        | (refine step_append_lies _ (by rfl) _ _ _ (by rfl) wr.heap.size 3 i0 _ 1 8 Tryd.underlying23 hi hz0 hz1 hz2 rfl (by omega) (.slice (some ⟨g3, 0, Option.none⟩) mo cap3) mo (lo.map (Value.int .i64)) (by rfl) (hown3') ⟨wr.heap.size, 0, Option.none⟩ 1 1 [.int .i64 x] (by rfl) (by rfl) (World.news_of_block (cs := #[.int .i64 x]) (t := 3) (fr := (0, 0)) (grown_at hgrow3 ((Kept.box _ _).heapAt (heap_new wr.drew _)) (by simp [Value.ownBlock]))) (by simp [Value.oneCell']) (by omega) (by unfold maxLen; omega) (by omega) (by have := HKp3.out.size; omega) _ rfl ?_; intro g4 cap4 w4 hown4 hgrow4 hat4 hlt4; have HKp4 : Hid (Kept wr w4) := Kept.grown_own (HKp3.out) hgrow4 (by have := HKp3.out.size; simp; omega) (fun i hi => own_base hown3 i hi); obtain ⟨⟨v4, hc4⟩, hf4⟩ := (HOx.out.kept HKp4.out).at Hml2.out p hpn))
                    all_goals go_wp2_with fail
                    all_goals (
                      go_roundw
                      case rel =>
                        have h9 := HF.out w4 g4 cap4 (by simpa [List.map_append] using hown4) HKp4.out
                        exact ⟨k + 1, by omega, by go_num, h9.1, h9.2⟩
                      case measure => simp [intOf]; omega)

          · have e : k = ml := by omega
            subst e
            have HOe : Hid (OwnL wz W2.heap.size (.slice (some ⟨g, 0, Option.none⟩) n cg) (fillU C.vars ls G n1 (i + 1))) := by
              show OwnL _ _ _ _
              rw [← midL_end (p := p) (k := k) Hv1.out (by rw [Hl.out]; exact Hlm.out)]
              exact HOz.out
            clear HOz
            go_wp2_with fail
            go_roundw
            case rel => exact ⟨i + 1, by omega, by go_num, HOe.out, Hkz.out⟩
            case measure => simp [intOf]; omega
      · have e : i = n1 := by omega
        subst e
        have Hfl : Hid ((fillU C.vars ls G i i).length = n) := by show _ = _; rw [fillU_length]; exact Hll.out
        have HLo := Lib.hid (HOi.out.lists Hfl.out (by omega))
        have HQ : Hid (∀ W, Kept wi W → Calls Tryd.prog 60 #[.slice A n c, .slice (some ⟨g, 0, Option.none⟩) n cg] W (DomsPost res W)) := fun W hW => by
          have h := rkeeps_any (fun i' x => ((fillU C.vars ls G i i).getD i' []).contains x) A (some ⟨g, 0, Option.none⟩) n c cg ds (fillU C.vars ls G i i) W (HS.out.kept (HKi.out.then hW)) (HLo.out.kept hW) Hm4.out (fun _ _ => rfl) hn
          rwa [Hres.out] at h
        clear b0 b1 b2 b3 b4 b5
        go_wp2_with fail
        refine (HQ.out _ (Kept.same _)).mono ?_
        rintro e W9 ⟨A9, c9, rfl, hD9, hk9⟩
        rw [Hsl.out] at hD9 ⊢
        have HD9 := Lib.hid hD9
        have HK9 := Lib.hid (HKi.out.then hk9)
        clear hD9 hk9
        go_wp2_with fail
        go_ret2
        exact ⟨A9, c9, by rw [Hsl.out]; rfl, by rw [Hsl.out]; exact HD9.out, HK9.out⟩
end Go.Proofs.YthddanjmnifloaaDoor

set_option maxHeartbeats 1000000
set_option maxRecDepth 10000
namespace Go.Proofs.YthddanjmnifloaaDoor
open Go Go.RowKit Pl

theorem heap_newAt {w : World} {o : Obj} {n : Nat} (hn : n = w.heap.size) : (w.alloc o).heap[n]? = some o := by subst hn; exact heap_new w o
theorem Doms.of_heap {w : World} {O n : Nat} {cs : Array Value} {t : TypeId} {fr : Nat × Nat} {ds : List DomB} (h : w.heap[O]? = some (.cells cs t fr)) (hn : ds.length = n) (hs : n ≤ 1000) (hl : ∀ j, j < n → (ds.getD j nilD).2 < 2 ^ 64)
    (hd : ∀ j, j < n → ∃ B m c, cs[j * 2]? = some (.slice B m c) ∧ cs[j * 2 + 1]? = some (.int .u64 ((ds.getD j nilD).2 : Nat)) ∧ Ints w B m (ds.getD j nilD).1) : Doms w (some ⟨O, 0, Option.none⟩) n ds :=
  ⟨hn, by omega, hl, fun _ => ⟨_, rfl, fun j hj => by
    obtain ⟨B, m, c, h1, h2, h3⟩ := hd j hj
    refine ⟨B, m, c, ?_, ?_, h3⟩
    · rw [add_plain, Nat.zero_add, cell_at h]; exact h1
    · rw [add_plain, Nat.zero_add, cell_at h]; exact h2⟩⟩
theorem Doms.plain {w : World} {A : Option Addr} {n : Nat} {ds : List DomB} (h : Doms w A n ds) (hn : 0 < n) : ∃ b off, A = some ⟨b, off, Option.none⟩ ∧ ∀ j, j < n → w.cell? ⟨b, off + j * 2 + 1, Option.none⟩ = some (.int .u64 ((ds.getD j nilD).2 : Nat)) := by
  obtain ⟨a, rfl, hc⟩ := h.cell hn
  obtain ⟨_, _, _, h0, _, _⟩ := hc 0 hn
  have e0 : a.add (0 * 2) = a := by unfold Addr.add; simp
  rw [e0] at h0
  have hp := plain_of_cell h0
  refine ⟨a.block, a.off, by rw [← hp], fun j hj => ?_⟩
  obtain ⟨_, _, _, _, h2, _⟩ := hc j hj
  rw [hp, add_plain] at h2
  exact h2

/-- Blocks laid one behind the other. -/
def allocs (w : World) (os : List Obj) : World := os.foldl World.alloc w
theorem heap_allocs : ∀ (os : List Obj) (w : World) (k : Nat) (o : Obj), os[k]? = some o → (allocs w os).heap[w.heap.size + k]? = some o ∧ Kept w (allocs w os)
  | [], w, k, o, h => by simp at h
  | x :: os, w, 0, o, h => by
    have e : x = o := by simpa using h
    subst e
    have hk : Kept (w.alloc x) (allocs (w.alloc x) os) := kept_allocs os _
    exact ⟨hk.heapAt (heap_new w x), (Kept.box w x).then hk⟩
  | x :: os, w, k + 1, o, h => by
    have h' : os[k]? = some o := by simpa using h
    obtain ⟨h1, h2⟩ := heap_allocs os (w.alloc x) k o h'
    rw [World.size_alloc] at h1
    refine ⟨?_, (Kept.box w x).then h2⟩
    have e : w.heap.size + (k + 1) = w.heap.size + 1 + k := by omega
    rw [e]
    exact h1
where kept_allocs : ∀ (os : List Obj) (w : World), Kept w (allocs w os)
  | [], w => Kept.same w
  | x :: os, w => (Kept.box w x).then (kept_allocs os (w.alloc x))

end Go.Proofs.YthddanjmnifloaaDoor

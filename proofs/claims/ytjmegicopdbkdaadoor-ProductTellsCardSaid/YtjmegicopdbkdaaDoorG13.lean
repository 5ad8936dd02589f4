/-
  Contracts and plain laws that the card rests on, part 13.
-/
import Derived.Test.YtjmegicopdbkdaaDoorG11
import Derived.Test.YtjmegicopdbkdaaDoorG9
import Derived.Test.YtjmegicopdbkdaaDoorG10
import Derived.Test.YtjmegicopdbkdaaDoorG12
import Derived.Test.YtjmegicopdbkdaaDoorG8
set_option maxHeartbeats 1000000
set_option maxRecDepth 10000
namespace Go.Proofs.YtjmegicopdbkdaaDoor
open Go Go.RowKit Pl

theorem Kept.grown_own {w0 w w' : World} {r : Option Nat} (h0 : Kept w0 w) (hg : w.grownBy w' r) (hs : w0.heap.size ≤ w.heap.size) (hr : ∀ i, r = some i → w0.heap.size ≤ i) : Kept w0 w' := h0.grown hg hs hr
theorem grown_at {w w' : World} {r : Option Nat} (hg : w.grownBy w' r) {O : Nat} {o : Obj} (h : w.heap[O]? = some o) (hr : some O ≠ r) : w'.heap[O]? = some o := (hg.block O (lt_at h) hr).trans h
theorem ints_news {W : World} {a : Addr} {n : Nat} {xs : List Int} (h : Ints W (some a) n xs) (j : Nat) (u : Value) (hu : (xs.map (Value.int .i64))[j]? = some u) : W.cell? (a.add j) = some u := by
  rw [List.getElem?_map] at hu
  have hj : j < xs.length := by
    by_cases h : j < xs.length
    · exact h
    · rw [List.getElem?_eq_none (by omega)] at hu; simp at hu
  obtain ⟨b, e, hc⟩ := h.cell (by have := h.len; omega)
  cases e
  rw [List.getElem?_eq_getElem hj] at hu
  simp only [Option.map_some, Option.some.injEq] at hu
  rw [hc j (by have := h.len; omega), ← hu, List.getD_eq_getElem?_getD, List.getElem?_eq_getElem hj]
  rfl
end Go.Proofs.YtjmegicopdbkdaaDoor

set_option maxHeartbeats 6000000
set_option maxRecDepth 10000
namespace Go.Proofs.YtjmegicopdbkdaaDoor
open Go Go.RowKit Pl

def rprodG (C : ConB) (ls : List (List Int)) (i : Nat) (x : Int) : Bool := some3 (own3 (fun q => ls.getD (C.vars.getD q 0).toNat []) i x 0) (own3 (fun q => ls.getD (C.vars.getD q 0).toNat []) i x 1) (own3 (fun q => ls.getD (C.vars.getD q 0).toNat []) i x 2)
theorem some3_iff {X Y Z : List Int} : some3 X Y Z = true ↔ ∃ a b, a ∈ X ∧ b ∈ Y ∧ a * b ∈ Z := by
  unfold some3
  simp only [List.any_eq_true, beq_iff_eq]
  constructor
  · rintro ⟨a, ha, b, hb, c, hc, rfl⟩; exact ⟨a, b, ha, hb, hc⟩
  · rintro ⟨a, b, ha, hb, hc⟩; exact ⟨a, ha, b, hb, _, hc, rfl⟩
theorem rprodG_eq {C : ConB} {ds : List DomB} (hv : varsOk C.vars ds.length = true) (h3 : C.vars.length = 3) {k : Nat} (hk : k < 3) {v : Int} (hm : v ∈ leftOf C ds k) : rprodG C (listsOf ds) k v = prodG C ds k v := by
  have hL : ∀ q, q < 3 → (listsOf ds).getD (C.vars.getD q 0).toNat [] = leftOf C ds q := fun q hq => by
    have h1 := varsOk_rng hv (i := q) (by omega)
    rw [listsOf_getD ds (by omega)]; rfl
  unfold rprodG prodG
  rw [Bool.eq_iff_iff, some3_iff, prodL_iff hk]
  unfold own3
  have h4 : k = 0 ∨ k = 1 ∨ k = 2 := by omega
  rcases h4 with rfl | rfl | rfl
  · simp only [if_true, hL 1 (by omega), hL 2 (by omega), show ¬ (1 : Nat) = 0 by omega, show ¬ (2 : Nat) = 0 by omega, if_false, List.mem_singleton]
    constructor
    · rintro ⟨a, b, rfl, hb, hc⟩; exact ⟨a, b, _, hm, hb, hc, rfl, rfl⟩
    · rintro ⟨a, b, c, ha, hb, hc, rfl, rfl⟩; exact ⟨a, b, rfl, hb, hc⟩
  · simp only [if_true, hL 0 (by omega), hL 2 (by omega), show ¬ (1 : Nat) = 0 by omega, show ¬ (0 : Nat) = 1 by omega, show ¬ (2 : Nat) = 1 by omega, if_false, List.mem_singleton]
    constructor
    · rintro ⟨a, b, ha, rfl, hc⟩; exact ⟨a, b, _, ha, hm, hc, rfl, rfl⟩
    · rintro ⟨a, b, c, ha, hb, hc, rfl, rfl⟩; exact ⟨a, b, ha, rfl, hc⟩
  · simp only [if_true, hL 0 (by omega), hL 1 (by omega), show ¬ (2 : Nat) = 0 by omega, show ¬ (0 : Nat) = 2 by omega, show ¬ (1 : Nat) = 2 by omega, show ¬ (2 : Nat) = 1 by omega, if_false, List.mem_singleton]
    constructor
    · rintro ⟨a, b, ha, hb, e⟩; exact ⟨a, b, v, ha, hb, hm, e, rfl⟩
    · rintro ⟨a, b, c, ha, hb, hc, e, rfl⟩; exact ⟨a, b, ha, hb, e⟩

theorem OwnL.named {w : World} {base g n cap : Nat} {ls : List (List Int)} (h : OwnL w base (.slice (some ⟨g, 0, Option.none⟩) n cap) ls) (hn : ls.length = n) (p : Nat) (hp : p < n) :
    ∃ (l : List Int) (B : Option Addr) (m c : Nat), Hid (ls.getD p [] = l) ∧ w.cell? ⟨g, p, Option.none⟩ = some (.slice B m c) ∧ w.frozen? ⟨g, p, Option.none⟩ = false ∧ Hid (Ints w B m l) := by
  obtain ⟨vs, hown, hd⟩ := h
  subst hn
  obtain ⟨B, m, c, e1, e2, _⟩ := hd p hp
  exact ⟨_, B, m, c, rfl, by rw [hown.cellAt _ (by omega)]; exact e1, hown.frozenAt _, e2⟩

theorem rstep13_any (K R Ct : Int) (A1 A2 A3 : Option Addr) (n1 c1 n2 c2 n3 c3 : Nat) (C : ConB) (A : Option Addr) (n c : Nat) (ds : List DomB) (w : World) (hC : ConIn w K R Ct A1 A2 A3 n1 c1 n2 c2 n3 c3 C) (hS : Doms w A n ds) (hn : n ≤ 1000) :
    Calls Tryd.prog 14 #[.agg #[.int .i64 K, .slice A1 n1 c1, .slice A2 n2 c2, .int .i64 R, .int .i64 Ct, .slice A3 n3 c3], .slice A n c] w (StepPost (if prodGo C ds = true then some (stepB (prodKp C ds) ds) else Option.none) w) := by
  obtain ⟨i0, hi, hz0, hz1, hz2⟩ := info_parts info_int
  have HC := Lib.hid hC
  have HS := Lib.hid hS
  have Hlen := Lib.hid hS.len
  have Hl1 := Lib.hid hC.vars.len
  have Hl3 := Lib.hid hC.nums.len
  have hs3 := hC.nums.small
  clear hC hS
  have HB : Hid (∀ wr, Kept (w.alloc (.cells #[.int .i64 K, .slice A1 n1 c1, .slice A2 n2 c2, .int .i64 R, .int .i64 Ct, .slice A3 n3 c3] 24)) wr → wr.heap[w.heap.size]? = some (.cells #[.int .i64 K, .slice A1 n1 c1, .slice A2 n2 c2, .int .i64 R, .int .i64 Ct, .slice A3 n3 c3] 24)) := fun wr h => h.heapAt (heap_new _ _)
  have Hb : Hid ((decide (C.kind = 2) && allMay ds && rightB C n) = prodGo C ds) := by show _ = _; rw [← Hlen.out]; exact goK_right 2 C ds
  have HR : Hid (∀ (b : Bool), prodGo C ds = b → ∀ (O : Nat) (W : World), Kept w W → W.heap[O]? = some (.cells #[.int .i64 2] 3) → Calls Tryd.prog 33 #[.agg #[.int .i64 K, .slice A1 n1 c1, .slice A2 n2 c2, .int .i64 R, .int .i64 Ct, .slice A3 n3 c3], .slice A n c, .slice (some ⟨O, 0, Option.none⟩) 1 1] W fun e w' => e = .returned (.bool b) ∧ Kept W w') := fun b hb O W hW hO => by
    have := rright12_any K R Ct A1 A2 A3 n1 c1 n2 c2 n3 c3 C 2 O A n c ds W (HC.out.kept hW) (HS.out.kept hW) hO
    rwa [Hb.out, hb] at this
  by_cases hg : ¬ prodGo C ds = true
  · rw [if_neg hg]
    have HR2 := Lib.hid (HR.out false (by simpa using hg))
    clear Hb HR
    go_enter Tryd.func14, Tryd.ntmps14
    go_wp2_with fail
    refine (HR2.out _ _ ((Kept.box _ _).newBlock _) (heap_new2 _ _ _)).mono ?_
    rintro e W1 ⟨rfl, hk1⟩
    have HK1 := Lib.hid (((Kept.box _ _).newBlock _).then hk1)
    clear hk1
    go_wp2_with fail
    go_ret2
    exact ⟨rfl, HK1.out⟩
  · have hg := Classical.not_not.1 hg
    rw [if_pos hg]
    have HR2 := Lib.hid (HR.out true hg)
    obtain ⟨hk4, hB4, hm4⟩ := prodGo_parts hg
    have Hm4 := Lib.hid hm4
    have hvo0 := rightB_vars hB4
    have Hvo : Hid (varsOk C.vars n = true) := by show _ = _; rw [← Hlen.out]; exact hvo0
    have hv3 := product_parts hk4 hB4
    have hn13 : n1 = 3 := by have := Hl1.out; omega
    subst hn13
    have hn0 : 0 < n := by
      have h1 := varsOk_rng Hvo.out (i := 0) (by omega)
      omega
    obtain ⟨ls, hls⟩ : ∃ ls, ls = listsOf ds := ⟨_, rfl⟩
    have Hll : Hid (ls.length = n) := by show _ = _; rw [hls]; unfold listsOf; rw [List.length_map]; exact Hlen.out
    have Hvol : Hid (varsOk C.vars ls.length = true) := by show _ = _; rw [Hll.out]; exact Hvo.out
    have H64 : Hid (∀ j, (ls.getD j []).length ≤ 64) := fun j => by
      rw [hls]
      by_cases hj : j < ds.length
      · rw [listsOf_getD ds hj]; exact listB_length _ _
      · rw [List.getD_eq_getElem?_getD, List.getElem?_eq_none (by unfold listsOf; rw [List.length_map]; omega)]; simp
    have Hbnd : Hid (∀ j, ∀ x ∈ ls.getD j [], -1048576 ≤ x ∧ x ≤ 1048576) := fun j x hx => by
      rw [hls] at hx
      by_cases hj : j < ds.length
      · rw [listsOf_getD ds hj] at hx; exact listB_rng _ _ x hx
      · rw [List.getD_eq_getElem?_getD, List.getElem?_eq_none (by unfold listsOf; rw [List.length_map]; omega)] at hx; simp at hx
    obtain ⟨G, hG⟩ : ∃ G : Nat → Int → Bool, G = rprodG C ls := ⟨_, rfl⟩
    have HG : Hid (∀ i x, G i x = some3 (own3 (fun q => ls.getD (C.vars.getD q 0).toNat []) i x 0) (own3 (fun q => ls.getD (C.vars.getD q 0).toNat []) i x 1) (own3 (fun q => ls.getD (C.vars.getD q 0).toNat []) i x 2)) := fun i x => by rw [hG]; rfl
    have Hres : Hid (stepB (fun i x => ((fillU C.vars ls G 3 3).getD i []).contains x) ds = stepB (prodKp C ds) ds) := by
      show _ = _
      refine stepB_congr hm4 fun i hi v hv => ?_
      have hmem : v ∈ ls.getD i [] := by rw [hls, listsOf_getD ds hi]; exact hv
      rw [← Hl1.out, fillU_keeps Hvol.out hmem, hG, hls]
      unfold prodKp
      have hv9 : v ∈ listB (ds.getD i nilD).1 (ds.getD i nilD).2 := hv
      have heq : ∀ k, k < C.vars.length → (C.vars.getD k 0).toNat = i → rprodG C (listsOf ds) k v = prodG C ds k v := fun k hk e => rprodG_eq hvo0 hv3 (by omega) (by unfold leftOf; rw [e]; exact hv9)
      rw [Bool.eq_iff_iff, varsKp_iff, varsKp_iff]
      constructor
      · intro h k hk e; rw [← heq k hk e]; exact h k hk e
      · intro h k hk e; rw [heq k hk e]; exact h k hk e
    have Hsl : Hid ((stepB (prodKp C ds) ds).length = n) := by show _ = _; rw [stepB_length]; exact Hlen.out
    generalize stepB (prodKp C ds) ds = res at *
    have HLs : Hid (∀ W, Doms W A n ds → Calls Tryd.prog 34 #[.slice A n c] W (ListsPost ls W)) := fun W hW => by rw [hls]; exact rlists_any A n c ds W hW hn
    clear Hb HR hk4 hB4 hm4 hvo0 hG hls hg
    go_enter Tryd.func14, Tryd.ntmps14
    go_wp2_with fail
    refine (HR2.out _ _ ((Kept.box _ _).newBlock _) (heap_new2 _ _ _)).mono ?_
    rintro e W1 ⟨rfl, hk1⟩
    have HK1 := Lib.hid (((Kept.box _ _).newBlock _).then hk1)
    have Hk1 := Lib.hid ((Kept.box _ _).then hk1)
    clear hk1 HR2
    go_wp2_with fail
    refine (HLs.out W1 (HS.out.kept HK1.out)).mono ?_
    rintro e W2 ⟨Al, cl, rfl, hLL, hk2⟩
    rw [Hll.out] at hLL ⊢
    have HLL := Lib.hid hLL
    have HK2 := Lib.hid (HK1.out.then hk2)
    have Hk2 := Lib.hid (Hk1.out.then hk2)
    clear hLL hk2
    have hb := HB.out W2 Hk2.out
    have b0 := cell_at hb 0
    have b1 := cell_at hb 1
    have b2 := cell_at hb 2
    have b3 := cell_at hb 3
    have b4 := cell_at hb 4
    have b5 := cell_at hb 5
    simp only [List.getElem?_toArray, List.getElem?_cons_zero, List.getElem?_cons_succ] at b0 b1 b2 b3 b4 b5
    clear hb
    go_wp2_with fail
    refine (rnone_any K R Ct A1 A2 A3 3 c1 n2 c2 n3 c3 C Al n cl ls W2 (HC.out.kept HK2.out) HLL.out Hvo.out hn0 hn).mono ?_
    rintro e W3 ⟨g, cg, rfl, hO3, hg2, hg3, hk3⟩
    have HO3 := Lib.hid hO3
    have HK3 := Lib.hid (HK2.out.then hk3)
    have Hk3 := Lib.hid (Hk2.out.then hk3)
    have HLL3 := Lib.hid (HLL.out.kept hk3)
    have HK23 := Lib.hid hk3
    clear hO3 hk3 b0 b1 b2 b3 b4 b5
    have hb := HB.out W3 Hk3.out
    have b0 := cell_at hb 0
    have b1 := cell_at hb 1
    have b2 := cell_at hb 2
    have b3 := cell_at hb 3
    have b4 := cell_at hb 4
    have b5 := cell_at hb 5
    simp only [List.getElem?_toArray, List.getElem?_cons_zero, List.getElem?_cons_succ] at b0 b1 b2 b3 b4 b5
    clear hb
    go_wp2_with fail
    clear b0 b1 b2 b3 b4 b5
    go_loopw [8] (fun u wq => ∃ i : Nat, i ≤ 3 ∧ u = .int .i64 i ∧ Hid (OwnL wq W2.heap.size (.slice (some ⟨g, 0, Option.none⟩) n cg) (fillU C.vars ls G 3 i)) ∧ Hid (KeptBut g W3 wq)) (fun u _ => 3 - (intOf u).toNat)
    case atStart => exact ⟨0, Nat.zero_le _, rfl, HO3.out, KeptBut.refl _ _⟩
    case round =>
      obtain ⟨i, hii, rfl, HOi, Hki⟩ := hrel
      obtain ⟨wi, hwi⟩ : ∃ wi : World, wi = wr := ⟨_, rfl⟩
      subst hwi
      have HKi2 := Lib.hid (((KeptBut.of HK23.out g).then Hki.out).kept hg2)
      have HKi := Lib.hid (HK2.out.then HKi2.out)
      have hb := HB.out wi (Hk2.out.then HKi2.out)
      have b0 := cell_at hb 0
      have b1 := cell_at hb 1
      have b2 := cell_at hb 2
      have b3 := cell_at hb 3
      have b4 := cell_at hb 4
      have b5 := cell_at hb 5
      simp only [List.getElem?_toArray, List.getElem?_cons_zero, List.getElem?_cons_succ] at b0 b1 b2 b3 b4 b5
      clear hb
      have hlb : w.heap.size < wi.heap.size := World.block_lt_of_cell? wi _ b0
      by_cases hlt : i < 3
      · have hd3 : decide ((i : Int) < 3) = true := by simp; omega
        obtain ⟨av, hav, hbv⟩ := (HC.out.vars.kept HKi.out).addr (by omega)
        subst hav
        obtain ⟨v, Hv1, hcv, _, _⟩ := (HC.out.vars.kept HKi.out).named i hlt
        obtain ⟨hv0, hv1⟩ := varsOk_rng Hvo.out (i := i) (by have := Hl1.out; omega)
        rw [Hv1.out] at hv0 hv1
        obtain ⟨p, rfl⟩ := Int.eq_ofNat_of_zero_le hv0
        have hpn : p < n := by omega
        obtain ⟨al, l, Bl, ml, clp, hal, hbal2, Hl, hclp2, HIl⟩ := HLL.out.named p hpn
        subst hal
        have Hclp2 := Lib.hid hclp2
        have hml : ml ≤ 64 := by have := H64.out p; rw [Hl.out] at this; have := HIl.out.len; omega
        have Hlm := Lib.hid HIl.out.len
        have hclp := HKi2.out.cellAt hclp2
        have hbal : al.block < wi.heap.size := by have := HKi2.out.size; omega
        have HOm : Hid (OwnL wi W2.heap.size (.slice (some ⟨g, 0, Option.none⟩) n cg) (midL C.vars ls G 3 i p 0)) := by
          show OwnL _ _ _ _
          have h := midL_zero (g := G) Hvol.out (by have := Hl1.out; omega) Hv1.out
          rw [Hl1.out] at h
          rw [h]; exact HOi.out
        clear hclp2
        go_wp2_with fail
        clear b0 b1 b2 b3 b4 b5 hcv hclp hbal hbv
        go_loopw [10] (fun u wz => ∃ k : Nat, k ≤ ml ∧ u = .int .i64 k ∧ Hid (OwnL wz W2.heap.size (.slice (some ⟨g, 0, Option.none⟩) n cg) (midL C.vars ls G 3 i p k)) ∧ Hid (KeptBut g W3 wz)) (fun u _ => ml - (intOf u).toNat)
        case atStart => exact ⟨0, Nat.zero_le _, rfl, HOm.out, Hki.out⟩
        case round =>
          obtain ⟨k, hk, rfl, HOz, Hkz⟩ := hrel
          obtain ⟨wz, hwz⟩ : ∃ wz : World, wz = wr := ⟨_, rfl⟩
          subst hwz
          have HKz2 := Lib.hid (((KeptBut.of HK23.out g).then Hkz.out).kept hg2)
          have HKz := Lib.hid (HK2.out.then HKz2.out)
          have hclp := HKz2.out.cellAt Hclp2.out
          have hszz := HKz2.out.size
          have hbal : al.block < wz.heap.size := by omega
          by_cases hltk : k < ml
          · obtain ⟨bl, hbl, hbb⟩ := HIl.out.addr (by omega)
            subst hbl
            obtain ⟨x, Hx, hcx, hx1, hx2⟩ := (HIl.out.kept HKz2.out).named k hltk
            have Hcx := Lib.hid hcx
            have Hclp := Lib.hid hclp
            have hb := HB.out wz (Hk2.out.then HKz2.out)
            have b0 := cell_at hb 0
            have b1 := cell_at hb 1
            have b2 := cell_at hb 2
            have b3 := cell_at hb 3
            have b4 := cell_at hb 4
            have b5 := cell_at hb 5
            simp only [List.getElem?_toArray, List.getElem?_cons_zero, List.getElem?_cons_succ] at b0 b1 b2 b3 b4 b5
            clear hb
            have hlb2 : w.heap.size < wz.heap.size := World.block_lt_of_cell? wz _ b0
            have hbl2 : bl.block < wz.heap.size := by have := HK2.out.size; have := (HIl.out.kept HKz2.out).block (by omega); exact this
            have hrx := Hbnd.out p x (by rw [Hl.out, ← Hx.out, List.getD_eq_getElem?_getD, List.getElem?_eq_getElem (by have := Hlm.out; omega)]; exact List.getElem_mem _)
            have HQa : Hid (∀ W, Kept wz W → Calls Tryd.prog 36 #[.agg #[.int .i64 K, .slice (some av) 3 c1, .slice A2 n2 c2, .int .i64 R, .int .i64 Ct, .slice A3 n3 c3], .slice (some al) n cl, .int .i64 i, .int .i64 x] W fun e w' => e = .returned (.bool (G i x)) ∧ Kept W w') := fun W hW => by
              have h9 := rsome_any K R Ct (some av) A2 A3 3 c1 n2 c2 n3 c3 C (some al) n cl ls i x W (HC.out.kept (HKz.out.then hW)) (HLL.out.kept (HKz2.out.then hW)) Hvo.out rfl hlt H64.out Hbnd.out hrx
              rwa [← HG.out i x] at h9
            have Hgt : Hid (G i x = false → midL C.vars ls G 3 i p (k + 1) = midL C.vars ls G 3 i p k) := fun h => midL_no (by rw [Hl.out, Hlm.out]; exact hltk) (by rw [Hl.out]; exact Hx.out) h
            have Hgf : Hid (G i x = true → midL C.vars ls G 3 i p (k + 1) = (midL C.vars ls G 3 i p k).set p ((midL C.vars ls G 3 i p k).getD p [] ++ [x])) := fun h => midL_yes (by rw [Hll.out]; exact hpn) (by rw [Hl.out, Hlm.out]; exact hltk) (by rw [Hl.out]; exact Hx.out) h
            generalize G i x = gg at HQa Hgt Hgf
            cases gg with
            | false =>
              go_wp2_with fail
              refine wp_region_quiet_below (by kernel_rfl) (by kernel_rfl) ?_
              repeat (any_goals (first | go_big_quiet_step (((go_at_call 36; exact Calls.regrown_of (HQa.out _ (below_regrown _ _ _))))) | quiet_step (((go_at_call 36; exact Calls.regrown_of (HQa.out _ (below_regrown _ _ _))))) | (refine wpQuiet_step (fun K hK => ?_); go_simp; split <;> (refine hK _ ?_; clear hK K))))
              all_goals (refine wpQuiet_nil ?_; intro w1 hw'; replace hw' := Kept.regrown hw')
              all_goals try (exfalso; omega)
              have Hkx : Hid (Kept wz w1) := hw'
              obtain ⟨wv, hwv⟩ : ∃ wv : World, wv = w1 := ⟨_, rfl⟩
              subst hwv
              have HBx := Lib.hid (Hkz.out.then (KeptBut.of Hkx.out g))
              have HOx := Lib.hid (HOz.out.kept Hkx.out)
              clear hw' hcx hclp b0 b1 b2 b3 b4 b5
              go_wp2_with fail
              go_roundw
              case rel =>
                have HOy : Hid (OwnL wv W2.heap.size (.slice (some ⟨g, 0, Option.none⟩) n cg) (midL C.vars ls G 3 i p (k + 1))) := by
                  show OwnL _ _ _ _
                  rw [Hgt.out (by first | rfl | trivial)]
                  exact HOx.out
                first | exact ⟨k + 1, by omega, by go_num, HOy.out, HBx.out⟩ | ((repeat apply Exists.intro); exact ⟨⟨k + 1, by omega, by go_num, HOy.out, HBx.out⟩, rfl⟩)
              case measure => simp [intOf]; omega
            | true =>
              go_wp2_with fail
              refine wp_region_quiet_below (by kernel_rfl) (by kernel_rfl) ?_
              repeat (any_goals (first | go_big_quiet_step (((go_at_call 36; exact Calls.regrown_of (HQa.out _ (below_regrown _ _ _))))) | quiet_step (((go_at_call 36; exact Calls.regrown_of (HQa.out _ (below_regrown _ _ _))))) | (refine wpQuiet_step (fun K hK => ?_); go_simp; split <;> (refine hK _ ?_; clear hK K))))
              all_goals (refine wpQuiet_nil ?_; intro w1 hw'; replace hw' := Kept.regrown hw')
              all_goals try (exfalso; omega)
              have Hkx : Hid (Kept wz w1) := hw'
              obtain ⟨wv, hwv⟩ : ∃ wv : World, wv = w1 := ⟨_, rfl⟩
              subst hwv
              have HBx := Lib.hid (Hkz.out.then (KeptBut.of Hkx.out g))
              have HOx := Lib.hid (HOz.out.kept Hkx.out)
              clear hw' hcx hclp b0 b1 b2 b3 b4 b5
              have Hmid := Lib.hid (Hgf.out (by first | rfl | trivial))
              have Hml2 : Hid ((midL C.vars ls G 3 i p k).length = n) := by show _ = _; rw [midL_length]; exact Hll.out
              obtain ⟨lo, Bo, mo, co, Hlo, hco, hfo, HIo⟩ := HOx.out.named Hml2.out p hpn
              have hmo : mo ≤ 64 := by
                have h1 := midL_at (vars := C.vars) (ls := ls) (g := G) (m := 3) (j := i) (p := p) (k := k) (by rw [Hll.out]; exact hpn)
                rw [Hlo.out] at h1
                have h2 : lo.length ≤ k := by rw [h1]; exact Nat.le_trans (List.length_filter_le _ _) (by rw [List.length_take]; omega)
                have := HIo.out.len
                omega
              have Hmid2 : Hid (midL C.vars ls G 3 i p (k + 1) = (midL C.vars ls G 3 i p k).set p (lo ++ [x])) := by show _ = _; rw [Hmid.out, Hlo.out]
              have hg9 : g < wv.heap.size := by have := HBx.out.size; omega
              have HSf : Hid (∀ W, Kept wv W → W.cell? (al.add p) = some (.slice (some bl) ml clp) ∧ W.cell? (bl.add k) = some (.int .i64 x)) := fun W hW =>
                ⟨hW.cellAt (Hkx.out.cellAt Hclp.out), hW.cellAt (Hkx.out.cellAt Hcx.out)⟩
              have HSs : Hid (∀ W v, Kept wv W → (W.setCell ⟨g, p, Option.none⟩ v).cell? (al.add p) = some (.slice (some bl) ml clp) ∧ (W.setCell ⟨g, p, Option.none⟩ v).cell? (bl.add k) = some (.int .i64 x)) := fun W v hW =>
                ⟨(KeptBut.set W (a := ⟨g, p, Option.none⟩) (B := g) rfl v).cellAt (HSf.out W hW).1 (by rw [add_block']; omega), (KeptBut.set W (a := ⟨g, p, Option.none⟩) (B := g) rfl v).cellAt (HSf.out W hW).2 (by rw [add_block']; omega)⟩
              have HF : Hid (∀ (w4 : World) (g4 cap4 : Nat), w4.ownsRow wv.heap.size 3 1 (.slice (some ⟨g4, 0, Option.none⟩) (mo + 1) cap4) (mo + 1) ((lo ++ [x]).map (Value.int .i64)) → Kept wv w4 →
                  OwnL (w4.setCell ⟨g, p, Option.none⟩ (.slice (some ⟨g4, 0, Option.none⟩) (mo + 1) cap4)) W2.heap.size (.slice (some ⟨g, 0, Option.none⟩) n cg) (midL C.vars ls G 3 i p (k + 1)) ∧ KeptBut g W3 (w4.setCell ⟨g, p, Option.none⟩ (.slice (some ⟨g4, 0, Option.none⟩) (mo + 1) cap4))) := by
                intro w4 g4 cap4 hown hk4
                obtain ⟨A9, c9, e9, hI9, hb9⟩ := Ints.of_own hown (fun z hz => by
                  rw [List.mem_append, List.mem_singleton] at hz
                  rcases hz with h | h
                  · exact HIo.out.rng z h
                  · subst h; exact ⟨hx1, hx2⟩)
                cases e9
                have h := (HOx.out.kept hk4).set (c := cap4) Hml2.out hpn hI9 (fun _ a ha => by have := hb9 a ha; omega)
                rw [← Hmid2.out] at h
                exact ⟨h, (HBx.out.then (KeptBut.of hk4 g)).then (KeptBut.set _ (a := ⟨g, p, Option.none⟩) rfl _)⟩
              obtain ⟨hcl9, hcx9⟩ := HSf.out wv (Kept.same _)
              have hla9 : al.block < wv.heap.size := by have := World.block_lt_of_cell? wv _ hcl9; rwa [add_block'] at this
              have hlb9 : bl.block < wv.heap.size := by have := World.block_lt_of_cell? wv _ hcx9; rwa [add_block'] at this
              rcases Nat.eq_zero_or_pos mo with hm0 | hm0
              · subst hm0
                have hlo0 : lo = [] := List.eq_nil_of_length_eq_zero HIo.out.len
                subst hlo0
                go_wp2_with fail
                go_region_law (first
                    | (refine step_append_zero (by rfl) _ _ (by rfl) _ _ _ _ rfl (by rfl) (by rfl) ?_)
                    | (refine step_append_lies _ (by rfl) _ _ _ (by rfl) wv.heap.size 3 i0 _ 1 8 Tryd.underlying22 hi hz0 hz1 hz2 rfl (by omega) (.slice (some ⟨wv.heap.size, 0, Option.none⟩) 0 0) 0 [] (by rfl) (own_empty ((Kept.box _ _).heapAt (heap_new wv.drew _)) (Nat.le_refl _)) ⟨wv.heap.size + 1, 0, Option.none⟩ 1 1 [.int .i64 x] (by rfl) (by rfl) (World.news_of_block (cs := #[.int .i64 x]) (t := 3) (fr := (0, 0)) (heap_new2 wv.drew _ _)) (by simp [Value.oneCell']) (by omega) (by unfold maxLen; omega) (by omega) (by first | (simp; done) | (simp; omega)) (wv.heap.size + 2) (by first | (simp; done) | (simp; omega)) ?_; intro g4 cap4 w4 hown4 hgrow4 hat4 hlt4; have HKp4 : Hid (Kept wv w4) := Kept.grown_own (((Kept.drewn wv).newBlock _).newBlock _) hgrow4 (by first | (simp; done) | (simp; omega)) (fun i hi => by simp [Value.ownBlock] at hi; omega); obtain ⟨⟨v4, hc4⟩, hf4⟩ := (HOx.out.kept HKp4.out).at Hml2.out p hpn)
                    | (refine step_append_lies _ (by rfl) _ _ _ (by rfl) wv.heap.size 3 i0 _ 1 8 Tryd.underlying22 hi hz0 hz1 hz2 rfl (by omega) (.slice (some ⟨wv.heap.size + 1, 0, Option.none⟩) 0 0) 0 [] (by rfl) (own_empty (heap_new2 wv.drew _ _) (Nat.le_succ _)) ⟨wv.heap.size, 0, Option.none⟩ 1 1 [.int .i64 x] (by rfl) (by rfl) (World.news_of_block (cs := #[.int .i64 x]) (t := 3) (fr := (0, 0)) ((Kept.box _ _).heapAt (heap_new wv.drew _))) (by simp [Value.oneCell']) (by omega) (by unfold maxLen; omega) (by omega) (by first | (simp; done) | (simp; omega)) (wv.heap.size + 2) (by first | (simp; done) | (simp; omega)) ?_; intro g4 cap4 w4 hown4 hgrow4 hat4 hlt4; have HKp4 : Hid (Kept wv w4) := Kept.grown_own (((Kept.drewn wv).newBlock _).newBlock _) hgrow4 (by first | (simp; done) | (simp; omega)) (fun i hi => by simp [Value.ownBlock] at hi; omega); obtain ⟨⟨v4, hc4⟩, hf4⟩ := (HOx.out.kept HKp4.out).at Hml2.out p hpn))
                all_goals go_wp2_with fail
                all_goals (
                  go_roundw
                  case rel =>
                    have h9 := HF.out w4 g4 cap4 (by simpa using hown4) HKp4.out
                    first | exact ⟨k + 1, by omega, by go_num, h9.1, h9.2⟩ | ((repeat apply Exists.intro); exact ⟨⟨k + 1, by omega, by go_num, h9.1, h9.2⟩, rfl⟩)
                  case measure => simp [intOf]; omega)
              · obtain ⟨bo, hbo, hbob⟩ := HIo.out.addr hm0
                subst hbo
                have Hnews : Hid (∀ W, Kept wv W → ∀ (j : Nat) (u : Value), (lo.map (Value.int .i64))[j]? = some u → W.cell? (bo.add j) = some u) := fun W hW j u hu => ints_news (HIo.out.kept hW) j u hu
                have Hnl : Hid ((lo.map (Value.int .i64)).length = mo * 1) := by show _ = _; rw [List.length_map, Nat.mul_one]; exact HIo.out.len
                have Hn1 : Hid (∀ u ∈ lo.map (Value.int .i64), u.oneCell' = true) := fun u hu => by
                  rw [List.mem_map] at hu
                  obtain ⟨_, _, rfl⟩ := hu
                  rfl
                go_wp2_with fail
                go_region_law (first
                    | (refine step_append_lies _ (by rfl) _ _ _ (by rfl) wv.heap.size 3 i0 _ 1 8 Tryd.underlying22 hi hz0 hz1 hz2 rfl (by omega) (.slice (some ⟨wv.heap.size, 0, Option.none⟩) 0 0) 0 [] (by rfl) (own_empty (heap_new wv.drew _) (Nat.le_refl _)) bo mo co (lo.map (Value.int .i64)) (by rfl) Hnl.out (Hnews.out _ ((Kept.drewn wv).newBlock _)) Hn1.out hm0 (by unfold maxLen; omega) (by omega) (by first | (simp; done) | (simp; omega)) (wv.heap.size + 1) (by first | (simp; done) | (simp; omega)) ?_; intro g3 cap3 w3 hown3 hgrow3 hat3 hlt3; have hown3' := hown3; rw [Nat.zero_add, List.nil_append] at hown3'; have HKp3 : Hid (Kept wv w3) := Kept.grown_own ((Kept.drewn wv).newBlock _) hgrow3 (by first | (simp; done) | (simp; omega)) (fun i hi => by simp [Value.ownBlock] at hi; omega); obtain ⟨hs3a, hs3b⟩ := HSf.out _ HKp3.out; have hl3a : al.block < w3.heap.size := (by have := HKp3.out.size; omega); have hl3b : bl.block < w3.heap.size := (by have := HKp3.out.size; omega))
                    | (refine step_append_lies _ (by rfl) _ _ _ (by rfl) wv.heap.size 3 i0 _ 1 8 Tryd.underlying22 hi hz0 hz1 hz2 rfl (by omega) (.slice (some ⟨wv.heap.size, 0, Option.none⟩) 0 0) 0 [] (by rfl) (own_empty ((Kept.box _ _).heapAt (heap_new wv.drew _)) (Nat.le_refl _)) bo mo co (lo.map (Value.int .i64)) (by rfl) Hnl.out (Hnews.out _ (((Kept.drewn wv).newBlock _).newBlock _)) Hn1.out hm0 (by unfold maxLen; omega) (by omega) (by first | (simp; done) | (simp; omega)) (wv.heap.size + 2) (by first | (simp; done) | (simp; omega)) ?_; intro g3 cap3 w3 hown3 hgrow3 hat3 hlt3; have hown3' := hown3; rw [Nat.zero_add, List.nil_append] at hown3'; have HKp3 : Hid (Kept wv w3) := Kept.grown_own (((Kept.drewn wv).newBlock _).newBlock _) hgrow3 (by first | (simp; done) | (simp; omega)) (fun i hi => by simp [Value.ownBlock] at hi; omega); obtain ⟨hs3a, hs3b⟩ := HSf.out _ HKp3.out; have hl3a : al.block < w3.heap.size := (by have := HKp3.out.size; omega); have hl3b : bl.block < w3.heap.size := (by have := HKp3.out.size; omega))
                    | (refine step_append_lies _ (by rfl) _ _ _ (by rfl) wv.heap.size 3 i0 _ 1 8 Tryd.underlying22 hi hz0 hz1 hz2 rfl (by omega) (.slice (some ⟨wv.heap.size + 1, 0, Option.none⟩) 0 0) 0 [] (by rfl) (own_empty (heap_new2 wv.drew _ _) (Nat.le_succ _)) bo mo co (lo.map (Value.int .i64)) (by rfl) Hnl.out (Hnews.out _ (((Kept.drewn wv).newBlock _).newBlock _)) Hn1.out hm0 (by unfold maxLen; omega) (by omega) (by first | (simp; done) | (simp; omega)) (wv.heap.size + 2) (by first | (simp; done) | (simp; omega)) ?_; intro g3 cap3 w3 hown3 hgrow3 hat3 hlt3; have hown3' := hown3; rw [Nat.zero_add, List.nil_append] at hown3'; have HKp3 : Hid (Kept wv w3) := Kept.grown_own (((Kept.drewn wv).newBlock _).newBlock _) hgrow3 (by first | (simp; done) | (simp; omega)) (fun i hi => by simp [Value.ownBlock] at hi; omega); obtain ⟨hs3a, hs3b⟩ := HSf.out _ HKp3.out; have hl3a : al.block < w3.heap.size := (by have := HKp3.out.size; omega); have hl3b : bl.block < w3.heap.size := (by have := HKp3.out.size; omega))
                    | (refine step_append_lies _ (by rfl) _ _ _ (by rfl) wv.heap.size 3 i0 _ 1 8 Tryd.underlying22 hi hz0 hz1 hz2 rfl (by omega) (.slice (some ⟨g3, 0, Option.none⟩) (0 + mo) cap3) (0 + mo) ([] ++ lo.map (Value.int .i64)) (by rfl) (hown3.alloc _) ⟨w3.heap.size, 0, Option.none⟩ 1 1 [.int .i64 x] (by rfl) (by rfl) (World.news_of_block (cs := #[.int .i64 x]) (t := 3) (fr := (0, 0)) (heap_new w3 _)) (by simp [Value.oneCell']) (by omega) (by unfold maxLen; omega) (by omega) (by have := HKp3.out.size; simp; omega) _ rfl ?_; intro g4 cap4 w4 hown4 hgrow4 hat4 hlt4; have HKp4 : Hid (Kept wv w4) := Kept.grown_own (HKp3.out.newBlock _) hgrow4 (by have := HKp3.out.size; simp; omega) (fun i hi => own_base hown3 i hi); obtain ⟨⟨v4, hc4⟩, hf4⟩ := (HOx.out.kept HKp4.out).at Hml2.out p hpn)
                    | (refine step_append_lies _ (by rfl) _ _ _ (by rfl) wv.heap.size 3 i0 _ 1 8 Tryd.underlying22 hi hz0 hz1 hz2 rfl (by omega) (.slice (some ⟨g3, 0, Option.none⟩) (0 + mo) cap3) (0 + mo) ([] ++ lo.map (Value.int .i64)) (by rfl) (hown3) ⟨wv.heap.size + 1, 0, Option.none⟩ 1 1 [.int .i64 x] (by rfl) (by rfl) (World.news_of_block (cs := #[.int .i64 x]) (t := 3) (fr := (0, 0)) (grown_at hgrow3 (heap_new2 wv.drew _ _) (by simp [Value.ownBlock]))) (by simp [Value.oneCell']) (by omega) (by unfold maxLen; omega) (by omega) (by have := HKp3.out.size; omega) _ rfl ?_; intro g4 cap4 w4 hown4 hgrow4 hat4 hlt4; have HKp4 : Hid (Kept wv w4) := Kept.grown_own (HKp3.out) hgrow4 (by have := HKp3.out.size; simp; omega) (fun i hi => own_base hown3 i hi); obtain ⟨⟨v4, hc4⟩, hf4⟩ := (HOx.out.kept HKp4.out).at Hml2.out p hpn)
                    | (refine step_append_lies _ (by rfl) _ _ _ (by rfl) wv.heap.size 3 i0 _ 1 8 Tryd.underlying22 hi hz0 hz1 hz2 rfl (by omega) (.slice (some ⟨g3, 0, Option.none⟩) (0 + mo) cap3) (0 + mo) ([] ++ lo.map (Value.int .i64)) (by rfl) (hown3) ⟨wv.heap.size, 0, Option.none⟩ 1 1 [.int .i64 x] (by rfl) (by rfl) (World.news_of_block (cs := #[.int .i64 x]) (t := 3) (fr := (0, 0)) (grown_at hgrow3 ((Kept.box _ _).heapAt (heap_new wv.drew _)) (by simp [Value.ownBlock]))) (by simp [Value.oneCell']) (by omega) (by unfold maxLen; omega) (by omega) (by have := HKp3.out.size; omega) _ rfl ?_; intro g4 cap4 w4 hown4 hgrow4 hat4 hlt4; have HKp4 : Hid (Kept wv w4) := Kept.grown_own (HKp3.out) hgrow4 (by have := HKp3.out.size; simp; omega) (fun i hi => own_base hown3 i hi); obtain ⟨⟨v4, hc4⟩, hf4⟩ := (HOx.out.kept HKp4.out).at Hml2.out p hpn)
                    | (refine step_append_lies _ (by rfl) _ _ _ (by rfl) wv.heap.size 3 i0 _ 1 8 Tryd.underlying22 hi hz0 hz1 hz2 rfl (by omega) (.slice (some ⟨g3, 0, Option.none⟩) mo cap3) mo (lo.map (Value.int .i64)) (by rfl) (hown3'.alloc _) ⟨w3.heap.size, 0, Option.none⟩ 1 1 [.int .i64 x] (by rfl) (by rfl) (World.news_of_block (cs := #[.int .i64 x]) (t := 3) (fr := (0, 0)) (heap_new w3 _)) (by simp [Value.oneCell']) (by omega) (by unfold maxLen; omega) (by omega) (by have := HKp3.out.size; simp; omega) _ rfl ?_; intro g4 cap4 w4 hown4 hgrow4 hat4 hlt4; have HKp4 : Hid (Kept wv w4) := Kept.grown_own (HKp3.out.newBlock _) hgrow4 (by have := HKp3.out.size; simp; omega) (fun i hi => own_base hown3 i hi); obtain ⟨⟨v4, hc4⟩, hf4⟩ := (HOx.out.kept HKp4.out).at Hml2.out p hpn)
                    | (refine step_append_lies _ (by rfl) _ _ _ (by rfl) wv.heap.size 3 i0 _ 1 8 Tryd.underlying22 hi hz0 hz1 hz2 rfl (by omega) (.slice (some ⟨g3, 0, Option.none⟩) mo cap3) mo (lo.map (Value.int .i64)) (by rfl) (hown3') ⟨wv.heap.size + 1, 0, Option.none⟩ 1 1 [.int .i64 x] (by rfl) (by rfl) (World.news_of_block (cs := #[.int .i64 x]) (t := 3) (fr := (0, 0)) (grown_at hgrow3 (heap_new2 wv.drew _ _) (by simp [Value.ownBlock]))) (by simp [Value.oneCell']) (by omega) (by unfold maxLen; omega) (by omega) (by have := HKp3.out.size; omega) _ rfl ?_; intro g4 cap4 w4 hown4 hgrow4 hat4 hlt4; have HKp4 : Hid (Kept wv w4) := Kept.grown_own (HKp3.out) hgrow4 (by have := HKp3.out.size; simp; omega) (fun i hi => own_base hown3 i hi); obtain ⟨⟨v4, hc4⟩, hf4⟩ := (HOx.out.kept HKp4.out).at Hml2.out p hpn)
                    | (refine step_append_lies _ (by rfl) _ _ _ (by rfl) wv.heap.size 3 i0 _ 1 8 Tryd.underlying22 hi hz0 hz1 hz2 rfl (by omega) (.slice (some ⟨g3, 0, Option.none⟩) mo cap3) mo (lo.map (Value.int .i64)) (by rfl) (hown3') ⟨wv.heap.size, 0, Option.none⟩ 1 1 [.int .i64 x] (by rfl) (by rfl) (World.news_of_block (cs := #[.int .i64 x]) (t := 3) (fr := (0, 0)) (grown_at hgrow3 ((Kept.box _ _).heapAt (heap_new wv.drew _)) (by simp [Value.ownBlock]))) (by simp [Value.oneCell']) (by omega) (by unfold maxLen; omega) (by omega) (by have := HKp3.out.size; omega) _ rfl ?_; intro g4 cap4 w4 hown4 hgrow4 hat4 hlt4; have HKp4 : Hid (Kept wv w4) := Kept.grown_own (HKp3.out) hgrow4 (by have := HKp3.out.size; simp; omega) (fun i hi => own_base hown3 i hi); obtain ⟨⟨v4, hc4⟩, hf4⟩ := (HOx.out.kept HKp4.out).at Hml2.out p hpn))
                all_goals go_wp2_with fail
                all_goals (
                  go_roundw
                  case rel =>
                    have h9 := HF.out w4 g4 cap4 (by simpa [List.map_append] using hown4) HKp4.out
                    first | exact ⟨k + 1, by omega, by go_num, h9.1, h9.2⟩ | ((repeat apply Exists.intro); exact ⟨⟨k + 1, by omega, by go_num, h9.1, h9.2⟩, rfl⟩)
                  case measure => simp [intOf]; omega)

          · have e : k = ml := by omega
            subst e
            have HOe : Hid (OwnL wz W2.heap.size (.slice (some ⟨g, 0, Option.none⟩) n cg) (fillU C.vars ls G 3 (i + 1))) := by
              show OwnL _ _ _ _
              rw [← midL_end (p := p) (k := k) Hv1.out (by rw [Hl.out]; exact Hlm.out)]
              exact HOz.out
            clear HOz
            go_wp2_with fail
            go_roundw
            case rel => exact ⟨i + 1, by omega, by go_num, HOe.out, Hkz.out⟩
            case measure => simp [intOf]; omega
      · have e : i = 3 := by omega
        subst e
        have Hfl : Hid ((fillU C.vars ls G 3 3).length = n) := by show _ = _; rw [fillU_length]; exact Hll.out
        have HLo := Lib.hid (HOi.out.lists Hfl.out (by omega))
        have HQ : Hid (∀ W, Kept wi W → Calls Tryd.prog 37 #[.slice A n c, .slice (some ⟨g, 0, Option.none⟩) n cg] W (DomsPost res W)) := fun W hW => by
          have h := rkeeps_any (fun i' x => ((fillU C.vars ls G 3 3).getD i' []).contains x) A (some ⟨g, 0, Option.none⟩) n c cg ds (fillU C.vars ls G 3 3) W (HS.out.kept (HKi.out.then hW)) (HLo.out.kept hW) Hm4.out (fun _ _ => rfl) hn
          rwa [Hres.out] at h
        clear b0 b1 b2 b3 b4 b5
        go_wp2_with fail
        refine (HQ.out _ (Kept.same _)).mono ?_
        rintro e W9 ⟨A9, c9, rfl, hD9, hk9⟩
        rw [Hsl.out] at hD9 ⊢
        have HD9 := Lib.hid hD9
        have HK9 := Lib.hid (HKi.out.then hk9)
        clear hD9 hk9
        go_wp2_with fail
        go_ret2
        exact ⟨A9, c9, by rw [Hsl.out]; rfl, by rw [Hsl.out]; exact HD9.out, HK9.out⟩
end Go.Proofs.YtjmegicopdbkdaaDoor

set_option maxHeartbeats 1000000
set_option maxRecDepth 10000
namespace Go.Proofs.YtjmegicopdbkdaaDoor
open Go Go.RowKit Pl

def C13 : ConB := ⟨2, [0, 1, 2], [], 0, 0, []⟩
def D13_0 : List DomB := [([2, 3], 3), ([0, 1, 2], 7), ([4], 1)]
def E13_0 : List DomB := [([2, 3], 1), ([0, 1, 2], 4), ([4], 1)]
theorem go13_0 : goK 2 C13 D13_0 = true := by decide +kernel
theorem res13_0 : stepB (varsKp (C13).vars (prodG C13 D13_0) (C13).vars.length) D13_0 = E13_0 := by decide +kernel
def D13_1 : List DomB := [([2, 3], 3), ([0, 1, 2], 7)]
theorem go13_1 : goK 2 C13 D13_1 = false := by decide +kernel
theorem step13_0 (A1 A : Option Addr) (c1 c : Nat) (w : World) (hC : ConIn w 2 0 0 A1 Option.none Option.none 3 c1 0 0 0 0 C13) (hS : Doms w A 3 D13_0) (hT : Tab w) :
    Calls Tryd.prog 13 #[.agg #[.int .i64 2, .slice A1 3 c1, .slice Option.none 0 0, .int .i64 0, .int .i64 0, .slice Option.none 0 0], .slice A 3 c] w (StepPost (some E13_0) w) := by
  have := prodstep_any 2 0 0 A1 Option.none Option.none 3 c1 0 0 0 0 C13 A 3 c D13_0 w hC hS hT (by decide)
  rwa [if_pos go13_0, res13_0] at this
theorem step13_1 (A1 A : Option Addr) (c1 c : Nat) (w : World) (hC : ConIn w 2 0 0 A1 Option.none Option.none 3 c1 0 0 0 0 C13) (hS : Doms w A 2 D13_1) (hT : Tab w) :
    Calls Tryd.prog 13 #[.agg #[.int .i64 2, .slice A1 3 c1, .slice Option.none 0 0, .int .i64 0, .int .i64 0, .slice Option.none 0 0], .slice A 2 c] w (StepPost (Option.none) w) := by
  have := prodstep_any 2 0 0 A1 Option.none Option.none 3 c1 0 0 0 0 C13 A 2 c D13_1 w hC hS hT (by decide)
  rwa [if_neg (by rw [go13_1]; decide)] at this

theorem awake13 (w : World) (hT : Tab w) : Calls Tryd.prog 11 #[] w fun e w' => e = .returned (.bool true) ∧ Kept w w' := by
  have HT := Lib.hid hT
  clear hT
  go_enter Tryd.func11, Tryd.ntmps11
  go_wp2_with fail
  have HF := fun k o h => (heap_allocs [.cells #[.int .i64 2, .int .i64 3] 3,
    .cells #[.int .i64 0, .int .i64 1, .int .i64 2] 3,
    .cells #[.int .i64 4] 3,
    .cells #[.slice (some ⟨w.heap.size, 0, Option.none⟩) 2 2, .int .u64 3] 47,
    .cells #[.slice (some ⟨w.heap.size + 1, 0, Option.none⟩) 3 3, .int .u64 7] 47,
    .cells #[.slice (some ⟨w.heap.size + 1 + 1, 0, Option.none⟩) 1 1, .int .u64 1] 47,
    .cells #[.int .i64 0, .int .i64 1, .int .i64 2] 3,
    .cells #[.int .i64 2, .slice (some ⟨w.heap.size + 1 + 1 + 1 + 1 + 1 + 1, 0, Option.none⟩) 3 3, .slice Option.none 0 0, .int .i64 0, .int .i64 0, .slice Option.none 0 0] 24,
    .cells #[.slice (some ⟨w.heap.size, 0, Option.none⟩) 2 2, .int .u64 3, .slice (some ⟨w.heap.size + 1, 0, Option.none⟩) 3 3, .int .u64 7, .slice (some ⟨w.heap.size + 1 + 1, 0, Option.none⟩) 1 1, .int .u64 1] 47] w k o h).1
  have F0 := HF 0 _ rfl
  have F1 := HF 1 _ rfl
  have F2 := HF 2 _ rfl
  have F3 := HF 3 _ rfl
  have F4 := HF 4 _ rfl
  have F5 := HF 5 _ rfl
  have F6 := HF 6 _ rfl
  have F7 := HF 7 _ rfl
  have F8 := HF 8 _ rfl
  have HKw := Lib.hid (heap_allocs.kept_allocs [.cells #[.int .i64 2, .int .i64 3] 3,
    .cells #[.int .i64 0, .int .i64 1, .int .i64 2] 3,
    .cells #[.int .i64 4] 3,
    .cells #[.slice (some ⟨w.heap.size, 0, Option.none⟩) 2 2, .int .u64 3] 47,
    .cells #[.slice (some ⟨w.heap.size + 1, 0, Option.none⟩) 3 3, .int .u64 7] 47,
    .cells #[.slice (some ⟨w.heap.size + 1 + 1, 0, Option.none⟩) 1 1, .int .u64 1] 47,
    .cells #[.int .i64 0, .int .i64 1, .int .i64 2] 3,
    .cells #[.int .i64 2, .slice (some ⟨w.heap.size + 1 + 1 + 1 + 1 + 1 + 1, 0, Option.none⟩) 3 3, .slice Option.none 0 0, .int .i64 0, .int .i64 0, .slice Option.none 0 0] 24,
    .cells #[.slice (some ⟨w.heap.size, 0, Option.none⟩) 2 2, .int .u64 3, .slice (some ⟨w.heap.size + 1, 0, Option.none⟩) 3 3, .int .u64 7, .slice (some ⟨w.heap.size + 1 + 1, 0, Option.none⟩) 1 1, .int .u64 1] 47] w)
  show Calls Tryd.prog 13 _ (allocs w [.cells #[.int .i64 2, .int .i64 3] 3,
    .cells #[.int .i64 0, .int .i64 1, .int .i64 2] 3,
    .cells #[.int .i64 4] 3,
    .cells #[.slice (some ⟨w.heap.size, 0, Option.none⟩) 2 2, .int .u64 3] 47,
    .cells #[.slice (some ⟨w.heap.size + 1, 0, Option.none⟩) 3 3, .int .u64 7] 47,
    .cells #[.slice (some ⟨w.heap.size + 1 + 1, 0, Option.none⟩) 1 1, .int .u64 1] 47,
    .cells #[.int .i64 0, .int .i64 1, .int .i64 2] 3,
    .cells #[.int .i64 2, .slice (some ⟨w.heap.size + 1 + 1 + 1 + 1 + 1 + 1, 0, Option.none⟩) 3 3, .slice Option.none 0 0, .int .i64 0, .int .i64 0, .slice Option.none 0 0] 24,
    .cells #[.slice (some ⟨w.heap.size, 0, Option.none⟩) 2 2, .int .u64 3, .slice (some ⟨w.heap.size + 1, 0, Option.none⟩) 3 3, .int .u64 7, .slice (some ⟨w.heap.size + 1 + 1, 0, Option.none⟩) 1 1, .int .u64 1] 47]) _
  generalize allocs w [.cells #[.int .i64 2, .int .i64 3] 3,
    .cells #[.int .i64 0, .int .i64 1, .int .i64 2] 3,
    .cells #[.int .i64 4] 3,
    .cells #[.slice (some ⟨w.heap.size, 0, Option.none⟩) 2 2, .int .u64 3] 47,
    .cells #[.slice (some ⟨w.heap.size + 1, 0, Option.none⟩) 3 3, .int .u64 7] 47,
    .cells #[.slice (some ⟨w.heap.size + 1 + 1, 0, Option.none⟩) 1 1, .int .u64 1] 47,
    .cells #[.int .i64 0, .int .i64 1, .int .i64 2] 3,
    .cells #[.int .i64 2, .slice (some ⟨w.heap.size + 1 + 1 + 1 + 1 + 1 + 1, 0, Option.none⟩) 3 3, .slice Option.none 0 0, .int .i64 0, .int .i64 0, .slice Option.none 0 0] 24,
    .cells #[.slice (some ⟨w.heap.size, 0, Option.none⟩) 2 2, .int .u64 3, .slice (some ⟨w.heap.size + 1, 0, Option.none⟩) 3 3, .int .u64 7, .slice (some ⟨w.heap.size + 1 + 1, 0, Option.none⟩) 1 1, .int .u64 1] 47] = W0 at *
  have I0 : Hid (Ints W0 (some ⟨w.heap.size, 0, Option.none⟩) 2 [2, 3]) := Ints.of_cells (xs := [2, 3]) F0 (by decide) (by decide) rfl
  have I1 : Hid (Ints W0 (some ⟨w.heap.size + 1, 0, Option.none⟩) 3 [0, 1, 2]) := Ints.of_cells (xs := [0, 1, 2]) F1 (by decide) (by decide) rfl
  have I2 : Hid (Ints W0 (some ⟨w.heap.size + 1 + 1, 0, Option.none⟩) 1 [4]) := Ints.of_cells (xs := [4]) F2 (by decide) (by decide) rfl
  have HC : Hid (ConIn W0 2 0 0 (some ⟨w.heap.size + 1 + 1 + 1 + 1 + 1 + 1, 0, Option.none⟩) Option.none Option.none 3 3 0 0 0 0 C13) :=
    ⟨rfl, rfl, rfl, Ints.of_cells (xs := [0, 1, 2]) F6 (by decide) (by decide) rfl, Ints.none _, Ints.none _, by decide, by decide, by decide, by decide, by decide⟩
  have HD0 : Hid (Doms W0 (some ⟨w.heap.size + 1 + 1 + 1 + 1 + 1 + 1 + 1 + 1, 0, Option.none⟩) 3 D13_0) := Doms.of_heap F8 rfl (by decide) (by decide) (fun j hj => by
    match j, hj with
    | 0, _ => exact ⟨_, _, _, rfl, rfl, I0.out⟩
    | 1, _ => exact ⟨_, _, _, rfl, rfl, I1.out⟩
    | 2, _ => exact ⟨_, _, _, rfl, rfl, I2.out⟩)
  have HB0 := Lib.hid F3
  have HB1 := Lib.hid F4
  have HB2 := Lib.hid F5
  have HBc := Lib.hid F7
  clear HF F0 F1 F2 F3 F4 F5 F6 F7 F8
  refine (step13_0 _ _ _ _ _ HC.out HD0.out (HT.out.kept HKw.out)).mono ?_
  rintro e W1 ⟨A0', c0', rfl, hD0, hk⟩
  have HW0 := Lib.hid hk
  have HR0 := Lib.hid hD0
  have h0 := HW0.out.heapAt HB0.out
  have a0_0 := cell_at h0 0
  have a0_1 := cell_at h0 1
  have h1 := HW0.out.heapAt HB1.out
  have a1_0 := cell_at h1 0
  have a1_1 := cell_at h1 1
  have hc := HW0.out.heapAt HBc.out
  have ac_0 := cell_at hc 0
  have ac_1 := cell_at hc 1
  have ac_2 := cell_at hc 2
  have ac_3 := cell_at hc 3
  have ac_4 := cell_at hc 4
  have ac_5 := cell_at hc 5
  simp only [List.getElem?_toArray, List.getElem?_cons_zero, List.getElem?_cons_succ] at a0_0 a0_1 a1_0 a1_1 ac_0 ac_1 ac_2 ac_3 ac_4 ac_5
  clear h0 h1 hc hk hD0
  have el0 : E13_0.length = 3 := rfl
  simp only [el0]
  go_wp2_with fail
  clear a0_0 a0_1 a1_0 a1_1 ac_0 ac_1 ac_2 ac_3 ac_4 ac_5
  refine (step13_1 _ _ _ _ _ (HC.out.kept (HW0.out.then (Kept.box _ _))) (Doms.of_heap (ds := D13_1) (heap_new _ _) rfl (by decide) (by decide) (fun j hj => by
    match j, hj with
    | 0, _ => exact ⟨_, _, _, rfl, rfl, I0.out.kept (HW0.out.then (Kept.box _ _))⟩
    | 1, _ => exact ⟨_, _, _, rfl, rfl, I1.out.kept (HW0.out.then (Kept.box _ _))⟩)) (HT.out.kept (HKw.out.then (HW0.out.then (Kept.box _ _))))).mono ?_
  rintro e W2 ⟨rfl, hk⟩
  have HW1 := Lib.hid (HW0.out.then ((Kept.box _ _).then hk))
  have HR0 := Lib.hid (HR0.out.kept ((Kept.box _ _).then hk))
  obtain ⟨b0, off0, hb0, hcc0⟩ := HR0.out.plain (by decide)
  subst hb0
  have q0_0 := hcc0 0 (by decide)
  have e0_0 : ((E13_0.getD 0 nilD).2 : Nat) = 1 := by decide
  rw [e0_0] at q0_0
  clear e0_0
  have q0_1 := hcc0 1 (by decide)
  have e0_1 : ((E13_0.getD 1 nilD).2 : Nat) = 4 := by decide
  rw [e0_1] at q0_1
  clear e0_1
  have q0_2 := hcc0 2 (by decide)
  have e0_2 : ((E13_0.getD 2 nilD).2 : Nat) = 1 := by decide
  rw [e0_2] at q0_2
  clear e0_2
  clear hcc0
  have HKe := Lib.hid (HKw.out.then HW1.out)
  clear hk
  go_wp2_with fail
  go_ret
  exact ⟨rfl, HKe.out⟩
end Go.Proofs.YtjmegicopdbkdaaDoor

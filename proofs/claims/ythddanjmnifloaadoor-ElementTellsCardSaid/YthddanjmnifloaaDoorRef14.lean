/-
  Contracts of the document's answer for elements: Step.
-/
import Derived.Test.YthddanjmnifloaaDoorRKeep
import Derived.Test.YthddanjmnifloaaDoorRef12
import Derived.Test.YthddanjmnifloaaDoorLaw14O
set_option maxHeartbeats 1000000
set_option maxRecDepth 10000
namespace Go.Proofs.YthddanjmnifloaaDoor
open Go Go.RowKit Pl

theorem right_go {C : ConB} {ds : List DomB} : (decide (C.kind = 4) && allMay ds && rightB C ds.length) = elemGo C ds := by
  unfold elemGo
  by_cases hk : C.kind = 4
  · rw [decide_eq_true hk]
    have e : rightB C ds.length = elemB C ds.length := by
      rw [Bool.eq_iff_iff]
      refine ⟨right_elemB hk, fun h => ?_⟩
      unfold rightB
      unfold elemB variablesB bareB at h
      unfold plainR
      simp only [hk]
      simp at h ⊢
      obtain ⟨⟨⟨h1, h2⟩, h3⟩, ⟨⟨⟨⟨h4, h5⟩, h6⟩, h7⟩, h8⟩, h9⟩ := h
      exact ⟨h3, ⟨⟨⟨⟨h4, h5⟩, h6⟩, h9⟩, by omega⟩, by omega, by omega⟩
    rw [e]
    cases allMay ds <;> simp
  · rw [decide_eq_false hk]; simp

theorem LL.row {w : World} {a : Addr} {n : Nat} {ls : List (List Int)} (h : LL w (some a) n ls) (hn : 0 < n) :
    ∃ vs : List Value, vs.length = n * 1 ∧ (∀ j u, vs[j]? = some u → w.cell? (a.add j) = some u) ∧ (∀ u ∈ vs, u.oneCell' = true) ∧
      ∀ j, j < n → ∃ B m c, vs[j]? = some (.slice B m c) ∧ Ints w B m (ls.getD j []) := by
  obtain ⟨b, e, hc⟩ := h.cell hn
  cases e
  refine ⟨(List.range n).map fun i => (w.cell? (a.add i)).getD undef, by simp, ?_, ?_, ?_⟩
  · intro j u hu
    rw [List.getElem?_map] at hu
    by_cases hj : j < n
    · rw [List.getElem?_range hj] at hu
      simp only [Option.map_some, Option.some.injEq] at hu
      obtain ⟨B, m, c, h1, _⟩ := hc j hj
      rw [h1] at hu ⊢; simpa using hu
    · rw [List.getElem?_eq_none (by simp; omega)] at hu
      simp at hu
  · intro u hu
    rw [List.mem_map] at hu
    obtain ⟨j, hj, rfl⟩ := hu
    obtain ⟨B, m, c, h1, _⟩ := hc j (List.mem_range.1 hj)
    rw [h1]; rfl
  · intro j hj
    obtain ⟨B, m, c, h1, h3⟩ := hc j hj
    exact ⟨B, m, c, by rw [List.getElem?_map, List.getElem?_range hj]; simp [h1], h3⟩

theorem any_snoc (f : Int → Bool) (l : List Int) (v : Int) : (l ++ [v]).any f = (l.any f || f v) := by rw [List.any_append]; simp

theorem keptBut_grown {B : Nat} {w0 w w2 : World} (h : KeptBut B w0 w) (o : Obj) {r : Option Nat} (hg : (w.alloc o).grownBy w2 r) (hr : ∀ i, r = some i → i = B ∨ w0.heap.size ≤ i) : KeptBut B w0 w2 := by
  have h1 := h.then (KeptBut.of (Kept.box w o) B)
  exact ⟨hg.os.trans h1.os, hg.tape.trans h1.tape, hg.output.trans h1.output, Nat.le_trans h1.size hg.size, fun k hk hB =>
    (hg.block k (Nat.lt_of_lt_of_le hk h1.size) (fun e => by rcases hr k e.symm with h | h <;> omega)).trans (h1.block k hk hB)⟩

theorem atE_of {nums : List Int} {p v : Int} (h : atE nums p v = true) : 0 ≤ p ∧ p < nums.length ∧ nums.getD p.toNat 0 = v := by
  unfold atE at h
  simp only [Bool.and_eq_true, decide_eq_true_eq] at h
  exact ⟨h.1.1, h.1.2, h.2⟩
theorem isE_any (nums vals : List Int) (x : Int) : isE nums vals x = vals.any (fun y => atE nums x y) := by
  rw [Bool.eq_iff_iff, List.any_eq_true]
  unfold isE atE
  simp only [Bool.and_eq_true, decide_eq_true_eq, List.contains_iff_mem]
  constructor
  · rintro ⟨⟨h1, h2⟩, h3⟩; exact ⟨_, h3, ⟨h1, h2⟩, rfl⟩
  · rintro ⟨y, hy, ⟨h1, h2⟩, rfl⟩; exact ⟨⟨h1, h2⟩, hy⟩
theorem cntE_any (nums vals l : List Int) {x : Int} (hx : x ∈ vals) : decide (0 < cntE nums vals l x) = l.any (fun y => atE nums y x) := by
  rw [Bool.eq_iff_iff, List.any_eq_true, decide_eq_true_eq, cntE_pos]
  constructor
  · rintro ⟨i, hi, h1, h2⟩
    refine ⟨i, hi, ?_⟩
    unfold isE at h1
    simp only [Bool.and_eq_true, decide_eq_true_eq] at h1
    unfold atE
    simp only [Bool.and_eq_true, decide_eq_true_eq]
    exact ⟨h1.1, h2⟩
  · rintro ⟨i, hi, h⟩
    obtain ⟨h1, h2, h3⟩ := atE_of h
    refine ⟨i, hi, ?_, h3⟩
    unfold isE
    simp only [Bool.and_eq_true, decide_eq_true_eq, List.contains_iff_mem]
    exact ⟨⟨h1, h2⟩, by rw [h3]; exact hx⟩
theorem getD_set2 {α : Type} (l : List α) (i j : Nat) (v d : α) (hi : i < l.length) : (l.set i v).getD j d = if j = i then v else l.getD j d := by
  by_cases e : j = i
  · subst e; rw [if_pos rfl]; simp [List.getD_eq_getElem?_getD, hi]
  · rw [if_neg e]; simp only [List.getD_eq_getElem?_getD, List.getElem?_set_ne (fun h => e h.symm)]
/-- The lists that the document's step keeps by are what a step keeps. -/
theorem lists_elemKp {C : ConB} {ds : List DomB} {p q : Nat} {fa fb : Int → Bool} (hp : C.vars.getD 0 0 = (p : Nat)) (hq : C.vars.getD 1 0 = (q : Nat)) (hpn : p < ds.length) (hqn : q < ds.length) (hne : p ≠ q)
    (hfa : ∀ x, fa x = ((listsOf ds).getD q []).any fun y => atE C.nums x y) (hfb : ∀ x, fb x = ((listsOf ds).getD p []).any fun y => atE C.nums y x)
    (i : Nat) (hi : i < ds.length) (v : Int) (hv : v ∈ listB (ds.getD i nilD).1 (ds.getD i nilD).2) :
    ((((listsOf ds).set p (((listsOf ds).getD p []).filter fa)).set q (((listsOf ds).getD q []).filter fb)).getD i []).contains v = elemKp C ds i v := by
  have hl : (listsOf ds).length = ds.length := by unfold listsOf; simp
  rw [getD_set2 _ _ _ _ _ (by rw [List.length_set]; omega), getD_set2 _ _ _ _ _ (by omega)]
  unfold elemKp
  rw [hp, hq, Int.toNat_natCast, Int.toNat_natCast]
  rw [listsOf_getD ds hqn] at hfa
  rw [listsOf_getD ds hpn] at hfb
  rw [listsOf_getD ds hi, listsOf_getD ds hpn, listsOf_getD ds hqn]
  by_cases e : i = q
  · subst e
    rw [if_pos rfl, if_neg (fun h => hne h.symm), if_pos rfl, cntE_any _ _ _ hv, ← hfb, Bool.eq_iff_iff, List.contains_iff_mem, List.mem_filter]
    exact ⟨fun h => h.2, fun h => ⟨hv, h⟩⟩
  · rw [if_neg e]
    by_cases e2 : i = p
    · subst e2
      rw [if_pos rfl, if_pos rfl, isE_any, ← hfa, Bool.eq_iff_iff, List.contains_iff_mem, List.mem_filter]
      exact ⟨fun h => h.2, fun h => ⟨hv, h⟩⟩
    · rw [if_neg e2, if_neg e2, if_neg e, Bool.eq_iff_iff, List.contains_iff_mem]
      exact ⟨fun _ => rfl, fun _ => hv⟩

theorem rstep14_any (K R Ct : Int) (A1 A2 A3 : Option Addr) (n1 c1 n2 c2 n3 c3 : Nat) (C : ConB) (A : Option Addr) (n c : Nat) (ds : List DomB) (w : World) (hC : ConIn w K R Ct A1 A2 A3 n1 c1 n2 c2 n3 c3 C) (hS : Doms w A n ds) (hn : n ≤ 1000) :
    Calls Tryd.prog 31 #[.agg #[.int .i64 K, .slice A1 n1 c1, .slice A2 n2 c2, .int .i64 R, .int .i64 Ct, .slice A3 n3 c3], .slice A n c] w (StepPost (if elemGo C ds = true then some (stepB (elemKp C ds) ds) else Option.none) w) := by
  obtain ⟨i0, hi, hz0, hz1, hz2⟩ := info_parts info_int
  obtain ⟨j0, hj, hy0, hy1, hy2⟩ := info_parts info_ints
  have HC := Lib.hid hC
  have HS := Lib.hid hS
  have Hlen := Lib.hid hS.len
  have Hl3 := Lib.hid hC.nums.len
  have hs3 := hC.nums.small
  clear hC hS
  have HB : Hid (∀ wr, Kept (w.alloc (.cells #[.int .i64 K, .slice A1 n1 c1, .slice A2 n2 c2, .int .i64 R, .int .i64 Ct, .slice A3 n3 c3] 37)) wr → wr.heap[w.heap.size]? = some (.cells #[.int .i64 K, .slice A1 n1 c1, .slice A2 n2 c2, .int .i64 R, .int .i64 Ct, .slice A3 n3 c3] 37)) := fun wr h => h.heapAt (heap_new _ _)
  have Hb : Hid ((decide (C.kind = 4) && allMay ds && rightB C n) = elemGo C ds) := by show _ = _; rw [← Hlen.out]; exact right_go
  have HR : Hid (∀ (b : Bool), elemGo C ds = b → ∀ (O : Nat) (W : World), Kept w W → W.heap[O]? = some (.cells #[.int .i64 4] 3) → Calls Tryd.prog 57 #[.agg #[.int .i64 K, .slice A1 n1 c1, .slice A2 n2 c2, .int .i64 R, .int .i64 Ct, .slice A3 n3 c3], .slice A n c, .slice (some ⟨O, 0, Option.none⟩) 1 1] W fun e w' => e = .returned (.bool b) ∧ Kept W w') := fun b hb O W hW hO => by
    have := rright12_any K R Ct A1 A2 A3 n1 c1 n2 c2 n3 c3 C 4 O A n c ds W (HC.out.kept hW) (HS.out.kept hW) hO
    rwa [Hb.out, hb] at this
  by_cases hg : ¬ elemGo C ds = true
  · rw [if_neg hg]
    have HR2 := Lib.hid (HR.out false (by simpa using hg))
    clear Hb HR
    go_enter Tryd.func31, Tryd.ntmps31
    go_wp2_with fail
    refine (HR2.out _ _ ((Kept.box _ _).newBlock _) (heap_new2 _ _ _)).mono ?_
    rintro e W1 ⟨rfl, hk1⟩
    have HK1 := Lib.hid (((Kept.box _ _).newBlock _).then hk1)
    clear hk1
    go_wp2_with fail
    go_ret2
    exact ⟨rfl, HK1.out⟩
  · have hg := Classical.not_not.1 hg
    rw [if_pos hg]
    have HR2 := Lib.hid (HR.out true hg)
    obtain ⟨hk4, hB4, hm4⟩ := elemGo_parts hg
    have Hm4 := Lib.hid hm4
    obtain ⟨hvl, hp, hq, hpq⟩ := elemB_vars hB4
    obtain ⟨p, hpe⟩ := Int.eq_ofNat_of_zero_le hp.1
    obtain ⟨q, hqe⟩ := Int.eq_ofNat_of_zero_le hq.1
    have Hp := Lib.hid hpe
    have Hq := Lib.hid hqe
    have hpn : p < n := by have := hp.2; have := Hlen.out; omega
    have hqn : q < n := by have := hq.2; have := Hlen.out; omega
    have hne : p ≠ q := by intro e; apply hpq; rw [hpe, hqe, e]
    have hn1 : n1 = 2 := by have := HC.out.vars.len; omega
    subst hn1
    have Hvl := Lib.hid hvl
    have Hres : Hid (∀ kq : Nat → Int → Bool, (∀ i, i < n → ∀ v ∈ listB (ds.getD i nilD).1 (ds.getD i nilD).2, kq i v = elemKp C ds i v) → stepB kq ds = stepB (elemKp C ds) ds) := fun kq h => stepB_congr hm4 (fun i hi => h i (by have := Hlen.out; omega))
    have Hsl : Hid ((stepB (elemKp C ds) ds).length = n) := by show _ = _; rw [stepB_length]; exact Hlen.out
    clear Hb HR hvl hp hq hpq hpe hqe hk4 hB4 hm4 hg
    generalize hRes : stepB (elemKp C ds) ds = res at Hsl Hres ⊢
    clear hRes
    go_enter Tryd.func31, Tryd.ntmps31
    go_wp2_with fail
    refine (HR2.out _ _ ((Kept.box _ _).newBlock _) (heap_new2 _ _ _)).mono ?_
    rintro e W1 ⟨rfl, hk1⟩
    have HK1 := Lib.hid (((Kept.box _ _).newBlock _).then hk1)
    have Hk1 := Lib.hid ((Kept.box _ _).then hk1)
    clear hk1 HR2
    go_wp2_with fail
    refine (rlists_any A n c ds W1 (HS.out.kept HK1.out) hn).mono ?_
    have Hll : Hid ((listsOf ds).length = n) := by show _ = _; unfold listsOf; rw [List.length_map]; exact Hlen.out
    rintro e W2 ⟨Al, cl, rfl, hLL, hk2⟩
    rw [Hll.out] at hLL ⊢
    have HLL := Lib.hid hLL
    have HK2 := Lib.hid (HK1.out.then hk2)
    have Hk2 := Lib.hid (Hk1.out.then hk2)
    obtain ⟨al, la, Ba, ma, ca, rfl, hbal, Hla, hcp, HIa⟩ := hLL.named p hpn
    obtain ⟨al', lb, Bb, mb, cb, e2, _, Hlb, hcq, HIb⟩ := hLL.named q hqn
    cases e2
    have Hmla := Lib.hid HIa.out.len
    have Hmlb := Lib.hid HIb.out.len
    have hma64 : ma ≤ 64 := by
      have h1 := listB_length (ds.getD p nilD).1 (ds.getD p nilD).2
      rw [← listsOf_getD ds (by have := Hlen.out; omega), Hla.out, Hmla.out] at h1
      exact h1
    have hmb64 : mb ≤ 64 := by
      have h1 := listB_length (ds.getD q nilD).1 (ds.getD q nilD).2
      rw [← listsOf_getD ds (by have := Hlen.out; omega), Hlb.out, Hmlb.out] at h1
      exact h1
    obtain ⟨Gfa, hGfa⟩ : ∃ Gfa : Int → Int → Bool, ∀ x y, Gfa x y = atE C.nums x y := ⟨_, fun _ _ => rfl⟩
    have HGfa := Lib.hid hGfa
    obtain ⟨fa, hfa⟩ : ∃ fa : Int → Bool, ∀ x, fa x = lb.any (Gfa x) := ⟨_, fun _ => rfl⟩
    have Hfa := Lib.hid hfa
    clear hGfa hfa
    obtain ⟨bv, ov, rfl, hcv⟩ := (HC.out.vars.kept HK2.out).plain (by omega)
    have hv0 := hcv 0 (by have := Hvl.out; omega)
    have hv1 := hcv 1 (by have := Hvl.out; omega)
    rw [Hp.out] at hv0
    rw [Hq.out] at hv1
    simp only [Nat.add_zero] at hv0
    have hb := HB.out W2 Hk2.out
    have b0 := cell_at hb 0
    have b1 := cell_at hb 1
    have b2 := cell_at hb 2
    have b3 := cell_at hb 3
    have b4 := cell_at hb 4
    have b5 := cell_at hb 5
    simp only [List.getElem?_toArray, List.getElem?_cons_zero, List.getElem?_cons_succ] at b0 b1 b2 b3 b4 b5
    clear hb
    clear hLL hk2 hcv
    go_wp2_with fail
    clear b0 b1 b2 b3 b4 b5 hcp hcq hv0 hv1
    have HKW := Lib.hid ((Kept.box W2 (.cells #[] 3)).newBlock (.cells #[] 3))
    have HE9 : Hid (((W2.alloc (.cells #[] 3)).alloc (.cells #[] 3)).ownsRow W2.heap.size 3 1 (.slice (some ⟨W2.heap.size, 0, Option.none⟩) 0 0) 0 []) := own_empty ((Kept.box _ _).heapAt (heap_new _ _)) (Nat.le_refl _)
    have HE10 : Hid (((W2.alloc (.cells #[] 3)).alloc (.cells #[] 3)).heap[W2.heap.size + 1]? = some (.cells #[] 3)) := heap_new2 _ _ _
    have hs3W : Hid (((W2.alloc (.cells #[] 3)).alloc (.cells #[] 3)).heap.size = W2.heap.size + 2) := by show _ = _; simp
    generalize (W2.alloc (.cells #[] 3)).alloc (.cells #[] 3) = W3 at *
    have hs3w := hs3W.out
    have HKW9 : Hid (∀ wr, KeptBut W2.heap.size W3 wr → Kept W2 wr) := fun wr h => ((KeptBut.of HKW.out W2.heap.size).then h).kept (Nat.le_refl _)
    go_loopw [9, 11] (fun u v wr => ∃ k : Nat, k ≤ ma ∧ v = .int .i64 k ∧ wr.ownsRow W2.heap.size 3 1 u ((la.take k).filter fa).length (((la.take k).filter fa).map (Value.int .i64)) ∧ Hid (KeptBut (W2.heap.size) W3 wr) ∧ Hid (∀ i, u.ownBlock = some i → i = W2.heap.size ∨ W3.heap.size ≤ i)) (fun _ v _ => ma - (intOf v).toNat)
    case atStart => exact ⟨0, Nat.zero_le _, rfl, HE9.out, KeptBut.refl _ _, fun i hi => Or.inl (by simpa [Value.ownBlock] using hi.symm)⟩
    case round =>
      obtain ⟨k, hk, rfl, hown, Hkw, Hown⟩ := hrel
      by_cases hlt : k < ma
      · have Hbase := Lib.hid (HKW9.out _ Hkw.out)
        have hSa := HIa.out.kept Hbase.out
        obtain ⟨aa, rfl, hbaa⟩ := hSa.addr (by omega)
        obtain ⟨x, Hx, hcx, hx1, hx2⟩ := hSa.named k hlt
        have Htake : Hid (la.take (k + 1) = la.take k ++ [x]) := take_succ_getD (by have := Hmla.out; omega) Hx.out
        have Hfl : Hid (((la.take k).filter fa).length ≤ k) := Nat.le_trans (List.length_filter_le _ _) (by rw [List.length_take]; omega)
        have Hin : Hid ((la.take (k + 1)).filter fa = (la.take k).filter fa ++ (if fa x = true then [x] else [])) := by
          show _ = _
          rw [Htake.out, List.filter_append]
          congr 1
          cases h : fa x <;> simp [h]
        have hszr := Hkw.out.size
        have Hown2 := Lib.hid hown
        clear hSa hown
        have hfl := Hfl.out
        generalize (la.take k).filter fa = ys at *
        go_wp2_with fail
        clear hcx hbaa
        go_loopw [12, 13] (fun u v wq => ∃ j : Nat, j ≤ mb ∧ v = .int .i64 j ∧ u = .bool ((lb.take j).any (Gfa x)) ∧ Hid (Kept wr wq)) (fun _ v _ => mb - (intOf v).toNat)
        case atStart => exact ⟨0, Nat.zero_le _, rfl, rfl, Kept.same _⟩
        case round =>
          obtain ⟨j, hjj, rfl, rfl, Hkq⟩ := hrel
          have HbQ := Lib.hid (Hbase.out.then Hkq.out)
          have hb := HB.out wr (Hk2.out.then HbQ.out)
          have b0 := cell_at hb 0
          have b1 := cell_at hb 1
          have b2 := cell_at hb 2
          have b3 := cell_at hb 3
          have b4 := cell_at hb 4
          have b5 := cell_at hb 5
          simp only [List.getElem?_toArray, List.getElem?_cons_zero, List.getElem?_cons_succ] at b0 b1 b2 b3 b4 b5
          clear hb
          have hlb : w.heap.size < wr.heap.size := World.block_lt_of_cell? wr _ b0
          by_cases hlt2 : j < mb
          · have hSb := HIb.out.kept HbQ.out
            obtain ⟨ab, rfl, hbab⟩ := hSb.addr (by omega)
            obtain ⟨y, Hy, hcy, _, _⟩ := hSb.named j hlt2
            have hSa := HIa.out.kept HbQ.out
            obtain ⟨x', Hx', hcx, _, _⟩ := hSa.named k hlt
            have ex : x' = x := Hx'.out.symm.trans Hx.out
            subst ex
            have hbaa := hSa.block (by omega)
            have Hs : Hid ((lb.take (j + 1)).any (Gfa x') = ((lb.take j).any (Gfa x') || Gfa x' y)) := by
              show _ = _
              rw [take_succ_getD (by have := Hmlb.out; omega) Hy.out]; exact any_snoc _ _ _
            have HQ : Hid (∀ W, Kept wr W → Calls Tryd.prog 59 #[.slice A3 n3 c3, .int .i64 x', .int .i64 y] W fun e w' => e = .returned (.bool (Gfa x' y)) ∧ Kept W w') := fun W hW => by
              have := rat_any A3 n3 c3 C.nums x' y W (HC.out.nums.kept (HK2.out.then (HbQ.out.then hW)))
              rw [show atE C.nums x' y = Gfa x' y from (HGfa.out x' y).symm] at this
              exact this.mono fun _ _ ⟨he, hw⟩ => ⟨he, hw ▸ Kept.same _⟩
            clear hSa hSb
            generalize Gfa x' y = g at HQ Hs
            generalize (lb.take j).any (Gfa x') = q1 at *
            cases q1 with
            | true =>
              go_wp2_with fail
              refine wp_region_quiet_below (by kernel_rfl) (by kernel_rfl) ?_
              repeat (any_goals (first | go_big_quiet_step (((go_at_call 59; exact Calls.regrown_of (HQ.out _ (below_regrown _ _ _))))) | quiet_step (((go_at_call 59; exact Calls.regrown_of (HQ.out _ (below_regrown _ _ _))))) | (refine wpQuiet_step (fun K hK => ?_); go_simp; split <;> (refine hK _ ?_; clear hK K))))
              all_goals (refine wpQuiet_nil ?_; intro w1 hw'; replace hw' := Kept.regrown hw')
              all_goals try (exfalso; omega)
              have Hk9 := Lib.hid (Hkq.out.then hw')
              clear hw' b0 b1 b2 b3 b4 b5
              go_wp2_with fail
              go_roundw
              case rel => exact ⟨j + 1, by omega, by go_num, by rw [Hs.out]; simp, Hk9.out⟩
              case measure => simp [intOf]; omega
            | false =>
              go_wp2_with fail
              refine wp_region_quiet_below (by kernel_rfl) (by kernel_rfl) ?_
              repeat (any_goals (first | go_big_quiet_step (((go_at_call 59; exact Calls.regrown_of (HQ.out _ (below_regrown _ _ _))))) | quiet_step (((go_at_call 59; exact Calls.regrown_of (HQ.out _ (below_regrown _ _ _))))) | (refine wpQuiet_step (fun K hK => ?_); go_simp; split <;> (refine hK _ ?_; clear hK K))))
              all_goals (refine wpQuiet_nil ?_; intro w1 hw'; replace hw' := Kept.regrown hw')
              all_goals try (exfalso; omega)
              have Hk9 := Lib.hid (Hkq.out.then hw')
              clear hw' b0 b1 b2 b3 b4 b5
              go_wp2_with fail
              go_roundw
              case rel => exact ⟨j + 1, by omega, by go_num, by rw [Hs.out]; simp, Hk9.out⟩
              case measure => simp [intOf]; omega
          · have e : j = mb := by omega
            subst e
            rw [List.take_of_length_le (by have := Hmlb.out; omega)]
            have Hfx : Hid (lb.any (Gfa x) = fa x) := (Hfa.out x).symm
            rw [Hfx.out]
            have hSa := HIa.out.kept HbQ.out
            obtain ⟨x', Hx', hcx, _, _⟩ := hSa.named k hlt
            have ex : x' = x := Hx'.out.symm.trans Hx.out
            subst ex
            have hbaa := hSa.block (by omega)
            have HownQ := Lib.hid (own_kept Hown2.out Hkq.out)
            have hszq := Hkq.out.size
            have HkQ : Hid (KeptBut (W2.heap.size) W3 wr) := Hkw.out.then (KeptBut.of Hkq.out _)
            clear hSa
            generalize fa x' = q2 at *
            cases q2 with
            | true =>
              clear b0 b1 b2 b3 b4 b5
              go_wp2_with (at_builtin; refine wpList_append_own_at _ rfl _ _ 23 rfl W2.heap.size 3 i0 (.int .i64 0) 1 8 Tryd.underlying23 hi hz0 hz1 hz2 rfl (by decide) _ _ _ rfl (HownQ.out.alloc _) ⟨wr.heap.size, 0, none⟩ 1 1 [.int .i64 x'] rfl rfl (cell_one_new _ _ _) (by simp [Value.oneCell']) (by unfold maxLen; omega) (by omega) (by simp; omega) ?_; intro v' w2 hown' hgrow _ hloc)
              go_roundw
              case rel =>
                refine ⟨k + 1, by omega, by go_num, by rw [Hin.out]; simpa using hown', ?_, ?_⟩
                · exact keptBut_grown HkQ.out _ hgrow (fun i hi => Hown.out i hi)
                · intro i hi
                  rcases hloc with h | h
                  · exact Hown.out i (h ▸ hi)
                  · rw [h] at hi; simp at hi; right; omega
              case measure => simp [intOf]; omega
            | false =>
              clear b0 b1 b2 b3 b4 b5
              go_wp2_with fail
              go_roundw
              case rel => exact ⟨k + 1, by omega, by go_num, by rw [Hin.out]; simpa using HownQ.out, HkQ.out, Hown.out⟩
              case measure => simp [intOf]; omega
      · have e : k = ma := by omega
        clear hlt
        rw [List.take_of_length_le (by have := Hmla.out; omega)] at hown
        obtain ⟨A9, c9, rfl, hI9, _⟩ := Ints.of_own hown (fun x hx => HIa.out.rng x (List.mem_filter.1 hx).1)
        obtain ⟨WA, hWA⟩ : ∃ WA : World, WA = wr := ⟨_, rfl⟩
        subst hWA
        have HKA := Lib.hid (HKW9.out _ Hkw.out)
        have HI9 := Lib.hid hI9
        have Hown9 := Lib.hid Hown.out
        have HE10 : Hid (WA.ownsRow W2.heap.size 3 1 (.slice (some ⟨W2.heap.size + 1, 0, Option.none⟩) 0 0) 0 []) := own_empty (Hkw.out.heapAt HE10.out (by omega)) (by omega)
        have hsA := Hkw.out.size
        have HKW10 : Hid (∀ wr, KeptBut (W2.heap.size + 1) WA wr → Kept W2 wr) := fun wr h => ((KeptBut.of HKA.out (W2.heap.size + 1)).then h).kept (by omega)
        have HlA : Hid (∀ i, Value.ownBlock (.slice A9 ((la.filter fa).length) c9) = some i → i < WA.heap.size) := fun i hi => (hown.lt i hi).2
        obtain ⟨Gfb, hGfb⟩ : ∃ Gfb : Int → Int → Bool, ∀ x y, Gfb x y = atE C.nums y x := ⟨_, fun _ _ => rfl⟩
        have HGfb := Lib.hid hGfb
        obtain ⟨fb, hfb⟩ : ∃ fb : Int → Bool, ∀ x, fb x = la.any (Gfb x) := ⟨_, fun _ => rfl⟩
        have Hfb := Lib.hid hfb
        clear hGfb hfb hI9 hown
        generalize hfl9 : (la.filter fa) = l9 at *
        have Hfl9 := Lib.hid hfl9
        clear hfl9
        generalize hm9 : l9.length = m9 at *
        clear hm9
        go_wp2_with fail
        go_loopw [10, 14] (fun u v wr => ∃ k : Nat, k ≤ mb ∧ v = .int .i64 k ∧ wr.ownsRow W2.heap.size 3 1 u ((lb.take k).filter fb).length (((lb.take k).filter fb).map (Value.int .i64)) ∧ Hid (KeptBut (W2.heap.size + 1) WA wr) ∧ Hid (∀ i, u.ownBlock = some i → i = W2.heap.size + 1 ∨ WA.heap.size ≤ i)) (fun _ v _ => mb - (intOf v).toNat)
        case atStart => exact ⟨0, Nat.zero_le _, rfl, HE10.out, KeptBut.refl _ _, fun i hi => Or.inl (by simpa [Value.ownBlock] using hi.symm)⟩
        case round =>
          obtain ⟨k, hk, rfl, hown, Hkw, Hown⟩ := hrel
          by_cases hlt : k < mb
          · have Hbase := Lib.hid (HKW10.out _ Hkw.out)
            have hSa := HIb.out.kept Hbase.out
            obtain ⟨aa, rfl, hbaa⟩ := hSa.addr (by omega)
            obtain ⟨x, Hx, hcx, hx1, hx2⟩ := hSa.named k hlt
            have Htake : Hid (lb.take (k + 1) = lb.take k ++ [x]) := take_succ_getD (by have := Hmlb.out; omega) Hx.out
            have Hfl : Hid (((lb.take k).filter fb).length ≤ k) := Nat.le_trans (List.length_filter_le _ _) (by rw [List.length_take]; omega)
            have Hin : Hid ((lb.take (k + 1)).filter fb = (lb.take k).filter fb ++ (if fb x = true then [x] else [])) := by
              show _ = _
              rw [Htake.out, List.filter_append]
              congr 1
              cases h : fb x <;> simp [h]
            have hszr := Hkw.out.size
            have Hown2 := Lib.hid hown
            clear hSa hown
            have hfl := Hfl.out
            generalize (lb.take k).filter fb = ys at *
            go_wp2_with fail
            clear hcx hbaa
            go_loopw [15, 16] (fun u v wq => ∃ j : Nat, j ≤ ma ∧ v = .int .i64 j ∧ u = .bool ((la.take j).any (Gfb x)) ∧ Hid (Kept wr wq)) (fun _ v _ => ma - (intOf v).toNat)
            case atStart => exact ⟨0, Nat.zero_le _, rfl, rfl, Kept.same _⟩
            case round =>
              obtain ⟨j, hjj, rfl, rfl, Hkq⟩ := hrel
              have HbQ := Lib.hid (Hbase.out.then Hkq.out)
              have hb := HB.out wr (Hk2.out.then HbQ.out)
              have b0 := cell_at hb 0
              have b1 := cell_at hb 1
              have b2 := cell_at hb 2
              have b3 := cell_at hb 3
              have b4 := cell_at hb 4
              have b5 := cell_at hb 5
              simp only [List.getElem?_toArray, List.getElem?_cons_zero, List.getElem?_cons_succ] at b0 b1 b2 b3 b4 b5
              clear hb
              have hlb : w.heap.size < wr.heap.size := World.block_lt_of_cell? wr _ b0
              by_cases hlt2 : j < ma
              · have hSb := HIa.out.kept HbQ.out
                obtain ⟨ab, rfl, hbab⟩ := hSb.addr (by omega)
                obtain ⟨y, Hy, hcy, _, _⟩ := hSb.named j hlt2
                have hSa := HIb.out.kept HbQ.out
                obtain ⟨x', Hx', hcx, _, _⟩ := hSa.named k hlt
                have ex : x' = x := Hx'.out.symm.trans Hx.out
                subst ex
                have hbaa := hSa.block (by omega)
                have Hs : Hid ((la.take (j + 1)).any (Gfb x') = ((la.take j).any (Gfb x') || Gfb x' y)) := by
                  show _ = _
                  rw [take_succ_getD (by have := Hmla.out; omega) Hy.out]; exact any_snoc _ _ _
                have HQ : Hid (∀ W, Kept wr W → Calls Tryd.prog 59 #[.slice A3 n3 c3, .int .i64 y, .int .i64 x'] W fun e w' => e = .returned (.bool (Gfb x' y)) ∧ Kept W w') := fun W hW => by
                  have := rat_any A3 n3 c3 C.nums y x' W (HC.out.nums.kept (HK2.out.then (HbQ.out.then hW)))
                  rw [show atE C.nums y x' = Gfb x' y from (HGfb.out x' y).symm] at this
                  exact this.mono fun _ _ ⟨he, hw⟩ => ⟨he, hw ▸ Kept.same _⟩
                clear hSa hSb
                generalize Gfb x' y = g at HQ Hs
                generalize (la.take j).any (Gfb x') = q1 at *
                cases q1 with
                | true =>
                  go_wp2_with fail
                  refine wp_region_quiet_below (by kernel_rfl) (by kernel_rfl) ?_
                  repeat (any_goals (first | go_big_quiet_step (((go_at_call 59; exact Calls.regrown_of (HQ.out _ (below_regrown _ _ _))))) | quiet_step (((go_at_call 59; exact Calls.regrown_of (HQ.out _ (below_regrown _ _ _))))) | (refine wpQuiet_step (fun K hK => ?_); go_simp; split <;> (refine hK _ ?_; clear hK K))))
                  all_goals (refine wpQuiet_nil ?_; intro w1 hw'; replace hw' := Kept.regrown hw')
                  all_goals try (exfalso; omega)
                  have Hk9 := Lib.hid (Hkq.out.then hw')
                  clear hw' b0 b1 b2 b3 b4 b5
                  go_wp2_with fail
                  go_roundw
                  case rel => exact ⟨j + 1, by omega, by go_num, by rw [Hs.out]; simp, Hk9.out⟩
                  case measure => simp [intOf]; omega
                | false =>
                  go_wp2_with fail
                  refine wp_region_quiet_below (by kernel_rfl) (by kernel_rfl) ?_
                  repeat (any_goals (first | go_big_quiet_step (((go_at_call 59; exact Calls.regrown_of (HQ.out _ (below_regrown _ _ _))))) | quiet_step (((go_at_call 59; exact Calls.regrown_of (HQ.out _ (below_regrown _ _ _))))) | (refine wpQuiet_step (fun K hK => ?_); go_simp; split <;> (refine hK _ ?_; clear hK K))))
                  all_goals (refine wpQuiet_nil ?_; intro w1 hw'; replace hw' := Kept.regrown hw')
                  all_goals try (exfalso; omega)
                  have Hk9 := Lib.hid (Hkq.out.then hw')
                  clear hw' b0 b1 b2 b3 b4 b5
                  go_wp2_with fail
                  go_roundw
                  case rel => exact ⟨j + 1, by omega, by go_num, by rw [Hs.out]; simp, Hk9.out⟩
                  case measure => simp [intOf]; omega
              · have e : j = ma := by omega
                subst e
                rw [List.take_of_length_le (by have := Hmla.out; omega)]
                have Hfx : Hid (la.any (Gfb x) = fb x) := (Hfb.out x).symm
                rw [Hfx.out]
                have hSa := HIb.out.kept HbQ.out
                obtain ⟨x', Hx', hcx, _, _⟩ := hSa.named k hlt
                have ex : x' = x := Hx'.out.symm.trans Hx.out
                subst ex
                have hbaa := hSa.block (by omega)
                have HownQ := Lib.hid (own_kept Hown2.out Hkq.out)
                have hszq := Hkq.out.size
                have HkQ : Hid (KeptBut (W2.heap.size + 1) WA wr) := Hkw.out.then (KeptBut.of Hkq.out _)
                clear hSa
                generalize fb x' = q2 at *
                cases q2 with
                | true =>
                  clear b0 b1 b2 b3 b4 b5
                  go_wp2_with (at_builtin; refine wpList_append_own_at _ rfl _ _ 23 rfl W2.heap.size 3 i0 (.int .i64 0) 1 8 Tryd.underlying23 hi hz0 hz1 hz2 rfl (by decide) _ _ _ rfl (HownQ.out.alloc _) ⟨wr.heap.size, 0, none⟩ 1 1 [.int .i64 x'] rfl rfl (cell_one_new _ _ _) (by simp [Value.oneCell']) (by unfold maxLen; omega) (by omega) (by simp; omega) ?_; intro v' w2 hown' hgrow _ hloc)
                  go_roundw
                  case rel =>
                    refine ⟨k + 1, by omega, by go_num, by rw [Hin.out]; simpa using hown', ?_, ?_⟩
                    · exact keptBut_grown HkQ.out _ hgrow (fun i hi => Hown.out i hi)
                    · intro i hi
                      rcases hloc with h | h
                      · exact Hown.out i (h ▸ hi)
                      · rw [h] at hi; simp at hi; right; omega
                  case measure => simp [intOf]; omega
                | false =>
                  clear b0 b1 b2 b3 b4 b5
                  go_wp2_with fail
                  go_roundw
                  case rel => exact ⟨k + 1, by omega, by go_num, by rw [Hin.out]; simpa using HownQ.out, HkQ.out, Hown.out⟩
                  case measure => simp [intOf]; omega
          · have e : k = mb := by omega
            clear hlt
            rw [List.take_of_length_le (by have := Hmlb.out; omega)] at hown
            obtain ⟨A10, c10, rfl, hI10, _⟩ := Ints.of_own hown (fun x hx => HIb.out.rng x (List.mem_filter.1 hx).1)
            have HKB := Lib.hid (HKW10.out _ Hkw.out)
            have HIs : Hid (Ints wr A9 m9 l9) := HI9.out.keptBut0 Hkw.out (fun hn a ha => by
              have := Hown9.out a.block (by rw [ha]; rfl)
              omega)
            have HIt := Lib.hid hI10
            have hltB : Hid (∀ i, Value.ownBlock (.slice A10 ((lb.filter fb).length) c10) = some i → i < wr.heap.size) := fun i hi => (hown.lt i hi).2
            have hltA : Hid (∀ i, Value.ownBlock (.slice A9 m9 c9) = some i → i < wr.heap.size) := fun i hi => Nat.lt_of_lt_of_le (HlA.out i hi) Hkw.out.size
            clear hI10 hown
            generalize hfl10 : (lb.filter fb) = l10 at *
            have Hfl10 := Lib.hid hfl10
            clear hfl10
            generalize hm10 : l10.length = m10 at *
            clear hm10
            obtain ⟨vs, hvl, hvc, hv1, hvj⟩ := HLL.out.row (by omega)
            have Hvj := Lib.hid hvj
            have HkB2 := Lib.hid (HKB.out.then (Kept.box wr (.cells #[] 23)))
            have Hnew : Hid (∀ j u, vs[j]? = some u → (wr.alloc (.cells #[] 23)).cell? (al.add j) = some u) := fun j u hu => HkB2.out.cellAt (hvc j u hu)
            have hszB := HKB.out.size
            clear hvj hvc
            have HCV : Hid (∀ W, Kept W2 W → W.cell? ⟨bv, ov, Option.none⟩ = some (.int .i64 p) ∧ W.cell? ⟨bv, ov + 1, Option.none⟩ = some (.int .i64 q)) := fun W hW => by
              obtain ⟨bv', ov', e, hcv⟩ := (HC.out.vars.kept (HK2.out.then hW)).plain (by omega)
              cases e
              have hv0 := hcv 0 (by have := Hvl.out; omega)
              have hv1 := hcv 1 (by have := Hvl.out; omega)
              rw [Hp.out] at hv0
              rw [Hq.out] at hv1
              exact ⟨hv0, hv1⟩
            have HKg : Hid (∀ w2 g, (wr.alloc (.cells #[] 23)).grownBy w2 (some wr.heap.size) → wr.heap.size ≤ g → Kept wr w2) := fun w2 g hg _ => (Kept.box _ _).grown hg (by simp) (fun i hi => by cases hi; exact Nat.le_refl _)
            have HOL : Hid (∀ w2 g cap, w2.ownsRow wr.heap.size 23 1 (.slice (some ⟨g, 0, Option.none⟩) n cap) n vs → (wr.alloc (.cells #[] 23)).grownBy w2 (some wr.heap.size) → wr.heap.size ≤ g → OwnL w2 wr.heap.size (.slice (some ⟨g, 0, Option.none⟩) n cap) (listsOf ds)) := fun w2 g cap ho hg hgb => by
              refine ⟨vs, by rw [Hll.out]; exact ho, fun j hj => ?_⟩
              rw [Hll.out] at hj
              obtain ⟨B, m, c, e1, e2⟩ := Hvj.out j hj
              refine ⟨B, m, c, e1, e2.kept (HKB.out.then (HKg.out w2 g hg hgb)), fun hm a ha e => ?_⟩
              subst ha
              have := e2.block hm
              simp [Value.ownBlock] at e
              omega
            go_wp2_with (at_builtin
                         refine wpList_append_own_at _ rfl _ _ 74 rfl wr.heap.size 23 j0 (.slice Option.none 0 0) 1 24 Tryd.underlying74 hj hy0 hy1 hy2 rfl (by decide) _ _ _ rfl (own_empty (heap_new wr _) (Nat.le_refl _)) al n cl vs rfl hvl Hnew.out hv1 (by unfold maxLen; omega) (by omega) (by simp) ?_
                         intro v' w2 hown' hgrow _ hloc
                         obtain ⟨g, cap, rfl, hgb, hgl⟩ := hown'.form (by omega)
                         rw [Nat.zero_add, List.nil_append] at hown'
                         have HO2 := Lib.hid (HOL.out w2 g cap hown' hgrow hgb)
                         have HKw2 := Lib.hid (HKg.out w2 g hgrow hgb)
                         rw [Nat.zero_add]
                         clear hown' hloc hgrow
                         have hb := HB.out w2 (Hk2.out.then (HKB.out.then HKw2.out))
                         have b0 := cell_at hb 0
                         have b1 := cell_at hb 1
                         have b2 := cell_at hb 2
                         have b3 := cell_at hb 3
                         have b4 := cell_at hb 4
                         have b5 := cell_at hb 5
                         simp only [List.getElem?_toArray, List.getElem?_cons_zero, List.getElem?_cons_succ] at b0 b1 b2 b3 b4 b5
                         clear hb
                         obtain ⟨hv0, hv1⟩ := HCV.out w2 (HKB.out.then HKw2.out)
                         obtain ⟨⟨vp, hpc⟩, hpf⟩ := HO2.out.at Hll.out p hpn
                         have hgB : w.heap.size < g ∧ bv < g := by
                           have h1 := World.block_lt_of_cell? w2 _ b0
                           have h2 := HKB.out.size
                           have h3 := World.block_lt_of_cell? _ _ (HCV.out W2 (Kept.same _)).1
                           have h4 := HK2.out.size
                           have h5 := World.block_lt_of_cell? _ _ (cell_at (HB.out W2 Hk2.out) 0)
                           simp only at h3 h5
                           omega
                         have hk8 : KeptBut g w2 (w2.setCell ⟨g, p, Option.none⟩ (.slice A9 m9 c9)) := KeptBut.set _ (a := ⟨g, p, Option.none⟩) rfl _
                         have t1 := hk8.cellAt b1 (by simp; omega)
                         have t2 := hk8.cellAt hv1 (by simp; omega)
                         have HO3 := Lib.hid (HO2.out.set Hll.out hpn (c := c9) (HIs.out.kept HKw2.out) (fun hn a ha e => by
                           have := hltA.out a.block (by rw [ha]; rfl)
                           omega))
                         have Hk8 := Lib.hid hk8
                         clear hk8
                         obtain ⟨⟨vq, hqc⟩, hqf⟩ := HO3.out.at (by rw [List.length_set]; exact Hll.out) q hqn)
            have HO4 := Lib.hid (HO3.out.set (by rw [List.length_set]; exact Hll.out) hqn (c := c10) (HIt.out.keptBut0 ((KeptBut.of HKw2.out g).then Hk8.out) (fun hn a ha e => by
              have := hltB.out a.block (by rw [ha]; rfl)
              omega)) (fun hn a ha e => by
              have := hltB.out a.block (by rw [ha]; rfl)
              omega))
            have hk9 : KeptBut g (w2.setCell ⟨g, p, Option.none⟩ (.slice A9 m9 c9)) ((w2.setCell ⟨g, p, Option.none⟩ (.slice A9 m9 c9)).setCell ⟨g, q, Option.none⟩ (.slice A10 m10 c10)) := KeptBut.set _ (a := ⟨g, q, Option.none⟩) rfl _
            have hkr := ((KeptBut.of (HKB.out.then HKw2.out) g).then (Hk8.out.then hk9)).kept (by omega)
            have HKr := Lib.hid (HK2.out.then hkr)
            clear hk9 hkr b0 b1 b2 b3 b4 b5 hv0 hv1 hpc hpf hqc hqf t1 t2
            generalize (w2.setCell ⟨g, p, Option.none⟩ (.slice A9 m9 c9)).setCell ⟨g, q, Option.none⟩ (.slice A10 m10 c10) = W6 at *
            refine (rkeeps_any (fun i x => ((((listsOf ds).set p l9).set q l10).getD i []).contains x) A (some ⟨g, 0, Option.none⟩) n c cap ds _ W6 (HS.out.kept HKr.out) (HO4.out.lists (by rw [List.length_set, List.length_set]; exact Hll.out) (by omega)) Hm4.out (fun _ _ => rfl) hn).mono ?_
            rw [Hres.out _ (fun i hi v hv => by
              have hlen := Hlen.out
              show _ = _
              rw [← Hfl9.out, ← Hfl10.out, ← Hla.out, ← Hlb.out]
              exact lists_elemKp Hp.out Hq.out (by omega) (by omega) hne (fun x => by rw [Hfa.out, Hlb.out]; congr 1; funext y; exact HGfa.out x y) (fun x => by rw [Hfb.out, Hla.out]; congr 1; funext y; exact HGfb.out x y) i (by omega) v hv)]
            rintro e W7 ⟨A7, c7, rfl, hD7, hk7⟩
            have HD7 := Lib.hid hD7
            have HK7 := Lib.hid (HKr.out.then hk7)
            clear hD7 hk7
            go_wp2_with fail
            go_ret2
            exact ⟨A7, c7, rfl, HD7.out, HK7.out⟩
end Go.Proofs.YthddanjmnifloaaDoor

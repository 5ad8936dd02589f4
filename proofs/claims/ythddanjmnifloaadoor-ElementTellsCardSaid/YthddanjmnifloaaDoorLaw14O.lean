/-
  The law ElementSingle of the package element.
-/
import Derived.Test.YthddanjmnifloaaDoorLaw14S
set_option maxHeartbeats 1000000
set_option maxRecDepth 10000
namespace Go.Proofs.YthddanjmnifloaaDoor
open Go Go.RowKit Pl

/-- Domains of single values. -/
def singles (row : List Int) : List DomB := row.map fun v => ([v], 1)
theorem singles_length (row : List Int) : (singles row).length = row.length := by simp [singles]
theorem singles_getD (row : List Int) {i : Nat} (hi : i < row.length) : (singles row).getD i nilD = ([row.getD i 0], 1) := by
  unfold singles
  rw [List.getD_eq_getElem?_getD, List.getElem?_map, List.getD_eq_getElem?_getD, List.getElem?_eq_getElem hi]
  rfl
theorem single_may {v : Int} (h : -1048576 ≤ v ∧ v ≤ 1048576) : mayB [v] 1 = true := by
  unfold mayB okUpto okAt
  simp [h.1, h.2]
theorem single_list {v : Int} (h : -1048576 ≤ v ∧ v ≤ 1048576) : listB [v] 1 = [v] := by
  unfold listB
  rw [if_pos (single_may h)]
  unfold valsOf
  have e : elemsI 1 = [0] := by decide
  rw [e]; rfl
theorem single_keep (f : Int → Bool) (v : Int) : (keepD f ([v], 1)).2 = if f v = true then 1 else 0 := by
  apply Nat.eq_of_testBit_eq
  intro i
  rw [testBit_keepD]
  by_cases hi : i = 0
  · subst hi
    cases h : f v <;> simp [h]
  · have h1 : Nat.testBit 1 i = false := by
      cases i with
      | zero => exact absurd rfl hi
      | succ n => rw [Nat.testBit_succ]; simp
    rw [h1]
    split
    · rw [h1]; simp
    · simp
theorem allMay_singles {row : List Int} (h : withinB row 1048576 = true) : allMay (singles row) = true := by
  unfold allMay singles
  rw [List.all_map, List.all_eq_true]
  intro v hv
  exact single_may (by have := withinB_mem h hv; omega)

/-- Is all left of the constraint's variables? -/
def allLive (vs : List Int) (ds : List DomB) (k : Nat) : Bool := (List.range k).all fun i => decide ((ds.getD (vs.getD i 0).toNat nilD).2 = 1)
theorem allLive_succ (vs : List Int) (ds : List DomB) (k : Nat) : allLive vs ds (k + 1) = (allLive vs ds k && decide ((ds.getD (vs.getD k 0).toNat nilD).2 = 1)) := by
  unfold allLive
  rw [List.range_succ, List.all_append]
  simp

theorem single_live {kp : Nat → Int → Bool} {row : List Int} {i : Nat} (hi : i < row.length) : ((stepB kp (singles row)).getD i nilD).2 = 1 ↔ kp i (row.getD i 0) = true := by
  have h1 := stepB_getD kp (singles row) (i := i) (by rw [singles_length]; exact hi)
  have h2 := singles_getD row hi
  unfold nilD at h2 ⊢
  rw [h1, h2, single_keep]
  cases kp i (row.getD i 0) <;> simp

theorem elem_single {C : ConB} {row : List Int} (hr : withinB row 1048576 = true) (hB : elemB C row.length = true) : allLive C.vars (stepB (elemKp C (singles row)) (singles row)) 2 = holdsE C row := by
  obtain ⟨hlen, hp, hq, hne⟩ := elemB_vars hB
  have hrng : ∀ i, i < row.length → -1048576 ≤ row.getD i 0 ∧ row.getD i 0 ≤ 1048576 := fun i hi => by
    have := withinB_mem hr (x := row.getD i 0) (by rw [List.getD_eq_getElem?_getD, List.getElem?_eq_getElem hi]; exact List.getElem_mem hi)
    omega
  have lp : listB ((singles row).getD (C.vars.getD 0 0).toNat nilD).1 ((singles row).getD (C.vars.getD 0 0).toNat nilD).2 = [row.getD (C.vars.getD 0 0).toNat 0] := by
    rw [singles_getD row (by omega)]; exact single_list (hrng _ (by omega))
  have lq : listB ((singles row).getD (C.vars.getD 1 0).toNat nilD).1 ((singles row).getD (C.vars.getD 1 0).toNat nilD).2 = [row.getD (C.vars.getD 1 0).toNat 0] := by
    rw [singles_getD row (by omega)]; exact single_list (hrng _ (by omega))
  have k1 : elemKp C (singles row) (C.vars.getD 0 0).toNat (row.getD (C.vars.getD 0 0).toNat 0) = isE C.nums [row.getD (C.vars.getD 1 0).toNat 0] (row.getD (C.vars.getD 0 0).toNat 0) := by
    unfold elemKp; rw [if_pos rfl, lq]
  have k2 : elemKp C (singles row) (C.vars.getD 1 0).toNat (row.getD (C.vars.getD 1 0).toNat 0) = decide (0 < cntE C.nums [row.getD (C.vars.getD 1 0).toNat 0] [row.getD (C.vars.getD 0 0).toNat 0] (row.getD (C.vars.getD 1 0).toNat 0)) := by
    unfold elemKp; rw [if_neg (by omega), if_pos rfl, lq, lp]
  have e2 : allLive C.vars (stepB (elemKp C (singles row)) (singles row)) 2 = (decide (((stepB (elemKp C (singles row)) (singles row)).getD (C.vars.getD 0 0).toNat nilD).2 = 1) && decide (((stepB (elemKp C (singles row)) (singles row)).getD (C.vars.getD 1 0).toNat nilD).2 = 1)) := by
    rw [allLive_succ, allLive_succ]; rfl
  rw [e2, Bool.eq_iff_iff, Bool.and_eq_true, decide_eq_true_eq, decide_eq_true_eq, single_live (by omega), single_live (by omega), k1, k2, decide_eq_true_eq, cntE_pos]
  unfold holdsE
  rw [rowVals_getD C row (by omega), rowVals_getD C row (by omega)]
  unfold isE
  simp only [Bool.and_eq_true, decide_eq_true_eq, List.contains_iff_mem, List.mem_singleton]
  constructor
  · rintro ⟨⟨⟨h1, h2⟩, h3⟩, _⟩
    exact ⟨⟨h1, h2⟩, h3⟩
  · rintro ⟨⟨h1, h2⟩, h3⟩
    exact ⟨⟨⟨h1, h2⟩, h3⟩, _, rfl, ⟨⟨h1, h2⟩, h3⟩, h3⟩

theorem right_elemB {C : ConB} {V : Int} (hk : C.kind = 4) (h : rightB C V = true) : elemB C V = true := by
  unfold rightB at h
  rw [hk] at h
  unfold elemB variablesB bareB
  unfold plainR at h
  simp only [hk] at h
  simp at h ⊢
  obtain ⟨h1, ⟨⟨⟨⟨h2, h3⟩, h4⟩, h5⟩, h6⟩, h7, h8⟩ := h
  refine ⟨⟨⟨by omega, by omega⟩, h1⟩, ⟨⟨⟨⟨h2, h3⟩, h4⟩, by omega⟩, by omega⟩, h5⟩

theorem single14_any (K R Ct : Int) (A1 A2 A3 : Option Addr) (n1 c1 n2 c2 n3 c3 : Nat) (C : ConB) (B : Option Addr) (m d : Nat) (row : List Int) (w : World) (hC : ConIn w K R Ct A1 A2 A3 n1 c1 n2 c2 n3 c3 C) (hI : Ints w B m row) (hT : Tab w) :
    Calls Tryd.prog 9 #[.agg #[.int .i64 K, .slice A1 n1 c1, .slice A2 n2 c2, .int .i64 R, .int .i64 Ct, .slice A3 n3 c3], .slice B m d] w fun e w' => e = .returned (.bool true) ∧ Kept w w' := by
  obtain ⟨i0, hi, hz0, hz1, hz2⟩ := info_parts info_dom2
  have HC := Lib.hid hC
  have HI := Lib.hid hI
  have HT := Lib.hid hT
  have HlR := Lib.hid hI.len
  have hsm := hI.small
  have hs1 := hC.vars.small
  have hs2 := hC.coefs.small
  have hs3 := hC.nums.small
  clear hC hI hT
  have hhB : ∀ W, Kept (w.alloc (.cells #[.int .i64 K, .slice A1 n1 c1, .slice A2 n2 c2, .int .i64 R, .int .i64 Ct, .slice A3 n3 c3] 37)) W → W.heap[w.heap.size]? = some (.cells #[.int .i64 K, .slice A1 n1 c1, .slice A2 n2 c2, .int .i64 R, .int .i64 Ct, .slice A3 n3 c3] 37) := fun W h => h.heapAt (heap_new _ _)
  have HB := Lib.hid hhB
  clear hhB
  go_enter Tryd.func9, Tryd.ntmps9
  go_wp2_with fail
  refine (awake14 _ (HT.out.kept (Kept.box _ _))).mono ?_
  rintro e W1 ⟨rfl, hk1⟩
  have hb := HB.out W1 hk1
  have b0 := cell_at hb 0
  have b1 := cell_at hb 1
  have b2 := cell_at hb 2
  have b3 := cell_at hb 3
  have b4 := cell_at hb 4
  have b5 := cell_at hb 5
  simp only [List.getElem?_toArray, List.getElem?_cons_zero, List.getElem?_cons_succ] at b0 b1 b2 b3 b4 b5
  clear hb
  have Hk1 := Lib.hid hk1
  have HK1 := Lib.hid ((Kept.box _ _).then hk1)
  clear hk1
  by_cases g0 : (20 : Int) < m
  · have hd0 : decide ((20 : Int) < m) = true := by simp; omega
    go_wp2_with fail
    go_ret
    exact ⟨rfl, HK1.out⟩
  have hd0 : decide ((20 : Int) < m) = false := by simp; omega
  by_cases g1 : (150 : Int) < n1
  · have hd1 : decide ((150 : Int) < n1) = true := by simp; omega
    go_wp2_with fail
    go_ret
    exact ⟨rfl, HK1.out⟩
  have hd1 : decide ((150 : Int) < n1) = false := by simp; omega
  by_cases g2 : (150 : Int) < n2
  · have hd2 : decide ((150 : Int) < n2) = true := by simp; omega
    go_wp2_with fail
    go_ret
    exact ⟨rfl, HK1.out⟩
  have hd2 : decide ((150 : Int) < n2) = false := by simp; omega
  by_cases g3 : (150 : Int) < n3
  · have hd3 : decide ((150 : Int) < n3) = true := by simp; omega
    go_wp2_with fail
    go_ret
    exact ⟨rfl, HK1.out⟩
  have hd3 : decide ((150 : Int) < n3) = false := by simp; omega
  go_wp2_with fail
  refine (rr1_any K R Ct A1 A2 A3 n1 c1 n2 c2 n3 c3 C _ B m d row _ (heap_new _ _) (HC.out.kept (HK1.out.then (Kept.box _ _))) (HI.out.kept (HK1.out.then (Kept.box _ _)))).mono ?_
  generalize hq : (withinB row 1048576 && rightB C m) = q
  have Hq := Lib.hid hq
  clear hq
  rintro e W2 ⟨rfl, hk2⟩
  have Hk2 := Lib.hid (Hk1.out.then ((Kept.box _ _).then hk2))
  have HK2 := Lib.hid (HK1.out.then ((Kept.box _ _).then hk2))
  clear hk2 b0 b1 b2 b3 b4 b5
  cases q with
  | false =>
    go_wp2_with fail
    go_ret
    exact ⟨rfl, HK2.out⟩
  | true =>
    obtain ⟨hwr, hrt⟩ := Bool.and_eq_true_iff.1 Hq.out
    have Hwr := Lib.hid hwr
    have Hrt := Lib.hid hrt
    clear hwr hrt
    go_wp2_with fail
    go_loopw [5, 45] (fun u v wr => ∃ k : Nat, k ≤ m ∧ v = .int .i64 k ∧ Hid (OwnD wr W2.heap.size u (singles (row.take k))) ∧ Hid (Kept W2 wr)) (fun _ v _ => m - (intOf v).toNat)
    case atStart => exact ⟨0, Nat.zero_le _, rfl, OwnD.nil _ _, Kept.same _⟩
    case round =>
      obtain ⟨k, hk, rfl, HO, Hkw⟩ := hrel
      by_cases hlt : k < m
      · have hIr := HI.out.kept (HK2.out.then Hkw.out)
        obtain ⟨a, rfl, hblk⟩ := hIr.addr (by omega)
        obtain ⟨x, Hx, hcx, hx1, hx2⟩ := hIr.named k hlt
        obtain ⟨vs, hown, hd⟩ := HO.out
        have hkl : (singles (row.take k)).length = k := by rw [singles_length, List.length_take]; have := HlR.out; omega
        rw [hkl] at hown hd
        have Hown := Lib.hid hown
        have Hdd := Lib.hid hd
        have Hul : Hid (∀ i, u5.ownBlock = some i → W2.heap.size ≤ i ∧ i < wr.heap.size) := hown.lt
        have hszr := Hkw.out.size
        clear hIr hown hd
        go_wp2_with (at_builtin; refine wpList_append_own_at _ rfl _ _ 38 rfl W2.heap.size 58 i0 (.agg #[.slice Option.none 0 0, .int .u64 0]) 2 32 Tryd.underlying38 hi hz0 hz1 hz2 rfl (by decide) _ _ _ rfl (own_kept Hown.out ((Kept.box _ _).newBlock _)) ⟨wr.heap.size + 1, 0, none⟩ 1 1 [.slice (some ⟨wr.heap.size, 0, Option.none⟩) 1 1, .int .u64 1] rfl rfl (World.news_of_block (cs := #[.slice (some ⟨wr.heap.size, 0, Option.none⟩) 1 1, .int .u64 1]) (t := 58) (fr := (0, 0)) (heap_new2 _ _ _)) (by simp [Value.oneCell']) (by unfold maxLen; omega) (by omega) (by simp; omega) ?_; intro v' w2 hown' hgrow _ hloc; obtain ⟨g, cap, rfl, hgb, hgl⟩ := hown'.form (by omega))
        go_roundw
        case rel =>
          refine ⟨k + 1, by omega, by go_num, ?_, ?_⟩
          · show OwnD _ _ _ _
            have e1 : singles (row.take (k + 1)) = singles (row.take k) ++ [([x], 1)] := by
              rw [take_succ_getD (by have := HlR.out; omega) Hx.out]
              unfold singles
              rw [List.map_append]; rfl
            rw [e1]
            have hk2 := (Kept.box wr (.cells #[.int .i64 x] 3)).newBlock (.cells #[.slice (some ⟨wr.heap.size, 0, Option.none⟩) 1 1, .int .u64 1] 58)
            have hx64 : Ints ((wr.alloc (.cells #[.int .i64 x] 3)).alloc (.cells #[.slice (some ⟨wr.heap.size, 0, Option.none⟩) 1 1, .int .u64 1] 58)) (some ⟨wr.heap.size, 0, Option.none⟩) 1 [x] := (lit1 wr x 3 (0, 0) ⟨hx1, hx2⟩).kept (Kept.box _ _)
            have := OwnD.snoc (ds := singles (row.take k)) (d := ([x], 1)) (c := 1) (by rw [hkl]; exact own_kept Hown.out hk2) ?_ hx64 ?_ (show (1 : Nat) < 2 ^ 64 by decide) (by rw [hkl]; exact hown') hgrow ?_
            · rw [hkl] at this; exact this
            · rw [hkl]
              intro j hj
              obtain ⟨hl, B1, m1, c1', e1, e2, e3, e4⟩ := Hdd.out j hj
              exact ⟨hl, B1, m1, c1', e1, e2, e3.kept hk2, e4⟩
            · intro _ a' ha' e
              cases ha'
              exact absurd (Hul.out _ e).2 (Nat.lt_irrefl _)
            · rcases hloc with h | h
              · exact Or.inl (by rw [← h]; rfl)
              · right
                have : g = wr.heap.size + 1 + 1 := by simpa [Value.ownBlock] using h
                simp only [World.size_alloc]
                omega
          · show Kept W2 w2
            exact ((Hkw.out.newBlock _).newBlock _).grown hgrow (by simp; omega) (fun i hi => (Hul.out i hi).1)
        case measure => simp [intOf]; omega
      · have e : k = m := by omega
        subst e
        rw [List.take_of_length_le (by have := HlR.out; omega)] at HO
        have HKr := Lib.hid (HK2.out.then Hkw.out)
        have hsl : (singles row).length = k := by rw [singles_length]; exact HlR.out
        obtain ⟨A5, c5, rfl⟩ := HO.out.parts
        have HD := Lib.hid (HO.out.doms (n := (singles row).length) rfl (by omega))
        rw [hsl] at HD ⊢
        have Hm := Lib.hid (allMay_singles Hwr.out)
        have hb := HB.out wr (Hk2.out.then Hkw.out)
        have b0 := cell_at hb 0
        have b1 := cell_at hb 1
        have b2 := cell_at hb 2
        have b3 := cell_at hb 3
        have b4 := cell_at hb 4
        have b5 := cell_at hb 5
        simp only [List.getElem?_toArray, List.getElem?_cons_zero, List.getElem?_cons_succ] at b0 b1 b2 b3 b4 b5
        clear hb
        have H1 := elemstep_any K R Ct A1 A2 A3 n1 c1 n2 c2 n3 c3 C A5 k c5 (singles row) wr (HC.out.kept HKr.out) HD.out (HT.out.kept HKr.out) (by omega)
        have Hkind := Lib.hid HC.out.kind
        go_wp2_with fail
        by_cases gK : ¬ K = 4
        · rw [if_neg (by unfold elemGo; rw [Hkind.out, decide_eq_false gK]; simp)] at H1
          refine H1.mono ?_
          rintro e W5 ⟨rfl, hk5⟩
          have HK5 := Lib.hid (HKr.out.then hk5)
          clear H1 hk5 b0 b1 b2 b3 b4 b5
          go_wp2_with fail
          go_ret
          exact ⟨rfl, HK5.out⟩
        have gK := Classical.not_not.1 gK
        subst gK
        have HeB := Lib.hid (right_elemB Hkind.out Hrt.out)
        have HeB2 : Hid (elemB C row.length = true) := by show _ = _; rw [HlR.out]; exact HeB.out
        have hgo : elemGo C (singles row) = true := by
          unfold elemGo
          rw [Hkind.out, hsl, HeB.out, Hm.out]; rfl
        rw [if_pos hgo] at H1
        refine H1.mono ?_
        have Hres : Hid ((stepB (elemKp C (singles row)) (singles row)).length = k) := by show _ = _; rw [stepB_length]; exact hsl
        have Hal := Lib.hid (elem_single Hwr.out HeB2.out)
        generalize stepB (elemKp C (singles row)) (singles row) = res at *
        rintro e W5 ⟨A7, c7, rfl, hD7, hk5⟩
        rw [Hres.out] at hD7 ⊢
        have HD7 := Lib.hid hD7
        have Hk5 := Lib.hid ((Hk2.out.then Hkw.out).then hk5)
        have HK5 := Lib.hid (HKr.out.then hk5)
        have hvl := (elemB_vars HeB.out).1
        have hn1 : n1 = 2 := by have := HC.out.vars.len; omega
        subst hn1
        have Hvo : Hid (varsOk C.vars k = true) := by
          show _ = _
          have := HeB.out
          unfold elemB variablesB at this
          simp only [Bool.and_eq_true] at this
          exact this.1.2
        have Hvl := Lib.hid hvl
        clear H1 hk5 hD7 hgo hvl hsl b0 b1 b2 b3 b4 b5
        have hb := HB.out W5 Hk5.out
        have b0 := cell_at hb 0
        have b1 := cell_at hb 1
        have b2 := cell_at hb 2
        have b3 := cell_at hb 3
        have b4 := cell_at hb 4
        have b5 := cell_at hb 5
        simp only [List.getElem?_toArray, List.getElem?_cons_zero, List.getElem?_cons_succ] at b0 b1 b2 b3 b4 b5
        clear hb
        go_wp2_with fail
        clear b0 b1 b2 b3 b4 b5
        go_loopw [10, 81] (fun u v wq => ∃ j : Nat, j ≤ 2 ∧ v = .int .i64 j ∧ u = .bool (allLive C.vars res j) ∧ Hid (Kept W5 wq)) (fun _ v _ => 2 - (intOf v).toNat)
        case atStart => exact ⟨0, Nat.zero_le _, rfl, rfl, Kept.same _⟩
        case round =>
          obtain ⟨j, hj, rfl, rfl, Hkq⟩ := hrel
          have HKq := Lib.hid (HK5.out.then Hkq.out)
          by_cases hlt2 : j < 2
          · have hSq := HC.out.vars.kept HKq.out
            obtain ⟨av, rfl, hbv⟩ := hSq.addr (by omega)
            obtain ⟨x, Hx, hcx, _, _⟩ := hSq.named j hlt2
            obtain ⟨hx1, hx2⟩ := varsOk_rng Hvo.out (show j < C.vars.length by have := Hvl.out; omega)
            rw [Hx.out] at hx1 hx2
            obtain ⟨p, rfl⟩ := Int.eq_ofNat_of_zero_le hx1
            have hpk : p < k := by omega
            have hDq := HD7.out.kept Hkq.out
            obtain ⟨ad, rfl, hbd⟩ := hDq.addr (by omega)
            obtain ⟨ys, L, Bx, mx, cx, Hdx, hc1, hc2, _, hLx⟩ := hDq.named p hpk
            have Hs : Hid (allLive C.vars res (j + 1) = (allLive C.vars res j && decide (L = 1))) := by
              show _ = _
              rw [allLive_succ, Hx.out, Int.toNat_natCast, Hdx.out]
            clear hSq hDq
            generalize allLive C.vars res j = q1 at *
            cases q1 with
            | false =>
              go_wp2_with fail
              go_roundw
              case rel => exact ⟨j + 1, by omega, by go_num, by rw [Hs.out]; rfl, Hkq.out⟩
              case measure => simp [intOf]; omega
            | true =>
              by_cases hL1 : L = 1
              · subst hL1
                go_wp2_with fail
                go_roundw
                case rel => exact ⟨j + 1, by omega, by go_num, by rw [Hs.out]; rfl, Hkq.out⟩
                case measure => simp [intOf]; omega
              · have hd5 : ((L : Int) == 1) = false := by simp; omega
                go_wp2_with fail
                go_roundw
                case rel => exact ⟨j + 1, by omega, by go_num, by rw [Hs.out]; simp [hL1], Hkq.out⟩
                case measure => simp [intOf]; omega
          · have e : j = 2 := by omega
            subst e
            have hb := HB.out wr (Hk5.out.then Hkq.out)
            have b0 := cell_at hb 0
            have b1 := cell_at hb 1
            have b2 := cell_at hb 2
            have b3 := cell_at hb 3
            have b4 := cell_at hb 4
            have b5 := cell_at hb 5
            simp only [List.getElem?_toArray, List.getElem?_cons_zero, List.getElem?_cons_succ] at b0 b1 b2 b3 b4 b5
            clear hb
            rw [Hal.out]
            have HQ := Lib.hid (holds4_any 4 R Ct A1 A2 A3 2 c1 n2 c2 n3 c3 C B k d row wr (HC.out.kept HKq.out) (HI.out.kept HKq.out) rfl Hvo.out Hvl.out)
            clear Hal
            generalize holdsE C row = q3 at *
            go_wp2_with fail
            refine HQ.out.mono ?_
            rintro e W7 ⟨rfl, hk7⟩
            have HK7 := Lib.hid (HKq.out.then hk7)
            clear hk7 b0 b1 b2 b3 b4 b5 HQ
            cases q3 with
            | true =>
              go_wp2_with fail
              go_ret
              exact ⟨rfl, HK7.out⟩
            | false =>
              go_wp2_with fail
              go_ret
              exact ⟨rfl, HK7.out⟩
end Go.Proofs.YthddanjmnifloaaDoor

/-
  Contracts of the document's answer for domains: Keep.
-/
import Derived.Test.YthddanjmnifloaaDoorRef04
import Derived.Test.YthddanjmnifloaaDoorArr
import Derived.Test.YthddanjmnifloaaDoorKept2
import Derived.Test.YthddanjmnifloaaDoorLeft
import Derived.Test.YthddanjmnifloaaDoorAppZero
set_option maxHeartbeats 1000000
set_option maxRecDepth 10000
namespace Go.Proofs.YthddanjmnifloaaDoor
open Go Go.RowKit Pl

theorem range_kept {w w' : World} {b o : Nat} {cs : List Value} (h : w.rangeAt b o cs) (hk : Kept w w') : w'.rangeAt b o cs := fun j v hv => hk.cellAt (h j v hv)
theorem grown_kept {w0 w w' : World} {r : Option Nat} (h0 : Kept w0 w) (hg : w.grownBy w' r) (hr : ∀ i, r = some i → w0.heap.size ≤ i) : Kept w0 w' := h0.grown hg h0.size hr

theorem two_but (w : World) (O : Nat) (x0 x1 : Value) : KeptBut O w ((w.setCell ⟨O, 0, Option.none⟩ x0).setCell ⟨O, 1, Option.none⟩ x1) :=
  (KeptBut.set _ (a := ⟨O, 0, Option.none⟩) rfl _).then (KeptBut.set _ (a := ⟨O, 1, Option.none⟩) rfl _)

/-- What is kept of the places below k. -/
def keepUpto (xs l : List Int) (L k : Nat) (i : Nat) : Bool := decide (i < k) && (L.testBit i && l.contains (xs.getD i 0))

theorem keepUpto_set {xs l : List Int} {L : Nat} (hm : mayB xs L = true) : mkSet (keepUpto xs l L xs.length) 64 = (keepD (fun x => l.contains x) (xs, L)).2 := by
  apply Nat.eq_of_testBit_eq
  intro i
  rw [testBit_keepD, testBit_mkSet]
  unfold keepUpto
  by_cases hb : L.testBit i = true
  · have := (may_bit (d := (xs, L)) hm hb).1
    have h2 : decide (i < xs.length) = true := by simpa using this
    rw [h2]; rfl
  · have : L.testBit i = false := by simpa using hb
    rw [this]; simp

theorem rkeep_p (p : Int → Bool) (A B : Option Addr) (n c m d L : Nat) (xs l : List Int) (w : World) (hp : ∀ x, p x = l.contains x) (hS : Ints w A n xs) (hl : Ints w B m l) (hL : L < 2 ^ 64) (hm : mayB xs L = true) :
    Calls Tryd.prog 84 #[.agg #[.slice A n c, .int .u64 L], .slice B m d] w (DomPost (keepD p (xs, L)) w) := by
  obtain ⟨i0, hi, hz0, hz1, hz2⟩ := info_parts info_int
  have Hp := Lib.hid hp
  have HS := Lib.hid hS
  have Hl := Lib.hid hl
  have HL := Lib.hid hL
  have Hm := Lib.hid hm
  have Hlen := Lib.hid hS.len
  have Hll := Lib.hid hl.len
  have hsm := hS.small
  have hsm2 := hl.small
  have hn64 : n ≤ 64 := by have := mayB_len hm; have := hS.len; omega
  have hmay : Hid (∀ W, Ints W A n xs → Calls Tryd.prog 83 #[.agg #[.slice A n c, .int .u64 L]] W fun e w' => e = .returned (.bool true) ∧ Kept W w') := fun W hW => by
    have := rmay_any A n c L xs W hW HL.out
    rwa [hm] at this
  clear hS hl hL hm hp
  go_enter Tryd.func84, Tryd.ntmps84
  refine wp_seq_k fun K h => ?_
  have H := Lib.hid h
  clear h
  go_wp2_with fail
  refine H.out _ _ ?_
  clear H K
  refine wp_seq_k fun K h => ?_
  have H := Lib.hid h
  clear h
  go_wp2_with fail
  refine (hmay.out _ (HS.out.kept ((Kept.box _ _).newBlock _))).mono ?_
  rintro e wm ⟨rfl, hk1⟩
  have HD := Lib.hid (hk1.heapAt ((Kept.box _ _).heapAt (heap_new w (.cells #[.slice A n c, .int .u64 (L : Nat)] 78))))
  have HR := Lib.hid (hk1.heapAt (heap_new2 w (.cells #[.slice A n c, .int .u64 (L : Nat)] 78) _))
  have HK1 := Lib.hid (((Kept.box w _).newBlock _).then hk1)
  have hsz := hk1.size
  simp only [World.size_alloc] at hsz
  clear hk1 hmay
  go_wp2_with fail
  refine H.out _ _ ?_
  clear H K
  refine wp_seq_k fun K h => wp_region_list ?_
  have H := Lib.hid h
  clear h
  refine Great.wpList_runTo rfl (some 13) rfl (.agg (rowB fun _ => false)) wm (by kernel_rfl) ?_
  refine Great.wpList_runTo rfl (some 5) rfl (.pointer (some ⟨wm.heap.size, 0, none⟩)) (wm.alloc (.cells (rowB fun _ => false) 60)) (by kernel_rfl) ?_
  refine wpList_store_row rfl 60 (.tmp 5) (.tmp 13) rfl wm.heap.size (rowB fun _ => false) rfl rfl 60 (rowB fun _ => false) (heap_new _ _) (rowB_info _) rfl (rowB_one _) ?_
  rw [World.setRow_alloc_new]
  refine wpList_nil (H.out _ _ ?_)
  clear H K
  have HKa := Lib.hid (Kept.box wm (.cells (rowB fun _ => false) 60))
  have HA0 := Lib.hid (heap_new wm (.cells (rowB fun _ => false) 60))
  generalize wm.alloc (.cells (rowB fun _ => false) 60) = wa at *
  have hd := HKa.out.heapAt HD.out
  have hd0 := cell_at hd 0
  have hd1 := cell_at hd 1
  simp only [List.getElem?_toArray, List.getElem?_cons_zero, List.getElem?_cons_succ] at hd0 hd1
  clear hd
  go_wp2_with fail
  clear hd0 hd1
  go_loopw [6, 7] (fun u v wr => ∃ (k z : Nat), k ≤ n ∧ v = .int .i64 k ∧ u = .int .u64 (z : Nat) ∧ Hid (z = L / 2 ^ k) ∧ Hid (KeptBut wm.heap.size wa wr) ∧ Hid (wr.heap[wm.heap.size]? = some (.cells (rowB (keepUpto xs l L k)) 60))) (fun _ v _ => n - (intOf v).toNat)
  case atStart => exact ⟨0, L, Nat.zero_le _, rfl, rfl, by show L = L / 2 ^ 0; simp, KeptBut.refl _ _, by rw [rowB_congr (g := fun _ => false) (fun j _ => by simp [keepUpto])]; exact HA0⟩
  case round =>
    obtain ⟨k, z, hk, rfl, rfl, Hz, Hkw, HA⟩ := hrel
    have HDr := Lib.hid (Hkw.out.heapAt (HKa.out.heapAt HD.out) (by omega))
    have hd0 := cell_at HDr.out 0
    have hd1 := cell_at HDr.out 1
    simp only [List.getElem?_toArray, List.getElem?_cons_zero, List.getElem?_cons_succ] at hd0 hd1
    by_cases hlt : k < n
    · have hxs := (HS.out.kept (HK1.out.then HKa.out)).keptBut0 Hkw.out (fun hn a ha => by subst ha; have := HS.out.block hn; omega)
      obtain ⟨a, rfl, hblk⟩ := hxs.addr (by omega)
      obtain ⟨x, Hx, hcx, hx1, hx2⟩ := hxs.named k hlt
      have hzL : z ≤ L := by rw [Hz.out]; exact Nat.div_le_self _ _
      have hwz : IntKind.u64.wrap ((z : Int) / 2) = (z : Int) / 2 := by rw [IntKind.wrap_u64]; have := HL.out; omega
      have Hnz : Hid (z / 2 = L / 2 ^ (k + 1)) := by show _ = _; rw [Hz.out, Nat.div_div_eq_div_mul, Nat.pow_succ]
      have Hbit : Hid (L.testBit k = decide (z % 2 = 1)) := by show _ = _; rw [testBit_div, Hz.out]
      clear hxs
      go_wp2_with fail
      clear hd0 hd1 hcx hblk
      go_loopw [8] (fun v wq => ∃ j : Nat, j ≤ m ∧ v = .int .i64 j ∧ Hid (KeptBut wm.heap.size wa wq) ∧ Hid (wq.heap[wm.heap.size]? = some (.cells (rowB fun i => if i = k then L.testBit k && (l.take j).contains x else keepUpto xs l L k i) 60))) (fun v _ => m - (intOf v).toNat)
      case atStart => exact ⟨0, Nat.zero_le _, rfl, Hkw.out, by rw [rowB_congr (g := keepUpto xs l L k) (fun i _ => by by_cases h : i = k <;> simp [h, keepUpto])]; exact HA.out⟩
      case round =>
        obtain ⟨j, hj, rfl, Hkq, HAq⟩ := hrel
        have HDq := Lib.hid (Hkq.out.heapAt (HKa.out.heapAt HD.out) (by omega))
        have hd0 := cell_at HDq.out 0
        have hd1 := cell_at HDq.out 1
        simp only [List.getElem?_toArray, List.getElem?_cons_zero, List.getElem?_cons_succ] at hd0 hd1
        have hlb : w.heap.size < wr.heap.size := lt_at HDq.out
        by_cases hlt2 : j < m
        · have hxs := (HS.out.kept (HK1.out.then HKa.out)).keptBut0 Hkq.out (fun hn a ha => by cases ha; have := HS.out.block hn; omega)
          obtain ⟨x', Hx', hcx, _, _⟩ := hxs.named k hlt
          have ex : x' = x := Hx'.out.symm.trans Hx.out
          subst ex
          have hblk := hxs.block (by omega)
          have hls := (Hl.out.kept (HK1.out.then HKa.out)).keptBut0 Hkq.out (fun hn a ha => by subst ha; have := Hl.out.block hn; omega)
          obtain ⟨bl, rfl, hbl⟩ := hls.addr (by omega)
          obtain ⟨y, Hy, hcy, _, _⟩ := hls.named j hlt2
          have Hs : Hid ((l.take (j + 1)).contains x' = ((l.take j).contains x' || decide (y = x'))) := by
            show _ = _
            rw [take_succ_getD (by have := Hll.out; omega) Hy.out]
            exact contains_snoc _ _ _
          clear hxs hls
          by_cases hyx : y = x'
          · have hd5 : (y == x') = true := by simp [hyx]
            by_cases hbit : z % 2 = 1
            · have hd6 : ((z : Int) % 2 == 1) = true := by simp; omega
              have Hnew : Hid (rowB (fun i => if i = k then true else (if i = k then L.testBit k && (l.take j).contains x' else keepUpto xs l L k i)) = rowB (fun i => if i = k then L.testBit k && (l.take (j + 1)).contains x' else keepUpto xs l L k i)) := rowB_congr fun i _ => by
                by_cases h : i = k
                · simp only [h, if_true]
                  rw [Hbit.out, Hs.out, decide_eq_true hyx, decide_eq_true hbit]; simp
                · simp only [h, if_false]
              go_wp2_with fail
              refine wp_region_quiet_below (by kernel_rfl) (by kernel_rfl) ?_
              repeat (any_goals (first | go_big_quiet_step ((fail)) | quiet_step ((fail)) | (refine wpQuiet_step (fun K hK => ?_); go_simp; split <;> (refine hK _ ?_; clear hK K))))
              all_goals (refine wpQuiet_nil ?_; intro w1 hw'; replace hw' := Kept.regrown hw')
              all_goals try (exfalso; omega)
              have HA9 := Lib.hid (hw'.heapAt HAq.out)
              have hO1 := cell_at HA9.out k
              rw [rowB_get _ (by omega)] at hO1
              have hfr := frozen_at HA9.out k
              have Hk9 := Lib.hid (Hkq.out.then (KeptBut.of hw' _))
              have hset := rowB_set (fun i => if i = k then L.testBit k && (l.take j).contains x' else keepUpto xs l L k i) k true
              have Hset : Hid ((w1.setCell ⟨wm.heap.size, k, Option.none⟩ (.bool true)).heap[wm.heap.size]? = some (.cells (rowB fun i => if i = k then L.testBit k && (l.take (j + 1)).contains x' else keepUpto xs l L k i) 60)) := by
                show _ = _
                rw [heap_setCell_same _ _ _ _ _ _ HA9.out, hset, Hnew.out]
              clear hw' hd0 hd1 hset
              go_wp2_with fail
              go_roundw
              case rel => exact ⟨j + 1, by omega, by go_num, Hk9.out.then (KeptBut.set _ (a := ⟨wm.heap.size, k, Option.none⟩) rfl _), Hset.out⟩
              case measure => simp [intOf]; omega
            · have hd6 : ((z : Int) % 2 == 1) = false := by simp; omega
              have Hnew : Hid (rowB (fun i => if i = k then L.testBit k && (l.take j).contains x' else keepUpto xs l L k i) = rowB (fun i => if i = k then L.testBit k && (l.take (j + 1)).contains x' else keepUpto xs l L k i)) := rowB_congr fun i _ => by
                by_cases h : i = k
                · simp only [h, if_true]
                  rw [Hbit.out, decide_eq_false hbit]; rfl
                · simp only [h, if_false]
              go_wp2_with fail
              refine wp_region_quiet_below (by kernel_rfl) (by kernel_rfl) ?_
              repeat (any_goals (first | go_big_quiet_step ((fail)) | quiet_step ((fail)) | (refine wpQuiet_step (fun K hK => ?_); go_simp; split <;> (refine hK _ ?_; clear hK K))))
              all_goals (refine wpQuiet_nil ?_; intro w1 hw'; replace hw' := Kept.regrown hw')
              all_goals try (exfalso; omega)
              have HA9 := Lib.hid (hw'.heapAt HAq.out)
              have Hk9 := Lib.hid (Hkq.out.then (KeptBut.of hw' _))
              clear hw' hd0 hd1
              go_wp2_with fail
              go_roundw
              case rel => exact ⟨j + 1, by omega, by go_num, Hk9.out, by rw [← Hnew.out]; exact HA9.out⟩
              case measure => simp [intOf]; omega
          · have hd5 : (y == x') = false := by simp [hyx]
            have Hnew : Hid (rowB (fun i => if i = k then L.testBit k && (l.take j).contains x' else keepUpto xs l L k i) = rowB (fun i => if i = k then L.testBit k && (l.take (j + 1)).contains x' else keepUpto xs l L k i)) := rowB_congr fun i _ => by
              by_cases h : i = k
              · simp only [h, if_true]
                rw [Hs.out, decide_eq_false hyx, Bool.or_false]
              · simp only [h, if_false]
            go_wp2_with fail
            refine wp_region_quiet_below (by kernel_rfl) (by kernel_rfl) ?_
            repeat (any_goals (first | go_big_quiet_step ((fail)) | quiet_step ((fail)) | (refine wpQuiet_step (fun K hK => ?_); go_simp; split <;> (refine hK _ ?_; clear hK K))))
            all_goals (refine wpQuiet_nil ?_; intro w1 hw'; replace hw' := Kept.regrown hw')
            all_goals try (exfalso; omega)
            have HA9 := Lib.hid (hw'.heapAt HAq.out)
            have Hk9 := Lib.hid (Hkq.out.then (KeptBut.of hw' _))
            clear hw' hd0 hd1
            go_wp2_with fail
            go_roundw
            case rel => exact ⟨j + 1, by omega, by go_num, Hk9.out, by rw [← Hnew.out]; exact HA9.out⟩
            case measure => simp [intOf]; omega
        · have e : j = m := by omega
          subst e
          have Hnew : Hid (rowB (fun i => if i = k then L.testBit k && (l.take j).contains x else keepUpto xs l L k i) = rowB (keepUpto xs l L (k + 1))) := rowB_congr fun i _ => by
            rw [List.take_of_length_le (by have := Hll.out; omega)]
            unfold keepUpto
            by_cases h : i = k
            · subst h
              rw [if_pos rfl, Hx.out]; simp
            · rw [if_neg h]
              have : decide (i < k + 1) = decide (i < k) := by
                rw [decide_eq_decide]; omega
              rw [this]
          have HA9 := Lib.hid (Hnew.out ▸ HAq.out)
          go_wp2_with fail
          go_roundw
          case rel => exact ⟨k + 1, z / 2, by omega, by go_num, by simp, Hnz.out, Hkq.out, HA9.out⟩
          case measure => simp [intOf]; omega
    · have e : k = n := by omega
      subst e
      obtain ⟨f, hf⟩ : ∃ f, f = keepUpto xs l L k := ⟨_, rfl⟩
      have Hset : Hid (mkSet f 64 = (keepD p (xs, L)).2) := by
        show _ = _
        have e : p = fun x => l.contains x := funext Hp.out
        rw [hf, e, ← keepUpto_set Hm.out, Hlen.out]
      rw [← hf] at HA
      have hra : wr.rangeAt wm.heap.size 0 (rowB f).toList := fun j v hv => by
        rw [Nat.zero_add, cell_at HA.out]
        simpa using hv
      have hu := Tryd.underlying60
      have hi64 : (Tryd.prog.info? 60).map (·.size) = some (rowB f).toList.length := by rw [rowB_info f]; simp
      have hl64 : (rowB f).toList.length = 64 := by simp [rowB_size]
      have hone : ∀ v ∈ (rowB f).toList, v.oneCell' = true := fun v hv => by
        have := rowB_one f
        rw [Array.all_eq_true'] at this
        exact this v (by simpa using hv)
      have Hra := Lib.hid hra
      have HSet : Hid (∀ W, Calls Tryd.prog 43 #[.agg (rowB f)] W fun e w' => e = .returned (.int .u64 (mkSet f 64 : Nat)) ∧ Kept W w') := fun W => rset_any f W
      have HRr := Lib.hid (Hkw.out.heapAt (HKa.out.heapAt HR.out) (by omega))
      have HKr := Lib.hid (((KeptBut.of (HK1.out.then HKa.out) wm.heap.size).then Hkw.out).kept (by omega))
      have Hc0 := Lib.hid hd0
      have hfacts : Hid (∀ W, Kept wr W → W.cell? ⟨w.heap.size + 1, 0, Option.none⟩ = some (.slice Option.none 0 0) ∧ W.cell? ⟨w.heap.size + 1, 1, Option.none⟩ = some (.int .u64 0) ∧ W.frozen? ⟨w.heap.size + 1, 0, Option.none⟩ = false ∧ W.frozen? ⟨w.heap.size + 1, 1, Option.none⟩ = false) := fun W hW =>
        ⟨cell_at (hW.heapAt HRr.out) 0, cell_at (hW.heapAt HRr.out) 1, frozen_at (hW.heapAt HRr.out) 0, frozen_at (hW.heapAt HRr.out) 1⟩
      have hszr := HKr.out.size
      have hszw := Hkw.out.size
      have hsza := HKa.out.size
      clear hf hra hd1
      by_cases hk0 : 0 < k
      · have hxr := HS.out.kept HKr.out
        obtain ⟨a0, rfl, hba0⟩ := hxr.addr hk0
        have HX := Lib.hid hxr
        have Hnews : Hid (∀ W, Kept wr W → ∀ (j : Nat) (u : Value), (xs.map (Value.int .i64))[j]? = some u → W.cell? (a0.add j) = some u) := fun W hW j u hu => by
          obtain ⟨b, e, hc⟩ := (HX.out.kept hW).cell hk0
          cases e
          rw [List.getElem?_map] at hu
          have hj : j < xs.length := by
            by_cases h : j < xs.length
            · exact h
            · rw [List.getElem?_eq_none (by omega)] at hu; simp at hu
          rw [List.getElem?_eq_getElem hj] at hu
          simp only [Option.map_some, Option.some.injEq] at hu
          rw [hc j (by have := Hlen.out; omega), ← hu, List.getD_eq_getElem?_getD, List.getElem?_eq_getElem hj]
          rfl
        have hnl : (xs.map (Value.int .i64)).length = k * 1 := by rw [List.length_map, Nat.mul_one]; exact Hlen.out
        have hn1 : ∀ u ∈ xs.map (Value.int .i64), u.oneCell' = true := fun u hu => by
          rw [List.mem_map] at hu
          obtain ⟨_, _, rfl⟩ := hu
          rfl
        clear hxr
        go_wp2_with fail
        go_region_held3 (fun W => W.cell? ⟨w.heap.size, 0, Option.none⟩ = some (.slice (some a0) k c) ∧ W.rangeAt wm.heap.size 0 (rowB f).toList)
          (first
            | exact ⟨hc0, Hra.out⟩
            | exact ⟨Hc0.out, Hra.out⟩
            | exact ⟨(Kept.drewn _).cellAt Hc0.out, range_kept Hra.out (Kept.drewn _)⟩
            | exact ⟨HKs.out.cellAt Hc0.out, range_kept Hra.out HKs.out⟩
            | exact ⟨HKp.out.cellAt Hc0.out, range_kept Hra.out HKp.out⟩
            | exact ⟨((Kept.drewn _).newBlock _).cellAt Hc0.out, range_kept Hra.out ((Kept.drewn _).newBlock _)⟩
            | exact ⟨(two_but _ _ _ _).cellAt (HKs.out.cellAt Hc0.out) (by simp), fun j v hv => (two_but _ _ _ _).cellAt (range_kept Hra.out HKs.out j v hv) (by show wm.heap.size ≠ w.heap.size + 1; omega)⟩)
          (first
            | (go_at_call 43
               refine (HSet.out _).mono ?_
               rintro e wS ⟨rfl, hkS⟩
               have HKs : Hid (Kept wr wS) := by first | exact HKp.out.then hkS | exact ((Kept.drewn _).newBlock _).then hkS | exact (Kept.drewn _).then hkS
               obtain ⟨r0, r1, q0, q1⟩ := hfacts.out _ HKs.out)
            | (refine step_append_lies _ (by rfl) _ _ _ (by rfl) wr.heap.size 3 i0 _ 1 8 Tryd.underlying23 hi hz0 hz1 hz2 rfl (by omega) _ 0 [] (by rfl) (by first | exact own_empty (heap_new _ _) (by simp) | exact own_empty (hkS.heapAt (heap_new _ _)) (by simp) | exact own_empty (heap_new _ _) HKs.out.size) a0 k c (xs.map (Value.int .i64)) (by rfl) hnl (by first | exact Hnews.out _ ((Kept.drewn _).newBlock _) | exact Hnews.out _ HKs.out | exact Hnews.out _ (HKs.out.newBlock _)) hn1 hk0 (by unfold maxLen; omega) (by omega) (by first | (simp; done) | exact HKs.out.size | (have := HKs.out.size; simp; omega)) _ rfl ?_
               intro gg cap w3 hown3 hgrow hat hlt3
               have HKp : Hid (Kept wr w3) := grown_kept ((Kept.drewn _).newBlock _) hgrow (fun i hi => by simp [Act.eval, Value.ownBlock] at hi; omega)
               obtain ⟨r0, r1, q0, q1⟩ := hfacts.out _ HKp.out))
        rw [Nat.zero_add, List.nil_append] at hown3
        obtain ⟨A3, c3, e3, hI3, hf3⟩ := Ints.of_own hown3 HS.out.rng
        cases e3
        have HIs := Lib.hid (hI3.kept hkS)
        have hgg := hf3 _ rfl
        have hgl : wr.heap.size ≤ gg := hgg
        have HKS := Lib.hid (HKr.out.then HKs.out)
        clear hown3 hgrow hat hI3 hf3
        go_wp2_with fail
        refine bodyPost_ret (v := .agg #[.slice (some ⟨gg, 0, Option.none⟩) k cap, .int .u64 (mkSet f 64 : Nat)]) (by simp [results, Tryd.results84, go_sem, r0, r1]) rfl ?_
        refine ⟨some ⟨gg, 0, Option.none⟩, cap, ?_, ?_, ((KeptBut.of HKS.out _).then (two_but _ _ _ _)).kept (by omega), fun a ha => by cases ha; show w.heap.size ≤ gg; omega⟩
        · rw [← Hset.out]
          show _ = Ending.returned (.agg #[.slice (some ⟨gg, 0, Option.none⟩) xs.length cap, _])
          rw [Hlen.out]
        · show Ints _ _ xs.length xs
          rw [Hlen.out]
          exact HIs.out.keptBut0 (two_but _ _ _ _) (fun _ a ha => by cases ha; show gg ≠ w.heap.size + 1; omega)
      · have Hk0 : Hid (k = 0) := by show k = 0; omega
        go_wp2_with fail
        go_region_held3 (fun W => W.cell? ⟨w.heap.size, 0, Option.none⟩ = some (.slice A k c) ∧ W.rangeAt wm.heap.size 0 (rowB f).toList)
          (first
            | exact ⟨Hc0.out, Hra.out⟩
            | exact ⟨(Kept.drewn _).cellAt Hc0.out, range_kept Hra.out (Kept.drewn _)⟩
            | exact ⟨HKs.out.cellAt Hc0.out, range_kept Hra.out HKs.out⟩
            | exact ⟨((Kept.drewn _).newBlock _).cellAt Hc0.out, range_kept Hra.out ((Kept.drewn _).newBlock _)⟩
            | exact ⟨(two_but _ _ _ _).cellAt (HKs.out.cellAt Hc0.out) (by simp), fun j v hv => (two_but _ _ _ _).cellAt (range_kept Hra.out HKs.out j v hv) (by show wm.heap.size ≠ w.heap.size + 1; omega)⟩)
          (first
            | (go_at_call 43
               refine (HSet.out _).mono ?_
               rintro e wS ⟨rfl, hkS⟩
               have HKs : Hid (Kept wr wS) := ((Kept.drewn _).newBlock _).then hkS
               obtain ⟨r0, r1, q0, q1⟩ := hfacts.out _ HKs.out)
            | (refine step_append_zero (by rfl) _ _ (by rfl) _ _ _ _ Hk0.out (by rfl) (by rfl) ?_))
        have HKS := Lib.hid (HKr.out.then HKs.out)
        go_wp2_with fail
        refine bodyPost_ret (v := .agg #[.slice (some ⟨wr.heap.size, 0, Option.none⟩) 0 0, .int .u64 (mkSet f 64 : Nat)]) (by simp [results, Tryd.results84, go_sem, r0, r1]) rfl ?_
        refine ⟨some ⟨wr.heap.size, 0, Option.none⟩, 0, ?_, ?_, ((KeptBut.of HKS.out _).then (two_but _ _ _ _)).kept (by omega), fun a ha => by cases ha; show w.heap.size ≤ wr.heap.size; omega⟩
        · rw [← Hset.out]
          show _ = Ending.returned (.agg #[.slice (some ⟨wr.heap.size, 0, Option.none⟩) xs.length 0, _])
          rw [Hlen.out, Hk0.out]
        · show Ints _ _ xs.length xs
          exact ⟨rfl, by rw [Hlen.out]; omega, HS.out.rng, fun h => by rw [Hlen.out, Hk0.out] at h; omega⟩

theorem rkeep_any (A B : Option Addr) (n c m d L : Nat) (xs l : List Int) (w : World) (hS : Ints w A n xs) (hl : Ints w B m l) (hL : L < 2 ^ 64) (hm : mayB xs L = true) :
    Calls Tryd.prog 84 #[.agg #[.slice A n c, .int .u64 L], .slice B m d] w (DomPost (keepD (fun x => l.contains x) (xs, L)) w) := rkeep_p _ A B n c m d L xs l w (fun _ => rfl) hS hl hL hm
end Go.Proofs.YthddanjmnifloaaDoor

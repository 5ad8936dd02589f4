/-
  Contracts and plain laws that the card rests on, part 10.
-/
import Derived.Test.YtjmegicopdbkdaaDoorL6
import Derived.Test.YtjmegicopdbkdaaDoorL9
import Derived.Test.YtjmegicopdbkdaaDoorL3
import Derived.Test.YtjmegicopdbkdaaDoorL5
import Derived.Test.YtjmegicopdbkdaaDoorL7
set_option maxHeartbeats 1000000
set_option maxRecDepth 10000
namespace Go.Proofs.YtjmegicopdbkdaaDoor
open Go Go.RowKit Pl

theorem range_kept {w w' : World} {b o : Nat} {cs : List Value} (h : w.rangeAt b o cs) (hk : Kept w w') : w'.rangeAt b o cs := fun j v hv => hk.cellAt (h j v hv)
theorem grown_kept {w0 w w' : World} {r : Option Nat} (h0 : Kept w0 w) (hg : w.grownBy w' r) (hr : ∀ i, r = some i → w0.heap.size ≤ i) : Kept w0 w' := h0.grown hg h0.size hr

theorem two_but (w : World) (O : Nat) (x0 x1 : Value) : KeptBut O w ((w.setCell ⟨O, 0, Option.none⟩ x0).setCell ⟨O, 1, Option.none⟩ x1) :=
  (KeptBut.set _ (a := ⟨O, 0, Option.none⟩) rfl _).then (KeptBut.set _ (a := ⟨O, 1, Option.none⟩) rfl _)

/-- What is kept of the places below k. -/
def keepUpto (xs l : List Int) (L k : Nat) (i : Nat) : Bool := decide (i < k) && (L.testBit i && l.contains (xs.getD i 0))

theorem keepUpto_set {xs l : List Int} {L : Nat} (hm : mayB xs L = true) : mkSet (keepUpto xs l L xs.length) 64 = (keepD (fun x => l.contains x) (xs, L)).2 := by
  apply Nat.eq_of_testBit_eq
  intro i
  rw [testBit_keepD, testBit_mkSet]
  unfold keepUpto
  by_cases hb : L.testBit i = true
  · have := (may_bit (d := (xs, L)) hm hb).1
    have h2 : decide (i < xs.length) = true := by simpa using this
    rw [h2]; rfl
  · have : L.testBit i = false := by simpa using hb
    rw [this]; simp

theorem rkeep_p (p : Int → Bool) (A B : Option Addr) (n c m d L : Nat) (xs l : List Int) (w : World) (hp : ∀ x, p x = l.contains x) (hS : Ints w A n xs) (hl : Ints w B m l) (hL : L < 2 ^ 64) (hm : mayB xs L = true) :
    Calls Tryd.prog 67 #[.agg #[.slice A n c, .int .u64 L], .slice B m d] w (DomPost (keepD p (xs, L)) w) := by
  obtain ⟨i0, hi, hz0, hz1, hz2⟩ := info_parts info_int
  have Hp := Lib.hid hp
  have HS := Lib.hid hS
  have Hl := Lib.hid hl
  have HL := Lib.hid hL
  have Hm := Lib.hid hm
  have Hlen := Lib.hid hS.len
  have Hll := Lib.hid hl.len
  have hsm := hS.small
  have hsm2 := hl.small
  have hn64 : n ≤ 64 := by have := mayB_len hm; have := hS.len; omega
  have hmay : Hid (∀ W, Ints W A n xs → Calls Tryd.prog 66 #[.agg #[.slice A n c, .int .u64 L]] W fun e w' => e = .returned (.bool true) ∧ Kept W w') := fun W hW => by
    have := rmay_any A n c L xs W hW HL.out
    rwa [hm] at this
  clear hS hl hL hm hp
  go_enter Tryd.func67, Tryd.ntmps67
  refine wp_seq_k fun K h => ?_
  have H := Lib.hid h
  clear h
  go_wp2_with fail
  refine H.out _ _ ?_
  clear H K
  refine wp_seq_k fun K h => ?_
  have H := Lib.hid h
  clear h
  go_wp2_with fail
  refine (hmay.out _ (HS.out.kept ((Kept.box _ _).newBlock _))).mono ?_
  rintro e wm ⟨rfl, hk1⟩
  have HD := Lib.hid (hk1.heapAt ((Kept.box _ _).heapAt (heap_new w (.cells #[.slice A n c, .int .u64 (L : Nat)] 64))))
  have HR := Lib.hid (hk1.heapAt (heap_new2 w (.cells #[.slice A n c, .int .u64 (L : Nat)] 64) _))
  have HK1 := Lib.hid (((Kept.box w _).newBlock _).then hk1)
  have hsz := hk1.size
  simp only [World.size_alloc] at hsz
  clear hk1 hmay
  go_wp2_with fail
  refine H.out _ _ ?_
  clear H K
  refine wp_seq_k fun K h => wp_region_list ?_
  have H := Lib.hid h
  clear h
  refine Great.wpList_runTo rfl (some 13) rfl (.agg (rowB fun _ => false)) wm (by kernel_rfl) ?_
  refine Great.wpList_runTo rfl (some 5) rfl (.pointer (some ⟨wm.heap.size, 0, none⟩)) (wm.alloc (.cells (rowB fun _ => false) 102)) (by kernel_rfl) ?_
  refine wpList_store_row rfl 102 (.tmp 5) (.tmp 13) rfl wm.heap.size (rowB fun _ => false) rfl rfl 102 (rowB fun _ => false) (heap_new _ _) (rowB_info _) rfl (rowB_one _) ?_
  rw [World.setRow_alloc_new]
  refine wpList_nil (H.out _ _ ?_)
  clear H K
  have HKa := Lib.hid (Kept.box wm (.cells (rowB fun _ => false) 102))
  have HA0 := Lib.hid (heap_new wm (.cells (rowB fun _ => false) 102))
  generalize wm.alloc (.cells (rowB fun _ => false) 102) = wa at *
  have hd := HKa.out.heapAt HD.out
  have hd0 := cell_at hd 0
  have hd1 := cell_at hd 1
  simp only [List.getElem?_toArray, List.getElem?_cons_zero, List.getElem?_cons_succ] at hd0 hd1
  clear hd
  go_wp2_with fail
  clear hd0 hd1
  go_loopw [6, 7] (fun u v wr => ∃ (k z : Nat), k ≤ n ∧ v = .int .i64 k ∧ u = .int .u64 (z : Nat) ∧ Hid (z = L / 2 ^ k) ∧ Hid (KeptBut wm.heap.size wa wr) ∧ Hid (wr.heap[wm.heap.size]? = some (.cells (rowB (keepUpto xs l L k)) 102))) (fun _ v _ => n - (intOf v).toNat)
  case atStart => exact ⟨0, L, Nat.zero_le _, rfl, rfl, by show L = L / 2 ^ 0; simp, KeptBut.refl _ _, by rw [rowB_congr (g := fun _ => false) (fun j _ => by simp [keepUpto])]; exact HA0⟩
  case round =>
    obtain ⟨k, z, hk, rfl, rfl, Hz, Hkw, HA⟩ := hrel
    have HDr := Lib.hid (Hkw.out.heapAt (HKa.out.heapAt HD.out) (by omega))
    have hd0 := cell_at HDr.out 0
    have hd1 := cell_at HDr.out 1
    simp only [List.getElem?_toArray, List.getElem?_cons_zero, List.getElem?_cons_succ] at hd0 hd1
    by_cases hlt : k < n
    · have hxs := (HS.out.kept (HK1.out.then HKa.out)).keptBut0 Hkw.out (fun hn a ha => by subst ha; have := HS.out.block hn; omega)
      obtain ⟨a, rfl, hblk⟩ := hxs.addr (by omega)
      obtain ⟨x, Hx, hcx, hx1, hx2⟩ := hxs.named k hlt
      have hzL : z ≤ L := by rw [Hz.out]; exact Nat.div_le_self _ _
      have hwz : IntKind.u64.wrap ((z : Int) / 2) = (z : Int) / 2 := by rw [IntKind.wrap_u64]; have := HL.out; omega
      have Hnz : Hid (z / 2 = L / 2 ^ (k + 1)) := by show _ = _; rw [Hz.out, Nat.div_div_eq_div_mul, Nat.pow_succ]
      have Hbit : Hid (L.testBit k = decide (z % 2 = 1)) := by show _ = _; rw [testBit_div, Hz.out]
      clear hxs
      go_wp2_with fail
      clear hd0 hd1 hcx hblk
      go_loopw [8] (fun v wq => ∃ j : Nat, j ≤ m ∧ v = .int .i64 j ∧ Hid (KeptBut wm.heap.size wa wq) ∧ Hid (wq.heap[wm.heap.size]? = some (.cells (rowB fun i => if i = k then L.testBit k && (l.take j).contains x else keepUpto xs l L k i) 102))) (fun v _ => m - (intOf v).toNat)
      case atStart => exact ⟨0, Nat.zero_le _, rfl, Hkw.out, by rw [rowB_congr (g := keepUpto xs l L k) (fun i _ => by by_cases h : i = k <;> simp [h, keepUpto])]; exact HA.out⟩
      case round =>
        obtain ⟨j, hj, rfl, Hkq, HAq⟩ := hrel
        have HDq := Lib.hid (Hkq.out.heapAt (HKa.out.heapAt HD.out) (by omega))
        have hd0 := cell_at HDq.out 0
        have hd1 := cell_at HDq.out 1
        simp only [List.getElem?_toArray, List.getElem?_cons_zero, List.getElem?_cons_succ] at hd0 hd1
        have hlb : w.heap.size < wr.heap.size := lt_at HDq.out
        by_cases hlt2 : j < m
        · have hxs := (HS.out.kept (HK1.out.then HKa.out)).keptBut0 Hkq.out (fun hn a ha => by cases ha; have := HS.out.block hn; omega)
          obtain ⟨x', Hx', hcx, _, _⟩ := hxs.named k hlt
          have ex : x' = x := Hx'.out.symm.trans Hx.out
          subst ex
          have hblk := hxs.block (by omega)
          have hls := (Hl.out.kept (HK1.out.then HKa.out)).keptBut0 Hkq.out (fun hn a ha => by subst ha; have := Hl.out.block hn; omega)
          obtain ⟨bl, rfl, hbl⟩ := hls.addr (by omega)
          obtain ⟨y, Hy, hcy, _, _⟩ := hls.named j hlt2
          have Hs : Hid ((l.take (j + 1)).contains x' = ((l.take j).contains x' || decide (y = x'))) := by
            show _ = _
            rw [take_succ_getD (by have := Hll.out; omega) Hy.out]
            exact contains_snoc _ _ _
          clear hxs hls
          by_cases hyx : y = x'
          · have hd5 : (y == x') = true := by simp [hyx]
            by_cases hbit : z % 2 = 1
            · have hd6 : ((z : Int) % 2 == 1) = true := by simp; omega
              have Hnew : Hid (rowB (fun i => if i = k then true else (if i = k then L.testBit k && (l.take j).contains x' else keepUpto xs l L k i)) = rowB (fun i => if i = k then L.testBit k && (l.take (j + 1)).contains x' else keepUpto xs l L k i)) := rowB_congr fun i _ => by
                by_cases h : i = k
                · simp only [h, if_true]
                  rw [Hbit.out, Hs.out, decide_eq_true hyx, decide_eq_true hbit]; simp
                · simp only [h, if_false]
              go_wp2_with fail
              refine wp_region_quiet_below (by kernel_rfl) (by kernel_rfl) ?_
              repeat (any_goals (first | go_big_quiet_step ((fail)) | quiet_step ((fail)) | (refine wpQuiet_step (fun K hK => ?_); go_simp; split <;> (refine hK _ ?_; clear hK K))))
              all_goals (refine wpQuiet_nil ?_; intro w1 hw'; replace hw' := Kept.regrown hw')
              all_goals try (exfalso; omega)
              have HA9 := Lib.hid (hw'.heapAt HAq.out)
              have hO1 := cell_at HA9.out k
              rw [rowB_get _ (by omega)] at hO1
              have hfr := frozen_at HA9.out k
              have Hk9 := Lib.hid (Hkq.out.then (KeptBut.of hw' _))
              have hset := rowB_set (fun i => if i = k then L.testBit k && (l.take j).contains x' else keepUpto xs l L k i) k true
              have Hset : Hid ((w1.setCell ⟨wm.heap.size, k, Option.none⟩ (.bool true)).heap[wm.heap.size]? = some (.cells (rowB fun i => if i = k then L.testBit k && (l.take (j + 1)).contains x' else keepUpto xs l L k i) 102)) := by
                show _ = _
                rw [heap_setCell_same _ _ _ _ _ _ HA9.out, hset, Hnew.out]
              clear hw' hd0 hd1 hset
              go_wp2_with fail
              go_roundw
              case rel => exact ⟨j + 1, by omega, by go_num, Hk9.out.then (KeptBut.set _ (a := ⟨wm.heap.size, k, Option.none⟩) rfl _), Hset.out⟩
              case measure => simp [intOf]; omega
            · have hd6 : ((z : Int) % 2 == 1) = false := by simp; omega
              have Hnew : Hid (rowB (fun i => if i = k then L.testBit k && (l.take j).contains x' else keepUpto xs l L k i) = rowB (fun i => if i = k then L.testBit k && (l.take (j + 1)).contains x' else keepUpto xs l L k i)) := rowB_congr fun i _ => by
                by_cases h : i = k
                · simp only [h, if_true]
                  rw [Hbit.out, decide_eq_false hbit]; rfl
                · simp only [h, if_false]
              go_wp2_with fail
              refine wp_region_quiet_below (by kernel_rfl) (by kernel_rfl) ?_
              repeat (any_goals (first | go_big_quiet_step ((fail)) | quiet_step ((fail)) | (refine wpQuiet_step (fun K hK => ?_); go_simp; split <;> (refine hK _ ?_; clear hK K))))
              all_goals (refine wpQuiet_nil ?_; intro w1 hw'; replace hw' := Kept.regrown hw')
              all_goals try (exfalso; omega)
              have HA9 := Lib.hid (hw'.heapAt HAq.out)
              have Hk9 := Lib.hid (Hkq.out.then (KeptBut.of hw' _))
              clear hw' hd0 hd1
              go_wp2_with fail
              go_roundw
              case rel => exact ⟨j + 1, by omega, by go_num, Hk9.out, by rw [← Hnew.out]; exact HA9.out⟩
              case measure => simp [intOf]; omega
          · have hd5 : (y == x') = false := by simp [hyx]
            have Hnew : Hid (rowB (fun i => if i = k then L.testBit k && (l.take j).contains x' else keepUpto xs l L k i) = rowB (fun i => if i = k then L.testBit k && (l.take (j + 1)).contains x' else keepUpto xs l L k i)) := rowB_congr fun i _ => by
              by_cases h : i = k
              · simp only [h, if_true]
                rw [Hs.out, decide_eq_false hyx, Bool.or_false]
              · simp only [h, if_false]
            go_wp2_with fail
            refine wp_region_quiet_below (by kernel_rfl) (by kernel_rfl) ?_
            repeat (any_goals (first | go_big_quiet_step ((fail)) | quiet_step ((fail)) | (refine wpQuiet_step (fun K hK => ?_); go_simp; split <;> (refine hK _ ?_; clear hK K))))
            all_goals (refine wpQuiet_nil ?_; intro w1 hw'; replace hw' := Kept.regrown hw')
            all_goals try (exfalso; omega)
            have HA9 := Lib.hid (hw'.heapAt HAq.out)
            have Hk9 := Lib.hid (Hkq.out.then (KeptBut.of hw' _))
            clear hw' hd0 hd1
            go_wp2_with fail
            go_roundw
            case rel => exact ⟨j + 1, by omega, by go_num, Hk9.out, by rw [← Hnew.out]; exact HA9.out⟩
            case measure => simp [intOf]; omega
        · have e : j = m := by omega
          subst e
          have Hnew : Hid (rowB (fun i => if i = k then L.testBit k && (l.take j).contains x else keepUpto xs l L k i) = rowB (keepUpto xs l L (k + 1))) := rowB_congr fun i _ => by
            rw [List.take_of_length_le (by have := Hll.out; omega)]
            unfold keepUpto
            by_cases h : i = k
            · subst h
              rw [if_pos rfl, Hx.out]; simp
            · rw [if_neg h]
              have : decide (i < k + 1) = decide (i < k) := by
                rw [decide_eq_decide]; omega
              rw [this]
          have HA9 := Lib.hid (Hnew.out ▸ HAq.out)
          go_wp2_with fail
          go_roundw
          case rel => exact ⟨k + 1, z / 2, by omega, by go_num, by simp, Hnz.out, Hkq.out, HA9.out⟩
          case measure => simp [intOf]; omega
    · have e : k = n := by omega
      subst e
      obtain ⟨f, hf⟩ : ∃ f, f = keepUpto xs l L k := ⟨_, rfl⟩
      have Hset : Hid (mkSet f 64 = (keepD p (xs, L)).2) := by
        show _ = _
        have e : p = fun x => l.contains x := funext Hp.out
        rw [hf, e, ← keepUpto_set Hm.out, Hlen.out]
      rw [← hf] at HA
      have hra : wr.rangeAt wm.heap.size 0 (rowB f).toList := fun j v hv => by
        rw [Nat.zero_add, cell_at HA.out]
        simpa using hv
      have hu := Tryd.underlying102
      have hi64 : (Tryd.prog.info? 102).map (·.size) = some (rowB f).toList.length := by rw [rowB_info f]; simp
      have hl64 : (rowB f).toList.length = 64 := by simp [rowB_size]
      have hone : ∀ v ∈ (rowB f).toList, v.oneCell' = true := fun v hv => by
        have := rowB_one f
        rw [Array.all_eq_true'] at this
        exact this v (by simpa using hv)
      have Hra := Lib.hid hra
      have HSet : Hid (∀ W, Calls Tryd.prog 82 #[.agg (rowB f)] W fun e w' => e = .returned (.int .u64 (mkSet f 64 : Nat)) ∧ Kept W w') := fun W => rset_any f W
      have HRr := Lib.hid (Hkw.out.heapAt (HKa.out.heapAt HR.out) (by omega))
      have HKr := Lib.hid (((KeptBut.of (HK1.out.then HKa.out) wm.heap.size).then Hkw.out).kept (by omega))
      have Hc0 := Lib.hid hd0
      have hfacts : Hid (∀ W, Kept wr W → W.cell? ⟨w.heap.size + 1, 0, Option.none⟩ = some (.slice Option.none 0 0) ∧ W.cell? ⟨w.heap.size + 1, 1, Option.none⟩ = some (.int .u64 0) ∧ W.frozen? ⟨w.heap.size + 1, 0, Option.none⟩ = false ∧ W.frozen? ⟨w.heap.size + 1, 1, Option.none⟩ = false) := fun W hW =>
        ⟨cell_at (hW.heapAt HRr.out) 0, cell_at (hW.heapAt HRr.out) 1, frozen_at (hW.heapAt HRr.out) 0, frozen_at (hW.heapAt HRr.out) 1⟩
      have hszr := HKr.out.size
      have hszw := Hkw.out.size
      have hsza := HKa.out.size
      clear hf hra hd1
      by_cases hk0 : 0 < k
      · have hxr := HS.out.kept HKr.out
        obtain ⟨a0, rfl, hba0⟩ := hxr.addr hk0
        have HX := Lib.hid hxr
        have Hnews : Hid (∀ W, Kept wr W → ∀ (j : Nat) (u : Value), (xs.map (Value.int .i64))[j]? = some u → W.cell? (a0.add j) = some u) := fun W hW j u hu => by
          obtain ⟨b, e, hc⟩ := (HX.out.kept hW).cell hk0
          cases e
          rw [List.getElem?_map] at hu
          have hj : j < xs.length := by
            by_cases h : j < xs.length
            · exact h
            · rw [List.getElem?_eq_none (by omega)] at hu; simp at hu
          rw [List.getElem?_eq_getElem hj] at hu
          simp only [Option.map_some, Option.some.injEq] at hu
          rw [hc j (by have := Hlen.out; omega), ← hu, List.getD_eq_getElem?_getD, List.getElem?_eq_getElem hj]
          rfl
        have hnl : (xs.map (Value.int .i64)).length = k * 1 := by rw [List.length_map, Nat.mul_one]; exact Hlen.out
        have hn1 : ∀ u ∈ xs.map (Value.int .i64), u.oneCell' = true := fun u hu => by
          rw [List.mem_map] at hu
          obtain ⟨_, _, rfl⟩ := hu
          rfl
        clear hxr
        go_wp2_with fail
        go_region_held3 (fun W => W.cell? ⟨w.heap.size, 0, Option.none⟩ = some (.slice (some a0) k c) ∧ W.rangeAt wm.heap.size 0 (rowB f).toList)
          (first
            | exact ⟨hc0, Hra.out⟩
            | exact ⟨Hc0.out, Hra.out⟩
            | exact ⟨(Kept.drewn _).cellAt Hc0.out, range_kept Hra.out (Kept.drewn _)⟩
            | exact ⟨HKs.out.cellAt Hc0.out, range_kept Hra.out HKs.out⟩
            | exact ⟨HKp.out.cellAt Hc0.out, range_kept Hra.out HKp.out⟩
            | exact ⟨((Kept.drewn _).newBlock _).cellAt Hc0.out, range_kept Hra.out ((Kept.drewn _).newBlock _)⟩
            | exact ⟨(two_but _ _ _ _).cellAt (HKs.out.cellAt Hc0.out) (by simp), fun j v hv => (two_but _ _ _ _).cellAt (range_kept Hra.out HKs.out j v hv) (by show wm.heap.size ≠ w.heap.size + 1; omega)⟩)
          (first
            | (go_at_call 82
               refine (HSet.out _).mono ?_
               rintro e wS ⟨rfl, hkS⟩
               have HKs : Hid (Kept wr wS) := by first | exact HKp.out.then hkS | exact ((Kept.drewn _).newBlock _).then hkS | exact (Kept.drewn _).then hkS
               obtain ⟨r0, r1, q0, q1⟩ := hfacts.out _ HKs.out)
            | (refine step_append_lies _ (by rfl) _ _ _ (by rfl) wr.heap.size 3 i0 _ 1 8 Tryd.underlying22 hi hz0 hz1 hz2 rfl (by omega) _ 0 [] (by rfl) (by first | exact own_empty (heap_new _ _) (by simp) | exact own_empty (hkS.heapAt (heap_new _ _)) (by simp) | exact own_empty (heap_new _ _) HKs.out.size) a0 k c (xs.map (Value.int .i64)) (by rfl) hnl (by first | exact Hnews.out _ ((Kept.drewn _).newBlock _) | exact Hnews.out _ HKs.out | exact Hnews.out _ (HKs.out.newBlock _)) hn1 hk0 (by unfold maxLen; omega) (by omega) (by first | (simp; done) | exact HKs.out.size | (have := HKs.out.size; simp; omega)) _ rfl ?_
               intro gg cap w3 hown3 hgrow hat hlt3
               have HKp : Hid (Kept wr w3) := grown_kept ((Kept.drewn _).newBlock _) hgrow (fun i hi => by simp [Act.eval, Value.ownBlock] at hi; omega)
               obtain ⟨r0, r1, q0, q1⟩ := hfacts.out _ HKp.out))
        rw [Nat.zero_add, List.nil_append] at hown3
        obtain ⟨A3, c3, e3, hI3, hf3⟩ := Ints.of_own hown3 HS.out.rng
        cases e3
        have HIs := Lib.hid (hI3.kept hkS)
        have hgg := hf3 _ rfl
        have hgl : wr.heap.size ≤ gg := hgg
        have HKS := Lib.hid (HKr.out.then HKs.out)
        clear hown3 hgrow hat hI3 hf3
        go_wp2_with fail
        refine bodyPost_ret (v := .agg #[.slice (some ⟨gg, 0, Option.none⟩) k cap, .int .u64 (mkSet f 64 : Nat)]) (by simp [results, Tryd.results67, go_sem, r0, r1]) rfl ?_
        refine ⟨some ⟨gg, 0, Option.none⟩, cap, ?_, ?_, ((KeptBut.of HKS.out _).then (two_but _ _ _ _)).kept (by omega), fun a ha => by cases ha; show w.heap.size ≤ gg; omega⟩
        · rw [← Hset.out]
          show _ = Ending.returned (.agg #[.slice (some ⟨gg, 0, Option.none⟩) xs.length cap, _])
          rw [Hlen.out]
        · show Ints _ _ xs.length xs
          rw [Hlen.out]
          exact HIs.out.keptBut0 (two_but _ _ _ _) (fun _ a ha => by cases ha; show gg ≠ w.heap.size + 1; omega)
      · have Hk0 : Hid (k = 0) := by show k = 0; omega
        go_wp2_with fail
        go_region_held3 (fun W => W.cell? ⟨w.heap.size, 0, Option.none⟩ = some (.slice A k c) ∧ W.rangeAt wm.heap.size 0 (rowB f).toList)
          (first
            | exact ⟨Hc0.out, Hra.out⟩
            | exact ⟨(Kept.drewn _).cellAt Hc0.out, range_kept Hra.out (Kept.drewn _)⟩
            | exact ⟨HKs.out.cellAt Hc0.out, range_kept Hra.out HKs.out⟩
            | exact ⟨((Kept.drewn _).newBlock _).cellAt Hc0.out, range_kept Hra.out ((Kept.drewn _).newBlock _)⟩
            | exact ⟨(two_but _ _ _ _).cellAt (HKs.out.cellAt Hc0.out) (by simp), fun j v hv => (two_but _ _ _ _).cellAt (range_kept Hra.out HKs.out j v hv) (by show wm.heap.size ≠ w.heap.size + 1; omega)⟩)
          (first
            | (go_at_call 82
               refine (HSet.out _).mono ?_
               rintro e wS ⟨rfl, hkS⟩
               have HKs : Hid (Kept wr wS) := ((Kept.drewn _).newBlock _).then hkS
               obtain ⟨r0, r1, q0, q1⟩ := hfacts.out _ HKs.out)
            | (refine step_append_zero (by rfl) _ _ (by rfl) _ _ _ _ Hk0.out (by rfl) (by rfl) ?_))
        have HKS := Lib.hid (HKr.out.then HKs.out)
        go_wp2_with fail
        refine bodyPost_ret (v := .agg #[.slice (some ⟨wr.heap.size, 0, Option.none⟩) 0 0, .int .u64 (mkSet f 64 : Nat)]) (by simp [results, Tryd.results67, go_sem, r0, r1]) rfl ?_
        refine ⟨some ⟨wr.heap.size, 0, Option.none⟩, 0, ?_, ?_, ((KeptBut.of HKS.out _).then (two_but _ _ _ _)).kept (by omega), fun a ha => by cases ha; show w.heap.size ≤ wr.heap.size; omega⟩
        · rw [← Hset.out]
          show _ = Ending.returned (.agg #[.slice (some ⟨wr.heap.size, 0, Option.none⟩) xs.length 0, _])
          rw [Hlen.out, Hk0.out]
        · show Ints _ _ xs.length xs
          exact ⟨rfl, by rw [Hlen.out]; omega, HS.out.rng, fun h => by rw [Hlen.out, Hk0.out] at h; omega⟩

theorem rkeep_any (A B : Option Addr) (n c m d L : Nat) (xs l : List Int) (w : World) (hS : Ints w A n xs) (hl : Ints w B m l) (hL : L < 2 ^ 64) (hm : mayB xs L = true) :
    Calls Tryd.prog 67 #[.agg #[.slice A n c, .int .u64 L], .slice B m d] w (DomPost (keepD (fun x => l.contains x) (xs, L)) w) := rkeep_p _ A B n c m d L xs l w (fun _ => rfl) hS hl hL hm
end Go.Proofs.YtjmegicopdbkdaaDoor

set_option maxHeartbeats 1000000
set_option maxRecDepth 10000
namespace Go.Proofs.YtjmegicopdbkdaaDoor
open Go Go.RowKit Pl

theorem info_rdom : (Tryd.prog.info? 64).map (fun i => (i.zero, i.size, i.bytes)) = some (some (.agg #[.slice Option.none 0 0, .int .u64 0]), 2, 32) := by kernel_rfl

theorem own_any (A : Option Addr) (n c : Nat) (ds : List DomB) (w : World) (hS : Doms w A n ds) (hn : n ≤ 1000) :
    Calls Tryd.prog 15 #[.slice A n c] w (DomsPost ds w) := by
  obtain ⟨i0, hi, hz0, hz1, hz2⟩ := info_parts info_rdom
  have HS := Lib.hid hS
  have Hlen := Lib.hid hS.len
  clear hS
  go_enter Tryd.func15, Tryd.ntmps15
  go_wp2_with fail
  go_loopw [3, 9] (fun u v wr => ∃ k : Nat, k ≤ n ∧ v = .int .i64 k ∧ Hid (OwnR wr w.heap.size u (ds.take k)) ∧ Hid (Kept w wr)) (fun _ v _ => n - (intOf v).toNat)
  case atStart =>
    refine ⟨0, Nat.zero_le _, rfl, ?_, Kept.box _ _⟩
    rw [List.take_zero]
    exact ⟨[], World.ownsRow_made w #[] 0 (Nat.le_refl _) (by decide) rfl, fun j hj => by simp at hj⟩
  case round =>
    obtain ⟨k, hk, rfl, HO, Hkw⟩ := hrel
    by_cases hlt : k < n
    · have hSr := HS.out.kept Hkw.out
      obtain ⟨a, rfl, hblk⟩ := hSr.addr (by omega)
      obtain ⟨xs, L, B, m, cB, Hd, hc1, hc2, HI, hL⟩ := hSr.named k hlt
      have HIw : Hid (0 < m → ∀ a, B = some a → a.block < w.heap.size) := fun hm a' ha' => by
        obtain ⟨b, e, hc⟩ := HS.out.cell (by omega)
        cases e
        obtain ⟨B', m', c', q1, _, q3⟩ := hc k hlt
        have q4 := Hkw.out.cellAt q1
        rw [hc1] at q4
        cases q4
        subst ha'
        exact q3.block hm
      obtain ⟨vs, hown, hd⟩ := HO.out
      have hkl : (ds.take k).length = k := by rw [List.length_take]; have := Hlen.out; omega
      rw [hkl] at hown hd
      have Hown := Lib.hid hown
      have Hdd := Lib.hid hd
      have Hul : Hid (∀ i, u3.ownBlock = some i → w.heap.size ≤ i ∧ i < wr.heap.size) := hown.lt
      have hszr := Hkw.out.size
      clear hSr hown hd
      go_wp2_with (at_builtin; refine wpList_append_own_at _ rfl _ _ 31 rfl w.heap.size 64 i0 (.agg #[.slice Option.none 0 0, .int .u64 0]) 2 32 Tryd.underlying31 hi hz0 hz1 hz2 rfl (by decide) _ _ _ rfl (own_kept Hown.out ((Kept.box _ _).newBlock _)) ⟨wr.heap.size + 1, 0, none⟩ 1 1 [.slice B m cB, .int .u64 L] rfl rfl (World.news_of_block (cs := #[.slice B m cB, .int .u64 L]) (t := 64) (fr := (0, 0)) (heap_new2 _ _ _)) (by simp [Value.oneCell']) (by unfold maxLen; omega) (by omega) (by simp; omega) ?_; intro v' w2 hown' hgrow _ hloc; obtain ⟨g, cap, rfl, hgb, hgl⟩ := hown'.form (by omega))
      go_roundw
      case rel =>
        have hk2 := (Kept.box wr (.cells #[.slice B m cB, .int .u64 (L : Nat)] 47)).newBlock (.cells #[.slice B m cB, .int .u64 (L : Nat)] 64)
        refine ⟨k + 1, by omega, by go_num, ?_, ?_⟩
        · show OwnR _ _ _ _
          rw [take_dom (by have := Hlen.out; omega) Hd.out]
          have := OwnR.snoc (ds := ds.take k) (d := (xs, L)) (c := cB) (by rw [hkl]; exact own_kept Hown.out hk2) ?_ (HI.out.kept hk2) ?_ hL (by rw [hkl]; exact hown') hgrow ?_
          · rw [hkl] at this; exact this
          · rw [hkl]
            intro j hj
            obtain ⟨hl, B1, m1, c1', e1, e2, e3, e4⟩ := Hdd.out j hj
            exact ⟨hl, B1, m1, c1', e1, e2, e3.kept hk2, e4⟩
          · intro hm a' ha' e
            have := Hul.out _ e
            have := HIw.out hm a' ha'
            omega
          · rcases hloc with h | h
            · exact Or.inl (by rw [← h]; rfl)
            · right
              have : g = wr.heap.size + 1 + 1 := by simpa [Value.ownBlock] using h
              simp only [World.size_alloc]
              omega
        · show Kept w w2
          exact ((Hkw.out.newBlock _).newBlock _).grown hgrow (by simp; omega) (fun i hi => (Hul.out i hi).1)
      case measure => simp [intOf]; omega
    · have e : k = n := by omega
      subst e
      rw [List.take_of_length_le (by have := Hlen.out; omega)] at HO
      obtain ⟨A5, c5, rfl⟩ := HO.out.parts
      have HD := Lib.hid (HO.out.doms (n := ds.length) rfl (by have := Hlen.out; omega))
      clear HO
      go_wp2_with fail
      go_ret
      exact ⟨A5, c5, rfl, HD.out, Hkw.out⟩
end Go.Proofs.YtjmegicopdbkdaaDoor

set_option maxHeartbeats 1000000
set_option maxRecDepth 10000
namespace Go.Proofs.YtjmegicopdbkdaaDoor
open Go Go.RowKit Pl

theorem rkeeps_any (kq : Nat → Int → Bool) (A B : Option Addr) (n c d : Nat) (ds : List DomB) (ls : List (List Int)) (w : World) (hS : Doms w A n ds) (hL : LL w B n ls) (hm : allMay ds = true) (hkq : ∀ i x, kq i x = (ls.getD i []).contains x) (hn : n ≤ 1000) :
    Calls Tryd.prog 37 #[.slice A n c, .slice B n d] w (DomsPost (stepB kq ds) w) := by
  obtain ⟨i0, hi, hz0, hz1, hz2⟩ := info_parts info_rdom
  have HS := Lib.hid hS
  have HL := Lib.hid hL
  have Hlen := Lib.hid hS.len
  have Hm := Lib.hid hm
  have Hkq := Lib.hid hkq
  have Hsl : Hid ((stepB kq ds).length = n) := by show _ = _; rw [stepB_length]; exact hS.len
  clear hS hL hm hkq
  go_enter Tryd.func37, Tryd.ntmps37
  go_wp2_with fail
  go_loopw [5, 6] (fun u v wr => ∃ k : Nat, k ≤ n ∧ v = .int .i64 k ∧ Hid (OwnR wr w.heap.size u ((stepB kq ds).take k)) ∧ Hid (Kept w wr)) (fun _ v _ => n - (intOf v).toNat)
  case atStart =>
    refine ⟨0, Nat.zero_le _, rfl, ?_, Kept.box _ _⟩
    rw [List.take_zero]
    exact ⟨[], World.ownsRow_made w #[] 0 (Nat.le_refl _) (by decide) rfl, fun j hj => by simp at hj⟩
  case round =>
    obtain ⟨k, hk, rfl, HO, Hkw⟩ := hrel
    by_cases hlt : k < n
    · obtain ⟨a, rfl, hblk0⟩ := HS.out.addr (by omega)
      obtain ⟨xs, L, B1, m, cB, Hd, hw1, hw2, HI0, hL⟩ := HS.out.named k hlt
      obtain ⟨b, l, B2, m2, cB2, rfl, hblk20, Hl, hw3, HI20⟩ := HL.out.named k hlt
      have HI := Lib.hid (HI0.out.kept Hkw.out)
      have HI2 := Lib.hid (HI20.out.kept Hkw.out)
      have Hw1 := Lib.hid hw1
      have Hw2 := Lib.hid hw2
      have Hw3 := Lib.hid hw3
      have hc1 := Hkw.out.cellAt hw1
      have hc2 := Hkw.out.cellAt hw2
      have hc3 := Hkw.out.cellAt hw3
      have hblk : a.block < wr.heap.size := by have := Hkw.out.size; omega
      have hblk2 : b.block < wr.heap.size := by have := Hkw.out.size; omega
      clear hw1 hw2 hw3
      have Hmay : Hid (mayB xs L = true) := by
        have := allMay_at Hm.out (show k < ds.length by have := Hlen.out; omega)
        have h2 := Hd.out
        unfold nilD at h2
        rw [h2] at this
        exact this
      obtain ⟨vs, hown, hd⟩ := HO.out
      have hkl : ((stepB kq ds).take k).length = k := by rw [List.length_take]; have := Hsl.out; omega
      rw [hkl] at hown hd
      have Hul : Hid (∀ i, u5.ownBlock = some i → w.heap.size ≤ i ∧ i < wr.heap.size) := hown.lt
      have Hown := Lib.hid hown
      have Hdd := Lib.hid hd
      have hszr := Hkw.out.size
      obtain ⟨dk, hdk⟩ : ∃ dk, dk = keepD (kq k) (xs, L) := ⟨_, rfl⟩
      have Hnext : Hid ((stepB kq ds).take (k + 1) = (stepB kq ds).take k ++ [dk]) := by
        show _ = _
        refine take_dom (by have := Hsl.out; omega) ?_
        rw [hdk, ← Hd.out]
        exact stepB_getD kq ds (by have := Hlen.out; omega)
      have Hdl : Hid (dk.2 < 2 ^ 64) := by show _ < _; rw [hdk]; exact keepD_lt _ _
      have Hd1 : Hid (dk.1 = xs) := by show _ = _; rw [hdk]; rfl
      have HK : Hid (∀ W, Kept wr W → Calls Tryd.prog 67 #[.agg #[.slice B1 m cB, .int .u64 L], .slice B2 m2 cB2] W fun e w' => ∃ A' c', e = .returned (.agg #[.slice A' m c', .int .u64 (dk.2 : Nat)]) ∧ Ints w' A' m dk.1 ∧ Kept W w' ∧ Fresh W A') := fun W hW => by
        have hml : xs.length = m := HI.out.len
        refine (rkeep_p (kq k) B1 B2 m cB m2 cB2 L xs l W (fun x => by rw [Hkq.out k x, Hl.out]) (HI.out.kept hW) (HI2.out.kept hW) hL Hmay.out).mono ?_
        rintro e w' ⟨A', c', rfl, h1, h2, h3⟩
        rw [← hdk] at h1 ⊢
        have e2 : dk.1.length = m := by rw [Hd1.out]; exact hml
        rw [e2] at h1 ⊢
        exact ⟨A', c', rfl, h1, h2, h3⟩
      have hn1 := World.new_ne wr _ hc1
      have hn2 := World.new_ne wr _ hc2
      have hn3 := World.new_ne wr _ hc3
      have Hc1 := Lib.hid hc1
      have Hc2 := Lib.hid hc2
      have Hc3 := Lib.hid hc3
      clear hown hd hdk
      go_wp2_with fail
      go_region_held3 (fun W => W.cell? (a.add (k * 2)) = some (.slice B1 m cB) ∧ W.cell? ⟨a.block, (a.add (k * 2)).off + 1, Option.none⟩ = some (.int .u64 L) ∧ W.cell? (b.add k) = some (.slice B2 m2 cB2))
        (first
          | exact ⟨Hc1.out, Hc2.out, Hc3.out⟩
          | exact ⟨(Kept.drewn _).cellAt Hc1.out, (Kept.drewn _).cellAt Hc2.out, (Kept.drewn _).cellAt Hc3.out⟩
          | exact ⟨HKe.out.cellAt Hc1.out, HKe.out.cellAt Hc2.out, HKe.out.cellAt Hc3.out⟩
          | exact ⟨HKp.out.cellAt Hw1.out, HKp.out.cellAt Hw2.out, HKp.out.cellAt Hw3.out⟩
          | exact ⟨(HKe.out.newBlock _).cellAt Hc1.out, (HKe.out.newBlock _).cellAt Hc2.out, (HKe.out.newBlock _).cellAt Hc3.out⟩)
        (first
          | (go_at_call 67; refine (HK.out _ (Kept.drewn _)).mono ?_; rintro e wC ⟨B', c', rfl, hIB, hkC, hfB⟩; have HKe : Hid (Kept wr wC) := (Kept.drewn _).then hkC)
          | (refine step_append_lies _ (by rfl) _ _ _ (by rfl) w.heap.size 64 i0 _ 2 32 Tryd.underlying31 hi hz0 hz1 hz2 rfl (by omega) u5 k vs (by rfl) (own_kept Hown.out (HKe.out.newBlock _)) ⟨wC.heap.size, 0, none⟩ 1 1 [.slice B' m c', .int .u64 dk.2] (by rfl) (by rfl) (World.news_of_block (cs := #[.slice B' m c', .int .u64 dk.2]) (t := 64) (fr := (0, 0)) (heap_alloc_new wC _)) (by simp [Value.oneCell']) (by omega) (by unfold maxLen; omega) (by omega) (by have := hkC.size; simp at this ⊢; omega) (wC.heap.size + 1) (by simp) ?_; intro gg cap w3 hown3 hgrow hat hlt3; have HKp : Hid (Kept w w3) := (Hkw.out.then (HKe.out.newBlock _)).grown hgrow (by have := hkC.size; simp at this ⊢; omega) (fun i hi => (Hul.out i hi).1)))
      go_wp2_with fail
      go_roundw
      case rel =>
        refine ⟨k + 1, by omega, by go_num, ?_, HKp.out⟩
        show OwnR w3 _ _ _
        rw [Hnext.out]
        have := OwnR.snoc (ds := (stepB kq ds).take k) (d := dk) (w1 := wC.alloc (.cells #[.slice B' m c', .int .u64 dk.2] 64)) (B := B') (m := m) (c := c') (by rw [hkl]; exact own_kept Hown.out (HKe.out.newBlock _)) ?_ (hIB.kept (Kept.box _ _)) ?_ Hdl.out (by rw [hkl]; exact hown3) hgrow ?_
        · rw [hkl] at this; exact this
        · rw [hkl]
          intro j hj
          obtain ⟨hl, B3, m3, c3', e1, e2, e3, e4⟩ := Hdd.out j hj
          exact ⟨hl, B3, m3, c3', e1, e2, e3.kept (HKe.out.newBlock _), e4⟩
        · intro _ a' ha' e
          have h5 : wr.heap.size ≤ a'.block := hfB a' ha'
          have := Hul.out _ e
          omega
        · rcases hat with h | h
          · exact Or.inl h
          · exact Or.inr (by rw [h]; simp)
      case measure => simp [intOf]; omega
    · have e : k = n := by omega
      subst e
      rw [List.take_of_length_le (by have := Hsl.out; omega)] at HO
      obtain ⟨A5, c5, rfl⟩ := HO.out.parts
      have HD := Lib.hid (HO.out.doms (n := (stepB kq ds).length) rfl (by have := Hsl.out; omega))
      clear HO
      go_wp2_with fail
      go_ret
      exact ⟨A5, c5, rfl, HD.out, Hkw.out⟩

end Go.Proofs.YtjmegicopdbkdaaDoor

set_option maxHeartbeats 1000000
set_option maxRecDepth 10000
namespace Go.Proofs.YtjmegicopdbkdaaDoor
open Go Go.RowKit Pl

def inB (lo hi : Int) (x : Int) : Bool := decide (lo ≤ x) && decide (x ≤ hi)
theorem inB_len (l : List Int) (v : Int) : (l.filter (inB v v)).length = 0 ↔ l.contains v = false := by
  have hv : ∀ x, inB v v x = decide (x = v) := fun x => by unfold inB; rw [Bool.eq_iff_iff]; simp; omega
  rw [List.length_eq_zero_iff, List.filter_eq_nil_iff]
  constructor
  · intro h
    rw [Bool.eq_false_iff]
    intro hc
    exact h v (List.contains_iff_mem.1 hc) (by rw [hv]; simp)
  · intro h x hx hb
    rw [hv, decide_eq_true_eq] at hb
    subst hb
    rw [List.contains_iff_mem.2 hx] at h
    cases h

theorem rlbetween_any (A : Option Addr) (n c : Nat) (l : List Int) (lo hi : Int) (w : World) (hS : Ints w A n l) (hn : n ≤ 100000) :
    Calls Tryd.prog 50 #[.slice A n c, .int .i64 lo, .int .i64 hi] w (ListPost (l.filter (inB lo hi)) w) := by
  obtain ⟨i0, hi0, hz0, hz1, hz2⟩ := info_parts info_int
  have HS := Lib.hid hS
  have Hlen := Lib.hid hS.len
  have Hrng := Lib.hid hS.rng
  clear hS
  obtain ⟨p, hp⟩ : ∃ p, p = inB lo hi := ⟨_, rfl⟩
  have Hp : Hid (∀ x, p x = (decide (lo ≤ x) && decide (x ≤ hi))) := fun x => by rw [hp]; rfl
  rw [← hp]
  clear hp
  go_enter Tryd.func50, Tryd.ntmps50
  go_wp2_with fail
  go_loopw [7, 8] (fun u v wr => ∃ k : Nat, k ≤ n ∧ v = .int .i64 k ∧ wr.ownsRow w.heap.size 3 1 u ((l.take k).filter p).length (((l.take k).filter p).map (Value.int .i64)) ∧ Hid (Kept w wr)) (fun _ v _ => n - (intOf v).toNat)
  case atStart => exact ⟨0, Nat.zero_le _, rfl, own_empty (heap_new _ _) (Nat.le_refl _), Kept.box _ _⟩
  case round =>
    obtain ⟨k, hk, rfl, hown, Hkw⟩ := hrel
    have hszr := Hkw.out.size
    by_cases hlt : k < n
    · have hSr := HS.out.kept Hkw.out
      obtain ⟨a, rfl, hblk⟩ := hSr.addr (by omega)
      obtain ⟨x, Hx, hcx, hx1, hx2⟩ := hSr.named k hlt
      have Htake : Hid (l.take (k + 1) = l.take k ++ [x]) := take_succ_getD (by have := Hlen.out; omega) Hx.out
      have Hin : Hid ((l.take (k + 1)).filter p = (l.take k).filter p ++ (if p x = true then [x] else [])) := by
        show _ = _
        rw [Htake.out, List.filter_append]
        congr 1
        cases h : p x <;> simp [h]
      have hfl : ((l.take k).filter p).length ≤ k := Nat.le_trans (List.length_filter_le _ _) (by rw [List.length_take]; omega)
      have Hpx := Lib.hid (Hp.out x)
      have Hbase := Lib.hid hown
      clear hSr hown Htake
      generalize (l.take k).filter p = ys at *
      by_cases g1 : lo ≤ x
      · have hd1 : decide (lo ≤ x) = true := by simp [g1]
        by_cases g2 : x ≤ hi
        · have hd2 : decide (x ≤ hi) = true := by simp [g2]
          have Hin2 : Hid ((l.take (k + 1)).filter p = ys ++ [x]) := by show _ = _; rw [Hin.out, Hpx.out, hd1, hd2]; rfl
          clear Hin
          go_wp2_with (at_builtin; refine wpList_append_own _ rfl _ _ 22 rfl w.heap.size 3 i0 (.int .i64 0) 1 8 Tryd.underlying22 hi0 hz0 hz1 hz2 rfl (by decide) _ _ _ rfl (Hbase.out.alloc _) ⟨wr.heap.size, 0, none⟩ 1 1 [.int .i64 x] rfl rfl (cell_one_new _ _ _) (by simp [Value.oneCell']) (by unfold maxLen; omega) (by omega) (by simp; omega) ?_; intro v' w2 hown' hgrow _)
          go_roundw
          case rel => exact ⟨k + 1, by omega, by go_num, by rw [Hin2.out]; simpa using hown', Hkw.out.appended Hbase.out (Nat.le_refl _) hgrow⟩
          case measure => simp [intOf]; omega
        · have hd2 : decide (x ≤ hi) = false := by simp; omega
          have Hin2 : Hid ((l.take (k + 1)).filter p = ys) := by show _ = _; rw [Hin.out, Hpx.out, hd1, hd2]; simp
          go_wp2_with fail
          go_roundw
          case rel => exact ⟨k + 1, by omega, by go_num, by rw [Hin2.out]; exact Hbase.out, Hkw.out⟩
          case measure => simp [intOf]; omega
      · have hd1 : decide (lo ≤ x) = false := by simp; omega
        have Hin2 : Hid ((l.take (k + 1)).filter p = ys) := by show _ = _; rw [Hin.out, Hpx.out, hd1]; simp
        go_wp2_with fail
        go_roundw
        case rel => exact ⟨k + 1, by omega, by go_num, by rw [Hin2.out]; exact Hbase.out, Hkw.out⟩
        case measure => simp [intOf]; omega
    · have e : k = n := by omega
      subst e
      rw [List.take_of_length_le (by have := Hlen.out; omega)] at hown
      obtain ⟨A', c', rfl, hI, hfr⟩ := Ints.of_own hown (fun x hx => Hrng.out x (List.mem_filter.1 hx).1)
      have HI := Lib.hid hI
      have Hfr : Hid (Fresh w A') := hfr
      clear hfr hI hown
      go_wp2_with fail
      go_ret
      exact ⟨A', c', rfl, HI.out, Hkw.out, Hfr.out⟩
end Go.Proofs.YtjmegicopdbkdaaDoor

set_option maxHeartbeats 1000000
set_option maxRecDepth 10000
namespace Go.Proofs.YtjmegicopdbkdaaDoor
open Go Go.RowKit Pl

/-- Is it another one? -/
def neB (v : Int) (x : Int) : Bool := x != v
theorem rlless_any (A : Option Addr) (n c : Nat) (l : List Int) (v : Int) (w : World) (hS : Ints w A n l) (hn : n ≤ 100000) :
    Calls Tryd.prog 51 #[.slice A n c, .int .i64 v] w (ListPost (l.filter (neB v)) w) := by
  obtain ⟨i0, hi0, hz0, hz1, hz2⟩ := info_parts info_int
  have HS := Lib.hid hS
  have Hlen := Lib.hid hS.len
  have Hrng := Lib.hid hS.rng
  clear hS
  obtain ⟨p, hp⟩ : ∃ p, p = neB v := ⟨_, rfl⟩
  have Hp : Hid (∀ x, p x = (x != v)) := fun x => by rw [hp]; rfl
  rw [← hp]
  clear hp
  go_enter Tryd.func51, Tryd.ntmps51
  go_wp2_with fail
  go_loopw [5, 6] (fun u s wr => ∃ k : Nat, k ≤ n ∧ s = .int .i64 k ∧ wr.ownsRow w.heap.size 3 1 u ((l.take k).filter p).length (((l.take k).filter p).map (Value.int .i64)) ∧ Hid (Kept w wr)) (fun _ s _ => n - (intOf s).toNat)
  case atStart => exact ⟨0, Nat.zero_le _, rfl, own_empty (heap_new _ _) (Nat.le_refl _), Kept.box _ _⟩
  case round =>
    obtain ⟨k, hk, rfl, hown, Hkw⟩ := hrel
    have hszr := Hkw.out.size
    by_cases hlt : k < n
    · have hSr := HS.out.kept Hkw.out
      obtain ⟨a, rfl, hblk⟩ := hSr.addr (by omega)
      obtain ⟨x, Hx, hcx, hx1, hx2⟩ := hSr.named k hlt
      have Htake : Hid (l.take (k + 1) = l.take k ++ [x]) := take_succ_getD (by have := Hlen.out; omega) Hx.out
      have Hin : Hid ((l.take (k + 1)).filter p = (l.take k).filter p ++ (if p x = true then [x] else [])) := by
        show _ = _
        rw [Htake.out, List.filter_append]
        congr 1
        cases h : p x <;> simp [h]
      have hfl : ((l.take k).filter p).length ≤ k := Nat.le_trans (List.length_filter_le _ _) (by rw [List.length_take]; omega)
      have Hpx := Lib.hid (Hp.out x)
      have Hbase := Lib.hid hown
      clear hSr hown Htake
      generalize (l.take k).filter p = ys at *
      cases g1 : x != v with
      | true =>
          have Hin2 : Hid ((l.take (k + 1)).filter p = ys ++ [x]) := by show _ = _; rw [Hin.out, Hpx.out, g1]; rfl
          clear Hin
          go_wp2_with (at_builtin; refine wpList_append_own _ rfl _ _ 22 rfl w.heap.size 3 i0 (.int .i64 0) 1 8 Tryd.underlying22 hi0 hz0 hz1 hz2 rfl (by decide) _ _ _ rfl (Hbase.out.alloc _) ⟨wr.heap.size, 0, none⟩ 1 1 [.int .i64 x] rfl rfl (cell_one_new _ _ _) (by simp [Value.oneCell']) (by unfold maxLen; omega) (by omega) (by simp; omega) ?_; intro v' w2 hown' hgrow _)
          go_roundw
          case rel => exact ⟨k + 1, by omega, by go_num, by rw [Hin2.out]; simpa using hown', Hkw.out.appended Hbase.out (Nat.le_refl _) hgrow⟩
          case measure => simp [intOf]; omega
      | false =>
          have Hin2 : Hid ((l.take (k + 1)).filter p = ys) := by show _ = _; rw [Hin.out, Hpx.out, g1]; simp
          go_wp2_with fail
          go_roundw
          case rel => exact ⟨k + 1, by omega, by go_num, by rw [Hin2.out]; exact Hbase.out, Hkw.out⟩
          case measure => simp [intOf]; omega
    · have e : k = n := by omega
      subst e
      rw [List.take_of_length_le (by have := Hlen.out; omega)] at hown
      obtain ⟨A', c', rfl, hI, hfr⟩ := Ints.of_own hown (fun x hx => Hrng.out x (List.mem_filter.1 hx).1)
      have HI := Lib.hid hI
      have Hfr : Hid (Fresh w A') := hfr
      clear hfr hI hown
      go_wp2_with fail
      go_ret
      exact ⟨A', c', rfl, HI.out, Hkw.out, Hfr.out⟩
end Go.Proofs.YtjmegicopdbkdaaDoor

set_option maxHeartbeats 1000000
set_option maxRecDepth 10000
namespace Go.Proofs.YtjmegicopdbkdaaDoor
open Go Go.RowKit Pl

def prodB (C : ConB) (V : Int) : Bool := variablesB C V 3 3 && bareB C 0 0
def diffB (C : ConB) (V : Int) : Bool := variablesB C V 2 8 && bareB C 0 0
theorem lookprod_any (K R Ct : Int) (A1 A2 A3 : Option Addr) (n1 c1 n2 c2 n3 c3 : Nat) (C : ConB) (V : Int) (w : World) (hC : ConIn w K R Ct A1 A2 A3 n1 c1 n2 c2 n3 c3 C) :
    Calls Tryd.prog 53 #[.agg #[.int .i64 K, .slice A1 n1 c1, .slice A2 n2 c2, .int .i64 R, .int .i64 Ct, .slice A3 n3 c3, .int .i64 V]] w fun e w' => e = .returned (.bool (prodB C V)) ∧ Kept w w' := by
  have HC := Lib.hid hC
  clear hC
  go_enter Tryd.func53, Tryd.ntmps53
  go_wp2_with fail
  refine (variables_any K R Ct A1 A2 A3 n1 c1 n2 c2 n3 c3 C V 3 3 _ (HC.out.kept (Kept.box _ _))).mono ?_
  rintro e w1 ⟨rfl, hk⟩
  have Hb := Lib.hid (hk.heapAt (box_look w K R Ct V A1 A2 A3 n1 c1 n2 c2 n3 c3))
  have Hk := Lib.hid ((Kept.box _ _).then hk)
  have hb0 := cell_at Hb.out 0
  have hb1 := cell_at Hb.out 1
  have hb2 := cell_at Hb.out 2
  have hb3 := cell_at Hb.out 3
  have hb4 := cell_at Hb.out 4
  have hb5 := cell_at Hb.out 5
  have hb6 := cell_at Hb.out 6
  simp only [List.getElem?_toArray, List.getElem?_cons_zero, List.getElem?_cons_succ] at hb0 hb1 hb2 hb3 hb4 hb5 hb6
  have HB : Hid (prodB C V = (variablesB C V 3 3 && bareB C 0 0)) := rfl
  clear hk
  generalize variablesB C V 3 3 = b at HB
  cases b with
  | false =>
    go_wp2_with fail
    go_ret
    exact ⟨ret_bool (by rw [HB.out]; simp), Hk.out⟩
  | true =>
    go_wp2_with fail
    refine (bare_any K R Ct A1 A2 A3 n1 c1 n2 c2 n3 c3 C V 0 0 _ (HC.out.kept Hk.out)).mono ?_
    rintro e w2 ⟨rfl, hk2⟩
    have Hk2 := Lib.hid (Hk.out.then hk2)
    clear hk2 hb0 hb1 hb2 hb3 hb4 hb5 hb6
    generalize bareB C 0 0 = d at HB
    go_wp2_with fail
    go_ret
    exact ⟨ret_bool (by rw [HB.out]; simp), Hk2.out⟩
theorem lookproduct_q {R Ct V : Int} {A1 A2 A3 : Option Addr} {n1 c1 n2 c2 n3 c3 : Nat} {C : ConB} (W : World) (h : ConIn W 2 R Ct A1 A2 A3 n1 c1 n2 c2 n3 c3 C) : Calls Tryd.prog 53 #[.agg #[.int .i64 2, .slice A1 n1 c1, .slice A2 n2 c2, .int .i64 R, .int .i64 Ct, .slice A3 n3 c3, .int .i64 V]] W fun e w' => e = .returned (.bool (prodB C V)) ∧ Kept W w' := lookprod_any 2 R Ct A1 A2 A3 n1 c1 n2 c2 n3 c3 C V W h
theorem right_prod (K R Ct : Int) (A1 A2 A3 : Option Addr) (n1 c1 n2 c2 n3 c3 : Nat) (C : ConB) (V : Int) (w : World) (hC : ConIn w K R Ct A1 A2 A3 n1 c1 n2 c2 n3 c3 C) (hK : K = 2) :
    Calls Tryd.prog 25 #[.agg #[.int .i64 K, .slice A1 n1 c1, .slice A2 n2 c2, .int .i64 R, .int .i64 Ct, .slice A3 n3 c3], .int .i64 V] w fun e w' => e = .returned (.bool (prodB C V)) ∧ Kept w w' := by
  subst hK
  have HC := Lib.hid hC
  clear hC
  go_enter Tryd.func25, Tryd.ntmps25
  go_wp2_with fail
  have HQ : Hid (∀ W, ConIn W 2 R Ct A1 A2 A3 n1 c1 n2 c2 n3 c3 C → Calls Tryd.prog 53 #[.agg #[.int .i64 2, .slice A1 n1 c1, .slice A2 n2 c2, .int .i64 R, .int .i64 Ct, .slice A3 n3 c3, .int .i64 V]] W fun e w' => e = .returned (.bool (prodB C V)) ∧ Kept W w') := fun W h => lookproduct_q W h
  generalize hb : prodB C V = b at HQ
  have HC2 := Lib.hid (HC.out.kept ((Kept.box w (.cells #[.int .i64 2, .slice A1 n1 c1, .slice A2 n2 c2, .int .i64 R, .int .i64 Ct, .slice A3 n3 c3] 24)).newBlock (.cells #[.func (.func 52) #[] #[], .func (.func 53) #[] #[], .func (.func 54) #[] #[], .func (.func 55) #[] #[], .func (.func 56) #[] #[], .func (.func 57) #[] #[]] 77)))
  refine wp_region_quiet_below (by kernel_rfl) (by kernel_rfl) ?_
  repeat (any_goals (first | go_big_quiet_step (((go_at_call 53; exact Calls.regrown_of (HQ.out _ (HC2.out.kept (below_regrown _ _ _)))))) | quiet_step (((go_at_call 53; exact Calls.regrown_of (HQ.out _ (HC2.out.kept (below_regrown _ _ _)))))) | (refine wpQuiet_step (fun K hK => ?_); go_simp; split <;> (refine hK _ ?_; clear hK K))))
  all_goals (refine wpQuiet_nil ?_; intro w1 hw'; replace hw' := Kept.regrown hw')
  have Hk := Lib.hid (((Kept.box _ _).newBlock _).then hw')
  clear hw'
  go_wp2_with fail
  go_ret
  subst hb
  exact ⟨ret_bool (by simp), Hk.out⟩


theorem lookdiff_any (K R Ct : Int) (A1 A2 A3 : Option Addr) (n1 c1 n2 c2 n3 c3 : Nat) (C : ConB) (V : Int) (w : World) (hC : ConIn w K R Ct A1 A2 A3 n1 c1 n2 c2 n3 c3 C) :
    Calls Tryd.prog 56 #[.agg #[.int .i64 K, .slice A1 n1 c1, .slice A2 n2 c2, .int .i64 R, .int .i64 Ct, .slice A3 n3 c3, .int .i64 V]] w fun e w' => e = .returned (.bool (diffB C V)) ∧ Kept w w' := by
  have HC := Lib.hid hC
  clear hC
  go_enter Tryd.func56, Tryd.ntmps56
  go_wp2_with fail
  refine (variables_any K R Ct A1 A2 A3 n1 c1 n2 c2 n3 c3 C V 2 8 _ (HC.out.kept (Kept.box _ _))).mono ?_
  rintro e w1 ⟨rfl, hk⟩
  have Hb := Lib.hid (hk.heapAt (box_look w K R Ct V A1 A2 A3 n1 c1 n2 c2 n3 c3))
  have Hk := Lib.hid ((Kept.box _ _).then hk)
  have hb0 := cell_at Hb.out 0
  have hb1 := cell_at Hb.out 1
  have hb2 := cell_at Hb.out 2
  have hb3 := cell_at Hb.out 3
  have hb4 := cell_at Hb.out 4
  have hb5 := cell_at Hb.out 5
  have hb6 := cell_at Hb.out 6
  simp only [List.getElem?_toArray, List.getElem?_cons_zero, List.getElem?_cons_succ] at hb0 hb1 hb2 hb3 hb4 hb5 hb6
  have HB : Hid (diffB C V = (variablesB C V 2 8 && bareB C 0 0)) := rfl
  clear hk
  generalize variablesB C V 2 8 = b at HB
  cases b with
  | false =>
    go_wp2_with fail
    go_ret
    exact ⟨ret_bool (by rw [HB.out]; simp), Hk.out⟩
  | true =>
    go_wp2_with fail
    refine (bare_any K R Ct A1 A2 A3 n1 c1 n2 c2 n3 c3 C V 0 0 _ (HC.out.kept Hk.out)).mono ?_
    rintro e w2 ⟨rfl, hk2⟩
    have Hk2 := Lib.hid (Hk.out.then hk2)
    clear hk2 hb0 hb1 hb2 hb3 hb4 hb5 hb6
    generalize bareB C 0 0 = d at HB
    go_wp2_with fail
    go_ret
    exact ⟨ret_bool (by rw [HB.out]; simp), Hk2.out⟩
theorem lookdiffer_q {R Ct V : Int} {A1 A2 A3 : Option Addr} {n1 c1 n2 c2 n3 c3 : Nat} {C : ConB} (W : World) (h : ConIn W 5 R Ct A1 A2 A3 n1 c1 n2 c2 n3 c3 C) : Calls Tryd.prog 56 #[.agg #[.int .i64 5, .slice A1 n1 c1, .slice A2 n2 c2, .int .i64 R, .int .i64 Ct, .slice A3 n3 c3, .int .i64 V]] W fun e w' => e = .returned (.bool (diffB C V)) ∧ Kept W w' := lookdiff_any 5 R Ct A1 A2 A3 n1 c1 n2 c2 n3 c3 C V W h
theorem right_diff (K R Ct : Int) (A1 A2 A3 : Option Addr) (n1 c1 n2 c2 n3 c3 : Nat) (C : ConB) (V : Int) (w : World) (hC : ConIn w K R Ct A1 A2 A3 n1 c1 n2 c2 n3 c3 C) (hK : K = 5) :
    Calls Tryd.prog 25 #[.agg #[.int .i64 K, .slice A1 n1 c1, .slice A2 n2 c2, .int .i64 R, .int .i64 Ct, .slice A3 n3 c3], .int .i64 V] w fun e w' => e = .returned (.bool (diffB C V)) ∧ Kept w w' := by
  subst hK
  have HC := Lib.hid hC
  clear hC
  go_enter Tryd.func25, Tryd.ntmps25
  go_wp2_with fail
  have HQ : Hid (∀ W, ConIn W 5 R Ct A1 A2 A3 n1 c1 n2 c2 n3 c3 C → Calls Tryd.prog 56 #[.agg #[.int .i64 5, .slice A1 n1 c1, .slice A2 n2 c2, .int .i64 R, .int .i64 Ct, .slice A3 n3 c3, .int .i64 V]] W fun e w' => e = .returned (.bool (diffB C V)) ∧ Kept W w') := fun W h => lookdiffer_q W h
  generalize hb : diffB C V = b at HQ
  have HC2 := Lib.hid (HC.out.kept ((Kept.box w (.cells #[.int .i64 5, .slice A1 n1 c1, .slice A2 n2 c2, .int .i64 R, .int .i64 Ct, .slice A3 n3 c3] 24)).newBlock (.cells #[.func (.func 52) #[] #[], .func (.func 53) #[] #[], .func (.func 54) #[] #[], .func (.func 55) #[] #[], .func (.func 56) #[] #[], .func (.func 57) #[] #[]] 77)))
  refine wp_region_quiet_below (by kernel_rfl) (by kernel_rfl) ?_
  repeat (any_goals (first | go_big_quiet_step (((go_at_call 56; exact Calls.regrown_of (HQ.out _ (HC2.out.kept (below_regrown _ _ _)))))) | quiet_step (((go_at_call 56; exact Calls.regrown_of (HQ.out _ (HC2.out.kept (below_regrown _ _ _)))))) | (refine wpQuiet_step (fun K hK => ?_); go_simp; split <;> (refine hK _ ?_; clear hK K))))
  all_goals (refine wpQuiet_nil ?_; intro w1 hw'; replace hw' := Kept.regrown hw')
  have Hk := Lib.hid (((Kept.box _ _).newBlock _).then hw')
  clear hw'
  go_wp2_with fail
  go_ret
  subst hb
  exact ⟨ret_bool (by simp), Hk.out⟩


theorem prodB_right {C : ConB} {V : Int} (hk : C.kind = 2) : prodB C V = rightB C V := by
  unfold rightB
  simp only [hk]
  unfold prodB variablesB bareB plainR
  simp only [hk]
  rw [Bool.eq_iff_iff]
  simp
  constructor
  · rintro ⟨⟨⟨h1, h2⟩, h3⟩, ⟨⟨⟨h4, h5⟩, h6⟩, h7⟩, h9⟩
    refine ⟨h3, ⟨⟨⟨⟨h4, h5⟩, h6⟩, h9⟩, by simp [h7]⟩, by omega, h7⟩
  · rintro ⟨h1, ⟨⟨⟨⟨h2, h3⟩, h4⟩, h5⟩, h6⟩, h7, h8⟩
    refine ⟨⟨⟨by omega, by omega⟩, h1⟩, ⟨⟨⟨h2, h3⟩, h4⟩, h8⟩, h5⟩
theorem diffB_right {C : ConB} {V : Int} (hk : C.kind = 5) : diffB C V = rightB C V := by
  unfold rightB
  simp only [hk]
  unfold diffB variablesB bareB plainR
  simp only [hk]
  rw [Bool.eq_iff_iff]
  simp
  constructor
  · rintro ⟨⟨⟨h1, h2⟩, h3⟩, ⟨⟨⟨h4, h5⟩, h6⟩, h7⟩, h9⟩
    refine ⟨h3, ⟨⟨⟨⟨h4, h5⟩, h6⟩, h9⟩, by simp [h7]⟩, ⟨by omega, by omega⟩, h7⟩
  · rintro ⟨h1, ⟨⟨⟨⟨h2, h3⟩, h4⟩, h5⟩, h6⟩, ⟨h7, h8⟩, h9⟩
    refine ⟨⟨⟨by omega, by omega⟩, h1⟩, ⟨⟨⟨h2, h3⟩, h4⟩, h9⟩, h5⟩
theorem right2_any (K R Ct : Int) (A1 A2 A3 : Option Addr) (n1 c1 n2 c2 n3 c3 : Nat) (C : ConB) (V : Int) (w : World) (hC : ConIn w K R Ct A1 A2 A3 n1 c1 n2 c2 n3 c3 C) (hK : K = 2) :
    Calls Tryd.prog 25 #[.agg #[.int .i64 K, .slice A1 n1 c1, .slice A2 n2 c2, .int .i64 R, .int .i64 Ct, .slice A3 n3 c3], .int .i64 V] w fun e w' => e = .returned (.bool (rightB C V)) ∧ Kept w w' := by
  have h := right_prod K R Ct A1 A2 A3 n1 c1 n2 c2 n3 c3 C V w hC hK
  rwa [prodB_right (hC.kind.trans hK)] at h
theorem right5_any (K R Ct : Int) (A1 A2 A3 : Option Addr) (n1 c1 n2 c2 n3 c3 : Nat) (C : ConB) (V : Int) (w : World) (hC : ConIn w K R Ct A1 A2 A3 n1 c1 n2 c2 n3 c3 C) (hK : K = 5) :
    Calls Tryd.prog 25 #[.agg #[.int .i64 K, .slice A1 n1 c1, .slice A2 n2 c2, .int .i64 R, .int .i64 Ct, .slice A3 n3 c3], .int .i64 V] w fun e w' => e = .returned (.bool (rightB C V)) ∧ Kept w w' := by
  have h := right_diff K R Ct A1 A2 A3 n1 c1 n2 c2 n3 c3 C V w hC hK
  rwa [diffB_right (hC.kind.trans hK)] at h
end Go.Proofs.YtjmegicopdbkdaaDoor

/-
  Contracts and plain laws that the card rests on, part 9.
-/
import Derived.Test.YthddanjmnifloaaDoorG8
import Derived.Test.YthddanjmnifloaaDoorG6
import Derived.Test.YthddanjmnifloaaDoorG4
import Derived.Great.Walk
import Derived.Deep.WholeRow
import Derived.Laws.NewBlocks
import Derived.Test.YthddanjmnifloaaDoorG3
import Derived.Deep.AppendLies
set_option maxHeartbeats 1000000
set_option maxRecDepth 10000
namespace Go.Proofs.YthddanjmnifloaaDoor
open Go Go.RowKit Pl

theorem doms_nil (w : World) : Doms w Option.none 0 [] := ⟨rfl, by decide, fun j hj => absurd hj (Nat.not_lt_zero _), fun h => absurd h (Nat.lt_irrefl _)⟩
theorem beq_decide (a b : Int) : (a == b) = decide (b = a) := by
  rw [Bool.eq_iff_iff, beq_iff_eq, decide_eq_true_eq]; exact eq_comm

theorem rsames_any (A B : Option Addr) (n c d : Nat) (ds : List DomB) (w : World) (hA : Doms w A n ds) (hB : Doms w B n ds) :
    Calls Tryd.prog 33 #[.slice A n c, .slice B n d] w fun e w' => e = .returned (.bool true) ∧ Kept w w' := by
  have HA := Lib.hid hA
  have HB := Lib.hid hB
  have hsm := hA.small
  clear hA hB
  go_enter Tryd.func33, Tryd.ntmps33
  go_wp2_with fail
  go_loopw [5] (fun v wr => ∃ k : Nat, k ≤ n ∧ v = .int .i64 k ∧ Hid (Kept w wr)) (fun v _ => n - (intOf v).toNat)
  case atStart => exact ⟨0, Nat.zero_le _, rfl, Kept.same _⟩
  case round =>
    obtain ⟨k, hk, rfl, Hkw⟩ := hrel
    by_cases hlt : k < n
    · have hSr := HA.out.kept Hkw.out
      have hSb := HB.out.kept Hkw.out
      obtain ⟨a, rfl, hblk⟩ := hSr.addr (by omega)
      obtain ⟨b, rfl, hblk2⟩ := hSb.addr (by omega)
      obtain ⟨xs, L, Bx, mx, cx, Hdx, hc1, hc2, HIx, hLx⟩ := hSr.named k hlt
      obtain ⟨ys, M, By, my, cy, Hdy, hc3, hc4, HIy, hLy⟩ := hSb.named k hlt
      have e := Hdx.out.symm.trans Hdy.out
      simp only [Prod.mk.injEq] at e
      obtain ⟨rfl, rfl⟩ := e
      have HQ : Hid (∀ W, Kept wr W → Calls Tryd.prog 61 #[.agg #[.slice Bx mx cx, .int .u64 L], .agg #[.slice By my cy, .int .u64 L]] W fun e w' => e = .returned (.bool true) ∧ Kept W w') := fun W hW => by
        have := rdsame_any Bx By mx my cx cy L L xs xs W (HIx.out.kept hW) (HIy.out.kept hW)
        simpa using this
      have hl1 := World.block_lt_of_cell? wr _ hc1
      have hl2 := World.block_lt_of_cell? wr _ hc2
      have hl3 := World.block_lt_of_cell? wr _ hc3
      have hl4 := World.block_lt_of_cell? wr _ hc4
      clear hSr hSb
      go_wp2_with fail
      refine wp_region_quiet_below (by kernel_rfl) (by kernel_rfl) ?_
      repeat (any_goals (first | go_big_quiet_step (((go_at_call 61; exact Calls.regrown_of (HQ.out _ (below_regrown _ _ _))))) | quiet_step (((go_at_call 61; exact Calls.regrown_of (HQ.out _ (below_regrown _ _ _))))) | (refine wpQuiet_step (fun K hK => ?_); go_simp; split <;> (refine hK _ ?_; clear hK K))))
      all_goals (refine wpQuiet_nil ?_; intro w1 hw'; replace hw' := Kept.regrown hw')
      have Hk9 := Lib.hid (Hkw.out.then hw')
      clear hw'
      go_wp2_with fail
      go_roundw
      case rel => exact ⟨k + 1, by omega, by go_num, Hk9.out⟩
      case measure => simp [intOf]; omega
    · have e : k = n := by omega
      subst e
      go_wp2_with fail
      go_ret
      exact ⟨rfl, Hkw.out⟩

theorem rright12_any (K R Ct : Int) (A1 A2 A3 : Option Addr) (n1 c1 n2 c2 n3 c3 : Nat) (C : ConB) (q : Int) (O : Nat) (A : Option Addr) (n c : Nat) (ds : List DomB) (w : World) (hC : ConIn w K R Ct A1 A2 A3 n1 c1 n2 c2 n3 c3 C) (hS : Doms w A n ds) (hO : w.heap[O]? = some (.cells #[.int .i64 q] 3)) :
    Calls Tryd.prog 57 #[.agg #[.int .i64 K, .slice A1 n1 c1, .slice A2 n2 c2, .int .i64 R, .int .i64 Ct, .slice A3 n3 c3], .slice A n c, .slice (some ⟨O, 0, Option.none⟩) 1 1] w fun e w' => e = .returned (.bool (decide (C.kind = q) && allMay ds && rightB C n)) ∧ Kept w w' := by
  have HC := Lib.hid hC
  have HS := Lib.hid hS
  have HO := Lib.hid hO
  have Hlen := Lib.hid hS.len
  have hsm := hS.small
  have Hkind := Lib.hid hC.kind
  clear hC hS hO
  have HB : Hid (∀ wr, Kept (w.alloc (.cells #[.int .i64 K, .slice A1 n1 c1, .slice A2 n2 c2, .int .i64 R, .int .i64 Ct, .slice A3 n3 c3] 37)) wr → wr.heap[w.heap.size]? = some (.cells #[.int .i64 K, .slice A1 n1 c1, .slice A2 n2 c2, .int .i64 R, .int .i64 Ct, .slice A3 n3 c3] 37)) := fun wr h => h.heapAt (heap_new _ _)
  go_enter Tryd.func57, Tryd.ntmps57
  go_wp2_with fail
  go_loopw [7, 8] (fun u v wr => ∃ k : Nat, k ≤ 1 ∧ v = .int .i64 k ∧ u = .bool (decide (k = 1) && decide (K = q)) ∧ Hid (Kept (w.alloc (.cells #[.int .i64 K, .slice A1 n1 c1, .slice A2 n2 c2, .int .i64 R, .int .i64 Ct, .slice A3 n3 c3] 37)) wr)) (fun _ v _ => 1 - (intOf v).toNat)
  case atStart => exact ⟨0, Nat.zero_le _, rfl, rfl, Kept.same _⟩
  case round =>
    obtain ⟨k, hk, rfl, rfl, Hkw⟩ := hrel
    have hb := HB.out wr Hkw.out
    have b0 := cell_at hb 0
    have b1 := cell_at hb 1
    have b2 := cell_at hb 2
    have b3 := cell_at hb 3
    have b4 := cell_at hb 4
    have b5 := cell_at hb 5
    simp only [List.getElem?_toArray, List.getElem?_cons_zero, List.getElem?_cons_succ] at b0 b1 b2 b3 b4 b5
    clear hb
    have hlb : w.heap.size < wr.heap.size := World.block_lt_of_cell? wr _ b0
    have hq := cell_at (((Kept.box _ _).then Hkw.out).heapAt HO.out) 0
    simp only [List.getElem?_toArray, List.getElem?_cons_zero] at hq
    have hlO : O < wr.heap.size := World.block_lt_of_cell? wr _ hq
    by_cases hk1 : k = 1
    · subst hk1
      have eK : (decide (1 = 1) && decide (K = q)) = decide (K = q) := by simp
      rw [eK]
      have Hb : Hid (decide (C.kind = q) = decide (K = q)) := by show _ = _; rw [Hkind.out]
      clear eK hq
      generalize decide (K = q) = b at *
      go_wp2_with fail
      clear b0 b1 b2 b3 b4 b5
      have Hkw0 := Lib.hid Hkw.out
      go_loopw [7, 9] (fun u v wq => ∃ j : Nat, j ≤ n ∧ v = .int .i64 j ∧ u = .bool (b && allMay (ds.take j)) ∧ Hid (Kept wr wq)) (fun _ v _ => n - (intOf v).toNat)
      case atStart => exact ⟨0, Nat.zero_le _, rfl, by simp [allMay], Kept.same _⟩
      case round =>
        obtain ⟨j, hj, rfl, rfl, Hkq⟩ := hrel
        have Hk2 := Lib.hid (Hkw0.out.then Hkq.out)
        have hb := HB.out wr Hk2.out
        have b0 := cell_at hb 0
        have b1 := cell_at hb 1
        have b2 := cell_at hb 2
        have b3 := cell_at hb 3
        have b4 := cell_at hb 4
        have b5 := cell_at hb 5
        simp only [List.getElem?_toArray, List.getElem?_cons_zero, List.getElem?_cons_succ] at b0 b1 b2 b3 b4 b5
        clear hb
        by_cases hlt : j < n
        · have hSr := HS.out.kept ((Kept.box _ _).then Hk2.out)
          obtain ⟨a, rfl, hblk⟩ := hSr.addr (by omega)
          obtain ⟨xs, L, Bx, mx, cx, Hdx, hc1, hc2, HIx, hLx⟩ := hSr.named j hlt
          have Hs : Hid (allMay (ds.take (j + 1)) = (allMay (ds.take j) && mayB xs L)) := by
            show _ = _
            rw [take_dom (by have := Hlen.out; omega) Hdx.out]
            unfold allMay
            rw [List.all_append]
            simp
          have HQ := Lib.hid (rmay_any Bx mx cx L xs wr HIx.out hLx)
          clear hSr
          generalize mayB xs L = m1 at HQ Hs
          generalize hq1 : (b && allMay (ds.take j)) = q1
          have Hq1 := Lib.hid hq1
          clear hq1
          cases q1 with
          | false =>
            go_wp2_with fail
            go_roundw
            case rel => exact ⟨j + 1, by omega, by go_num, by rw [Hs.out, ← Bool.and_assoc, Hq1.out]; rfl, Hkq.out⟩
            case measure => simp [intOf]; omega
          | true =>
            go_wp2_with fail
            refine HQ.out.mono ?_
            rintro e w1 ⟨rfl, hk1⟩
            have Hk1 := Lib.hid (Hkq.out.then hk1)
            clear hk1 b0 b1 b2 b3 b4 b5
            go_wp2_with fail
            go_roundw
            case rel => (repeat apply Exists.intro); exact ⟨⟨j + 1, by omega, by go_num, by rw [Hs.out, ← Bool.and_assoc, Hq1.out]; simp, Hk1.out⟩, rfl⟩
            case measure => simp [intOf]; omega
        · have e : j = n := by omega
          subst e
          rw [List.take_of_length_le (by have := Hlen.out; omega)]
          generalize hq1 : (b && allMay ds) = q1
          have Hq2 : Hid ((decide (C.kind = q) && allMay ds && rightB C j) = (q1 && rightB C j)) := by show _ = _; rw [Hb.out, hq1]
          clear hq1
          have HQ := Lib.hid (rright_any K R Ct A1 A2 A3 n1 c1 n2 c2 n3 c3 C j wr (HC.out.kept ((Kept.box _ _).then Hk2.out)))
          have HK2 := Lib.hid ((Kept.box _ _).then Hk2.out)
          cases q1 with
          | false =>
            go_wp2_with fail
            go_ret
            exact ⟨ret_bool (by rw [Hq2.out]; rfl), HK2.out⟩
          | true =>
            generalize hr : rightB C j = r at HQ
            have Hr := Lib.hid hr
            clear hr
            go_wp2_with fail
            refine HQ.out.mono ?_
            rintro e w1 ⟨rfl, hk1⟩
            have HK3 := Lib.hid (HK2.out.then hk1)
            clear hk1 b0 b1 b2 b3 b4 b5
            go_wp2_with fail
            go_ret
            exact ⟨ret_bool (by rw [Hq2.out, Hr.out]; simp), HK3.out⟩
    · have e : k = 0 := by omega
      subst e
      go_wp2_with fail
      refine wp_region_quiet_below (by kernel_rfl) (by kernel_rfl) ?_
      repeat (any_goals (first | go_big_quiet_step ((fail)) | quiet_step ((fail)) | (refine wpQuiet_step (fun K hK => ?_); go_simp; split <;> (refine hK _ ?_; clear hK K))))
      all_goals (refine wpQuiet_nil ?_; intro w1 hw'; replace hw' := Kept.regrown hw')
      all_goals try (exfalso; omega)
      have Hk9 := Lib.hid (Hkw.out.then hw')
      clear hw' b0 b1 b2 b3 b4 b5 hq
      go_wp2_with fail
      go_roundw
      case rel => exact ⟨1, by omega, by go_num, by first | rfl | (simp; exact beq_decide _ _), Hk9.out⟩
      case measure => simp [intOf]
end Go.Proofs.YthddanjmnifloaaDoor

set_option maxHeartbeats 1000000
set_option maxRecDepth 10000
namespace Go.Proofs.YthddanjmnifloaaDoor
open Go Go.RowKit Pl

/-- An array of 64 bools. -/
def rowB (f : Nat → Bool) : Array Value := (((List.range 64).map f).map Value.bool).toArray
theorem rowB_size (f : Nat → Bool) : (rowB f).size = 64 := by simp [rowB]
theorem rowB_get (f : Nat → Bool) {k : Nat} (hk : k < 64) : (rowB f)[k]? = some (.bool (f k)) := by
  unfold rowB
  rw [List.getElem?_toArray, List.getElem?_map, List.getElem?_map, List.getElem?_range hk]
  rfl
theorem rowB_set (f : Nat → Bool) (k : Nat) (b : Bool) : (rowB f).setIfInBounds k (.bool b) = rowB (fun j => if j = k then b else f j) := by
  unfold rowB
  rw [List.setIfInBounds_toArray]
  congr 1
  apply List.ext_getElem?
  intro i
  rw [List.getElem?_set]
  simp only [List.getElem?_map]
  by_cases hi : i < 64
  · rw [List.getElem?_range hi]
    by_cases h : k = i
    · subst h; simp [hi]
    · have h' : ¬ i = k := fun e => h e.symm
      simp [h, h']
  · rw [List.getElem?_eq_none (by simp; omega)]
    by_cases h : k = i
    · subst h; simp [hi]
    · simp [h]
theorem rowB_congr {f g : Nat → Bool} (h : ∀ j, j < 64 → f j = g j) : rowB f = rowB g := by
  unfold rowB
  have e : (List.range 64).map f = (List.range 64).map g := List.map_congr_left fun j hj => h j (List.mem_range.1 hj)
  rw [e]
theorem rowB_one (f : Nat → Bool) : (rowB f).all (·.oneCell') = true := by
  rw [Array.all_eq_true_iff_forall_mem]
  intro v hv
  simp [rowB] at hv
  obtain ⟨a, _, rfl⟩ := hv
  rfl
theorem rowB_cell (f : Nat → Bool) (w : World) {k : Nat} (hk : k < 64) : (w.alloc (.cells (rowB f) 60)).cell? ⟨w.heap.size, k, none⟩ = some (.bool (f k)) := by
  unfold World.cell?
  simp only [heap_new]
  exact rowB_get f hk
theorem rowB_info (f : Nat → Bool) : (Tryd.prog.info? 60).map (·.size) = some (rowB f).size := by
  rw [rowB_size]; kernel_rfl

/-- The number that the loop of Set has behind the k-th round: the bits from k on. -/
def high (f : Nat → Bool) (k : Nat) : Nat := mkSet (fun j => f (k + j)) (64 - k)
theorem mkSet_low (f : Nat → Bool) : ∀ n, mkSet f (n + 1) = (if f 0 then 1 else 0) + 2 * mkSet (fun j => f (j + 1)) n
  | 0 => by simp [mkSet]
  | n + 1 => by
    have ih := mkSet_low f n
    rw [mkSet, ih]
    rw [mkSet]
    have e : 2 ^ (n + 1) = 2 * 2 ^ n := by rw [Nat.pow_succ]; omega
    rw [e]
    split <;> omega
theorem high_step (f : Nat → Bool) {k : Nat} (hk : k < 64) : high f k = (if f k then 1 else 0) + 2 * high f (k + 1) := by
  unfold high
  obtain ⟨n, hn⟩ : ∃ n, 64 - k = n + 1 := ⟨64 - k - 1, by omega⟩
  have e : 64 - (k + 1) = n := by omega
  rw [hn, mkSet_low, e]
  have e2 : (fun j => f (k + (j + 1))) = fun j => f (k + 1 + j) := by funext j; congr 1; omega
  rw [e2]
  rfl
theorem high_end (f : Nat → Bool) : high f 64 = 0 := by simp [high, mkSet]
theorem high_all (f : Nat → Bool) : high f 0 = mkSet f 64 := by simp [high]
theorem high_lt (f : Nat → Bool) {k : Nat} (hk : k < 64) : 2 * high f (k + 1) + 1 < 2 ^ 64 := by
  have h := mkSet_lt (fun j => f (k + 1 + j)) (64 - (k + 1))
  have h2 : (2 : Nat) ^ (64 - (k + 1)) ≤ 2 ^ 63 := Nat.pow_le_pow_right (by decide) (by omega)
  unfold high
  omega

theorem rset_any (f : Nat → Bool) (w : World) :
    Calls Tryd.prog 43 #[.agg (rowB f)] w fun e w' => e = .returned (.int .u64 (mkSet f 64 : Nat)) ∧ Kept w w' := by
  have hcell : Hid (∀ k, k < 64 → (w.alloc (.cells (rowB f) 60)).cell? ⟨w.heap.size, k, none⟩ = some (.bool (f k))) := fun k hk => rowB_cell f w hk
  have Hall := Lib.hid (high_all f)
  have hk0 : Hid (Kept w (w.alloc (.cells (rowB f) 60))) := Kept.box _ _
  generalize rowB f = vs at *
  go_enter Tryd.func43, Tryd.ntmps43
  go_wp2
  go_loop [3, 4] (fun u v => ∃ k : Nat, k ≤ 64 ∧ v = .int .i64 ((k : Int) - 1) ∧ ∃ h : Nat, u = .int .u64 h ∧ Hid (h = high f k)) (fun _ v => (intOf v + 1).toNat)
  case atStart => exact ⟨64, Nat.le_refl _, rfl, 0, rfl, by show 0 = high f 64; rw [high_end]⟩
  case round =>
    obtain ⟨k, hk, rfl, h, rfl, Hh⟩ := hrel
    by_cases hlt : 0 < k
    · obtain ⟨m, rfl⟩ : ∃ m, k = m + 1 := ⟨k - 1, by omega⟩
      have hm : m < 64 := by omega
      have e1 : ((m + 1 : Nat) : Int) - 1 = m := by omega
      have hc := hcell.out m hm
      have hb : 2 * h + 1 < 2 ^ 64 := by rw [Hh.out]; exact high_lt f hm
      have Hs := Lib.hid (high_step f hm)
      have Hb := Lib.hid hb
      have hw1 : IntKind.u64.wrap (2 * (h : Int)) = ((2 * h : Nat) : Int) := by rw [IntKind.wrap_u64]; omega
      have hw2 : IntKind.u64.wrap (((2 * h : Nat) : Int) + 1) = ((2 * h + 1 : Nat) : Int) := by rw [IntKind.wrap_u64]; omega
      clear hb
      rw [e1]
      cases hf : f m with
      | true =>
        rw [hf] at hc
        have Hn : Hid (2 * h + 1 = high f m) := by
          show _ = _
          rw [Hs.out, hf, ← Hh.out, if_pos rfl, Nat.add_comm]
        clear hf
        generalize 2 * h + 1 = h2 at *
        generalize 2 * h = h1 at *
        go_wp2
        go_round
        case rel => exact ⟨m, by omega, rfl, h2, rfl, Hn⟩
        case measure => simp [intOf] <;> omega
      | false =>
        rw [hf] at hc
        have Hn : Hid (2 * h = high f m) := by
          show _ = _
          rw [Hs.out, hf, ← Hh.out, if_neg (by decide), Nat.zero_add]
        clear hf hw2
        generalize 2 * h = h1 at *
        go_wp2
        go_round
        case rel => exact ⟨m, by omega, rfl, h1, rfl, Hn⟩
        case measure => simp [intOf] <;> omega
    · have e : k = 0 := by omega
      subst e
      go_wp2
      go_ret
      exact ⟨ret_u64 (by rw [Hh.out, Hall.out]), hk0.out⟩

theorem rbetween_any (low high : Int) (w : World) :
    Calls Tryd.prog 16 #[.int .i64 low, .int .i64 high] w fun e w' => e = .returned (.int .u64 (btw low high : Nat)) ∧ Kept w w' := by
  go_enter Tryd.func16, Tryd.ntmps16
  refine wp_seq_k fun K h => ?_
  have H := Lib.hid h
  clear h
  go_wp2
  refine H.out _ _ ?_
  clear H K
  refine wp_seq_k fun K h => wp_region_list ?_
  have H := Lib.hid h
  clear h
  refine Great.wpList_runTo rfl (some 7) rfl (.agg (rowB fun _ => false)) w (by kernel_rfl) ?_
  refine Great.wpList_runTo rfl (some 5) rfl (.pointer (some ⟨w.heap.size, 0, none⟩)) (w.alloc (.cells (rowB fun _ => false) 60)) (by kernel_rfl) ?_
  refine wpList_store_row rfl 60 (.tmp 5) (.tmp 7) rfl w.heap.size (rowB fun _ => false) rfl rfl 60 (rowB fun _ => false) (heap_new _ _) (rowB_info _) rfl (rowB_one _) ?_
  rw [World.setRow_alloc_new]
  refine wpList_nil (H.out _ _ ?_)
  clear H K
  have hk0 : Kept w (w.alloc (.cells (rowB fun _ => false) 60)) := Kept.box _ _
  go_wp2
  rename_i K h
  have H := Lib.hid h
  clear h hk0
  go_loopw [6] (fun v wr => ∃ k : Nat, k ≤ 64 ∧ v = .int .i64 k ∧ wr = w.alloc (.cells (rowB fun j => decide (j < k) && (decide (low ≤ (j : Int)) && decide ((j : Int) ≤ high))) 60)) (fun v _ => 64 - (intOf v).toNat)
  case atStart => exact ⟨0, Nat.zero_le _, rfl, by simp⟩
  case round =>
    obtain ⟨k, hk, rfl, rfl⟩ := hrel
    by_cases hlt : k < 64
    · have hc := Lib.hid (rowB_cell (fun j => decide (j < k) && (decide (low ≤ (j : Int)) && decide ((j : Int) ≤ high))) w hlt)
      have hc' := hc.out
      have hset := rowB_set (fun j => decide (j < k) && (decide (low ≤ (j : Int)) && decide ((j : Int) ≤ high))) k (decide (low ≤ (k : Int)) && decide ((k : Int) ≤ high))
      have e : (fun j => if j = k then (decide (low ≤ (k : Int)) && decide ((k : Int) ≤ high)) else (decide (j < k) && (decide (low ≤ (j : Int)) && decide ((j : Int) ≤ high)))) = fun j : Nat => decide (j < k + 1) && (decide (low ≤ (j : Int)) && decide ((j : Int) ≤ high)) := by
        funext j
        by_cases h : j = k
        · subst h; simp
        · have : (j < k + 1) = (j < k) := by apply propext; omega
          simp [h, this]
      rw [e] at hset
      have Hset := Lib.hid hset
      clear e hset hc
      generalize (rowB fun j => decide (j < k) && (decide (low ≤ (j : Int)) && decide ((j : Int) ≤ high))) = C at *
      generalize hC2 : (rowB fun j => decide (j < k + 1) && (decide (low ≤ (j : Int)) && decide ((j : Int) ≤ high))) = C2 at *
      have HC2 := Lib.hid hC2
      clear hC2
      go_wp2
      all_goals
        refine ⟨⟨k + 1, by omega, by go_num, ?_⟩, by simp [intOf] <;> omega⟩
        rw [HC2.out, ← Hset.out]
        try simp [*]
    · have e : k = 64 := by omega
      subst e
      have eC : (rowB fun j => decide (j < 64) && (decide (low ≤ (j : Int)) && decide ((j : Int) ≤ high))) = rowB fun j => decide (low ≤ (j : Int)) && decide ((j : Int) ≤ high) := by
        exact rowB_congr fun j hj => by simp [hj]
      rw [eC]
      clear eC
      go_wp2
      refine H.out _ _ ?_
      clear H
      refine wp_seq_k fun K h => wp_region_list ?_
      refine wpList_load_row rfl 60 (.tmp 5) rfl w.heap.size rfl 60 _ (0, 0) _ (heap_new _ _) Tryd.underlying60 rfl (rowB_info _) ?_
      go_wp2_with (go_at_call 43; refine (rset_any (fun j => decide (low ≤ (j : Int)) && decide ((j : Int) ≤ high)) _).mono ?_; rintro e w' ⟨rfl, hk'⟩; have Hk := Lib.hid ((Kept.box _ _).then hk'); clear hk')
      go_ret
      exact ⟨rfl, Hk.out⟩

theorem rof_any (A : Option Addr) (n c : Nat) (l : List Int) (w : World) (hl : Ints w A n l) :
    Calls Tryd.prog 27 #[.slice A n c] w fun e w' => e = .returned (.int .u64 (ofL l : Nat)) ∧ Kept w w' := by
  have Hl := Lib.hid hl
  have hs1 := hl.small
  have Hlen := Lib.hid hl.len
  clear hl
  go_enter Tryd.func27, Tryd.ntmps27
  refine wp_seq_k fun K h => ?_
  have H := Lib.hid h
  clear h
  go_wp2
  refine H.out _ _ ?_
  clear H K
  refine wp_seq_k fun K h => wp_region_list ?_
  have H := Lib.hid h
  clear h
  refine Great.wpList_runTo rfl (some 5) rfl (.agg (rowB fun _ => false)) w (by kernel_rfl) ?_
  refine Great.wpList_runTo rfl (some 3) rfl (.pointer (some ⟨w.heap.size, 0, none⟩)) (w.alloc (.cells (rowB fun _ => false) 60)) (by kernel_rfl) ?_
  refine wpList_store_row rfl 60 (.tmp 3) (.tmp 5) rfl w.heap.size (rowB fun _ => false) rfl rfl 60 (rowB fun _ => false) (heap_new _ _) (rowB_info _) rfl (rowB_one _) ?_
  rw [World.setRow_alloc_new]
  refine wpList_nil (H.out _ _ ?_)
  clear H K
  go_wp2
  rename_i K h
  have H := Lib.hid h
  clear h
  go_loopw [4] (fun v wr => ∃ k : Nat, k ≤ n ∧ v = .int .i64 k ∧ wr = w.alloc (.cells (rowB fun j => (l.take k).contains (j : Int)) 60)) (fun v _ => n - (intOf v).toNat)
  case atStart => exact ⟨0, Nat.zero_le _, rfl, by simp⟩
  case round =>
    obtain ⟨k, hk, rfl, rfl⟩ := hrel
    by_cases hlt : k < n
    · have hlr := Hl.out.kept (Kept.box w (.cells (rowB fun j => (l.take k).contains (j : Int)) 60))
      obtain ⟨a, rfl, hba⟩ := hlr.addr (by omega)
      obtain ⟨x, Hx, hcx, hx1, hx2⟩ := hlr.named k hlt
      have ht := take_succ_getD (by have := Hlen.out; omega) Hx.out
      by_cases hin : 0 ≤ x ∧ x ≤ 63
      · obtain ⟨y, rfl⟩ := Int.eq_ofNat_of_zero_le hin.1
        have hy : y < 64 := by omega
        have hc' := rowB_cell (fun j => (l.take k).contains (j : Int)) w hy
        have hset := rowB_set (fun j => (l.take k).contains (j : Int)) y true
        have e : (fun j => if j = y then true else (l.take k).contains (j : Int)) = fun j : Nat => (l.take (k + 1)).contains (j : Int) := by
          funext j
          rw [ht]
          by_cases h : j = y
          · subst h; simp
          · have : ¬ (j : Int) = (y : Int) := by omega
            simp [h, this]
        rw [e] at hset
        have Hset := Lib.hid hset
        clear e hset ht hin hlr
        generalize (rowB fun j => (l.take k).contains (j : Int)) = C at *
        generalize hC2 : (rowB fun j => (l.take (k + 1)).contains (j : Int)) = C2 at *
        have HC2 := Lib.hid hC2
        clear hC2
        go_wp2
        all_goals
          refine ⟨⟨k + 1, by omega, by go_num, ?_⟩, by simp [intOf] <;> omega⟩
          rw [HC2.out, ← Hset.out]
      · have e : (rowB fun j => (l.take (k + 1)).contains (j : Int)) = rowB fun j => (l.take k).contains (j : Int) := by
          refine rowB_congr fun j hj => ?_
          rw [ht, Bool.eq_iff_iff]
          simp
          omega
        generalize hC2 : (rowB fun j => (l.take k).contains (j : Int)) = C at *
        have He := Lib.hid e
        clear e ht hlr hC2
        by_cases h0 : 0 ≤ x
        · have h1 : ¬ x ≤ 63 := fun h => hin ⟨h0, h⟩
          clear hin
          go_wp2
          all_goals
            refine ⟨⟨k + 1, by omega, by go_num, ?_⟩, by simp [intOf] <;> omega⟩
            rw [He.out]
        · clear hin
          go_wp2
          all_goals
            refine ⟨⟨k + 1, by omega, by go_num, ?_⟩, by simp [intOf] <;> omega⟩
            rw [He.out]
    · have e : k = n := by omega
      subst e
      have el : l.take k = l := by rw [← Hlen.out, List.take_length]
      rw [el]
      clear el
      generalize hf : (fun j : Nat => l.contains (j : Int)) = f
      have Hf : Hid (mkSet f 64 = ofL l) := by show _ = _; rw [← hf]; rfl
      clear hf
      go_wp2
      refine H.out _ _ ?_
      clear H
      refine wp_seq_k fun K h => wp_region_list ?_
      refine wpList_load_row rfl 60 (.tmp 3) rfl w.heap.size rfl 60 _ (0, 0) _ (heap_new _ _) Tryd.underlying60 rfl (rowB_info _) ?_
      go_wp2_with (go_at_call 43; refine (rset_any f _).mono ?_; rintro e w' ⟨rfl, hk'⟩; have Hk := Lib.hid ((Kept.box _ _).then hk'); clear hk')
      go_ret
      exact ⟨ret_u64 (by rw [Hf.out]), Hk.out⟩
end Go.Proofs.YthddanjmnifloaaDoor

set_option maxHeartbeats 1000000
set_option maxRecDepth 10000
namespace Go.Proofs.YthddanjmnifloaaDoor
open Go Go.RowKit Pl

theorem step_append_zero {ops : Array Oper} {o : Oper} {a : Act} {w : World} {K : Act → World → Prop} {Q : Exit → Act → World → Prop} {E : Prop} (hgd : o.guard = Option.none) (s x : Operand)
    (ho : o.op = .call { callee := .builtin .append, args := #[s, x], argTypes := #[23, 23] }) (g n c : Nat) (A : Option Addr) (hn : n = 0)
    (hs : a.eval s = .slice (some ⟨g, 0, Option.none⟩) 0 0) (hx : a.eval x = .slice A n c)
    (h : K (a.put o.dst (.slice (some ⟨g, 0, Option.none⟩) 0 0)) w) :
    if Region.wanted o (yielded ops a.tmps) = true then Oper.wp Tryd.prog o a w K Q else E := by
  subst hn
  have hw : Region.wanted o (yielded ops a.tmps) = true := by simp [Region.wanted, hgd]
  rw [if_pos hw]
  unfold Oper.wp execOp
  simp only [ho, resolve, invoke, builtin, Sem.run_bind, Sem.run_pure, Result.andThen_ok, List.map_toArray, List.map_cons, List.map_nil, hs, hx]
  cases A with
  | none =>
    simp [go_sem]
    exact h
  | some b =>
    simp [go_sem]
    exact h
end Go.Proofs.YthddanjmnifloaaDoor

set_option maxHeartbeats 1000000
set_option maxRecDepth 10000
namespace Go.Proofs.YthddanjmnifloaaDoor
open Go Go.RowKit Pl

theorem range_kept {w w' : World} {b o : Nat} {cs : List Value} (h : w.rangeAt b o cs) (hk : Kept w w') : w'.rangeAt b o cs := fun j v hv => hk.cellAt (h j v hv)
theorem grown_kept {w0 w w' : World} {r : Option Nat} (h0 : Kept w0 w) (hg : w.grownBy w' r) (hr : ∀ i, r = some i → w0.heap.size ≤ i) : Kept w0 w' := h0.grown hg h0.size hr

theorem two_but (w : World) (O : Nat) (x0 x1 : Value) : KeptBut O w ((w.setCell ⟨O, 0, Option.none⟩ x0).setCell ⟨O, 1, Option.none⟩ x1) :=
  (KeptBut.set _ (a := ⟨O, 0, Option.none⟩) rfl _).then (KeptBut.set _ (a := ⟨O, 1, Option.none⟩) rfl _)

/-- What is kept of the places below k. -/
def keepUpto (xs l : List Int) (L k : Nat) (i : Nat) : Bool := decide (i < k) && (L.testBit i && l.contains (xs.getD i 0))

theorem keepUpto_set {xs l : List Int} {L : Nat} (hm : mayB xs L = true) : mkSet (keepUpto xs l L xs.length) 64 = (keepD (fun x => l.contains x) (xs, L)).2 := by
  apply Nat.eq_of_testBit_eq
  intro i
  rw [testBit_keepD, testBit_mkSet]
  unfold keepUpto
  by_cases hb : L.testBit i = true
  · have := (may_bit (d := (xs, L)) hm hb).1
    have h2 : decide (i < xs.length) = true := by simpa using this
    rw [h2]; rfl
  · have : L.testBit i = false := by simpa using hb
    rw [this]; simp

theorem rkeep_p (p : Int → Bool) (A B : Option Addr) (n c m d L : Nat) (xs l : List Int) (w : World) (hp : ∀ x, p x = l.contains x) (hS : Ints w A n xs) (hl : Ints w B m l) (hL : L < 2 ^ 64) (hm : mayB xs L = true) :
    Calls Tryd.prog 84 #[.agg #[.slice A n c, .int .u64 L], .slice B m d] w (DomPost (keepD p (xs, L)) w) := by
  obtain ⟨i0, hi, hz0, hz1, hz2⟩ := info_parts info_int
  have Hp := Lib.hid hp
  have HS := Lib.hid hS
  have Hl := Lib.hid hl
  have HL := Lib.hid hL
  have Hm := Lib.hid hm
  have Hlen := Lib.hid hS.len
  have Hll := Lib.hid hl.len
  have hsm := hS.small
  have hsm2 := hl.small
  have hn64 : n ≤ 64 := by have := mayB_len hm; have := hS.len; omega
  have hmay : Hid (∀ W, Ints W A n xs → Calls Tryd.prog 83 #[.agg #[.slice A n c, .int .u64 L]] W fun e w' => e = .returned (.bool true) ∧ Kept W w') := fun W hW => by
    have := rmay_any A n c L xs W hW HL.out
    rwa [hm] at this
  clear hS hl hL hm hp
  go_enter Tryd.func84, Tryd.ntmps84
  refine wp_seq_k fun K h => ?_
  have H := Lib.hid h
  clear h
  go_wp2_with fail
  refine H.out _ _ ?_
  clear H K
  refine wp_seq_k fun K h => ?_
  have H := Lib.hid h
  clear h
  go_wp2_with fail
  refine (hmay.out _ (HS.out.kept ((Kept.box _ _).newBlock _))).mono ?_
  rintro e wm ⟨rfl, hk1⟩
  have HD := Lib.hid (hk1.heapAt ((Kept.box _ _).heapAt (heap_new w (.cells #[.slice A n c, .int .u64 (L : Nat)] 78))))
  have HR := Lib.hid (hk1.heapAt (heap_new2 w (.cells #[.slice A n c, .int .u64 (L : Nat)] 78) _))
  have HK1 := Lib.hid (((Kept.box w _).newBlock _).then hk1)
  have hsz := hk1.size
  simp only [World.size_alloc] at hsz
  clear hk1 hmay
  go_wp2_with fail
  refine H.out _ _ ?_
  clear H K
  refine wp_seq_k fun K h => wp_region_list ?_
  have H := Lib.hid h
  clear h
  refine Great.wpList_runTo rfl (some 13) rfl (.agg (rowB fun _ => false)) wm (by kernel_rfl) ?_
  refine Great.wpList_runTo rfl (some 5) rfl (.pointer (some ⟨wm.heap.size, 0, none⟩)) (wm.alloc (.cells (rowB fun _ => false) 60)) (by kernel_rfl) ?_
  refine wpList_store_row rfl 60 (.tmp 5) (.tmp 13) rfl wm.heap.size (rowB fun _ => false) rfl rfl 60 (rowB fun _ => false) (heap_new _ _) (rowB_info _) rfl (rowB_one _) ?_
  rw [World.setRow_alloc_new]
  refine wpList_nil (H.out _ _ ?_)
  clear H K
  have HKa := Lib.hid (Kept.box wm (.cells (rowB fun _ => false) 60))
  have HA0 := Lib.hid (heap_new wm (.cells (rowB fun _ => false) 60))
  generalize wm.alloc (.cells (rowB fun _ => false) 60) = wa at *
  have hd := HKa.out.heapAt HD.out
  have hd0 := cell_at hd 0
  have hd1 := cell_at hd 1
  simp only [List.getElem?_toArray, List.getElem?_cons_zero, List.getElem?_cons_succ] at hd0 hd1
  clear hd
  go_wp2_with fail
  clear hd0 hd1
  go_loopw [6, 7] (fun u v wr => ∃ (k z : Nat), k ≤ n ∧ v = .int .i64 k ∧ u = .int .u64 (z : Nat) ∧ Hid (z = L / 2 ^ k) ∧ Hid (KeptBut wm.heap.size wa wr) ∧ Hid (wr.heap[wm.heap.size]? = some (.cells (rowB (keepUpto xs l L k)) 60))) (fun _ v _ => n - (intOf v).toNat)
  case atStart => exact ⟨0, L, Nat.zero_le _, rfl, rfl, by show L = L / 2 ^ 0; simp, KeptBut.refl _ _, by rw [rowB_congr (g := fun _ => false) (fun j _ => by simp [keepUpto])]; exact HA0⟩
  case round =>
    obtain ⟨k, z, hk, rfl, rfl, Hz, Hkw, HA⟩ := hrel
    have HDr := Lib.hid (Hkw.out.heapAt (HKa.out.heapAt HD.out) (by omega))
    have hd0 := cell_at HDr.out 0
    have hd1 := cell_at HDr.out 1
    simp only [List.getElem?_toArray, List.getElem?_cons_zero, List.getElem?_cons_succ] at hd0 hd1
    by_cases hlt : k < n
    · have hxs := (HS.out.kept (HK1.out.then HKa.out)).keptBut0 Hkw.out (fun hn a ha => by subst ha; have := HS.out.block hn; omega)
      obtain ⟨a, rfl, hblk⟩ := hxs.addr (by omega)
      obtain ⟨x, Hx, hcx, hx1, hx2⟩ := hxs.named k hlt
      have hzL : z ≤ L := by rw [Hz.out]; exact Nat.div_le_self _ _
      have hwz : IntKind.u64.wrap ((z : Int) / 2) = (z : Int) / 2 := by rw [IntKind.wrap_u64]; have := HL.out; omega
      have Hnz : Hid (z / 2 = L / 2 ^ (k + 1)) := by show _ = _; rw [Hz.out, Nat.div_div_eq_div_mul, Nat.pow_succ]
      have Hbit : Hid (L.testBit k = decide (z % 2 = 1)) := by show _ = _; rw [testBit_div, Hz.out]
      clear hxs
      go_wp2_with fail
      clear hd0 hd1 hcx hblk
      go_loopw [8] (fun v wq => ∃ j : Nat, j ≤ m ∧ v = .int .i64 j ∧ Hid (KeptBut wm.heap.size wa wq) ∧ Hid (wq.heap[wm.heap.size]? = some (.cells (rowB fun i => if i = k then L.testBit k && (l.take j).contains x else keepUpto xs l L k i) 60))) (fun v _ => m - (intOf v).toNat)
      case atStart => exact ⟨0, Nat.zero_le _, rfl, Hkw.out, by rw [rowB_congr (g := keepUpto xs l L k) (fun i _ => by by_cases h : i = k <;> simp [h, keepUpto])]; exact HA.out⟩
      case round =>
        obtain ⟨j, hj, rfl, Hkq, HAq⟩ := hrel
        have HDq := Lib.hid (Hkq.out.heapAt (HKa.out.heapAt HD.out) (by omega))
        have hd0 := cell_at HDq.out 0
        have hd1 := cell_at HDq.out 1
        simp only [List.getElem?_toArray, List.getElem?_cons_zero, List.getElem?_cons_succ] at hd0 hd1
        have hlb : w.heap.size < wr.heap.size := lt_at HDq.out
        by_cases hlt2 : j < m
        · have hxs := (HS.out.kept (HK1.out.then HKa.out)).keptBut0 Hkq.out (fun hn a ha => by cases ha; have := HS.out.block hn; omega)
          obtain ⟨x', Hx', hcx, _, _⟩ := hxs.named k hlt
          have ex : x' = x := Hx'.out.symm.trans Hx.out
          subst ex
          have hblk := hxs.block (by omega)
          have hls := (Hl.out.kept (HK1.out.then HKa.out)).keptBut0 Hkq.out (fun hn a ha => by subst ha; have := Hl.out.block hn; omega)
          obtain ⟨bl, rfl, hbl⟩ := hls.addr (by omega)
          obtain ⟨y, Hy, hcy, _, _⟩ := hls.named j hlt2
          have Hs : Hid ((l.take (j + 1)).contains x' = ((l.take j).contains x' || decide (y = x'))) := by
            show _ = _
            rw [take_succ_getD (by have := Hll.out; omega) Hy.out]
            exact contains_snoc _ _ _
          clear hxs hls
          by_cases hyx : y = x'
          · have hd5 : (y == x') = true := by simp [hyx]
            by_cases hbit : z % 2 = 1
            · have hd6 : ((z : Int) % 2 == 1) = true := by simp; omega
              have Hnew : Hid (rowB (fun i => if i = k then true else (if i = k then L.testBit k && (l.take j).contains x' else keepUpto xs l L k i)) = rowB (fun i => if i = k then L.testBit k && (l.take (j + 1)).contains x' else keepUpto xs l L k i)) := rowB_congr fun i _ => by
                by_cases h : i = k
                · simp only [h, if_true]
                  rw [Hbit.out, Hs.out, decide_eq_true hyx, decide_eq_true hbit]; simp
                · simp only [h, if_false]
              go_wp2_with fail
              refine wp_region_quiet_below (by kernel_rfl) (by kernel_rfl) ?_
              repeat (any_goals (first | go_big_quiet_step ((fail)) | quiet_step ((fail)) | (refine wpQuiet_step (fun K hK => ?_); go_simp; split <;> (refine hK _ ?_; clear hK K))))
              all_goals (refine wpQuiet_nil ?_; intro w1 hw'; replace hw' := Kept.regrown hw')
              all_goals try (exfalso; omega)
              have HA9 := Lib.hid (hw'.heapAt HAq.out)
              have hO1 := cell_at HA9.out k
              rw [rowB_get _ (by omega)] at hO1
              have hfr := frozen_at HA9.out k
              have Hk9 := Lib.hid (Hkq.out.then (KeptBut.of hw' _))
              have hset := rowB_set (fun i => if i = k then L.testBit k && (l.take j).contains x' else keepUpto xs l L k i) k true
              have Hset : Hid ((w1.setCell ⟨wm.heap.size, k, Option.none⟩ (.bool true)).heap[wm.heap.size]? = some (.cells (rowB fun i => if i = k then L.testBit k && (l.take (j + 1)).contains x' else keepUpto xs l L k i) 60)) := by
                show _ = _
                rw [heap_setCell_same _ _ _ _ _ _ HA9.out, hset, Hnew.out]
              clear hw' hd0 hd1 hset
              go_wp2_with fail
              go_roundw
              case rel => exact ⟨j + 1, by omega, by go_num, Hk9.out.then (KeptBut.set _ (a := ⟨wm.heap.size, k, Option.none⟩) rfl _), Hset.out⟩
              case measure => simp [intOf]; omega
            · have hd6 : ((z : Int) % 2 == 1) = false := by simp; omega
              have Hnew : Hid (rowB (fun i => if i = k then L.testBit k && (l.take j).contains x' else keepUpto xs l L k i) = rowB (fun i => if i = k then L.testBit k && (l.take (j + 1)).contains x' else keepUpto xs l L k i)) := rowB_congr fun i _ => by
                by_cases h : i = k
                · simp only [h, if_true]
                  rw [Hbit.out, decide_eq_false hbit]; rfl
                · simp only [h, if_false]
              go_wp2_with fail
              refine wp_region_quiet_below (by kernel_rfl) (by kernel_rfl) ?_
              repeat (any_goals (first | go_big_quiet_step ((fail)) | quiet_step ((fail)) | (refine wpQuiet_step (fun K hK => ?_); go_simp; split <;> (refine hK _ ?_; clear hK K))))
              all_goals (refine wpQuiet_nil ?_; intro w1 hw'; replace hw' := Kept.regrown hw')
              all_goals try (exfalso; omega)
              have HA9 := Lib.hid (hw'.heapAt HAq.out)
              have Hk9 := Lib.hid (Hkq.out.then (KeptBut.of hw' _))
              clear hw' hd0 hd1
              go_wp2_with fail
              go_roundw
              case rel => exact ⟨j + 1, by omega, by go_num, Hk9.out, by rw [← Hnew.out]; exact HA9.out⟩
              case measure => simp [intOf]; omega
          · have hd5 : (y == x') = false := by simp [hyx]
            have Hnew : Hid (rowB (fun i => if i = k then L.testBit k && (l.take j).contains x' else keepUpto xs l L k i) = rowB (fun i => if i = k then L.testBit k && (l.take (j + 1)).contains x' else keepUpto xs l L k i)) := rowB_congr fun i _ => by
              by_cases h : i = k
              · simp only [h, if_true]
                rw [Hs.out, decide_eq_false hyx, Bool.or_false]
              · simp only [h, if_false]
            go_wp2_with fail
            refine wp_region_quiet_below (by kernel_rfl) (by kernel_rfl) ?_
            repeat (any_goals (first | go_big_quiet_step ((fail)) | quiet_step ((fail)) | (refine wpQuiet_step (fun K hK => ?_); go_simp; split <;> (refine hK _ ?_; clear hK K))))
            all_goals (refine wpQuiet_nil ?_; intro w1 hw'; replace hw' := Kept.regrown hw')
            all_goals try (exfalso; omega)
            have HA9 := Lib.hid (hw'.heapAt HAq.out)
            have Hk9 := Lib.hid (Hkq.out.then (KeptBut.of hw' _))
            clear hw' hd0 hd1
            go_wp2_with fail
            go_roundw
            case rel => exact ⟨j + 1, by omega, by go_num, Hk9.out, by rw [← Hnew.out]; exact HA9.out⟩
            case measure => simp [intOf]; omega
        · have e : j = m := by omega
          subst e
          have Hnew : Hid (rowB (fun i => if i = k then L.testBit k && (l.take j).contains x else keepUpto xs l L k i) = rowB (keepUpto xs l L (k + 1))) := rowB_congr fun i _ => by
            rw [List.take_of_length_le (by have := Hll.out; omega)]
            unfold keepUpto
            by_cases h : i = k
            · subst h
              rw [if_pos rfl, Hx.out]; simp
            · rw [if_neg h]
              have : decide (i < k + 1) = decide (i < k) := by
                rw [decide_eq_decide]; omega
              rw [this]
          have HA9 := Lib.hid (Hnew.out ▸ HAq.out)
          go_wp2_with fail
          go_roundw
          case rel => exact ⟨k + 1, z / 2, by omega, by go_num, by simp, Hnz.out, Hkq.out, HA9.out⟩
          case measure => simp [intOf]; omega
    · have e : k = n := by omega
      subst e
      obtain ⟨f, hf⟩ : ∃ f, f = keepUpto xs l L k := ⟨_, rfl⟩
      have Hset : Hid (mkSet f 64 = (keepD p (xs, L)).2) := by
        show _ = _
        have e : p = fun x => l.contains x := funext Hp.out
        rw [hf, e, ← keepUpto_set Hm.out, Hlen.out]
      rw [← hf] at HA
      have hra : wr.rangeAt wm.heap.size 0 (rowB f).toList := fun j v hv => by
        rw [Nat.zero_add, cell_at HA.out]
        simpa using hv
      have hu := Tryd.underlying60
      have hi64 : (Tryd.prog.info? 60).map (·.size) = some (rowB f).toList.length := by rw [rowB_info f]; simp
      have hl64 : (rowB f).toList.length = 64 := by simp [rowB_size]
      have hone : ∀ v ∈ (rowB f).toList, v.oneCell' = true := fun v hv => by
        have := rowB_one f
        rw [Array.all_eq_true'] at this
        exact this v (by simpa using hv)
      have Hra := Lib.hid hra
      have HSet : Hid (∀ W, Calls Tryd.prog 43 #[.agg (rowB f)] W fun e w' => e = .returned (.int .u64 (mkSet f 64 : Nat)) ∧ Kept W w') := fun W => rset_any f W
      have HRr := Lib.hid (Hkw.out.heapAt (HKa.out.heapAt HR.out) (by omega))
      have HKr := Lib.hid (((KeptBut.of (HK1.out.then HKa.out) wm.heap.size).then Hkw.out).kept (by omega))
      have Hc0 := Lib.hid hd0
      have hfacts : Hid (∀ W, Kept wr W → W.cell? ⟨w.heap.size + 1, 0, Option.none⟩ = some (.slice Option.none 0 0) ∧ W.cell? ⟨w.heap.size + 1, 1, Option.none⟩ = some (.int .u64 0) ∧ W.frozen? ⟨w.heap.size + 1, 0, Option.none⟩ = false ∧ W.frozen? ⟨w.heap.size + 1, 1, Option.none⟩ = false) := fun W hW =>
        ⟨cell_at (hW.heapAt HRr.out) 0, cell_at (hW.heapAt HRr.out) 1, frozen_at (hW.heapAt HRr.out) 0, frozen_at (hW.heapAt HRr.out) 1⟩
      have hszr := HKr.out.size
      have hszw := Hkw.out.size
      have hsza := HKa.out.size
      clear hf hra hd1
      by_cases hk0 : 0 < k
      · have hxr := HS.out.kept HKr.out
        obtain ⟨a0, rfl, hba0⟩ := hxr.addr hk0
        have HX := Lib.hid hxr
        have Hnews : Hid (∀ W, Kept wr W → ∀ (j : Nat) (u : Value), (xs.map (Value.int .i64))[j]? = some u → W.cell? (a0.add j) = some u) := fun W hW j u hu => by
          obtain ⟨b, e, hc⟩ := (HX.out.kept hW).cell hk0
          cases e
          rw [List.getElem?_map] at hu
          have hj : j < xs.length := by
            by_cases h : j < xs.length
            · exact h
            · rw [List.getElem?_eq_none (by omega)] at hu; simp at hu
          rw [List.getElem?_eq_getElem hj] at hu
          simp only [Option.map_some, Option.some.injEq] at hu
          rw [hc j (by have := Hlen.out; omega), ← hu, List.getD_eq_getElem?_getD, List.getElem?_eq_getElem hj]
          rfl
        have hnl : (xs.map (Value.int .i64)).length = k * 1 := by rw [List.length_map, Nat.mul_one]; exact Hlen.out
        have hn1 : ∀ u ∈ xs.map (Value.int .i64), u.oneCell' = true := fun u hu => by
          rw [List.mem_map] at hu
          obtain ⟨_, _, rfl⟩ := hu
          rfl
        clear hxr
        go_wp2_with fail
        go_region_held3 (fun W => W.cell? ⟨w.heap.size, 0, Option.none⟩ = some (.slice (some a0) k c) ∧ W.rangeAt wm.heap.size 0 (rowB f).toList)
          (first
            | exact ⟨hc0, Hra.out⟩
            | exact ⟨Hc0.out, Hra.out⟩
            | exact ⟨(Kept.drewn _).cellAt Hc0.out, range_kept Hra.out (Kept.drewn _)⟩
            | exact ⟨HKs.out.cellAt Hc0.out, range_kept Hra.out HKs.out⟩
            | exact ⟨HKp.out.cellAt Hc0.out, range_kept Hra.out HKp.out⟩
            | exact ⟨((Kept.drewn _).newBlock _).cellAt Hc0.out, range_kept Hra.out ((Kept.drewn _).newBlock _)⟩
            | exact ⟨(two_but _ _ _ _).cellAt (HKs.out.cellAt Hc0.out) (by simp), fun j v hv => (two_but _ _ _ _).cellAt (range_kept Hra.out HKs.out j v hv) (by show wm.heap.size ≠ w.heap.size + 1; omega)⟩)
          (first
            | (go_at_call 43
               refine (HSet.out _).mono ?_
               rintro e wS ⟨rfl, hkS⟩
               have HKs : Hid (Kept wr wS) := by first | exact HKp.out.then hkS | exact ((Kept.drewn _).newBlock _).then hkS | exact (Kept.drewn _).then hkS
               obtain ⟨r0, r1, q0, q1⟩ := hfacts.out _ HKs.out)
            | (refine step_append_lies _ (by rfl) _ _ _ (by rfl) wr.heap.size 3 i0 _ 1 8 Tryd.underlying23 hi hz0 hz1 hz2 rfl (by omega) _ 0 [] (by rfl) (by first | exact own_empty (heap_new _ _) (by simp) | exact own_empty (hkS.heapAt (heap_new _ _)) (by simp) | exact own_empty (heap_new _ _) HKs.out.size) a0 k c (xs.map (Value.int .i64)) (by rfl) hnl (by first | exact Hnews.out _ ((Kept.drewn _).newBlock _) | exact Hnews.out _ HKs.out | exact Hnews.out _ (HKs.out.newBlock _)) hn1 hk0 (by unfold maxLen; omega) (by omega) (by first | (simp; done) | exact HKs.out.size | (have := HKs.out.size; simp; omega)) _ rfl ?_
               intro gg cap w3 hown3 hgrow hat hlt3
               have HKp : Hid (Kept wr w3) := grown_kept ((Kept.drewn _).newBlock _) hgrow (fun i hi => by simp [Act.eval, Value.ownBlock] at hi; omega)
               obtain ⟨r0, r1, q0, q1⟩ := hfacts.out _ HKp.out))
        rw [Nat.zero_add, List.nil_append] at hown3
        obtain ⟨A3, c3, e3, hI3, hf3⟩ := Ints.of_own hown3 HS.out.rng
        cases e3
        have HIs := Lib.hid (hI3.kept hkS)
        have hgg := hf3 _ rfl
        have hgl : wr.heap.size ≤ gg := hgg
        have HKS := Lib.hid (HKr.out.then HKs.out)
        clear hown3 hgrow hat hI3 hf3
        go_wp2_with fail
        refine bodyPost_ret (v := .agg #[.slice (some ⟨gg, 0, Option.none⟩) k cap, .int .u64 (mkSet f 64 : Nat)]) (by simp [results, Tryd.results84, go_sem, r0, r1]) rfl ?_
        refine ⟨some ⟨gg, 0, Option.none⟩, cap, ?_, ?_, ((KeptBut.of HKS.out _).then (two_but _ _ _ _)).kept (by omega), fun a ha => by cases ha; show w.heap.size ≤ gg; omega⟩
        · rw [← Hset.out]
          show _ = Ending.returned (.agg #[.slice (some ⟨gg, 0, Option.none⟩) xs.length cap, _])
          rw [Hlen.out]
        · show Ints _ _ xs.length xs
          rw [Hlen.out]
          exact HIs.out.keptBut0 (two_but _ _ _ _) (fun _ a ha => by cases ha; show gg ≠ w.heap.size + 1; omega)
      · have Hk0 : Hid (k = 0) := by show k = 0; omega
        go_wp2_with fail
        go_region_held3 (fun W => W.cell? ⟨w.heap.size, 0, Option.none⟩ = some (.slice A k c) ∧ W.rangeAt wm.heap.size 0 (rowB f).toList)
          (first
            | exact ⟨Hc0.out, Hra.out⟩
            | exact ⟨(Kept.drewn _).cellAt Hc0.out, range_kept Hra.out (Kept.drewn _)⟩
            | exact ⟨HKs.out.cellAt Hc0.out, range_kept Hra.out HKs.out⟩
            | exact ⟨((Kept.drewn _).newBlock _).cellAt Hc0.out, range_kept Hra.out ((Kept.drewn _).newBlock _)⟩
            | exact ⟨(two_but _ _ _ _).cellAt (HKs.out.cellAt Hc0.out) (by simp), fun j v hv => (two_but _ _ _ _).cellAt (range_kept Hra.out HKs.out j v hv) (by show wm.heap.size ≠ w.heap.size + 1; omega)⟩)
          (first
            | (go_at_call 43
               refine (HSet.out _).mono ?_
               rintro e wS ⟨rfl, hkS⟩
               have HKs : Hid (Kept wr wS) := ((Kept.drewn _).newBlock _).then hkS
               obtain ⟨r0, r1, q0, q1⟩ := hfacts.out _ HKs.out)
            | (refine step_append_zero (by rfl) _ _ (by rfl) _ _ _ _ Hk0.out (by rfl) (by rfl) ?_))
        have HKS := Lib.hid (HKr.out.then HKs.out)
        go_wp2_with fail
        refine bodyPost_ret (v := .agg #[.slice (some ⟨wr.heap.size, 0, Option.none⟩) 0 0, .int .u64 (mkSet f 64 : Nat)]) (by simp [results, Tryd.results84, go_sem, r0, r1]) rfl ?_
        refine ⟨some ⟨wr.heap.size, 0, Option.none⟩, 0, ?_, ?_, ((KeptBut.of HKS.out _).then (two_but _ _ _ _)).kept (by omega), fun a ha => by cases ha; show w.heap.size ≤ wr.heap.size; omega⟩
        · rw [← Hset.out]
          show _ = Ending.returned (.agg #[.slice (some ⟨wr.heap.size, 0, Option.none⟩) xs.length 0, _])
          rw [Hlen.out, Hk0.out]
        · show Ints _ _ xs.length xs
          exact ⟨rfl, by rw [Hlen.out]; omega, HS.out.rng, fun h => by rw [Hlen.out, Hk0.out] at h; omega⟩

theorem rkeep_any (A B : Option Addr) (n c m d L : Nat) (xs l : List Int) (w : World) (hS : Ints w A n xs) (hl : Ints w B m l) (hL : L < 2 ^ 64) (hm : mayB xs L = true) :
    Calls Tryd.prog 84 #[.agg #[.slice A n c, .int .u64 L], .slice B m d] w (DomPost (keepD (fun x => l.contains x) (xs, L)) w) := rkeep_p _ A B n c m d L xs l w (fun _ => rfl) hS hl hL hm
end Go.Proofs.YthddanjmnifloaaDoor

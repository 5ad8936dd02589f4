/-
  Contracts of the document's answer for the bits: sets by arrays.
-/
import Derived.Test.YthddanjmnifloaaDoorRef02
import Derived.Great.Walk
import Derived.Deep.WholeRow
import Derived.Laws.NewBlocks
set_option maxHeartbeats 1000000
set_option maxRecDepth 10000
namespace Go.Proofs.YthddanjmnifloaaDoor
open Go Go.RowKit Pl

/-- An array of 64 bools. -/
def rowB (f : Nat → Bool) : Array Value := (((List.range 64).map f).map Value.bool).toArray
theorem rowB_size (f : Nat → Bool) : (rowB f).size = 64 := by simp [rowB]
theorem rowB_get (f : Nat → Bool) {k : Nat} (hk : k < 64) : (rowB f)[k]? = some (.bool (f k)) := by
  unfold rowB
  rw [List.getElem?_toArray, List.getElem?_map, List.getElem?_map, List.getElem?_range hk]
  rfl
theorem rowB_set (f : Nat → Bool) (k : Nat) (b : Bool) : (rowB f).setIfInBounds k (.bool b) = rowB (fun j => if j = k then b else f j) := by
  unfold rowB
  rw [List.setIfInBounds_toArray]
  congr 1
  apply List.ext_getElem?
  intro i
  rw [List.getElem?_set]
  simp only [List.getElem?_map]
  by_cases hi : i < 64
  · rw [List.getElem?_range hi]
    by_cases h : k = i
    · subst h; simp [hi]
    · have h' : ¬ i = k := fun e => h e.symm
      simp [h, h']
  · rw [List.getElem?_eq_none (by simp; omega)]
    by_cases h : k = i
    · subst h; simp [hi]
    · simp [h]
theorem rowB_congr {f g : Nat → Bool} (h : ∀ j, j < 64 → f j = g j) : rowB f = rowB g := by
  unfold rowB
  have e : (List.range 64).map f = (List.range 64).map g := List.map_congr_left fun j hj => h j (List.mem_range.1 hj)
  rw [e]
theorem rowB_one (f : Nat → Bool) : (rowB f).all (·.oneCell') = true := by
  rw [Array.all_eq_true_iff_forall_mem]
  intro v hv
  simp [rowB] at hv
  obtain ⟨a, _, rfl⟩ := hv
  rfl
theorem rowB_cell (f : Nat → Bool) (w : World) {k : Nat} (hk : k < 64) : (w.alloc (.cells (rowB f) 60)).cell? ⟨w.heap.size, k, none⟩ = some (.bool (f k)) := by
  unfold World.cell?
  simp only [heap_new]
  exact rowB_get f hk
theorem rowB_info (f : Nat → Bool) : (Tryd.prog.info? 60).map (·.size) = some (rowB f).size := by
  rw [rowB_size]; kernel_rfl

/-- The number that the loop of Set has behind the k-th round: the bits from k on. -/
def high (f : Nat → Bool) (k : Nat) : Nat := mkSet (fun j => f (k + j)) (64 - k)
theorem mkSet_low (f : Nat → Bool) : ∀ n, mkSet f (n + 1) = (if f 0 then 1 else 0) + 2 * mkSet (fun j => f (j + 1)) n
  | 0 => by simp [mkSet]
  | n + 1 => by
    have ih := mkSet_low f n
    rw [mkSet, ih]
    rw [mkSet]
    have e : 2 ^ (n + 1) = 2 * 2 ^ n := by rw [Nat.pow_succ]; omega
    rw [e]
    split <;> omega
theorem high_step (f : Nat → Bool) {k : Nat} (hk : k < 64) : high f k = (if f k then 1 else 0) + 2 * high f (k + 1) := by
  unfold high
  obtain ⟨n, hn⟩ : ∃ n, 64 - k = n + 1 := ⟨64 - k - 1, by omega⟩
  have e : 64 - (k + 1) = n := by omega
  rw [hn, mkSet_low, e]
  have e2 : (fun j => f (k + (j + 1))) = fun j => f (k + 1 + j) := by funext j; congr 1; omega
  rw [e2]
  rfl
theorem high_end (f : Nat → Bool) : high f 64 = 0 := by simp [high, mkSet]
theorem high_all (f : Nat → Bool) : high f 0 = mkSet f 64 := by simp [high]
theorem high_lt (f : Nat → Bool) {k : Nat} (hk : k < 64) : 2 * high f (k + 1) + 1 < 2 ^ 64 := by
  have h := mkSet_lt (fun j => f (k + 1 + j)) (64 - (k + 1))
  have h2 : (2 : Nat) ^ (64 - (k + 1)) ≤ 2 ^ 63 := Nat.pow_le_pow_right (by decide) (by omega)
  unfold high
  omega

theorem rset_any (f : Nat → Bool) (w : World) :
    Calls Tryd.prog 43 #[.agg (rowB f)] w fun e w' => e = .returned (.int .u64 (mkSet f 64 : Nat)) ∧ Kept w w' := by
  have hcell : Hid (∀ k, k < 64 → (w.alloc (.cells (rowB f) 60)).cell? ⟨w.heap.size, k, none⟩ = some (.bool (f k))) := fun k hk => rowB_cell f w hk
  have Hall := Lib.hid (high_all f)
  have hk0 : Hid (Kept w (w.alloc (.cells (rowB f) 60))) := Kept.box _ _
  generalize rowB f = vs at *
  go_enter Tryd.func43, Tryd.ntmps43
  go_wp2
  go_loop [3, 4] (fun u v => ∃ k : Nat, k ≤ 64 ∧ v = .int .i64 ((k : Int) - 1) ∧ ∃ h : Nat, u = .int .u64 h ∧ Hid (h = high f k)) (fun _ v => (intOf v + 1).toNat)
  case atStart => exact ⟨64, Nat.le_refl _, rfl, 0, rfl, by show 0 = high f 64; rw [high_end]⟩
  case round =>
    obtain ⟨k, hk, rfl, h, rfl, Hh⟩ := hrel
    by_cases hlt : 0 < k
    · obtain ⟨m, rfl⟩ : ∃ m, k = m + 1 := ⟨k - 1, by omega⟩
      have hm : m < 64 := by omega
      have e1 : ((m + 1 : Nat) : Int) - 1 = m := by omega
      have hc := hcell.out m hm
      have hb : 2 * h + 1 < 2 ^ 64 := by rw [Hh.out]; exact high_lt f hm
      have Hs := Lib.hid (high_step f hm)
      have Hb := Lib.hid hb
      have hw1 : IntKind.u64.wrap (2 * (h : Int)) = ((2 * h : Nat) : Int) := by rw [IntKind.wrap_u64]; omega
      have hw2 : IntKind.u64.wrap (((2 * h : Nat) : Int) + 1) = ((2 * h + 1 : Nat) : Int) := by rw [IntKind.wrap_u64]; omega
      clear hb
      rw [e1]
      cases hf : f m with
      | true =>
        rw [hf] at hc
        have Hn : Hid (2 * h + 1 = high f m) := by
          show _ = _
          rw [Hs.out, hf, ← Hh.out, if_pos rfl, Nat.add_comm]
        clear hf
        generalize 2 * h + 1 = h2 at *
        generalize 2 * h = h1 at *
        go_wp2
        go_round
        case rel => exact ⟨m, by omega, rfl, h2, rfl, Hn⟩
        case measure => simp [intOf] <;> omega
      | false =>
        rw [hf] at hc
        have Hn : Hid (2 * h = high f m) := by
          show _ = _
          rw [Hs.out, hf, ← Hh.out, if_neg (by decide), Nat.zero_add]
        clear hf hw2
        generalize 2 * h = h1 at *
        go_wp2
        go_round
        case rel => exact ⟨m, by omega, rfl, h1, rfl, Hn⟩
        case measure => simp [intOf] <;> omega
    · have e : k = 0 := by omega
      subst e
      go_wp2
      go_ret
      exact ⟨ret_u64 (by rw [Hh.out, Hall.out]), hk0.out⟩

theorem rbetween_any (low high : Int) (w : World) :
    Calls Tryd.prog 16 #[.int .i64 low, .int .i64 high] w fun e w' => e = .returned (.int .u64 (btw low high : Nat)) ∧ Kept w w' := by
  go_enter Tryd.func16, Tryd.ntmps16
  refine wp_seq_k fun K h => ?_
  have H := Lib.hid h
  clear h
  go_wp2
  refine H.out _ _ ?_
  clear H K
  refine wp_seq_k fun K h => wp_region_list ?_
  have H := Lib.hid h
  clear h
  refine Great.wpList_runTo rfl (some 7) rfl (.agg (rowB fun _ => false)) w (by kernel_rfl) ?_
  refine Great.wpList_runTo rfl (some 5) rfl (.pointer (some ⟨w.heap.size, 0, none⟩)) (w.alloc (.cells (rowB fun _ => false) 60)) (by kernel_rfl) ?_
  refine wpList_store_row rfl 60 (.tmp 5) (.tmp 7) rfl w.heap.size (rowB fun _ => false) rfl rfl 60 (rowB fun _ => false) (heap_new _ _) (rowB_info _) rfl (rowB_one _) ?_
  rw [World.setRow_alloc_new]
  refine wpList_nil (H.out _ _ ?_)
  clear H K
  have hk0 : Kept w (w.alloc (.cells (rowB fun _ => false) 60)) := Kept.box _ _
  go_wp2
  rename_i K h
  have H := Lib.hid h
  clear h hk0
  go_loopw [6] (fun v wr => ∃ k : Nat, k ≤ 64 ∧ v = .int .i64 k ∧ wr = w.alloc (.cells (rowB fun j => decide (j < k) && (decide (low ≤ (j : Int)) && decide ((j : Int) ≤ high))) 60)) (fun v _ => 64 - (intOf v).toNat)
  case atStart => exact ⟨0, Nat.zero_le _, rfl, by simp⟩
  case round =>
    obtain ⟨k, hk, rfl, rfl⟩ := hrel
    by_cases hlt : k < 64
    · have hc := Lib.hid (rowB_cell (fun j => decide (j < k) && (decide (low ≤ (j : Int)) && decide ((j : Int) ≤ high))) w hlt)
      have hc' := hc.out
      have hset := rowB_set (fun j => decide (j < k) && (decide (low ≤ (j : Int)) && decide ((j : Int) ≤ high))) k (decide (low ≤ (k : Int)) && decide ((k : Int) ≤ high))
      have e : (fun j => if j = k then (decide (low ≤ (k : Int)) && decide ((k : Int) ≤ high)) else (decide (j < k) && (decide (low ≤ (j : Int)) && decide ((j : Int) ≤ high)))) = fun j : Nat => decide (j < k + 1) && (decide (low ≤ (j : Int)) && decide ((j : Int) ≤ high)) := by
        funext j
        by_cases h : j = k
        · subst h; simp
        · have : (j < k + 1) = (j < k) := by apply propext; omega
          simp [h, this]
      rw [e] at hset
      have Hset := Lib.hid hset
      clear e hset hc
      generalize (rowB fun j => decide (j < k) && (decide (low ≤ (j : Int)) && decide ((j : Int) ≤ high))) = C at *
      generalize hC2 : (rowB fun j => decide (j < k + 1) && (decide (low ≤ (j : Int)) && decide ((j : Int) ≤ high))) = C2 at *
      have HC2 := Lib.hid hC2
      clear hC2
      go_wp2
      all_goals
        refine ⟨⟨k + 1, by omega, by go_num, ?_⟩, by simp [intOf] <;> omega⟩
        rw [HC2.out, ← Hset.out]
        try simp [*]
    · have e : k = 64 := by omega
      subst e
      have eC : (rowB fun j => decide (j < 64) && (decide (low ≤ (j : Int)) && decide ((j : Int) ≤ high))) = rowB fun j => decide (low ≤ (j : Int)) && decide ((j : Int) ≤ high) := by
        exact rowB_congr fun j hj => by simp [hj]
      rw [eC]
      clear eC
      go_wp2
      refine H.out _ _ ?_
      clear H
      refine wp_seq_k fun K h => wp_region_list ?_
      refine wpList_load_row rfl 60 (.tmp 5) rfl w.heap.size rfl 60 _ (0, 0) _ (heap_new _ _) Tryd.underlying60 rfl (rowB_info _) ?_
      go_wp2_with (go_at_call 43; refine (rset_any (fun j => decide (low ≤ (j : Int)) && decide ((j : Int) ≤ high)) _).mono ?_; rintro e w' ⟨rfl, hk'⟩; have Hk := Lib.hid ((Kept.box _ _).then hk'); clear hk')
      go_ret
      exact ⟨rfl, Hk.out⟩

theorem rof_any (A : Option Addr) (n c : Nat) (l : List Int) (w : World) (hl : Ints w A n l) :
    Calls Tryd.prog 27 #[.slice A n c] w fun e w' => e = .returned (.int .u64 (ofL l : Nat)) ∧ Kept w w' := by
  have Hl := Lib.hid hl
  have hs1 := hl.small
  have Hlen := Lib.hid hl.len
  clear hl
  go_enter Tryd.func27, Tryd.ntmps27
  refine wp_seq_k fun K h => ?_
  have H := Lib.hid h
  clear h
  go_wp2
  refine H.out _ _ ?_
  clear H K
  refine wp_seq_k fun K h => wp_region_list ?_
  have H := Lib.hid h
  clear h
  refine Great.wpList_runTo rfl (some 5) rfl (.agg (rowB fun _ => false)) w (by kernel_rfl) ?_
  refine Great.wpList_runTo rfl (some 3) rfl (.pointer (some ⟨w.heap.size, 0, none⟩)) (w.alloc (.cells (rowB fun _ => false) 60)) (by kernel_rfl) ?_
  refine wpList_store_row rfl 60 (.tmp 3) (.tmp 5) rfl w.heap.size (rowB fun _ => false) rfl rfl 60 (rowB fun _ => false) (heap_new _ _) (rowB_info _) rfl (rowB_one _) ?_
  rw [World.setRow_alloc_new]
  refine wpList_nil (H.out _ _ ?_)
  clear H K
  go_wp2
  rename_i K h
  have H := Lib.hid h
  clear h
  go_loopw [4] (fun v wr => ∃ k : Nat, k ≤ n ∧ v = .int .i64 k ∧ wr = w.alloc (.cells (rowB fun j => (l.take k).contains (j : Int)) 60)) (fun v _ => n - (intOf v).toNat)
  case atStart => exact ⟨0, Nat.zero_le _, rfl, by simp⟩
  case round =>
    obtain ⟨k, hk, rfl, rfl⟩ := hrel
    by_cases hlt : k < n
    · have hlr := Hl.out.kept (Kept.box w (.cells (rowB fun j => (l.take k).contains (j : Int)) 60))
      obtain ⟨a, rfl, hba⟩ := hlr.addr (by omega)
      obtain ⟨x, Hx, hcx, hx1, hx2⟩ := hlr.named k hlt
      have ht := take_succ_getD (by have := Hlen.out; omega) Hx.out
      by_cases hin : 0 ≤ x ∧ x ≤ 63
      · obtain ⟨y, rfl⟩ := Int.eq_ofNat_of_zero_le hin.1
        have hy : y < 64 := by omega
        have hc' := rowB_cell (fun j => (l.take k).contains (j : Int)) w hy
        have hset := rowB_set (fun j => (l.take k).contains (j : Int)) y true
        have e : (fun j => if j = y then true else (l.take k).contains (j : Int)) = fun j : Nat => (l.take (k + 1)).contains (j : Int) := by
          funext j
          rw [ht]
          by_cases h : j = y
          · subst h; simp
          · have : ¬ (j : Int) = (y : Int) := by omega
            simp [h, this]
        rw [e] at hset
        have Hset := Lib.hid hset
        clear e hset ht hin hlr
        generalize (rowB fun j => (l.take k).contains (j : Int)) = C at *
        generalize hC2 : (rowB fun j => (l.take (k + 1)).contains (j : Int)) = C2 at *
        have HC2 := Lib.hid hC2
        clear hC2
        go_wp2
        all_goals
          refine ⟨⟨k + 1, by omega, by go_num, ?_⟩, by simp [intOf] <;> omega⟩
          rw [HC2.out, ← Hset.out]
      · have e : (rowB fun j => (l.take (k + 1)).contains (j : Int)) = rowB fun j => (l.take k).contains (j : Int) := by
          refine rowB_congr fun j hj => ?_
          rw [ht, Bool.eq_iff_iff]
          simp
          omega
        generalize hC2 : (rowB fun j => (l.take k).contains (j : Int)) = C at *
        have He := Lib.hid e
        clear e ht hlr hC2
        by_cases h0 : 0 ≤ x
        · have h1 : ¬ x ≤ 63 := fun h => hin ⟨h0, h⟩
          clear hin
          go_wp2
          all_goals
            refine ⟨⟨k + 1, by omega, by go_num, ?_⟩, by simp [intOf] <;> omega⟩
            rw [He.out]
        · clear hin
          go_wp2
          all_goals
            refine ⟨⟨k + 1, by omega, by go_num, ?_⟩, by simp [intOf] <;> omega⟩
            rw [He.out]
    · have e : k = n := by omega
      subst e
      have el : l.take k = l := by rw [← Hlen.out, List.take_length]
      rw [el]
      clear el
      generalize hf : (fun j : Nat => l.contains (j : Int)) = f
      have Hf : Hid (mkSet f 64 = ofL l) := by show _ = _; rw [← hf]; rfl
      clear hf
      go_wp2
      refine H.out _ _ ?_
      clear H
      refine wp_seq_k fun K h => wp_region_list ?_
      refine wpList_load_row rfl 60 (.tmp 3) rfl w.heap.size rfl 60 _ (0, 0) _ (heap_new _ _) Tryd.underlying60 rfl (rowB_info _) ?_
      go_wp2_with (go_at_call 43; refine (rset_any f _).mono ?_; rintro e w' ⟨rfl, hk'⟩; have Hk := Lib.hid ((Kept.box _ _).then hk'); clear hk')
      go_ret
      exact ⟨ret_u64 (by rw [Hf.out]), Hk.out⟩
end Go.Proofs.YthddanjmnifloaaDoor

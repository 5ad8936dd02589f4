/-
  Contracts and plain laws that the card rests on, part 14.
-/
import Derived.Test.YtjmegicopdbkdaaDoorL12
import Derived.Test.YtjmegicopdbkdaaDoorL11
import Derived.Test.YtjmegicopdbkdaaDoorL13
set_option maxHeartbeats 1000000
set_option maxRecDepth 10000
namespace Go.Proofs.YtjmegicopdbkdaaDoor
open Go Go.RowKit Pl

def C15 : ConB := ⟨5, [0, 1, 2], [], 0, 0, []⟩
def D15_0 : List DomB := [([1, 2, 3], 7), ([2], 1), ([2, 3], 3)]
def E15_0 : List DomB := [([1, 2, 3], 5), ([2], 1), ([2, 3], 2)]
theorem go15_0 : goK 5 C15 D15_0 = true := by decide +kernel
theorem res15_0 : stepB (varsKp (C15).vars (diffG C15 D15_0) (C15).vars.length) D15_0 = E15_0 := by decide +kernel
def D15_1 : List DomB := [([2, 3], 3), ([2, 3], 3), ([2, 3], 3)]
def E15_1 : List DomB := [([2, 3], 0), ([2, 3], 0), ([2, 3], 0)]
theorem go15_1 : goK 5 C15 D15_1 = true := by decide +kernel
theorem res15_1 : stepB (varsKp (C15).vars (diffG C15 D15_1) (C15).vars.length) D15_1 = E15_1 := by decide +kernel
def D15_2 : List DomB := [([1, 2, 3], 7), ([2], 1)]
theorem go15_2 : goK 5 C15 D15_2 = false := by decide +kernel
theorem step15_0 (A1 A : Option Addr) (c1 c : Nat) (w : World) (hC : ConIn w 5 0 0 A1 Option.none Option.none 3 c1 0 0 0 0 C15) (hS : Doms w A 3 D15_0) (hT : Tab w) :
    Calls Tryd.prog 23 #[.agg #[.int .i64 5, .slice A1 3 c1, .slice Option.none 0 0, .int .i64 0, .int .i64 0, .slice Option.none 0 0], .slice A 3 c] w (StepPost (some E15_0) w) := by
  have := diffstep_any 5 0 0 A1 Option.none Option.none 3 c1 0 0 0 0 C15 A 3 c D15_0 w hC hS hT (by decide)
  rwa [if_pos go15_0, res15_0] at this
theorem step15_1 (A1 A : Option Addr) (c1 c : Nat) (w : World) (hC : ConIn w 5 0 0 A1 Option.none Option.none 3 c1 0 0 0 0 C15) (hS : Doms w A 3 D15_1) (hT : Tab w) :
    Calls Tryd.prog 23 #[.agg #[.int .i64 5, .slice A1 3 c1, .slice Option.none 0 0, .int .i64 0, .int .i64 0, .slice Option.none 0 0], .slice A 3 c] w (StepPost (some E15_1) w) := by
  have := diffstep_any 5 0 0 A1 Option.none Option.none 3 c1 0 0 0 0 C15 A 3 c D15_1 w hC hS hT (by decide)
  rwa [if_pos go15_1, res15_1] at this
theorem step15_2 (A1 A : Option Addr) (c1 c : Nat) (w : World) (hC : ConIn w 5 0 0 A1 Option.none Option.none 3 c1 0 0 0 0 C15) (hS : Doms w A 2 D15_2) (hT : Tab w) :
    Calls Tryd.prog 23 #[.agg #[.int .i64 5, .slice A1 3 c1, .slice Option.none 0 0, .int .i64 0, .int .i64 0, .slice Option.none 0 0], .slice A 2 c] w (StepPost (Option.none) w) := by
  have := diffstep_any 5 0 0 A1 Option.none Option.none 3 c1 0 0 0 0 C15 A 2 c D15_2 w hC hS hT (by decide)
  rwa [if_neg (by rw [go15_2]; decide)] at this

theorem awake15 (w : World) (hT : Tab w) : Calls Tryd.prog 22 #[] w fun e w' => e = .returned (.bool true) ∧ Kept w w' := by
  have HT := Lib.hid hT
  clear hT
  go_enter Tryd.func22, Tryd.ntmps22
  go_wp2_with fail
  have HF := fun k o h => (heap_allocs [.cells #[.int .i64 1, .int .i64 2, .int .i64 3] 3,
    .cells #[.int .i64 2] 3,
    .cells #[.int .i64 2, .int .i64 3] 3,
    .cells #[.slice (some ⟨w.heap.size, 0, Option.none⟩) 3 3, .int .u64 7] 47,
    .cells #[.slice (some ⟨w.heap.size + 1, 0, Option.none⟩) 1 1, .int .u64 1] 47,
    .cells #[.slice (some ⟨w.heap.size + 1 + 1, 0, Option.none⟩) 2 2, .int .u64 3] 47,
    .cells #[.int .i64 0, .int .i64 1, .int .i64 2] 3,
    .cells #[.int .i64 5, .slice (some ⟨w.heap.size + 1 + 1 + 1 + 1 + 1 + 1, 0, Option.none⟩) 3 3, .slice Option.none 0 0, .int .i64 0, .int .i64 0, .slice Option.none 0 0] 24,
    .cells #[.slice (some ⟨w.heap.size, 0, Option.none⟩) 3 3, .int .u64 7, .slice (some ⟨w.heap.size + 1, 0, Option.none⟩) 1 1, .int .u64 1, .slice (some ⟨w.heap.size + 1 + 1, 0, Option.none⟩) 2 2, .int .u64 3] 47] w k o h).1
  have F0 := HF 0 _ rfl
  have F1 := HF 1 _ rfl
  have F2 := HF 2 _ rfl
  have F3 := HF 3 _ rfl
  have F4 := HF 4 _ rfl
  have F5 := HF 5 _ rfl
  have F6 := HF 6 _ rfl
  have F7 := HF 7 _ rfl
  have F8 := HF 8 _ rfl
  have HKw := Lib.hid (heap_allocs.kept_allocs [.cells #[.int .i64 1, .int .i64 2, .int .i64 3] 3,
    .cells #[.int .i64 2] 3,
    .cells #[.int .i64 2, .int .i64 3] 3,
    .cells #[.slice (some ⟨w.heap.size, 0, Option.none⟩) 3 3, .int .u64 7] 47,
    .cells #[.slice (some ⟨w.heap.size + 1, 0, Option.none⟩) 1 1, .int .u64 1] 47,
    .cells #[.slice (some ⟨w.heap.size + 1 + 1, 0, Option.none⟩) 2 2, .int .u64 3] 47,
    .cells #[.int .i64 0, .int .i64 1, .int .i64 2] 3,
    .cells #[.int .i64 5, .slice (some ⟨w.heap.size + 1 + 1 + 1 + 1 + 1 + 1, 0, Option.none⟩) 3 3, .slice Option.none 0 0, .int .i64 0, .int .i64 0, .slice Option.none 0 0] 24,
    .cells #[.slice (some ⟨w.heap.size, 0, Option.none⟩) 3 3, .int .u64 7, .slice (some ⟨w.heap.size + 1, 0, Option.none⟩) 1 1, .int .u64 1, .slice (some ⟨w.heap.size + 1 + 1, 0, Option.none⟩) 2 2, .int .u64 3] 47] w)
  show Calls Tryd.prog 23 _ (allocs w [.cells #[.int .i64 1, .int .i64 2, .int .i64 3] 3,
    .cells #[.int .i64 2] 3,
    .cells #[.int .i64 2, .int .i64 3] 3,
    .cells #[.slice (some ⟨w.heap.size, 0, Option.none⟩) 3 3, .int .u64 7] 47,
    .cells #[.slice (some ⟨w.heap.size + 1, 0, Option.none⟩) 1 1, .int .u64 1] 47,
    .cells #[.slice (some ⟨w.heap.size + 1 + 1, 0, Option.none⟩) 2 2, .int .u64 3] 47,
    .cells #[.int .i64 0, .int .i64 1, .int .i64 2] 3,
    .cells #[.int .i64 5, .slice (some ⟨w.heap.size + 1 + 1 + 1 + 1 + 1 + 1, 0, Option.none⟩) 3 3, .slice Option.none 0 0, .int .i64 0, .int .i64 0, .slice Option.none 0 0] 24,
    .cells #[.slice (some ⟨w.heap.size, 0, Option.none⟩) 3 3, .int .u64 7, .slice (some ⟨w.heap.size + 1, 0, Option.none⟩) 1 1, .int .u64 1, .slice (some ⟨w.heap.size + 1 + 1, 0, Option.none⟩) 2 2, .int .u64 3] 47]) _
  generalize allocs w [.cells #[.int .i64 1, .int .i64 2, .int .i64 3] 3,
    .cells #[.int .i64 2] 3,
    .cells #[.int .i64 2, .int .i64 3] 3,
    .cells #[.slice (some ⟨w.heap.size, 0, Option.none⟩) 3 3, .int .u64 7] 47,
    .cells #[.slice (some ⟨w.heap.size + 1, 0, Option.none⟩) 1 1, .int .u64 1] 47,
    .cells #[.slice (some ⟨w.heap.size + 1 + 1, 0, Option.none⟩) 2 2, .int .u64 3] 47,
    .cells #[.int .i64 0, .int .i64 1, .int .i64 2] 3,
    .cells #[.int .i64 5, .slice (some ⟨w.heap.size + 1 + 1 + 1 + 1 + 1 + 1, 0, Option.none⟩) 3 3, .slice Option.none 0 0, .int .i64 0, .int .i64 0, .slice Option.none 0 0] 24,
    .cells #[.slice (some ⟨w.heap.size, 0, Option.none⟩) 3 3, .int .u64 7, .slice (some ⟨w.heap.size + 1, 0, Option.none⟩) 1 1, .int .u64 1, .slice (some ⟨w.heap.size + 1 + 1, 0, Option.none⟩) 2 2, .int .u64 3] 47] = W0 at *
  have I0 : Hid (Ints W0 (some ⟨w.heap.size, 0, Option.none⟩) 3 [1, 2, 3]) := Ints.of_cells (xs := [1, 2, 3]) F0 (by decide) (by decide) rfl
  have I1 : Hid (Ints W0 (some ⟨w.heap.size + 1, 0, Option.none⟩) 1 [2]) := Ints.of_cells (xs := [2]) F1 (by decide) (by decide) rfl
  have I2 : Hid (Ints W0 (some ⟨w.heap.size + 1 + 1, 0, Option.none⟩) 2 [2, 3]) := Ints.of_cells (xs := [2, 3]) F2 (by decide) (by decide) rfl
  have HC : Hid (ConIn W0 5 0 0 (some ⟨w.heap.size + 1 + 1 + 1 + 1 + 1 + 1, 0, Option.none⟩) Option.none Option.none 3 3 0 0 0 0 C15) :=
    ⟨rfl, rfl, rfl, Ints.of_cells (xs := [0, 1, 2]) F6 (by decide) (by decide) rfl, Ints.none _, Ints.none _, by decide, by decide, by decide, by decide, by decide⟩
  have HD0 : Hid (Doms W0 (some ⟨w.heap.size + 1 + 1 + 1 + 1 + 1 + 1 + 1 + 1, 0, Option.none⟩) 3 D15_0) := Doms.of_heap F8 rfl (by decide) (by decide) (fun j hj => by
    match j, hj with
    | 0, _ => exact ⟨_, _, _, rfl, rfl, I0.out⟩
    | 1, _ => exact ⟨_, _, _, rfl, rfl, I1.out⟩
    | 2, _ => exact ⟨_, _, _, rfl, rfl, I2.out⟩)
  have HB0 := Lib.hid F3
  have HB1 := Lib.hid F4
  have HB2 := Lib.hid F5
  have HBc := Lib.hid F7
  clear HF F0 F1 F2 F3 F4 F5 F6 F7 F8
  refine (step15_0 _ _ _ _ _ HC.out HD0.out (HT.out.kept HKw.out)).mono ?_
  rintro e W1 ⟨A0', c0', rfl, hD0, hk⟩
  have HW0 := Lib.hid hk
  have HR0 := Lib.hid hD0
  have h2 := HW0.out.heapAt HB2.out
  have a2_0 := cell_at h2 0
  have a2_1 := cell_at h2 1
  have hc := HW0.out.heapAt HBc.out
  have ac_0 := cell_at hc 0
  have ac_1 := cell_at hc 1
  have ac_2 := cell_at hc 2
  have ac_3 := cell_at hc 3
  have ac_4 := cell_at hc 4
  have ac_5 := cell_at hc 5
  simp only [List.getElem?_toArray, List.getElem?_cons_zero, List.getElem?_cons_succ] at a2_0 a2_1 ac_0 ac_1 ac_2 ac_3 ac_4 ac_5
  clear h2 hc hk hD0
  have el0 : E15_0.length = 3 := rfl
  simp only [el0]
  go_wp2_with fail
  clear a2_0 a2_1 ac_0 ac_1 ac_2 ac_3 ac_4 ac_5
  refine (step15_1 _ _ _ _ _ (HC.out.kept (HW0.out.then (Kept.box _ _))) (Doms.of_heap (ds := D15_1) (heap_new _ _) rfl (by decide) (by decide) (fun j hj => by
    match j, hj with
    | 0, _ => exact ⟨_, _, _, rfl, rfl, I2.out.kept (HW0.out.then (Kept.box _ _))⟩
    | 1, _ => exact ⟨_, _, _, rfl, rfl, I2.out.kept (HW0.out.then (Kept.box _ _))⟩
    | 2, _ => exact ⟨_, _, _, rfl, rfl, I2.out.kept (HW0.out.then (Kept.box _ _))⟩)) (HT.out.kept (HKw.out.then (HW0.out.then (Kept.box _ _))))).mono ?_
  rintro e W2 ⟨A1', c1', rfl, hD1, hk⟩
  have HW1 := Lib.hid (HW0.out.then ((Kept.box _ _).then hk))
  have HR0 := Lib.hid (HR0.out.kept ((Kept.box _ _).then hk))
  have HR1 := Lib.hid hD1
  have h0 := HW1.out.heapAt HB0.out
  have a0_0 := cell_at h0 0
  have a0_1 := cell_at h0 1
  have h1 := HW1.out.heapAt HB1.out
  have a1_0 := cell_at h1 0
  have a1_1 := cell_at h1 1
  have hc := HW1.out.heapAt HBc.out
  have ac_0 := cell_at hc 0
  have ac_1 := cell_at hc 1
  have ac_2 := cell_at hc 2
  have ac_3 := cell_at hc 3
  have ac_4 := cell_at hc 4
  have ac_5 := cell_at hc 5
  simp only [List.getElem?_toArray, List.getElem?_cons_zero, List.getElem?_cons_succ] at a0_0 a0_1 a1_0 a1_1 ac_0 ac_1 ac_2 ac_3 ac_4 ac_5
  clear h0 h1 hc hk hD1
  have el1 : E15_1.length = 3 := rfl
  simp only [el1]
  go_wp2_with fail
  clear a0_0 a0_1 a1_0 a1_1 ac_0 ac_1 ac_2 ac_3 ac_4 ac_5
  refine (step15_2 _ _ _ _ _ (HC.out.kept (HW1.out.then (Kept.box _ _))) (Doms.of_heap (ds := D15_2) (heap_new _ _) rfl (by decide) (by decide) (fun j hj => by
    match j, hj with
    | 0, _ => exact ⟨_, _, _, rfl, rfl, I0.out.kept (HW1.out.then (Kept.box _ _))⟩
    | 1, _ => exact ⟨_, _, _, rfl, rfl, I1.out.kept (HW1.out.then (Kept.box _ _))⟩)) (HT.out.kept (HKw.out.then (HW1.out.then (Kept.box _ _))))).mono ?_
  rintro e W3 ⟨rfl, hk⟩
  have HW2 := Lib.hid (HW1.out.then ((Kept.box _ _).then hk))
  have HR0 := Lib.hid (HR0.out.kept ((Kept.box _ _).then hk))
  have HR1 := Lib.hid (HR1.out.kept ((Kept.box _ _).then hk))
  obtain ⟨b0, off0, hb0, hcc0⟩ := HR0.out.plain (by decide)
  subst hb0
  have q0_0 := hcc0 0 (by decide)
  have e0_0 : ((E15_0.getD 0 nilD).2 : Nat) = 5 := by decide
  rw [e0_0] at q0_0
  clear e0_0
  have q0_1 := hcc0 1 (by decide)
  have e0_1 : ((E15_0.getD 1 nilD).2 : Nat) = 1 := by decide
  rw [e0_1] at q0_1
  clear e0_1
  have q0_2 := hcc0 2 (by decide)
  have e0_2 : ((E15_0.getD 2 nilD).2 : Nat) = 2 := by decide
  rw [e0_2] at q0_2
  clear e0_2
  clear hcc0
  obtain ⟨b1, off1, hb1, hcc1⟩ := HR1.out.plain (by decide)
  subst hb1
  have q1_0 := hcc1 0 (by decide)
  have e1_0 : ((E15_1.getD 0 nilD).2 : Nat) = 0 := by decide
  rw [e1_0] at q1_0
  clear e1_0
  clear hcc1
  have HKe := Lib.hid (HKw.out.then HW2.out)
  clear hk
  go_wp2_with fail
  go_ret
  exact ⟨rfl, HKe.out⟩
end Go.Proofs.YtjmegicopdbkdaaDoor

set_option maxHeartbeats 1000000
set_option maxRecDepth 10000
namespace Go.Proofs.YtjmegicopdbkdaaDoor
open Go Go.RowKit Pl

theorem falls15_any (K R Ct : Int) (A1 A2 A3 : Option Addr) (n1 c1 n2 c2 n3 c3 : Nat) (C : ConB) (A B : Option Addr) (n c m d : Nat) (ds : List DomB) (ms : List Nat) (w : World) (hC : ConIn w K R Ct A1 A2 A3 n1 c1 n2 c2 n3 c3 C) (hS : Doms w A n ds) (hM : Words w B m ms) (hT : Tab w) :
    Calls Tryd.prog 9 #[.agg #[.int .i64 K, .slice A1 n1 c1, .slice A2 n2 c2, .int .i64 R, .int .i64 Ct, .slice A3 n3 c3], .slice A n c, .slice B m d] w fun e w' => e = .returned (.bool true) ∧ Kept w w' := by
  have HC := Lib.hid hC
  have HS := Lib.hid hS
  have HM := Lib.hid hM
  have HT := Lib.hid hT
  have Hlen := Lib.hid hS.len
  clear hC hS hM hT
  have hhB : ∀ W, Kept (w.alloc (.cells #[.int .i64 K, .slice A1 n1 c1, .slice A2 n2 c2, .int .i64 R, .int .i64 Ct, .slice A3 n3 c3] 24)) W → W.heap[w.heap.size]? = some (.cells #[.int .i64 K, .slice A1 n1 c1, .slice A2 n2 c2, .int .i64 R, .int .i64 Ct, .slice A3 n3 c3] 24) := fun W h => h.heapAt (heap_new _ _)
  have HB := Lib.hid hhB
  clear hhB
  go_enter Tryd.func9, Tryd.ntmps9
  go_wp2_with fail
  refine (awake15 _ (HT.out.kept (Kept.box _ _))).mono ?_
  rintro e W1 ⟨rfl, hk1⟩
  have hb := HB.out W1 hk1
  have b0 := cell_at hb 0
  have b1 := cell_at hb 1
  have b2 := cell_at hb 2
  have b3 := cell_at hb 3
  have b4 := cell_at hb 4
  have b5 := cell_at hb 5
  simp only [List.getElem?_toArray, List.getElem?_cons_zero, List.getElem?_cons_succ] at b0 b1 b2 b3 b4 b5
  clear hb
  have Hk1 := Lib.hid hk1
  have HK1 := Lib.hid ((Kept.box _ _).then hk1)
  clear hk1
  go_wp2_with fail
  refine (large_any K R Ct A1 A2 A3 n1 c1 n2 c2 n3 c3 C A n c ds _ (HC.out.kept HK1.out) (HS.out.kept HK1.out)).mono ?_
  rintro e W2 ⟨bl, rfl, hn, hk2⟩
  clear b0 b1 b2 b3 b4 b5
  have hb := HB.out W2 (Hk1.out.then hk2)
  have b0 := cell_at hb 0
  have b1 := cell_at hb 1
  have b2 := cell_at hb 2
  have b3 := cell_at hb 3
  have b4 := cell_at hb 4
  have b5 := cell_at hb 5
  simp only [List.getElem?_toArray, List.getElem?_cons_zero, List.getElem?_cons_succ] at b0 b1 b2 b3 b4 b5
  clear hb
  have Hk2 := Lib.hid (Hk1.out.then hk2)
  have HK2 := Lib.hid (HK1.out.then hk2)
  clear hk2
  cases bl with
  | true =>
    clear b0 b1 b2 b3 b4 b5
    go_wp2_with fail
    go_ret
    exact ⟨rfl, HK2.out⟩
  | false =>
    have hn := hn rfl
    have HF := Lib.hid (few_fewer ds ms n)
    go_wp2_with fail
    have HStep : Hid (∀ (ds' : List DomB) (A' : Option Addr) (c' : Nat) W, Kept w W → Doms W A' n ds' → Calls Tryd.prog 23 #[.agg #[.int .i64 K, .slice A1 n1 c1, .slice A2 n2 c2, .int .i64 R, .int .i64 Ct, .slice A3 n3 c3], .slice A' n c'] W (StepPost (if diffGo C ds' = true then some (stepB (diffKp C ds') ds') else Option.none) W)) := fun ds' A' c' W hW hD =>
      diffstep_law K R Ct A1 A2 A3 n1 c1 n2 c2 n3 c3 C A' n c' ds' W (HC.out.kept hW) hD (HT.out.kept hW) (by omega)
    have Hfl : Hid ((fewUpto ds ms n).length = n) := by show _ = _; rw [fewUpto_length]; exact Hlen.out
    have HFew : Hid (∀ W, Kept w W → Calls Tryd.prog 21 #[.slice A n c, .slice B m d] W fun e w' => ∃ A' c', e = .returned (.slice A' n c') ∧ Doms w' A' n (fewUpto ds ms n) ∧ Kept W w') := fun W hW =>
      (fewer_any A B n c m d ds ms W (HS.out.kept hW) (HM.out.kept hW) (by omega)).mono fun e w' ⟨A', c', he, hD, hk⟩ => ⟨A', c', by rw [he, Hfl.out], by rw [Hfl.out] at hD; exact hD, hk⟩
    have H1 := HStep.out ds A c _ HK2.out (HS.out.kept HK2.out)
    cases hg : diffGo C ds with
    | false =>
      rw [if_neg (by rw [hg]; decide)] at H1
      refine H1.mono ?_
      rintro e W3 ⟨rfl, hk3⟩
      have Hk3 := Lib.hid (Hk2.out.then hk3)
      have HK3 := Lib.hid (HK2.out.then hk3)
      clear H1 hk3 b0 b1 b2 b3 b4 b5
      have hb := HB.out W3 Hk3.out
      have b0 := cell_at hb 0
      have b1 := cell_at hb 1
      have b2 := cell_at hb 2
      have b3 := cell_at hb 3
      have b4 := cell_at hb 4
      have b5 := cell_at hb 5
      simp only [List.getElem?_toArray, List.getElem?_cons_zero, List.getElem?_cons_succ] at b0 b1 b2 b3 b4 b5
      clear hb
      go_wp2_with fail
      cases hg2 : diffGo C (fewUpto ds ms n) with
      | false =>
        go_region_held3 (fun W => (W.cell? ⟨w.heap.size, 0, Option.none⟩ = some (.int .i64 K) ∧ W.cell? ⟨w.heap.size, 1, Option.none⟩ = some (.slice A1 n1 c1) ∧ W.cell? ⟨w.heap.size, 2, Option.none⟩ = some (.slice A2 n2 c2) ∧ W.cell? ⟨w.heap.size, 3, Option.none⟩ = some (.int .i64 R) ∧ W.cell? ⟨w.heap.size, 4, Option.none⟩ = some (.int .i64 Ct) ∧ W.cell? ⟨w.heap.size, 5, Option.none⟩ = some (.slice A3 n3 c3))) (first | go_keep | exact conbox6 (HB.out _ (Hk3.out.then ((Kept.drewn _).then hk4))) | exact conbox6 (HB.out _ (Hk3.out.then (((Kept.drewn _).then hk4).then hk5))))
          (first
            | (go_at_call 21; refine (HFew.out _ (HK3.out.then (Kept.drewn _))).mono ?_; rintro e W4 ⟨A4, c4, rfl, hD4, hk4⟩)
            | (go_at_call 23; have H2 := HStep.out _ A4 c4 _ (HK3.out.then ((Kept.drewn _).then hk4)) hD4; rw [if_neg (by rw [hg2]; decide)] at H2; refine H2.mono ?_; rintro e W5 ⟨rfl, hk5⟩))
        have HK5 := Lib.hid (HK3.out.then (((Kept.drewn _).then hk4).then hk5))
        clear b0 b1 b2 b3 b4 b5
        go_wp2_with fail
        go_ret
        exact ⟨rfl, HK5.out⟩
      | true =>
        go_region_held3 (fun W => (W.cell? ⟨w.heap.size, 0, Option.none⟩ = some (.int .i64 K) ∧ W.cell? ⟨w.heap.size, 1, Option.none⟩ = some (.slice A1 n1 c1) ∧ W.cell? ⟨w.heap.size, 2, Option.none⟩ = some (.slice A2 n2 c2) ∧ W.cell? ⟨w.heap.size, 3, Option.none⟩ = some (.int .i64 R) ∧ W.cell? ⟨w.heap.size, 4, Option.none⟩ = some (.int .i64 Ct) ∧ W.cell? ⟨w.heap.size, 5, Option.none⟩ = some (.slice A3 n3 c3))) (first | go_keep | exact conbox6 (HB.out _ (Hk3.out.then ((Kept.drewn _).then hk4))) | exact conbox6 (HB.out _ (Hk3.out.then (((Kept.drewn _).then hk4).then hk5))))
          (first
            | (go_at_call 21; refine (HFew.out _ (HK3.out.then (Kept.drewn _))).mono ?_; rintro e W4 ⟨A4, c4, rfl, hD4, hk4⟩)
            | (go_at_call 23; have H2 := HStep.out _ A4 c4 _ (HK3.out.then ((Kept.drewn _).then hk4)) hD4; rw [if_pos hg2] at H2; refine H2.mono ?_; rintro e W5 ⟨A5, c5, rfl, hD5, hk5⟩))
        have HK5 := Lib.hid (HK3.out.then (((Kept.drewn _).then hk4).then hk5))
        clear b0 b1 b2 b3 b4 b5
        go_wp2_with fail
        go_ret
        exact ⟨rfl, HK5.out⟩
    | true =>
      have Hw := Lib.hid (diff_falls HF.out hg)
      have hg2 := diff_go_less HF.out hg
      rw [if_pos hg] at H1
      refine H1.mono ?_
      rintro e W3 ⟨Aa, ca, rfl, hDa, hk3⟩
      have Hk3 := Lib.hid (Hk2.out.then hk3)
      have HK3 := Lib.hid (HK2.out.then hk3)
      have HDa := Lib.hid hDa
      clear H1 hk3 hDa b0 b1 b2 b3 b4 b5
      have hb := HB.out W3 Hk3.out
      have b0 := cell_at hb 0
      have b1 := cell_at hb 1
      have b2 := cell_at hb 2
      have b3 := cell_at hb 3
      have b4 := cell_at hb 4
      have b5 := cell_at hb 5
      simp only [List.getElem?_toArray, List.getElem?_cons_zero, List.getElem?_cons_succ] at b0 b1 b2 b3 b4 b5
      clear hb
      go_wp2_with fail
      go_region_held3 (fun W => (W.cell? ⟨w.heap.size, 0, Option.none⟩ = some (.int .i64 K) ∧ W.cell? ⟨w.heap.size, 1, Option.none⟩ = some (.slice A1 n1 c1) ∧ W.cell? ⟨w.heap.size, 2, Option.none⟩ = some (.slice A2 n2 c2) ∧ W.cell? ⟨w.heap.size, 3, Option.none⟩ = some (.int .i64 R) ∧ W.cell? ⟨w.heap.size, 4, Option.none⟩ = some (.int .i64 Ct) ∧ W.cell? ⟨w.heap.size, 5, Option.none⟩ = some (.slice A3 n3 c3))) (first | go_keep | exact conbox6 (HB.out _ (Hk3.out.then ((Kept.drewn _).then hk4))) | exact conbox6 (HB.out _ (Hk3.out.then (((Kept.drewn _).then hk4).then hk5))))
        (first
          | (go_at_call 21; refine (HFew.out _ (HK3.out.then (Kept.drewn _))).mono ?_; rintro e W4 ⟨A4, c4, rfl, hD4, hk4⟩)
          | (go_at_call 23; have H2 := HStep.out _ A4 c4 _ (HK3.out.then ((Kept.drewn _).then hk4)) hD4; rw [if_pos hg2] at H2; refine H2.mono ?_; rintro e W5 ⟨A5, c5, rfl, hD5, hk5⟩))
      have HK5 := Lib.hid (HK3.out.then (((Kept.drewn _).then hk4).then hk5))
      have HDa5 := Lib.hid (HDa.out.kept (((Kept.drewn _).then hk4).then hk5))
      have HD5 := Lib.hid hD5
      clear b0 b1 b2 b3 b4 b5 hD4 hk4 hD5 hk5
      go_wp2_with fail
      refine (within_any _ _ _ _ _ _ _ _ _ HD5.out HDa5.out).mono ?_
      rw [Hw.out]
      rintro e W6 ⟨rfl, hk6⟩
      have HK6 := Lib.hid (HK5.out.then hk6)
      clear hk6
      go_wp2_with fail
      go_ret
      exact ⟨rfl, HK6.out⟩
end Go.Proofs.YtjmegicopdbkdaaDoor

set_option maxHeartbeats 1000000
set_option maxRecDepth 10000
namespace Go.Proofs.YtjmegicopdbkdaaDoor
open Go Go.RowKit Pl

theorem tells15_any (K R Ct : Int) (A1 A2 A3 : Option Addr) (n1 c1 n2 c2 n3 c3 : Nat) (C : ConB) (A : Option Addr) (n c : Nat) (ds : List DomB) (w : World) (hC : ConIn w K R Ct A1 A2 A3 n1 c1 n2 c2 n3 c3 C) (hS : Doms w A n ds) (hT : Tab w) :
    Calls Tryd.prog 7 #[.agg #[.int .i64 K, .slice A1 n1 c1, .slice A2 n2 c2, .int .i64 R, .int .i64 Ct, .slice A3 n3 c3], .slice A n c] w fun e w' => e = .returned (.bool true) ∧ Kept w w' := by
  have HC := Lib.hid hC
  have HS := Lib.hid hS
  have HT := Lib.hid hT
  have Hlen := Lib.hid hS.len
  clear hC hS hT
  have hhB : ∀ W, Kept (w.alloc (.cells #[.int .i64 K, .slice A1 n1 c1, .slice A2 n2 c2, .int .i64 R, .int .i64 Ct, .slice A3 n3 c3] 24)) W → W.heap[w.heap.size]? = some (.cells #[.int .i64 K, .slice A1 n1 c1, .slice A2 n2 c2, .int .i64 R, .int .i64 Ct, .slice A3 n3 c3] 24) := fun W h => h.heapAt (heap_new _ _)
  have HB := Lib.hid hhB
  clear hhB
  go_enter Tryd.func7, Tryd.ntmps7
  go_wp2_with fail
  refine (awake15 _ (HT.out.kept (Kept.box _ _))).mono ?_
  rintro e W1 ⟨rfl, hk1⟩
  have hb := HB.out W1 hk1
  have b0 := cell_at hb 0
  have b1 := cell_at hb 1
  have b2 := cell_at hb 2
  have b3 := cell_at hb 3
  have b4 := cell_at hb 4
  have b5 := cell_at hb 5
  simp only [List.getElem?_toArray, List.getElem?_cons_zero, List.getElem?_cons_succ] at b0 b1 b2 b3 b4 b5
  clear hb
  have Hk1 := Lib.hid hk1
  have HK1 := Lib.hid ((Kept.box _ _).then hk1)
  clear hk1
  go_wp2_with fail
  refine (large_any K R Ct A1 A2 A3 n1 c1 n2 c2 n3 c3 C A n c ds _ (HC.out.kept HK1.out) (HS.out.kept HK1.out)).mono ?_
  rintro e W2 ⟨bl, rfl, hn, hk2⟩
  clear b0 b1 b2 b3 b4 b5
  have hb := HB.out W2 (Hk1.out.then hk2)
  have b0 := cell_at hb 0
  have b1 := cell_at hb 1
  have b2 := cell_at hb 2
  have b3 := cell_at hb 3
  have b4 := cell_at hb 4
  have b5 := cell_at hb 5
  simp only [List.getElem?_toArray, List.getElem?_cons_zero, List.getElem?_cons_succ] at b0 b1 b2 b3 b4 b5
  clear hb
  have Hk2 := Lib.hid (Hk1.out.then hk2)
  have HK2 := Lib.hid (HK1.out.then hk2)
  clear hk2
  cases bl with
  | true =>
    clear b0 b1 b2 b3 b4 b5
    go_wp2_with fail
    go_ret
    exact ⟨rfl, HK2.out⟩
  | false =>
    have hn20 : n ≤ 20 := hn rfl
    clear hn
    go_wp2_with fail
    have H1 := diffstep_law K R Ct A1 A2 A3 n1 c1 n2 c2 n3 c3 C A n c ds _ (HC.out.kept HK2.out) (HS.out.kept HK2.out) (HT.out.kept HK2.out) (by omega)
    have H2 : Hid (∀ W A' c', Kept w W → Doms W A' n ds → Calls Tryd.prog 24 #[.agg #[.int .i64 K, .slice A1 n1 c1, .slice A2 n2 c2, .int .i64 R, .int .i64 Ct, .slice A3 n3 c3], .slice A' n c'] W (StepPost (if diffGo C ds = true then some (stepB (diffKp C ds) ds) else Option.none) W)) := fun W A' c' hW hD =>
      rstep15_any K R Ct A1 A2 A3 n1 c1 n2 c2 n3 c3 C A' n c' ds W (HC.out.kept hW) hD (by omega)
    cases hg : diffGo C ds with
    | false =>
      rw [if_neg (by rw [hg]; decide)] at H1 H2
      refine H1.mono ?_
      rintro e W3 ⟨rfl, hk3⟩
      have Hk3 := Lib.hid (Hk2.out.then hk3)
      have HK3 := Lib.hid (HK2.out.then hk3)
      clear H1 hk3 b0 b1 b2 b3 b4 b5
      have hb := HB.out W3 Hk3.out
      have b0 := cell_at hb 0
      have b1 := cell_at hb 1
      have b2 := cell_at hb 2
      have b3 := cell_at hb 3
      have b4 := cell_at hb 4
      have b5 := cell_at hb 5
      simp only [List.getElem?_toArray, List.getElem?_cons_zero, List.getElem?_cons_succ] at b0 b1 b2 b3 b4 b5
      clear hb
      go_wp2_with fail
      go_region_held3 (fun W => (W.cell? ⟨w.heap.size, 0, Option.none⟩ = some (.int .i64 K) ∧ W.cell? ⟨w.heap.size, 1, Option.none⟩ = some (.slice A1 n1 c1) ∧ W.cell? ⟨w.heap.size, 2, Option.none⟩ = some (.slice A2 n2 c2) ∧ W.cell? ⟨w.heap.size, 3, Option.none⟩ = some (.int .i64 R) ∧ W.cell? ⟨w.heap.size, 4, Option.none⟩ = some (.int .i64 Ct) ∧ W.cell? ⟨w.heap.size, 5, Option.none⟩ = some (.slice A3 n3 c3))) (first | go_keep | exact conbox6 (HB.out _ (Hk3.out.then ((Kept.drewn _).then hk4))) | exact conbox6 (HB.out _ (Hk3.out.then (((Kept.drewn _).then hk4).then hk5))))
        (first
          | (go_at_call 15; refine (own_any A n c ds _ (HS.out.kept (HK3.out.then (Kept.drewn _))) (by omega)).mono ?_; rintro e W4 ⟨A4, c4, rfl, hD4, hk4⟩; rw [Hlen.out] at hD4 ⊢)
          | (go_at_call 24; refine (H2.out _ A4 c4 (HK3.out.then ((Kept.drewn _).then hk4)) hD4).mono ?_; rintro e W5 ⟨rfl, hk5⟩))
      have HK5 := Lib.hid (HK3.out.then (((Kept.drewn _).then hk4).then hk5))
      clear b0 b1 b2 b3 b4 b5 hD4 hk4 hk5 H2
      go_wp2_with fail
      refine (own_any Option.none 0 0 [] W5 (doms_nil W5) (by omega)).mono ?_
      rintro e W6 ⟨A6, c6, rfl, hD6, hk6⟩
      have HK6 := Lib.hid (HK5.out.then hk6)
      have HD6 := Lib.hid hD6
      clear hk6 hD6
      go_wp2_with fail
      refine (rsames_any A6 Option.none 0 c6 0 [] W6 HD6.out (doms_nil W6)).mono ?_
      rintro e W7 ⟨rfl, hk7⟩
      have HK7 := Lib.hid (HK6.out.then hk7)
      clear hk7
      go_wp2_with fail
      go_ret
      exact ⟨rfl, HK7.out⟩
    | true =>
      have Hrl : Hid ((stepB (diffKp C ds) ds).length = n) := by show _ = _; rw [stepB_length]; exact Hlen.out
      rw [if_pos hg] at H1 H2
      generalize stepB (diffKp C ds) ds = res at *
      refine H1.mono ?_
      rintro e W3 ⟨Aa, ca, rfl, hDa, hk3⟩
      rw [Hrl.out] at hDa ⊢
      have Hk3 := Lib.hid (Hk2.out.then hk3)
      have HK3 := Lib.hid (HK2.out.then hk3)
      have HDa := Lib.hid hDa
      clear H1 hk3 hDa b0 b1 b2 b3 b4 b5 hg
      have hb := HB.out W3 Hk3.out
      have b0 := cell_at hb 0
      have b1 := cell_at hb 1
      have b2 := cell_at hb 2
      have b3 := cell_at hb 3
      have b4 := cell_at hb 4
      have b5 := cell_at hb 5
      simp only [List.getElem?_toArray, List.getElem?_cons_zero, List.getElem?_cons_succ] at b0 b1 b2 b3 b4 b5
      clear hb
      go_wp2_with fail
      go_region_held3 (fun W => (W.cell? ⟨w.heap.size, 0, Option.none⟩ = some (.int .i64 K) ∧ W.cell? ⟨w.heap.size, 1, Option.none⟩ = some (.slice A1 n1 c1) ∧ W.cell? ⟨w.heap.size, 2, Option.none⟩ = some (.slice A2 n2 c2) ∧ W.cell? ⟨w.heap.size, 3, Option.none⟩ = some (.int .i64 R) ∧ W.cell? ⟨w.heap.size, 4, Option.none⟩ = some (.int .i64 Ct) ∧ W.cell? ⟨w.heap.size, 5, Option.none⟩ = some (.slice A3 n3 c3))) (first | go_keep | exact conbox6 (HB.out _ (Hk3.out.then ((Kept.drewn _).then hk4))) | exact conbox6 (HB.out _ (Hk3.out.then (((Kept.drewn _).then hk4).then hk5))))
        (first
          | (go_at_call 15; refine (own_any A n c ds _ (HS.out.kept (HK3.out.then (Kept.drewn _))) (by omega)).mono ?_; rintro e W4 ⟨A4, c4, rfl, hD4, hk4⟩; rw [Hlen.out] at hD4 ⊢)
          | (go_at_call 24; refine (H2.out _ A4 c4 (HK3.out.then ((Kept.drewn _).then hk4)) hD4).mono ?_; rintro e W5 ⟨A5, c5, rfl, hD5, hk5⟩; rw [Hrl.out] at hD5 ⊢))
      have HK5 := Lib.hid (HK3.out.then (((Kept.drewn _).then hk4).then hk5))
      have HD5 := Lib.hid hD5
      have HDa5 := Lib.hid (HDa.out.kept (((Kept.drewn _).then hk4).then hk5))
      clear b0 b1 b2 b3 b4 b5 hD4 hk4 hk5 hD5 H2
      go_wp2_with fail
      refine (own_any Aa n ca res W5 HDa5.out (by omega)).mono ?_
      rintro e W6 ⟨A6, c6, rfl, hD6, hk6⟩
      rw [Hrl.out] at hD6 ⊢
      have HK6 := Lib.hid (HK5.out.then hk6)
      have HD6 := Lib.hid hD6
      have HD56 := Lib.hid (HD5.out.kept hk6)
      clear hk6 hD6
      go_wp2_with fail
      refine (rsames_any A6 A5 n c6 c5 res W6 HD6.out HD56.out).mono ?_
      rintro e W7 ⟨rfl, hk7⟩
      have HK7 := Lib.hid (HK6.out.then hk7)
      clear hk7
      go_wp2_with fail
      go_ret
      exact ⟨rfl, HK7.out⟩
end Go.Proofs.YtjmegicopdbkdaaDoor

/-
  The laws of the package product: awake.
-/
import Derived.Test.YtjmegicopdbkdaaDoorProdS
import Derived.Test.YtjmegicopdbkdaaDoorAwake
set_option maxHeartbeats 1000000
set_option maxRecDepth 10000
namespace Go.Proofs.YtjmegicopdbkdaaDoor
open Go Go.RowKit Pl

def C13 : ConB := ⟨2, [0, 1, 2], [], 0, 0, []⟩
def D13_0 : List DomB := [([2, 3], 3), ([0, 1, 2], 7), ([4], 1)]
def E13_0 : List DomB := [([2, 3], 1), ([0, 1, 2], 4), ([4], 1)]
theorem go13_0 : goK 2 C13 D13_0 = true := by decide +kernel
theorem res13_0 : stepB (varsKp (C13).vars (prodG C13 D13_0) (C13).vars.length) D13_0 = E13_0 := by decide +kernel
def D13_1 : List DomB := [([2, 3], 3), ([0, 1, 2], 7)]
theorem go13_1 : goK 2 C13 D13_1 = false := by decide +kernel
theorem step13_0 (A1 A : Option Addr) (c1 c : Nat) (w : World) (hC : ConIn w 2 0 0 A1 Option.none Option.none 3 c1 0 0 0 0 C13) (hS : Doms w A 3 D13_0) (hT : Tab w) :
    Calls Tryd.prog 13 #[.agg #[.int .i64 2, .slice A1 3 c1, .slice Option.none 0 0, .int .i64 0, .int .i64 0, .slice Option.none 0 0], .slice A 3 c] w (StepPost (some E13_0) w) := by
  have := prodstep_any 2 0 0 A1 Option.none Option.none 3 c1 0 0 0 0 C13 A 3 c D13_0 w hC hS hT (by decide)
  rwa [if_pos go13_0, res13_0] at this
theorem step13_1 (A1 A : Option Addr) (c1 c : Nat) (w : World) (hC : ConIn w 2 0 0 A1 Option.none Option.none 3 c1 0 0 0 0 C13) (hS : Doms w A 2 D13_1) (hT : Tab w) :
    Calls Tryd.prog 13 #[.agg #[.int .i64 2, .slice A1 3 c1, .slice Option.none 0 0, .int .i64 0, .int .i64 0, .slice Option.none 0 0], .slice A 2 c] w (StepPost (Option.none) w) := by
  have := prodstep_any 2 0 0 A1 Option.none Option.none 3 c1 0 0 0 0 C13 A 2 c D13_1 w hC hS hT (by decide)
  rwa [if_neg (by rw [go13_1]; decide)] at this

theorem awake13 (w : World) (hT : Tab w) : Calls Tryd.prog 11 #[] w fun e w' => e = .returned (.bool true) ∧ Kept w w' := by
  have HT := Lib.hid hT
  clear hT
  go_enter Tryd.func11, Tryd.ntmps11
  go_wp2_with fail
  have HF := fun k o h => (heap_allocs [.cells #[.int .i64 2, .int .i64 3] 3,
    .cells #[.int .i64 0, .int .i64 1, .int .i64 2] 3,
    .cells #[.int .i64 4] 3,
    .cells #[.slice (some ⟨w.heap.size, 0, Option.none⟩) 2 2, .int .u64 3] 47,
    .cells #[.slice (some ⟨w.heap.size + 1, 0, Option.none⟩) 3 3, .int .u64 7] 47,
    .cells #[.slice (some ⟨w.heap.size + 1 + 1, 0, Option.none⟩) 1 1, .int .u64 1] 47,
    .cells #[.int .i64 0, .int .i64 1, .int .i64 2] 3,
    .cells #[.int .i64 2, .slice (some ⟨w.heap.size + 1 + 1 + 1 + 1 + 1 + 1, 0, Option.none⟩) 3 3, .slice Option.none 0 0, .int .i64 0, .int .i64 0, .slice Option.none 0 0] 24,
    .cells #[.slice (some ⟨w.heap.size, 0, Option.none⟩) 2 2, .int .u64 3, .slice (some ⟨w.heap.size + 1, 0, Option.none⟩) 3 3, .int .u64 7, .slice (some ⟨w.heap.size + 1 + 1, 0, Option.none⟩) 1 1, .int .u64 1] 47] w k o h).1
  have F0 := HF 0 _ rfl
  have F1 := HF 1 _ rfl
  have F2 := HF 2 _ rfl
  have F3 := HF 3 _ rfl
  have F4 := HF 4 _ rfl
  have F5 := HF 5 _ rfl
  have F6 := HF 6 _ rfl
  have F7 := HF 7 _ rfl
  have F8 := HF 8 _ rfl
  have HKw := Lib.hid (heap_allocs.kept_allocs [.cells #[.int .i64 2, .int .i64 3] 3,
    .cells #[.int .i64 0, .int .i64 1, .int .i64 2] 3,
    .cells #[.int .i64 4] 3,
    .cells #[.slice (some ⟨w.heap.size, 0, Option.none⟩) 2 2, .int .u64 3] 47,
    .cells #[.slice (some ⟨w.heap.size + 1, 0, Option.none⟩) 3 3, .int .u64 7] 47,
    .cells #[.slice (some ⟨w.heap.size + 1 + 1, 0, Option.none⟩) 1 1, .int .u64 1] 47,
    .cells #[.int .i64 0, .int .i64 1, .int .i64 2] 3,
    .cells #[.int .i64 2, .slice (some ⟨w.heap.size + 1 + 1 + 1 + 1 + 1 + 1, 0, Option.none⟩) 3 3, .slice Option.none 0 0, .int .i64 0, .int .i64 0, .slice Option.none 0 0] 24,
    .cells #[.slice (some ⟨w.heap.size, 0, Option.none⟩) 2 2, .int .u64 3, .slice (some ⟨w.heap.size + 1, 0, Option.none⟩) 3 3, .int .u64 7, .slice (some ⟨w.heap.size + 1 + 1, 0, Option.none⟩) 1 1, .int .u64 1] 47] w)
  show Calls Tryd.prog 13 _ (allocs w [.cells #[.int .i64 2, .int .i64 3] 3,
    .cells #[.int .i64 0, .int .i64 1, .int .i64 2] 3,
    .cells #[.int .i64 4] 3,
    .cells #[.slice (some ⟨w.heap.size, 0, Option.none⟩) 2 2, .int .u64 3] 47,
    .cells #[.slice (some ⟨w.heap.size + 1, 0, Option.none⟩) 3 3, .int .u64 7] 47,
    .cells #[.slice (some ⟨w.heap.size + 1 + 1, 0, Option.none⟩) 1 1, .int .u64 1] 47,
    .cells #[.int .i64 0, .int .i64 1, .int .i64 2] 3,
    .cells #[.int .i64 2, .slice (some ⟨w.heap.size + 1 + 1 + 1 + 1 + 1 + 1, 0, Option.none⟩) 3 3, .slice Option.none 0 0, .int .i64 0, .int .i64 0, .slice Option.none 0 0] 24,
    .cells #[.slice (some ⟨w.heap.size, 0, Option.none⟩) 2 2, .int .u64 3, .slice (some ⟨w.heap.size + 1, 0, Option.none⟩) 3 3, .int .u64 7, .slice (some ⟨w.heap.size + 1 + 1, 0, Option.none⟩) 1 1, .int .u64 1] 47]) _
  generalize allocs w [.cells #[.int .i64 2, .int .i64 3] 3,
    .cells #[.int .i64 0, .int .i64 1, .int .i64 2] 3,
    .cells #[.int .i64 4] 3,
    .cells #[.slice (some ⟨w.heap.size, 0, Option.none⟩) 2 2, .int .u64 3] 47,
    .cells #[.slice (some ⟨w.heap.size + 1, 0, Option.none⟩) 3 3, .int .u64 7] 47,
    .cells #[.slice (some ⟨w.heap.size + 1 + 1, 0, Option.none⟩) 1 1, .int .u64 1] 47,
    .cells #[.int .i64 0, .int .i64 1, .int .i64 2] 3,
    .cells #[.int .i64 2, .slice (some ⟨w.heap.size + 1 + 1 + 1 + 1 + 1 + 1, 0, Option.none⟩) 3 3, .slice Option.none 0 0, .int .i64 0, .int .i64 0, .slice Option.none 0 0] 24,
    .cells #[.slice (some ⟨w.heap.size, 0, Option.none⟩) 2 2, .int .u64 3, .slice (some ⟨w.heap.size + 1, 0, Option.none⟩) 3 3, .int .u64 7, .slice (some ⟨w.heap.size + 1 + 1, 0, Option.none⟩) 1 1, .int .u64 1] 47] = W0 at *
  have I0 : Hid (Ints W0 (some ⟨w.heap.size, 0, Option.none⟩) 2 [2, 3]) := Ints.of_cells (xs := [2, 3]) F0 (by decide) (by decide) rfl
  have I1 : Hid (Ints W0 (some ⟨w.heap.size + 1, 0, Option.none⟩) 3 [0, 1, 2]) := Ints.of_cells (xs := [0, 1, 2]) F1 (by decide) (by decide) rfl
  have I2 : Hid (Ints W0 (some ⟨w.heap.size + 1 + 1, 0, Option.none⟩) 1 [4]) := Ints.of_cells (xs := [4]) F2 (by decide) (by decide) rfl
  have HC : Hid (ConIn W0 2 0 0 (some ⟨w.heap.size + 1 + 1 + 1 + 1 + 1 + 1, 0, Option.none⟩) Option.none Option.none 3 3 0 0 0 0 C13) :=
    ⟨rfl, rfl, rfl, Ints.of_cells (xs := [0, 1, 2]) F6 (by decide) (by decide) rfl, Ints.none _, Ints.none _, by decide, by decide, by decide, by decide, by decide⟩
  have HD0 : Hid (Doms W0 (some ⟨w.heap.size + 1 + 1 + 1 + 1 + 1 + 1 + 1 + 1, 0, Option.none⟩) 3 D13_0) := Doms.of_heap F8 rfl (by decide) (by decide) (fun j hj => by
    match j, hj with
    | 0, _ => exact ⟨_, _, _, rfl, rfl, I0.out⟩
    | 1, _ => exact ⟨_, _, _, rfl, rfl, I1.out⟩
    | 2, _ => exact ⟨_, _, _, rfl, rfl, I2.out⟩)
  have HB0 := Lib.hid F3
  have HB1 := Lib.hid F4
  have HB2 := Lib.hid F5
  have HBc := Lib.hid F7
  clear HF F0 F1 F2 F3 F4 F5 F6 F7 F8
  refine (step13_0 _ _ _ _ _ HC.out HD0.out (HT.out.kept HKw.out)).mono ?_
  rintro e W1 ⟨A0', c0', rfl, hD0, hk⟩
  have HW0 := Lib.hid hk
  have HR0 := Lib.hid hD0
  have h0 := HW0.out.heapAt HB0.out
  have a0_0 := cell_at h0 0
  have a0_1 := cell_at h0 1
  have h1 := HW0.out.heapAt HB1.out
  have a1_0 := cell_at h1 0
  have a1_1 := cell_at h1 1
  have hc := HW0.out.heapAt HBc.out
  have ac_0 := cell_at hc 0
  have ac_1 := cell_at hc 1
  have ac_2 := cell_at hc 2
  have ac_3 := cell_at hc 3
  have ac_4 := cell_at hc 4
  have ac_5 := cell_at hc 5
  simp only [List.getElem?_toArray, List.getElem?_cons_zero, List.getElem?_cons_succ] at a0_0 a0_1 a1_0 a1_1 ac_0 ac_1 ac_2 ac_3 ac_4 ac_5
  clear h0 h1 hc hk hD0
  have el0 : E13_0.length = 3 := rfl
  simp only [el0]
  go_wp2_with fail
  clear a0_0 a0_1 a1_0 a1_1 ac_0 ac_1 ac_2 ac_3 ac_4 ac_5
  refine (step13_1 _ _ _ _ _ (HC.out.kept (HW0.out.then (Kept.box _ _))) (Doms.of_heap (ds := D13_1) (heap_new _ _) rfl (by decide) (by decide) (fun j hj => by
    match j, hj with
    | 0, _ => exact ⟨_, _, _, rfl, rfl, I0.out.kept (HW0.out.then (Kept.box _ _))⟩
    | 1, _ => exact ⟨_, _, _, rfl, rfl, I1.out.kept (HW0.out.then (Kept.box _ _))⟩)) (HT.out.kept (HKw.out.then (HW0.out.then (Kept.box _ _))))).mono ?_
  rintro e W2 ⟨rfl, hk⟩
  have HW1 := Lib.hid (HW0.out.then ((Kept.box _ _).then hk))
  have HR0 := Lib.hid (HR0.out.kept ((Kept.box _ _).then hk))
  obtain ⟨b0, off0, hb0, hcc0⟩ := HR0.out.plain (by decide)
  subst hb0
  have q0_0 := hcc0 0 (by decide)
  have e0_0 : ((E13_0.getD 0 nilD).2 : Nat) = 1 := by decide
  rw [e0_0] at q0_0
  clear e0_0
  have q0_1 := hcc0 1 (by decide)
  have e0_1 : ((E13_0.getD 1 nilD).2 : Nat) = 4 := by decide
  rw [e0_1] at q0_1
  clear e0_1
  have q0_2 := hcc0 2 (by decide)
  have e0_2 : ((E13_0.getD 2 nilD).2 : Nat) = 1 := by decide
  rw [e0_2] at q0_2
  clear e0_2
  clear hcc0
  have HKe := Lib.hid (HKw.out.then HW1.out)
  clear hk
  go_wp2_with fail
  go_ret
  exact ⟨rfl, HKe.out⟩
end Go.Proofs.YtjmegicopdbkdaaDoor

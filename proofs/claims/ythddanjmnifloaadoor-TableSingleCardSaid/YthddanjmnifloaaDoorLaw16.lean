/-
  The laws of the package table: awake.
-/
import Derived.Test.YthddanjmnifloaaDoorTabS
import Derived.Test.YthddanjmnifloaaDoorAwake
set_option maxHeartbeats 1000000
set_option maxRecDepth 10000
namespace Go.Proofs.YthddanjmnifloaaDoor
open Go Go.RowKit Pl

def C16 : ConB := ⟨6, [0, 1], [], 0, 0, [1, 2, 3, 4]⟩
def D16_0 : List DomB := [([1, 2, 3], 7), ([2, 3], 3)]
def E16_0 : List DomB := [([1, 2, 3], 1), ([2, 3], 1)]
theorem go16_0 : goK 6 C16 D16_0 = true := by decide +kernel
theorem res16_0 : stepB (varsKp (C16).vars (tabG C16 D16_0) (C16).vars.length) D16_0 = E16_0 := by decide +kernel
def D16_1 : List DomB := [([1, 2, 3], 7)]
theorem go16_1 : goK 6 C16 D16_1 = false := by decide +kernel
theorem step16_0 (A1 A3 A : Option Addr) (c1 c3 c : Nat) (w : World) (hC : ConIn w 6 0 0 A1 Option.none A3 2 c1 0 0 4 c3 C16) (hS : Doms w A 2 D16_0) (hT : Tab w) :
    Calls Tryd.prog 40 #[.agg #[.int .i64 6, .slice A1 2 c1, .slice Option.none 0 0, .int .i64 0, .int .i64 0, .slice A3 4 c3], .slice A 2 c] w (StepPost (some E16_0) w) := by
  have := tabstep_any 6 0 0 A1 Option.none A3 2 c1 0 0 4 c3 C16 A 2 c D16_0 w hC hS hT (by decide)
  rwa [if_pos go16_0, res16_0] at this
theorem step16_1 (A1 A3 A : Option Addr) (c1 c3 c : Nat) (w : World) (hC : ConIn w 6 0 0 A1 Option.none A3 2 c1 0 0 4 c3 C16) (hS : Doms w A 1 D16_1) (hT : Tab w) :
    Calls Tryd.prog 40 #[.agg #[.int .i64 6, .slice A1 2 c1, .slice Option.none 0 0, .int .i64 0, .int .i64 0, .slice A3 4 c3], .slice A 1 c] w (StepPost (Option.none) w) := by
  have := tabstep_any 6 0 0 A1 Option.none A3 2 c1 0 0 4 c3 C16 A 1 c D16_1 w hC hS hT (by decide)
  rwa [if_neg (by rw [go16_1]; decide)] at this

theorem awake16 (w : World) (hT : Tab w) : Calls Tryd.prog 39 #[] w fun e w' => e = .returned (.bool true) ∧ Kept w w' := by
  have HT := Lib.hid hT
  clear hT
  go_enter Tryd.func39, Tryd.ntmps39
  go_wp2_with fail
  have HF := fun k o h => (heap_allocs [.cells #[.int .i64 1, .int .i64 2, .int .i64 3] 3,
    .cells #[.int .i64 2, .int .i64 3] 3,
    .cells #[.slice (some ⟨w.heap.size, 0, Option.none⟩) 3 3, .int .u64 7] 58,
    .cells #[.slice (some ⟨w.heap.size + 1, 0, Option.none⟩) 2 2, .int .u64 3] 58,
    .cells #[.int .i64 0, .int .i64 1] 3,
    .cells #[.int .i64 1, .int .i64 2, .int .i64 3, .int .i64 4] 3,
    .cells #[.int .i64 6, .slice (some ⟨w.heap.size + 1 + 1 + 1 + 1, 0, Option.none⟩) 2 2, .slice Option.none 0 0, .int .i64 0, .int .i64 0, .slice (some ⟨w.heap.size + 1 + 1 + 1 + 1 + 1, 0, Option.none⟩) 4 4] 37,
    .cells #[.slice (some ⟨w.heap.size, 0, Option.none⟩) 3 3, .int .u64 7, .slice (some ⟨w.heap.size + 1, 0, Option.none⟩) 2 2, .int .u64 3] 58] w k o h).1
  have F0 := HF 0 _ rfl
  have F1 := HF 1 _ rfl
  have F2 := HF 2 _ rfl
  have F3 := HF 3 _ rfl
  have F4 := HF 4 _ rfl
  have F5 := HF 5 _ rfl
  have F6 := HF 6 _ rfl
  have F7 := HF 7 _ rfl
  have HKw := Lib.hid (heap_allocs.kept_allocs [.cells #[.int .i64 1, .int .i64 2, .int .i64 3] 3,
    .cells #[.int .i64 2, .int .i64 3] 3,
    .cells #[.slice (some ⟨w.heap.size, 0, Option.none⟩) 3 3, .int .u64 7] 58,
    .cells #[.slice (some ⟨w.heap.size + 1, 0, Option.none⟩) 2 2, .int .u64 3] 58,
    .cells #[.int .i64 0, .int .i64 1] 3,
    .cells #[.int .i64 1, .int .i64 2, .int .i64 3, .int .i64 4] 3,
    .cells #[.int .i64 6, .slice (some ⟨w.heap.size + 1 + 1 + 1 + 1, 0, Option.none⟩) 2 2, .slice Option.none 0 0, .int .i64 0, .int .i64 0, .slice (some ⟨w.heap.size + 1 + 1 + 1 + 1 + 1, 0, Option.none⟩) 4 4] 37,
    .cells #[.slice (some ⟨w.heap.size, 0, Option.none⟩) 3 3, .int .u64 7, .slice (some ⟨w.heap.size + 1, 0, Option.none⟩) 2 2, .int .u64 3] 58] w)
  show Calls Tryd.prog 40 _ (allocs w [.cells #[.int .i64 1, .int .i64 2, .int .i64 3] 3,
    .cells #[.int .i64 2, .int .i64 3] 3,
    .cells #[.slice (some ⟨w.heap.size, 0, Option.none⟩) 3 3, .int .u64 7] 58,
    .cells #[.slice (some ⟨w.heap.size + 1, 0, Option.none⟩) 2 2, .int .u64 3] 58,
    .cells #[.int .i64 0, .int .i64 1] 3,
    .cells #[.int .i64 1, .int .i64 2, .int .i64 3, .int .i64 4] 3,
    .cells #[.int .i64 6, .slice (some ⟨w.heap.size + 1 + 1 + 1 + 1, 0, Option.none⟩) 2 2, .slice Option.none 0 0, .int .i64 0, .int .i64 0, .slice (some ⟨w.heap.size + 1 + 1 + 1 + 1 + 1, 0, Option.none⟩) 4 4] 37,
    .cells #[.slice (some ⟨w.heap.size, 0, Option.none⟩) 3 3, .int .u64 7, .slice (some ⟨w.heap.size + 1, 0, Option.none⟩) 2 2, .int .u64 3] 58]) _
  generalize allocs w [.cells #[.int .i64 1, .int .i64 2, .int .i64 3] 3,
    .cells #[.int .i64 2, .int .i64 3] 3,
    .cells #[.slice (some ⟨w.heap.size, 0, Option.none⟩) 3 3, .int .u64 7] 58,
    .cells #[.slice (some ⟨w.heap.size + 1, 0, Option.none⟩) 2 2, .int .u64 3] 58,
    .cells #[.int .i64 0, .int .i64 1] 3,
    .cells #[.int .i64 1, .int .i64 2, .int .i64 3, .int .i64 4] 3,
    .cells #[.int .i64 6, .slice (some ⟨w.heap.size + 1 + 1 + 1 + 1, 0, Option.none⟩) 2 2, .slice Option.none 0 0, .int .i64 0, .int .i64 0, .slice (some ⟨w.heap.size + 1 + 1 + 1 + 1 + 1, 0, Option.none⟩) 4 4] 37,
    .cells #[.slice (some ⟨w.heap.size, 0, Option.none⟩) 3 3, .int .u64 7, .slice (some ⟨w.heap.size + 1, 0, Option.none⟩) 2 2, .int .u64 3] 58] = W0 at *
  have I0 : Hid (Ints W0 (some ⟨w.heap.size, 0, Option.none⟩) 3 [1, 2, 3]) := Ints.of_cells (xs := [1, 2, 3]) F0 (by decide) (by decide) rfl
  have I1 : Hid (Ints W0 (some ⟨w.heap.size + 1, 0, Option.none⟩) 2 [2, 3]) := Ints.of_cells (xs := [2, 3]) F1 (by decide) (by decide) rfl
  have HC : Hid (ConIn W0 6 0 0 (some ⟨w.heap.size + 1 + 1 + 1 + 1, 0, Option.none⟩) Option.none (some ⟨w.heap.size + 1 + 1 + 1 + 1 + 1, 0, Option.none⟩) 2 2 0 0 4 4 C16) :=
    ⟨rfl, rfl, rfl, Ints.of_cells (xs := [0, 1]) F4 (by decide) (by decide) rfl, Ints.none _, Ints.of_cells (xs := [1, 2, 3, 4]) F5 (by decide) (by decide) rfl, by decide, by decide, by decide, by decide, by decide⟩
  have HD0 : Hid (Doms W0 (some ⟨w.heap.size + 1 + 1 + 1 + 1 + 1 + 1 + 1, 0, Option.none⟩) 2 D16_0) := Doms.of_heap F7 rfl (by decide) (by decide) (fun j hj => by
    match j, hj with
    | 0, _ => exact ⟨_, _, _, rfl, rfl, I0.out⟩
    | 1, _ => exact ⟨_, _, _, rfl, rfl, I1.out⟩)
  have HB0 := Lib.hid F2
  have HB1 := Lib.hid F3
  have HBc := Lib.hid F6
  clear HF F0 F1 F2 F3 F4 F5 F6 F7
  refine (step16_0 _ _ _ _ _ _ _ HC.out HD0.out (HT.out.kept HKw.out)).mono ?_
  rintro e W1 ⟨A0', c0', rfl, hD0, hk⟩
  have HW0 := Lib.hid hk
  have HR0 := Lib.hid hD0
  have h0 := HW0.out.heapAt HB0.out
  have a0_0 := cell_at h0 0
  have a0_1 := cell_at h0 1
  have hc := HW0.out.heapAt HBc.out
  have ac_0 := cell_at hc 0
  have ac_1 := cell_at hc 1
  have ac_2 := cell_at hc 2
  have ac_3 := cell_at hc 3
  have ac_4 := cell_at hc 4
  have ac_5 := cell_at hc 5
  simp only [List.getElem?_toArray, List.getElem?_cons_zero, List.getElem?_cons_succ] at a0_0 a0_1 ac_0 ac_1 ac_2 ac_3 ac_4 ac_5
  clear h0 hc hk hD0
  have el0 : E16_0.length = 2 := rfl
  simp only [el0]
  go_wp2_with fail
  clear a0_0 a0_1 ac_0 ac_1 ac_2 ac_3 ac_4 ac_5
  refine (step16_1 _ _ _ _ _ _ _ (HC.out.kept (HW0.out.then (Kept.box _ _))) (Doms.of_heap (ds := D16_1) (heap_new _ _) rfl (by decide) (by decide) (fun j hj => by
    match j, hj with
    | 0, _ => exact ⟨_, _, _, rfl, rfl, I0.out.kept (HW0.out.then (Kept.box _ _))⟩)) (HT.out.kept (HKw.out.then (HW0.out.then (Kept.box _ _))))).mono ?_
  rintro e W2 ⟨rfl, hk⟩
  have HW1 := Lib.hid (HW0.out.then ((Kept.box _ _).then hk))
  have HR0 := Lib.hid (HR0.out.kept ((Kept.box _ _).then hk))
  obtain ⟨b0, off0, hb0, hcc0⟩ := HR0.out.plain (by decide)
  subst hb0
  have q0_0 := hcc0 0 (by decide)
  have e0_0 : ((E16_0.getD 0 nilD).2 : Nat) = 1 := by decide
  rw [e0_0] at q0_0
  clear e0_0
  have q0_1 := hcc0 1 (by decide)
  have e0_1 : ((E16_0.getD 1 nilD).2 : Nat) = 1 := by decide
  rw [e0_1] at q0_1
  clear e0_1
  clear hcc0
  have HKe := Lib.hid (HKw.out.then HW1.out)
  clear hk
  go_wp2_with fail
  go_ret
  exact ⟨rfl, HKe.out⟩
end Go.Proofs.YthddanjmnifloaaDoor

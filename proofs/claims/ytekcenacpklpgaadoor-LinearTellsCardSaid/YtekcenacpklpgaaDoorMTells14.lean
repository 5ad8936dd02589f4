/-
  Contracts and plain laws that the card rests on, part 14.
-/
import Derived.Test.YtekcenacpklpgaaDoorMTells13
import Derived.Test.YtekcenacpklpgaaDoorMTells12
import Derived.Test.YtekcenacpklpgaaDoorMTells9
set_option maxHeartbeats 1000000
set_option maxRecDepth 10000
namespace Go.Proofs.YtekcenacpklpgaaDoor
open Go Go.RowKit Pl

def C12 : ConB := ⟨1, [0, 1], [1, 1], 0, 5, []⟩
def D12_0 : List DomB := [([0, 1, 2, 3], 15), ([0, 1, 2, 3], 15)]
def E12_0 : List DomB := [([0, 1, 2, 3], 12), ([0, 1, 2, 3], 12)]
theorem go12_0 : linGo C12 D12_0 = true := by decide +kernel
theorem res12_0 : stepB (linKp C12 D12_0) D12_0 = E12_0 := by decide +kernel
def D12_1 : List DomB := [([0, 1, 2, 3], 15)]
theorem go12_1 : linGo C12 D12_1 = false := by decide +kernel
theorem step12_0 (A1 A2 A : Option Addr) (c1 c2 c : Nat) (w : World) (hC : ConIn w 1 0 5 A1 A2 Option.none 2 c1 2 c2 0 0 C12) (hS : Doms w A 2 D12_0) (hT : Tab w) :
    Calls Tryd.prog 10 #[.agg #[.int .i64 1, .slice A1 2 c1, .slice A2 2 c2, .int .i64 0, .int .i64 5, .slice Option.none 0 0], .slice A 2 c] w (StepPost (some E12_0) w) := by
  have := linstep_law 1 0 5 A1 A2 Option.none 2 c1 2 c2 0 0 C12 A 2 c D12_0 w hC hS hT (by decide)
  rwa [if_pos go12_0, res12_0] at this
theorem step12_1 (A1 A2 A : Option Addr) (c1 c2 c : Nat) (w : World) (hC : ConIn w 1 0 5 A1 A2 Option.none 2 c1 2 c2 0 0 C12) (hS : Doms w A 1 D12_1) (hT : Tab w) :
    Calls Tryd.prog 10 #[.agg #[.int .i64 1, .slice A1 2 c1, .slice A2 2 c2, .int .i64 0, .int .i64 5, .slice Option.none 0 0], .slice A 1 c] w (StepPost (Option.none) w) := by
  have := linstep_law 1 0 5 A1 A2 Option.none 2 c1 2 c2 0 0 C12 A 1 c D12_1 w hC hS hT (by decide)
  rwa [if_neg (by rw [go12_1]; decide)] at this

def C12i : ConB := ⟨3, [0, 1], [1], 5, 2, []⟩
def D12_2 : List DomB := [([0, 1, 2], 6), ([0, 1, 2, 3], 15)]
def E12_2 : List DomB := [([0, 1, 2], 2), ([0, 1, 2, 3], 12)]
theorem go12_2 : linGo C12i D12_2 = true := by decide +kernel
theorem res12_2 : stepB (linKp C12i D12_2) D12_2 = E12_2 := by decide +kernel
theorem step12_2 (A1 A2 A : Option Addr) (c1 c2 c : Nat) (w : World) (hC : ConIn w 3 5 2 A1 A2 Option.none 2 c1 1 c2 0 0 C12i) (hS : Doms w A 2 D12_2) (hT : Tab w) :
    Calls Tryd.prog 10 #[.agg #[.int .i64 3, .slice A1 2 c1, .slice A2 1 c2, .int .i64 5, .int .i64 2, .slice Option.none 0 0], .slice A 2 c] w (StepPost (some E12_2) w) := by
  have := linstep_law 3 5 2 A1 A2 Option.none 2 c1 1 c2 0 0 C12i A 2 c D12_2 w hC hS hT (by decide)
  rwa [if_pos go12_2, res12_2] at this

theorem awake12 (w : World) (hT : Tab w) : Calls Tryd.prog 8 #[] w fun e w' => e = .returned (.bool true) ∧ Kept w w' := by
  have HT := Lib.hid hT
  clear hT
  go_enter Tryd.func8, Tryd.ntmps8
  go_wp2_with fail
  have HF := fun k o h => (heap_allocs [.cells #[.int .i64 0, .int .i64 1, .int .i64 2, .int .i64 3] 3,
    .cells #[.slice (some ⟨w.heap.size, 0, Option.none⟩) 4 4, .int .u64 15] 47,
    .cells #[.int .i64 0, .int .i64 1] 3,
    .cells #[.int .i64 1, .int .i64 1] 3,
    .cells #[.int .i64 1, .slice (some ⟨w.heap.size + 1 + 1, 0, Option.none⟩) 2 2, .slice (some ⟨w.heap.size + 1 + 1 + 1, 0, Option.none⟩) 2 2, .int .i64 0, .int .i64 5, .slice Option.none 0 0] 24,
    .cells #[.slice (some ⟨w.heap.size, 0, Option.none⟩) 4 4, .int .u64 15, .slice (some ⟨w.heap.size, 0, Option.none⟩) 4 4, .int .u64 15] 47] w k o h).1
  have F0 := HF 0 _ rfl
  have F1 := HF 1 _ rfl
  have F2 := HF 2 _ rfl
  have F3 := HF 3 _ rfl
  have F4 := HF 4 _ rfl
  have F5 := HF 5 _ rfl
  have HKw := Lib.hid (heap_allocs.kept_allocs [.cells #[.int .i64 0, .int .i64 1, .int .i64 2, .int .i64 3] 3,
    .cells #[.slice (some ⟨w.heap.size, 0, Option.none⟩) 4 4, .int .u64 15] 47,
    .cells #[.int .i64 0, .int .i64 1] 3,
    .cells #[.int .i64 1, .int .i64 1] 3,
    .cells #[.int .i64 1, .slice (some ⟨w.heap.size + 1 + 1, 0, Option.none⟩) 2 2, .slice (some ⟨w.heap.size + 1 + 1 + 1, 0, Option.none⟩) 2 2, .int .i64 0, .int .i64 5, .slice Option.none 0 0] 24,
    .cells #[.slice (some ⟨w.heap.size, 0, Option.none⟩) 4 4, .int .u64 15, .slice (some ⟨w.heap.size, 0, Option.none⟩) 4 4, .int .u64 15] 47] w)
  show Calls Tryd.prog 10 _ (allocs w [.cells #[.int .i64 0, .int .i64 1, .int .i64 2, .int .i64 3] 3,
    .cells #[.slice (some ⟨w.heap.size, 0, Option.none⟩) 4 4, .int .u64 15] 47,
    .cells #[.int .i64 0, .int .i64 1] 3,
    .cells #[.int .i64 1, .int .i64 1] 3,
    .cells #[.int .i64 1, .slice (some ⟨w.heap.size + 1 + 1, 0, Option.none⟩) 2 2, .slice (some ⟨w.heap.size + 1 + 1 + 1, 0, Option.none⟩) 2 2, .int .i64 0, .int .i64 5, .slice Option.none 0 0] 24,
    .cells #[.slice (some ⟨w.heap.size, 0, Option.none⟩) 4 4, .int .u64 15, .slice (some ⟨w.heap.size, 0, Option.none⟩) 4 4, .int .u64 15] 47]) _
  generalize allocs w [.cells #[.int .i64 0, .int .i64 1, .int .i64 2, .int .i64 3] 3,
    .cells #[.slice (some ⟨w.heap.size, 0, Option.none⟩) 4 4, .int .u64 15] 47,
    .cells #[.int .i64 0, .int .i64 1] 3,
    .cells #[.int .i64 1, .int .i64 1] 3,
    .cells #[.int .i64 1, .slice (some ⟨w.heap.size + 1 + 1, 0, Option.none⟩) 2 2, .slice (some ⟨w.heap.size + 1 + 1 + 1, 0, Option.none⟩) 2 2, .int .i64 0, .int .i64 5, .slice Option.none 0 0] 24,
    .cells #[.slice (some ⟨w.heap.size, 0, Option.none⟩) 4 4, .int .u64 15, .slice (some ⟨w.heap.size, 0, Option.none⟩) 4 4, .int .u64 15] 47] = W0 at *
  have I0 : Hid (Ints W0 (some ⟨w.heap.size, 0, Option.none⟩) 4 [0, 1, 2, 3]) := Ints.of_cells (xs := [0, 1, 2, 3]) F0 (by decide) (by decide) rfl
  have HC : Hid (ConIn W0 1 0 5 (some ⟨w.heap.size + 1 + 1, 0, Option.none⟩) (some ⟨w.heap.size + 1 + 1 + 1, 0, Option.none⟩) Option.none 2 2 2 2 0 0 C12) :=
    ⟨rfl, rfl, rfl, Ints.of_cells (xs := [0, 1]) F2 (by decide) (by decide) rfl, Ints.of_cells (xs := [1, 1]) F3 (by decide) (by decide) rfl, Ints.none _, by decide, by decide, by decide, by decide, by decide⟩
  have HD0 : Hid (Doms W0 (some ⟨w.heap.size + 1 + 1 + 1 + 1 + 1, 0, Option.none⟩) 2 D12_0) := Doms.of_heap F5 rfl (by decide) (by decide) (fun j hj => by
    match j, hj with
    | 0, _ => exact ⟨_, _, _, rfl, rfl, I0.out⟩
    | 1, _ => exact ⟨_, _, _, rfl, rfl, I0.out⟩)
  have HB0 := Lib.hid F1
  have HBc := Lib.hid F4
  clear HF F0 F1 F2 F3 F4 F5
  refine (step12_0 _ _ _ _ _ _ _ HC.out HD0.out (HT.out.kept HKw.out)).mono ?_
  rintro e W1 ⟨A0', c0', rfl, hD0, hk⟩
  have HW0 := Lib.hid hk
  have HR0 := Lib.hid hD0
  have h0 := HW0.out.heapAt HB0.out
  have a0_0 := cell_at h0 0
  have a0_1 := cell_at h0 1
  have hc := HW0.out.heapAt HBc.out
  have ac_0 := cell_at hc 0
  have ac_1 := cell_at hc 1
  have ac_2 := cell_at hc 2
  have ac_3 := cell_at hc 3
  have ac_4 := cell_at hc 4
  have ac_5 := cell_at hc 5
  simp only [List.getElem?_toArray, List.getElem?_cons_zero, List.getElem?_cons_succ] at a0_0 a0_1 ac_0 ac_1 ac_2 ac_3 ac_4 ac_5
  clear h0 hc hk hD0
  have el0 : E12_0.length = 2 := rfl
  simp only [el0]
  go_wp2_with fail
  clear a0_0 a0_1 ac_0 ac_1 ac_2 ac_3 ac_4 ac_5
  refine (step12_1 _ _ _ _ _ _ _ (HC.out.kept (HW0.out.then (Kept.box _ _))) (Doms.of_heap (ds := D12_1) (heap_new _ _) rfl (by decide) (by decide) (fun j hj => by
    match j, hj with
    | 0, _ => exact ⟨_, _, _, rfl, rfl, I0.out.kept (HW0.out.then (Kept.box _ _))⟩)) (HT.out.kept (HKw.out.then (HW0.out.then (Kept.box _ _))))).mono ?_
  rintro e W2 ⟨rfl, hk⟩
  have HW1 := Lib.hid (HW0.out.then ((Kept.box _ _).then hk))
  have HR0 := Lib.hid (HR0.out.kept ((Kept.box _ _).then hk))
  have h9 := HW1.out.heapAt HB0.out
  have a9_0 := cell_at h9 0
  have a9_1 := cell_at h9 1
  simp only [List.getElem?_toArray, List.getElem?_cons_zero, List.getElem?_cons_succ] at a9_0 a9_1
  have hl9 : w.heap.size + 1 < W2.heap.size := lt_at h9
  have hlA : w.heap.size + 1 < W2.heap.size + 1 := by omega
  have hlB : w.heap.size + 1 < W2.heap.size + 1 + 1 := by omega
  have hlC : w.heap.size + 1 < W2.heap.size + 1 + 1 + 1 := by omega
  have hlD : w.heap.size + 1 < W2.heap.size + 1 + 1 + 1 + 1 := by omega
  clear h9 hk
  go_wp2_with fail
  clear a9_0 a9_1
  have HF := fun k o h => (heap_allocs [.cells #[.int .i64 0, .int .i64 1] 3,
    .cells #[.int .i64 1] 3,
    .cells #[.int .i64 3, .slice (some ⟨W2.heap.size, 0, Option.none⟩) 2 2, .slice (some ⟨W2.heap.size + 1, 0, Option.none⟩) 1 1, .int .i64 5, .int .i64 2, .slice Option.none 0 0] 24,
    .cells #[.int .i64 0, .int .i64 1, .int .i64 2] 3,
    .cells #[.slice (some ⟨W2.heap.size + 1 + 1 + 1, 0, Option.none⟩) 3 3, .int .u64 6, .slice (some ⟨w.heap.size, 0, Option.none⟩) 4 4, .int .u64 15] 47] W2 k o h).1
  have F0 := HF 0 _ rfl
  have F1 := HF 1 _ rfl
  have F3 := HF 3 _ rfl
  have F4 := HF 4 _ rfl
  have HKv := Lib.hid (heap_allocs.kept_allocs [.cells #[.int .i64 0, .int .i64 1] 3,
    .cells #[.int .i64 1] 3,
    .cells #[.int .i64 3, .slice (some ⟨W2.heap.size, 0, Option.none⟩) 2 2, .slice (some ⟨W2.heap.size + 1, 0, Option.none⟩) 1 1, .int .i64 5, .int .i64 2, .slice Option.none 0 0] 24,
    .cells #[.int .i64 0, .int .i64 1, .int .i64 2] 3,
    .cells #[.slice (some ⟨W2.heap.size + 1 + 1 + 1, 0, Option.none⟩) 3 3, .int .u64 6, .slice (some ⟨w.heap.size, 0, Option.none⟩) 4 4, .int .u64 15] 47] W2)
  show Calls Tryd.prog 10 _ (allocs W2 [.cells #[.int .i64 0, .int .i64 1] 3,
    .cells #[.int .i64 1] 3,
    .cells #[.int .i64 3, .slice (some ⟨W2.heap.size, 0, Option.none⟩) 2 2, .slice (some ⟨W2.heap.size + 1, 0, Option.none⟩) 1 1, .int .i64 5, .int .i64 2, .slice Option.none 0 0] 24,
    .cells #[.int .i64 0, .int .i64 1, .int .i64 2] 3,
    .cells #[.slice (some ⟨W2.heap.size + 1 + 1 + 1, 0, Option.none⟩) 3 3, .int .u64 6, .slice (some ⟨w.heap.size, 0, Option.none⟩) 4 4, .int .u64 15] 47]) _
  generalize allocs W2 [.cells #[.int .i64 0, .int .i64 1] 3,
    .cells #[.int .i64 1] 3,
    .cells #[.int .i64 3, .slice (some ⟨W2.heap.size, 0, Option.none⟩) 2 2, .slice (some ⟨W2.heap.size + 1, 0, Option.none⟩) 1 1, .int .i64 5, .int .i64 2, .slice Option.none 0 0] 24,
    .cells #[.int .i64 0, .int .i64 1, .int .i64 2] 3,
    .cells #[.slice (some ⟨W2.heap.size + 1 + 1 + 1, 0, Option.none⟩) 3 3, .int .u64 6, .slice (some ⟨w.heap.size, 0, Option.none⟩) 4 4, .int .u64 15] 47] = W3 at *
  have J0 : Hid (Ints W3 (some ⟨W2.heap.size + 1 + 1 + 1, 0, Option.none⟩) 3 [0, 1, 2]) := Ints.of_cells (xs := [0, 1, 2]) F3 (by decide) (by decide) rfl
  have HC2 : Hid (ConIn W3 3 5 2 (some ⟨W2.heap.size, 0, Option.none⟩) (some ⟨W2.heap.size + 1, 0, Option.none⟩) Option.none 2 2 1 1 0 0 C12i) :=
    ⟨rfl, rfl, rfl, Ints.of_cells (xs := [0, 1]) F0 (by decide) (by decide) rfl, Ints.of_cells (xs := [1]) F1 (by decide) (by decide) rfl, Ints.none _, by decide, by decide, by decide, by decide, by decide⟩
  have HD2 : Hid (Doms W3 (some ⟨W2.heap.size + 1 + 1 + 1 + 1, 0, Option.none⟩) 2 D12_2) := Doms.of_heap F4 rfl (by decide) (by decide) (fun j hj => by
    match j, hj with
    | 0, _ => exact ⟨_, _, _, rfl, rfl, J0.out⟩
    | 1, _ => exact ⟨_, _, _, rfl, rfl, I0.out.kept (HW1.out.then HKv.out)⟩)
  clear HF F0 F1 F3 F4
  refine (step12_2 _ _ _ _ _ _ _ HC2.out HD2.out (HT.out.kept ((HKw.out.then HW1.out).then HKv.out))).mono ?_
  rintro e W4 ⟨A2', c2', rfl, hD2, hk⟩
  have HW2 := Lib.hid ((HW1.out.then HKv.out).then hk)
  have HR0 := Lib.hid (HR0.out.kept (HKv.out.then hk))
  have HR2 := Lib.hid hD2
  clear hk hD2
  have el2 : E12_2.length = 2 := rfl
  simp only [el2]
  obtain ⟨b0, off0, hb0, hcc0⟩ := HR0.out.plain (by decide)
  subst hb0
  have q0_0 := hcc0 0 (by decide)
  have e0_0 : ((E12_0.getD 0 nilD).2 : Nat) = 12 := by decide
  rw [e0_0] at q0_0
  clear e0_0
  have q0_1 := hcc0 1 (by decide)
  have e0_1 : ((E12_0.getD 1 nilD).2 : Nat) = 12 := by decide
  rw [e0_1] at q0_1
  clear e0_1
  clear hcc0
  obtain ⟨b2, off2, hb2, hcc2⟩ := HR2.out.plain (by decide)
  subst hb2
  have q2_0 := hcc2 0 (by decide)
  have e2_0 : ((E12_2.getD 0 nilD).2 : Nat) = 2 := by decide
  rw [e2_0] at q2_0
  clear e2_0
  have q2_1 := hcc2 1 (by decide)
  have e2_1 : ((E12_2.getD 1 nilD).2 : Nat) = 12 := by decide
  rw [e2_1] at q2_1
  clear e2_1
  clear hcc2
  have HKe := Lib.hid (HKw.out.then HW2.out)
  have cb2 : contraB 2 = 5 := rfl
  have cb9 : contraB 9 = 9 := rfl
  go_wp2_with (go_at_call 19; refine (lincontrary_any _ _).mono ?_; rintro e w' ⟨rfl, rfl⟩)
  go_ret
  exact ⟨rfl, HKe.out⟩
end Go.Proofs.YtekcenacpklpgaaDoor

set_option maxHeartbeats 1000000
set_option maxRecDepth 10000
namespace Go.Proofs.YtekcenacpklpgaaDoor
open Go Go.RowKit Pl

theorem falls12_any (K R Ct : Int) (A1 A2 A3 : Option Addr) (n1 c1 n2 c2 n3 c3 : Nat) (C : ConB) (A B : Option Addr) (n c m d : Nat) (ds : List DomB) (ms : List Nat) (w : World) (hC : ConIn w K R Ct A1 A2 A3 n1 c1 n2 c2 n3 c3 C) (hS : Doms w A n ds) (hM : Words w B m ms) (hT : Tab w) :
    Calls Tryd.prog 5 #[.agg #[.int .i64 K, .slice A1 n1 c1, .slice A2 n2 c2, .int .i64 R, .int .i64 Ct, .slice A3 n3 c3], .slice A n c, .slice B m d] w fun e w' => e = .returned (.bool true) ∧ Kept w w' := by
  have HC := Lib.hid hC
  have HS := Lib.hid hS
  have HM := Lib.hid hM
  have HT := Lib.hid hT
  have Hlen := Lib.hid hS.len
  clear hC hS hM hT
  have hhB : ∀ W, Kept (w.alloc (.cells #[.int .i64 K, .slice A1 n1 c1, .slice A2 n2 c2, .int .i64 R, .int .i64 Ct, .slice A3 n3 c3] 24)) W → W.heap[w.heap.size]? = some (.cells #[.int .i64 K, .slice A1 n1 c1, .slice A2 n2 c2, .int .i64 R, .int .i64 Ct, .slice A3 n3 c3] 24) := fun W h => h.heapAt (heap_new _ _)
  have HB := Lib.hid hhB
  clear hhB
  go_enter Tryd.func5, Tryd.ntmps5
  go_wp2_with fail
  refine (awake12 _ (HT.out.kept (Kept.box _ _))).mono ?_
  rintro e W1 ⟨rfl, hk1⟩
  have hb := HB.out W1 hk1
  have b0 := cell_at hb 0
  have b1 := cell_at hb 1
  have b2 := cell_at hb 2
  have b3 := cell_at hb 3
  have b4 := cell_at hb 4
  have b5 := cell_at hb 5
  simp only [List.getElem?_toArray, List.getElem?_cons_zero, List.getElem?_cons_succ] at b0 b1 b2 b3 b4 b5
  clear hb
  have Hk1 := Lib.hid hk1
  have HK1 := Lib.hid ((Kept.box _ _).then hk1)
  clear hk1
  go_wp2_with fail
  refine (large_any K R Ct A1 A2 A3 n1 c1 n2 c2 n3 c3 C A n c ds _ (HC.out.kept HK1.out) (HS.out.kept HK1.out)).mono ?_
  rintro e W2 ⟨bl, rfl, hn, hk2⟩
  clear b0 b1 b2 b3 b4 b5
  have hb := HB.out W2 (Hk1.out.then hk2)
  have b0 := cell_at hb 0
  have b1 := cell_at hb 1
  have b2 := cell_at hb 2
  have b3 := cell_at hb 3
  have b4 := cell_at hb 4
  have b5 := cell_at hb 5
  simp only [List.getElem?_toArray, List.getElem?_cons_zero, List.getElem?_cons_succ] at b0 b1 b2 b3 b4 b5
  clear hb
  have Hk2 := Lib.hid (Hk1.out.then hk2)
  have HK2 := Lib.hid (HK1.out.then hk2)
  clear hk2
  cases bl with
  | true =>
    clear b0 b1 b2 b3 b4 b5
    go_wp2_with fail
    go_ret
    exact ⟨rfl, HK2.out⟩
  | false =>
    have hn := hn rfl
    have HF := Lib.hid (few_fewer ds ms n)
    go_wp2_with fail
    have HStep : Hid (∀ (ds' : List DomB) (A' : Option Addr) (c' : Nat) W, Kept w W → Doms W A' n ds' → Calls Tryd.prog 10 #[.agg #[.int .i64 K, .slice A1 n1 c1, .slice A2 n2 c2, .int .i64 R, .int .i64 Ct, .slice A3 n3 c3], .slice A' n c'] W (StepPost (if linGo C ds' = true then some (stepB (linKp C ds') ds') else Option.none) W)) := fun ds' A' c' W hW hD =>
      linstep_law K R Ct A1 A2 A3 n1 c1 n2 c2 n3 c3 C A' n c' ds' W (HC.out.kept hW) hD (HT.out.kept hW) (by omega)
    have Hfl : Hid ((fewUpto ds ms n).length = n) := by show _ = _; rw [fewUpto_length]; exact Hlen.out
    have HFew : Hid (∀ W, Kept w W → Calls Tryd.prog 18 #[.slice A n c, .slice B m d] W fun e w' => ∃ A' c', e = .returned (.slice A' n c') ∧ Doms w' A' n (fewUpto ds ms n) ∧ Kept W w') := fun W hW =>
      (fewer_any A B n c m d ds ms W (HS.out.kept hW) (HM.out.kept hW) (by omega)).mono fun e w' ⟨A', c', he, hD, hk⟩ => ⟨A', c', by rw [he, Hfl.out], by rw [Hfl.out] at hD; exact hD, hk⟩
    have H1 := HStep.out ds A c _ HK2.out (HS.out.kept HK2.out)
    cases hg : linGo C ds with
    | false =>
      rw [if_neg (by rw [hg]; decide)] at H1
      refine H1.mono ?_
      rintro e W3 ⟨rfl, hk3⟩
      have Hk3 := Lib.hid (Hk2.out.then hk3)
      have HK3 := Lib.hid (HK2.out.then hk3)
      clear H1 hk3 b0 b1 b2 b3 b4 b5
      have hb := HB.out W3 Hk3.out
      have b0 := cell_at hb 0
      have b1 := cell_at hb 1
      have b2 := cell_at hb 2
      have b3 := cell_at hb 3
      have b4 := cell_at hb 4
      have b5 := cell_at hb 5
      simp only [List.getElem?_toArray, List.getElem?_cons_zero, List.getElem?_cons_succ] at b0 b1 b2 b3 b4 b5
      clear hb
      go_wp2_with fail
      cases hg2 : linGo C (fewUpto ds ms n) with
      | false =>
        go_region_held3 (fun W => (W.cell? ⟨w.heap.size, 0, Option.none⟩ = some (.int .i64 K) ∧ W.cell? ⟨w.heap.size, 1, Option.none⟩ = some (.slice A1 n1 c1) ∧ W.cell? ⟨w.heap.size, 2, Option.none⟩ = some (.slice A2 n2 c2) ∧ W.cell? ⟨w.heap.size, 3, Option.none⟩ = some (.int .i64 R) ∧ W.cell? ⟨w.heap.size, 4, Option.none⟩ = some (.int .i64 Ct) ∧ W.cell? ⟨w.heap.size, 5, Option.none⟩ = some (.slice A3 n3 c3))) (first | go_keep | exact conbox6 (HB.out _ (Hk3.out.then ((Kept.drewn _).then hk4))) | exact conbox6 (HB.out _ (Hk3.out.then (((Kept.drewn _).then hk4).then hk5))))
          (first
            | (go_at_call 18; refine (HFew.out _ (HK3.out.then (Kept.drewn _))).mono ?_; rintro e W4 ⟨A4, c4, rfl, hD4, hk4⟩)
            | (go_at_call 10; have H2 := HStep.out _ A4 c4 _ (HK3.out.then ((Kept.drewn _).then hk4)) hD4; rw [if_neg (by rw [hg2]; decide)] at H2; refine H2.mono ?_; rintro e W5 ⟨rfl, hk5⟩))
        have HK5 := Lib.hid (HK3.out.then (((Kept.drewn _).then hk4).then hk5))
        clear b0 b1 b2 b3 b4 b5
        go_wp2_with fail
        go_ret
        exact ⟨rfl, HK5.out⟩
      | true =>
        go_region_held3 (fun W => (W.cell? ⟨w.heap.size, 0, Option.none⟩ = some (.int .i64 K) ∧ W.cell? ⟨w.heap.size, 1, Option.none⟩ = some (.slice A1 n1 c1) ∧ W.cell? ⟨w.heap.size, 2, Option.none⟩ = some (.slice A2 n2 c2) ∧ W.cell? ⟨w.heap.size, 3, Option.none⟩ = some (.int .i64 R) ∧ W.cell? ⟨w.heap.size, 4, Option.none⟩ = some (.int .i64 Ct) ∧ W.cell? ⟨w.heap.size, 5, Option.none⟩ = some (.slice A3 n3 c3))) (first | go_keep | exact conbox6 (HB.out _ (Hk3.out.then ((Kept.drewn _).then hk4))) | exact conbox6 (HB.out _ (Hk3.out.then (((Kept.drewn _).then hk4).then hk5))))
          (first
            | (go_at_call 18; refine (HFew.out _ (HK3.out.then (Kept.drewn _))).mono ?_; rintro e W4 ⟨A4, c4, rfl, hD4, hk4⟩)
            | (go_at_call 10; have H2 := HStep.out _ A4 c4 _ (HK3.out.then ((Kept.drewn _).then hk4)) hD4; rw [if_pos hg2] at H2; refine H2.mono ?_; rintro e W5 ⟨A5, c5, rfl, hD5, hk5⟩))
        have HK5 := Lib.hid (HK3.out.then (((Kept.drewn _).then hk4).then hk5))
        clear b0 b1 b2 b3 b4 b5
        go_wp2_with fail
        go_ret
        exact ⟨rfl, HK5.out⟩
    | true =>
      have Hw := Lib.hid (lin_falls HF.out hg)
      have hg2 := lin_go_less HF.out hg
      rw [if_pos hg] at H1
      refine H1.mono ?_
      rintro e W3 ⟨Aa, ca, rfl, hDa, hk3⟩
      have Hk3 := Lib.hid (Hk2.out.then hk3)
      have HK3 := Lib.hid (HK2.out.then hk3)
      have HDa := Lib.hid hDa
      clear H1 hk3 hDa b0 b1 b2 b3 b4 b5
      have hb := HB.out W3 Hk3.out
      have b0 := cell_at hb 0
      have b1 := cell_at hb 1
      have b2 := cell_at hb 2
      have b3 := cell_at hb 3
      have b4 := cell_at hb 4
      have b5 := cell_at hb 5
      simp only [List.getElem?_toArray, List.getElem?_cons_zero, List.getElem?_cons_succ] at b0 b1 b2 b3 b4 b5
      clear hb
      go_wp2_with fail
      go_region_held3 (fun W => (W.cell? ⟨w.heap.size, 0, Option.none⟩ = some (.int .i64 K) ∧ W.cell? ⟨w.heap.size, 1, Option.none⟩ = some (.slice A1 n1 c1) ∧ W.cell? ⟨w.heap.size, 2, Option.none⟩ = some (.slice A2 n2 c2) ∧ W.cell? ⟨w.heap.size, 3, Option.none⟩ = some (.int .i64 R) ∧ W.cell? ⟨w.heap.size, 4, Option.none⟩ = some (.int .i64 Ct) ∧ W.cell? ⟨w.heap.size, 5, Option.none⟩ = some (.slice A3 n3 c3))) (first | go_keep | exact conbox6 (HB.out _ (Hk3.out.then ((Kept.drewn _).then hk4))) | exact conbox6 (HB.out _ (Hk3.out.then (((Kept.drewn _).then hk4).then hk5))))
        (first
          | (go_at_call 18; refine (HFew.out _ (HK3.out.then (Kept.drewn _))).mono ?_; rintro e W4 ⟨A4, c4, rfl, hD4, hk4⟩)
          | (go_at_call 10; have H2 := HStep.out _ A4 c4 _ (HK3.out.then ((Kept.drewn _).then hk4)) hD4; rw [if_pos hg2] at H2; refine H2.mono ?_; rintro e W5 ⟨A5, c5, rfl, hD5, hk5⟩))
      have HK5 := Lib.hid (HK3.out.then (((Kept.drewn _).then hk4).then hk5))
      have HDa5 := Lib.hid (HDa.out.kept (((Kept.drewn _).then hk4).then hk5))
      have HD5 := Lib.hid hD5
      clear b0 b1 b2 b3 b4 b5 hD4 hk4 hD5 hk5
      go_wp2_with fail
      refine (within_any _ _ _ _ _ _ _ _ _ HD5.out HDa5.out).mono ?_
      rw [Hw.out]
      rintro e W6 ⟨rfl, hk6⟩
      have HK6 := Lib.hid (HK5.out.then hk6)
      clear hk6
      go_wp2_with fail
      go_ret
      exact ⟨rfl, HK6.out⟩
end Go.Proofs.YtekcenacpklpgaaDoor

set_option maxHeartbeats 1000000
set_option maxRecDepth 10000
namespace Go.Proofs.YtekcenacpklpgaaDoor
open Go Go.RowKit Pl

theorem tells12_any (K R Ct : Int) (A1 A2 A3 : Option Addr) (n1 c1 n2 c2 n3 c3 : Nat) (C : ConB) (A : Option Addr) (n c : Nat) (ds : List DomB) (w : World) (hC : ConIn w K R Ct A1 A2 A3 n1 c1 n2 c2 n3 c3 C) (hS : Doms w A n ds) (hT : Tab w) :
    Calls Tryd.prog 3 #[.agg #[.int .i64 K, .slice A1 n1 c1, .slice A2 n2 c2, .int .i64 R, .int .i64 Ct, .slice A3 n3 c3], .slice A n c] w fun e w' => e = .returned (.bool true) ∧ Kept w w' := by
  have HC := Lib.hid hC
  have HS := Lib.hid hS
  have HT := Lib.hid hT
  have Hlen := Lib.hid hS.len
  clear hC hS hT
  have hhB : ∀ W, Kept (w.alloc (.cells #[.int .i64 K, .slice A1 n1 c1, .slice A2 n2 c2, .int .i64 R, .int .i64 Ct, .slice A3 n3 c3] 24)) W → W.heap[w.heap.size]? = some (.cells #[.int .i64 K, .slice A1 n1 c1, .slice A2 n2 c2, .int .i64 R, .int .i64 Ct, .slice A3 n3 c3] 24) := fun W h => h.heapAt (heap_new _ _)
  have HB := Lib.hid hhB
  clear hhB
  go_enter Tryd.func3, Tryd.ntmps3
  go_wp2_with fail
  refine (awake12 _ (HT.out.kept (Kept.box _ _))).mono ?_
  rintro e W1 ⟨rfl, hk1⟩
  have hb := HB.out W1 hk1
  have b0 := cell_at hb 0
  have b1 := cell_at hb 1
  have b2 := cell_at hb 2
  have b3 := cell_at hb 3
  have b4 := cell_at hb 4
  have b5 := cell_at hb 5
  simp only [List.getElem?_toArray, List.getElem?_cons_zero, List.getElem?_cons_succ] at b0 b1 b2 b3 b4 b5
  clear hb
  have Hk1 := Lib.hid hk1
  have HK1 := Lib.hid ((Kept.box _ _).then hk1)
  clear hk1
  go_wp2_with fail
  refine (large_any K R Ct A1 A2 A3 n1 c1 n2 c2 n3 c3 C A n c ds _ (HC.out.kept HK1.out) (HS.out.kept HK1.out)).mono ?_
  rintro e W2 ⟨bl, rfl, hn, hk2⟩
  clear b0 b1 b2 b3 b4 b5
  have hb := HB.out W2 (Hk1.out.then hk2)
  have b0 := cell_at hb 0
  have b1 := cell_at hb 1
  have b2 := cell_at hb 2
  have b3 := cell_at hb 3
  have b4 := cell_at hb 4
  have b5 := cell_at hb 5
  simp only [List.getElem?_toArray, List.getElem?_cons_zero, List.getElem?_cons_succ] at b0 b1 b2 b3 b4 b5
  clear hb
  have Hk2 := Lib.hid (Hk1.out.then hk2)
  have HK2 := Lib.hid (HK1.out.then hk2)
  clear hk2
  cases bl with
  | true =>
    clear b0 b1 b2 b3 b4 b5
    go_wp2_with fail
    go_ret
    exact ⟨rfl, HK2.out⟩
  | false =>
    have hn20 : n ≤ 20 := hn rfl
    clear hn
    go_wp2_with fail
    have H1 := linstep_law K R Ct A1 A2 A3 n1 c1 n2 c2 n3 c3 C A n c ds _ (HC.out.kept HK2.out) (HS.out.kept HK2.out) (HT.out.kept HK2.out) (by omega)
    have H2 : Hid (∀ W A' c', Kept w W → Doms W A' n ds → Calls Tryd.prog 11 #[.agg #[.int .i64 K, .slice A1 n1 c1, .slice A2 n2 c2, .int .i64 R, .int .i64 Ct, .slice A3 n3 c3], .slice A' n c'] W (StepPost (if linGo C ds = true then some (stepB (linKp C ds) ds) else Option.none) W)) := fun W A' c' hW hD =>
      rstep12_any K R Ct A1 A2 A3 n1 c1 n2 c2 n3 c3 C A' n c' ds W (HC.out.kept hW) hD (by omega)
    cases hg : linGo C ds with
    | false =>
      rw [if_neg (by rw [hg]; decide)] at H1 H2
      refine H1.mono ?_
      rintro e W3 ⟨rfl, hk3⟩
      have Hk3 := Lib.hid (Hk2.out.then hk3)
      have HK3 := Lib.hid (HK2.out.then hk3)
      clear H1 hk3 b0 b1 b2 b3 b4 b5
      have hb := HB.out W3 Hk3.out
      have b0 := cell_at hb 0
      have b1 := cell_at hb 1
      have b2 := cell_at hb 2
      have b3 := cell_at hb 3
      have b4 := cell_at hb 4
      have b5 := cell_at hb 5
      simp only [List.getElem?_toArray, List.getElem?_cons_zero, List.getElem?_cons_succ] at b0 b1 b2 b3 b4 b5
      clear hb
      go_wp2_with fail
      go_region_held3 (fun W => (W.cell? ⟨w.heap.size, 0, Option.none⟩ = some (.int .i64 K) ∧ W.cell? ⟨w.heap.size, 1, Option.none⟩ = some (.slice A1 n1 c1) ∧ W.cell? ⟨w.heap.size, 2, Option.none⟩ = some (.slice A2 n2 c2) ∧ W.cell? ⟨w.heap.size, 3, Option.none⟩ = some (.int .i64 R) ∧ W.cell? ⟨w.heap.size, 4, Option.none⟩ = some (.int .i64 Ct) ∧ W.cell? ⟨w.heap.size, 5, Option.none⟩ = some (.slice A3 n3 c3))) (first | go_keep | exact conbox6 (HB.out _ (Hk3.out.then ((Kept.drewn _).then hk4))) | exact conbox6 (HB.out _ (Hk3.out.then (((Kept.drewn _).then hk4).then hk5))))
        (first
          | (go_at_call 12; refine (own_any A n c ds _ (HS.out.kept (HK3.out.then (Kept.drewn _))) (by omega)).mono ?_; rintro e W4 ⟨A4, c4, rfl, hD4, hk4⟩; rw [Hlen.out] at hD4 ⊢)
          | (go_at_call 11; refine (H2.out _ A4 c4 (HK3.out.then ((Kept.drewn _).then hk4)) hD4).mono ?_; rintro e W5 ⟨rfl, hk5⟩))
      have HK5 := Lib.hid (HK3.out.then (((Kept.drewn _).then hk4).then hk5))
      clear b0 b1 b2 b3 b4 b5 hD4 hk4 hk5 H2
      go_wp2_with fail
      refine (own_any Option.none 0 0 [] W5 (doms_nil W5) (by omega)).mono ?_
      rintro e W6 ⟨A6, c6, rfl, hD6, hk6⟩
      have HK6 := Lib.hid (HK5.out.then hk6)
      have HD6 := Lib.hid hD6
      clear hk6 hD6
      go_wp2_with fail
      refine (rsames_any A6 Option.none 0 c6 0 [] W6 HD6.out (doms_nil W6)).mono ?_
      rintro e W7 ⟨rfl, hk7⟩
      have HK7 := Lib.hid (HK6.out.then hk7)
      clear hk7
      go_wp2_with fail
      go_ret
      exact ⟨rfl, HK7.out⟩
    | true =>
      have Hrl : Hid ((stepB (linKp C ds) ds).length = n) := by show _ = _; rw [stepB_length]; exact Hlen.out
      rw [if_pos hg] at H1 H2
      generalize stepB (linKp C ds) ds = res at *
      refine H1.mono ?_
      rintro e W3 ⟨Aa, ca, rfl, hDa, hk3⟩
      rw [Hrl.out] at hDa ⊢
      have Hk3 := Lib.hid (Hk2.out.then hk3)
      have HK3 := Lib.hid (HK2.out.then hk3)
      have HDa := Lib.hid hDa
      clear H1 hk3 hDa b0 b1 b2 b3 b4 b5 hg
      have hb := HB.out W3 Hk3.out
      have b0 := cell_at hb 0
      have b1 := cell_at hb 1
      have b2 := cell_at hb 2
      have b3 := cell_at hb 3
      have b4 := cell_at hb 4
      have b5 := cell_at hb 5
      simp only [List.getElem?_toArray, List.getElem?_cons_zero, List.getElem?_cons_succ] at b0 b1 b2 b3 b4 b5
      clear hb
      go_wp2_with fail
      go_region_held3 (fun W => (W.cell? ⟨w.heap.size, 0, Option.none⟩ = some (.int .i64 K) ∧ W.cell? ⟨w.heap.size, 1, Option.none⟩ = some (.slice A1 n1 c1) ∧ W.cell? ⟨w.heap.size, 2, Option.none⟩ = some (.slice A2 n2 c2) ∧ W.cell? ⟨w.heap.size, 3, Option.none⟩ = some (.int .i64 R) ∧ W.cell? ⟨w.heap.size, 4, Option.none⟩ = some (.int .i64 Ct) ∧ W.cell? ⟨w.heap.size, 5, Option.none⟩ = some (.slice A3 n3 c3))) (first | go_keep | exact conbox6 (HB.out _ (Hk3.out.then ((Kept.drewn _).then hk4))) | exact conbox6 (HB.out _ (Hk3.out.then (((Kept.drewn _).then hk4).then hk5))))
        (first
          | (go_at_call 12; refine (own_any A n c ds _ (HS.out.kept (HK3.out.then (Kept.drewn _))) (by omega)).mono ?_; rintro e W4 ⟨A4, c4, rfl, hD4, hk4⟩; rw [Hlen.out] at hD4 ⊢)
          | (go_at_call 11; refine (H2.out _ A4 c4 (HK3.out.then ((Kept.drewn _).then hk4)) hD4).mono ?_; rintro e W5 ⟨A5, c5, rfl, hD5, hk5⟩; rw [Hrl.out] at hD5 ⊢))
      have HK5 := Lib.hid (HK3.out.then (((Kept.drewn _).then hk4).then hk5))
      have HD5 := Lib.hid hD5
      have HDa5 := Lib.hid (HDa.out.kept (((Kept.drewn _).then hk4).then hk5))
      clear b0 b1 b2 b3 b4 b5 hD4 hk4 hk5 hD5 H2
      go_wp2_with fail
      refine (own_any Aa n ca res W5 HDa5.out (by omega)).mono ?_
      rintro e W6 ⟨A6, c6, rfl, hD6, hk6⟩
      rw [Hrl.out] at hD6 ⊢
      have HK6 := Lib.hid (HK5.out.then hk6)
      have HD6 := Lib.hid hD6
      have HD56 := Lib.hid (HD5.out.kept hk6)
      clear hk6 hD6
      go_wp2_with fail
      refine (rsames_any A6 A5 n c6 c5 res W6 HD6.out HD56.out).mono ?_
      rintro e W7 ⟨rfl, hk7⟩
      have HK7 := Lib.hid (HK6.out.then hk7)
      clear hk7
      go_wp2_with fail
      go_ret
      exact ⟨rfl, HK7.out⟩
end Go.Proofs.YtekcenacpklpgaaDoor

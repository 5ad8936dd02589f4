/-
  The laws of the package element: awake.
-/
import Derived.Test.YthddanjmnifloaaDoorElemS
import Derived.Test.YthddanjmnifloaaDoorFewer
set_option maxHeartbeats 1000000
set_option maxRecDepth 10000
namespace Go.Proofs.YthddanjmnifloaaDoor
open Go Go.RowKit Pl

def C14 : ConB := ⟨4, [0, 1], [], 0, 0, [5, 5, 7]⟩
def D14 : List DomB := [([0, 1, 2, 3], 15), ([5, 6], 3)]
def E14 : List DomB := [([0, 1, 2, 3], 3), ([5, 6], 1)]
def F14 : List DomB := [([0, 1, 2, 3], 15)]
theorem go14 : elemGo C14 D14 = true := by decide +kernel
theorem step14 : stepB (elemKp C14 D14) D14 = E14 := by decide +kernel
theorem nogo14 : elemGo C14 F14 = false := by decide +kernel

theorem heap_newAt {w : World} {o : Obj} {n : Nat} (hn : n = w.heap.size) : (w.alloc o).heap[n]? = some o := by subst hn; exact heap_new w o
theorem Doms.of_heap {w : World} {O n : Nat} {cs : Array Value} {t : TypeId} {fr : Nat × Nat} {ds : List DomB} (h : w.heap[O]? = some (.cells cs t fr)) (hn : ds.length = n) (hs : n ≤ 1000) (hl : ∀ j, j < n → (ds.getD j nilD).2 < 2 ^ 64)
    (hd : ∀ j, j < n → ∃ B m c, cs[j * 2]? = some (.slice B m c) ∧ cs[j * 2 + 1]? = some (.int .u64 ((ds.getD j nilD).2 : Nat)) ∧ Ints w B m (ds.getD j nilD).1) : Doms w (some ⟨O, 0, Option.none⟩) n ds :=
  ⟨hn, by omega, hl, fun _ => ⟨_, rfl, fun j hj => by
    obtain ⟨B, m, c, h1, h2, h3⟩ := hd j hj
    refine ⟨B, m, c, ?_, ?_, h3⟩
    · rw [add_plain, Nat.zero_add, cell_at h]; exact h1
    · rw [add_plain, Nat.zero_add, cell_at h]; exact h2⟩⟩
theorem Doms.plain {w : World} {A : Option Addr} {n : Nat} {ds : List DomB} (h : Doms w A n ds) (hn : 0 < n) : ∃ b off, A = some ⟨b, off, Option.none⟩ ∧ ∀ j, j < n → w.cell? ⟨b, off + j * 2 + 1, Option.none⟩ = some (.int .u64 ((ds.getD j nilD).2 : Nat)) := by
  obtain ⟨a, rfl, hc⟩ := h.cell hn
  obtain ⟨_, _, _, h0, _, _⟩ := hc 0 hn
  have e0 : a.add (0 * 2) = a := by unfold Addr.add; simp
  rw [e0] at h0
  have hp := plain_of_cell h0
  refine ⟨a.block, a.off, by rw [← hp], fun j hj => ?_⟩
  obtain ⟨_, _, _, _, h2, _⟩ := hc j hj
  rw [hp, add_plain] at h2
  exact h2

/-- Blocks laid one behind the other. -/
def allocs (w : World) (os : List Obj) : World := os.foldl World.alloc w
theorem heap_allocs : ∀ (os : List Obj) (w : World) (k : Nat) (o : Obj), os[k]? = some o → (allocs w os).heap[w.heap.size + k]? = some o ∧ Kept w (allocs w os)
  | [], w, k, o, h => by simp at h
  | x :: os, w, 0, o, h => by
    have e : x = o := by simpa using h
    subst e
    have hk : Kept (w.alloc x) (allocs (w.alloc x) os) := kept_allocs os _
    exact ⟨hk.heapAt (heap_new w x), (Kept.box w x).then hk⟩
  | x :: os, w, k + 1, o, h => by
    have h' : os[k]? = some o := by simpa using h
    obtain ⟨h1, h2⟩ := heap_allocs os (w.alloc x) k o h'
    rw [World.size_alloc] at h1
    refine ⟨?_, (Kept.box w x).then h2⟩
    have e : w.heap.size + (k + 1) = w.heap.size + 1 + k := by omega
    rw [e]
    exact h1
where kept_allocs : ∀ (os : List Obj) (w : World), Kept w (allocs w os)
  | [], w => Kept.same w
  | x :: os, w => (Kept.box w x).then (kept_allocs os (w.alloc x))

theorem step14a (A1 A3 A : Option Addr) (c1 c3 c : Nat) (w : World) (hC : ConIn w 4 0 0 A1 Option.none A3 2 c1 0 0 3 c3 C14) (hS : Doms w A 2 D14) (hT : Tab w) :
    Calls Tryd.prog 30 #[.agg #[.int .i64 4, .slice A1 2 c1, .slice Option.none 0 0, .int .i64 0, .int .i64 0, .slice A3 3 c3], .slice A 2 c] w (StepPost (some E14) w) := by
  have := elemstep_any 4 0 0 A1 Option.none A3 2 c1 0 0 3 c3 C14 A 2 c D14 w hC hS hT (by decide)
  rwa [if_pos go14, step14] at this
theorem step14b (A1 A3 A : Option Addr) (c1 c3 c : Nat) (w : World) (hC : ConIn w 4 0 0 A1 Option.none A3 2 c1 0 0 3 c3 C14) (hS : Doms w A 1 F14) (hT : Tab w) :
    Calls Tryd.prog 30 #[.agg #[.int .i64 4, .slice A1 2 c1, .slice Option.none 0 0, .int .i64 0, .int .i64 0, .slice A3 3 c3], .slice A 1 c] w (StepPost Option.none w) := by
  have := elemstep_any 4 0 0 A1 Option.none A3 2 c1 0 0 3 c3 C14 A 1 c F14 w hC hS hT (by decide)
  rwa [if_neg (by rw [nogo14]; decide)] at this

theorem awake14 (w : World) (hT : Tab w) : Calls Tryd.prog 28 #[] w fun e w' => e = .returned (.bool true) ∧ Kept w w' := by
  have HT := Lib.hid hT
  clear hT
  go_enter Tryd.func28, Tryd.ntmps28
  go_wp2_with fail
  have HF := fun k o h => (heap_allocs [.cells #[.int .i64 0, .int .i64 1, .int .i64 2, .int .i64 3] 3, .cells #[.int .i64 5, .int .i64 6] 3, .cells #[.slice (some ⟨w.heap.size, 0, Option.none⟩) 4 4, .int .u64 15] 58,
    .cells #[.slice (some ⟨w.heap.size + 1, 0, Option.none⟩) 2 2, .int .u64 3] 58, .cells #[.int .i64 0, .int .i64 1] 3, .cells #[.int .i64 5, .int .i64 5, .int .i64 7] 3,
    .cells #[.int .i64 4, .slice (some ⟨w.heap.size + 1 + 1 + 1 + 1, 0, Option.none⟩) 2 2, .slice Option.none 0 0, .int .i64 0, .int .i64 0, .slice (some ⟨w.heap.size + 1 + 1 + 1 + 1 + 1, 0, Option.none⟩) 3 3] 37,
    .cells #[.slice (some ⟨w.heap.size, 0, Option.none⟩) 4 4, .int .u64 15, .slice (some ⟨w.heap.size + 1, 0, Option.none⟩) 2 2, .int .u64 3] 58] w k o h).1
  have F0 := HF 0 _ rfl
  have F1 := HF 1 _ rfl
  have F2 := HF 2 _ rfl
  have F3 := HF 3 _ rfl
  have F4 := HF 4 _ rfl
  have F5 := HF 5 _ rfl
  have F6 := HF 6 _ rfl
  have F7 := HF 7 _ rfl
  have HKw := Lib.hid (heap_allocs.kept_allocs [.cells #[.int .i64 0, .int .i64 1, .int .i64 2, .int .i64 3] 3, .cells #[.int .i64 5, .int .i64 6] 3, .cells #[.slice (some ⟨w.heap.size, 0, Option.none⟩) 4 4, .int .u64 15] 58,
    .cells #[.slice (some ⟨w.heap.size + 1, 0, Option.none⟩) 2 2, .int .u64 3] 58, .cells #[.int .i64 0, .int .i64 1] 3, .cells #[.int .i64 5, .int .i64 5, .int .i64 7] 3,
    .cells #[.int .i64 4, .slice (some ⟨w.heap.size + 1 + 1 + 1 + 1, 0, Option.none⟩) 2 2, .slice Option.none 0 0, .int .i64 0, .int .i64 0, .slice (some ⟨w.heap.size + 1 + 1 + 1 + 1 + 1, 0, Option.none⟩) 3 3] 37,
    .cells #[.slice (some ⟨w.heap.size, 0, Option.none⟩) 4 4, .int .u64 15, .slice (some ⟨w.heap.size + 1, 0, Option.none⟩) 2 2, .int .u64 3] 58] w)
  show Calls Tryd.prog 30 _ (allocs w [.cells #[.int .i64 0, .int .i64 1, .int .i64 2, .int .i64 3] 3, .cells #[.int .i64 5, .int .i64 6] 3, .cells #[.slice (some ⟨w.heap.size, 0, Option.none⟩) 4 4, .int .u64 15] 58,
    .cells #[.slice (some ⟨w.heap.size + 1, 0, Option.none⟩) 2 2, .int .u64 3] 58, .cells #[.int .i64 0, .int .i64 1] 3, .cells #[.int .i64 5, .int .i64 5, .int .i64 7] 3,
    .cells #[.int .i64 4, .slice (some ⟨w.heap.size + 1 + 1 + 1 + 1, 0, Option.none⟩) 2 2, .slice Option.none 0 0, .int .i64 0, .int .i64 0, .slice (some ⟨w.heap.size + 1 + 1 + 1 + 1 + 1, 0, Option.none⟩) 3 3] 37,
    .cells #[.slice (some ⟨w.heap.size, 0, Option.none⟩) 4 4, .int .u64 15, .slice (some ⟨w.heap.size + 1, 0, Option.none⟩) 2 2, .int .u64 3] 58]) _
  generalize allocs w [.cells #[.int .i64 0, .int .i64 1, .int .i64 2, .int .i64 3] 3, .cells #[.int .i64 5, .int .i64 6] 3, .cells #[.slice (some ⟨w.heap.size, 0, Option.none⟩) 4 4, .int .u64 15] 58,
    .cells #[.slice (some ⟨w.heap.size + 1, 0, Option.none⟩) 2 2, .int .u64 3] 58, .cells #[.int .i64 0, .int .i64 1] 3, .cells #[.int .i64 5, .int .i64 5, .int .i64 7] 3,
    .cells #[.int .i64 4, .slice (some ⟨w.heap.size + 1 + 1 + 1 + 1, 0, Option.none⟩) 2 2, .slice Option.none 0 0, .int .i64 0, .int .i64 0, .slice (some ⟨w.heap.size + 1 + 1 + 1 + 1 + 1, 0, Option.none⟩) 3 3] 37,
    .cells #[.slice (some ⟨w.heap.size, 0, Option.none⟩) 4 4, .int .u64 15, .slice (some ⟨w.heap.size + 1, 0, Option.none⟩) 2 2, .int .u64 3] 58] = W at *
  have I0 : Hid (Ints W (some ⟨w.heap.size, 0, Option.none⟩) 4 [0, 1, 2, 3]) := Ints.of_cells (xs := [0, 1, 2, 3]) F0 (by decide) (by decide) rfl
  have I1 : Hid (Ints W (some ⟨w.heap.size + 1, 0, Option.none⟩) 2 [5, 6]) := Ints.of_cells (xs := [5, 6]) F1 (by decide) (by decide) rfl
  have HC : Hid (ConIn W 4 0 0 (some ⟨w.heap.size + 1 + 1 + 1 + 1, 0, Option.none⟩) Option.none (some ⟨w.heap.size + 1 + 1 + 1 + 1 + 1, 0, Option.none⟩) 2 2 0 0 3 3 C14) :=
    ⟨rfl, rfl, rfl, Ints.of_cells (xs := [0, 1]) F4 (by decide) (by decide) rfl, Ints.none _, Ints.of_cells (xs := [5, 5, 7]) F5 (by decide) (by decide) rfl, by decide, by decide, by decide, by decide, by decide⟩
  have HD : Hid (Doms W (some ⟨w.heap.size + 1 + 1 + 1 + 1 + 1 + 1 + 1, 0, Option.none⟩) 2 D14) := Doms.of_heap F7 rfl (by decide) (by decide) (fun j hj => by
    match j, hj with
    | 0, _ => exact ⟨_, _, _, rfl, rfl, I0.out⟩
    | 1, _ => exact ⟨_, _, _, rfl, rfl, I1.out⟩)
  have H2 := Lib.hid F2
  have H6 := Lib.hid F6
  clear HF F0 F1 F2 F3 F4 F5 F6 F7
  refine (step14a _ _ _ _ _ _ _ HC.out HD.out (HT.out.kept HKw.out)).mono ?_
  rintro e W1 ⟨A, c, rfl, hD, hk⟩
  have h2 := hk.heapAt H2.out
  have h6 := hk.heapAt H6.out
  have a20 := cell_at h2 0
  have a21 := cell_at h2 1
  have a60 := cell_at h6 0
  have a61 := cell_at h6 1
  have a62 := cell_at h6 2
  have a63 := cell_at h6 3
  have a64 := cell_at h6 4
  have a65 := cell_at h6 5
  simp only [List.getElem?_toArray, List.getElem?_cons_zero, List.getElem?_cons_succ] at a20 a21 a60 a61 a62 a63 a64 a65
  have HD1 := Lib.hid hD
  have Hk1 := Lib.hid hk
  have HI1 := Lib.hid (I0.out.kept hk)
  clear h2 h6 hD hk
  go_wp2_with fail
  refine (step14b _ _ _ _ _ _ _ (HC.out.kept (Hk1.out.then (Kept.box _ _))) (Doms.of_heap (ds := F14) (heap_new _ _) rfl (by decide) (by decide) (fun j hj => by
    match j, hj with
    | 0, _ => exact ⟨_, _, _, rfl, rfl, HI1.out.kept (Kept.box _ _)⟩)) (HT.out.kept (HKw.out.then (Hk1.out.then (Kept.box _ _))))).mono ?_
  rintro e W2 ⟨rfl, hk2⟩
  obtain ⟨b, off, rfl, hc⟩ := (HD1.out.kept ((Kept.box _ _).then hk2)).plain (by decide)
  have hc0 := hc 0 (by decide)
  have hc1 := hc 1 (by decide)
  have e3 : ((E14.getD 0 nilD).2 : Nat) = 3 := by decide
  have e1 : ((E14.getD 1 nilD).2 : Nat) = 1 := by decide
  have el : E14.length = 2 := rfl
  rw [e3] at hc0
  rw [e1] at hc1
  have Hk2 := Lib.hid (HKw.out.then (Hk1.out.then ((Kept.box _ _).then hk2)))
  clear hc hk2 a20 a21 a60 a61 a62 a63 a64 a65 e3 e1
  simp only [el]
  go_wp2_with fail
  go_ret
  exact ⟨rfl, Hk2.out⟩
end Go.Proofs.YthddanjmnifloaaDoor

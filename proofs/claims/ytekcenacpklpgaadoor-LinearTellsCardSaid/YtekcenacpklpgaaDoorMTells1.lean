/-
  Contracts and plain laws that the card rests on, part 1.
-/
import Derived.WalkKit
import Derived.WalkSpells
import Derived.WalkLawsBesides
import Derived.KernelRfl
import Derived.Deep.QuietTactic
import Derived.BigQuiet
import Derived.Lib.QuietBelow
import Derived.Lib.Hide
import Derived.Laws.BitsAllLaws
import Derived.Deep.LoopGhost
import Derived.OwnWalk
import Derived.Maps.AppendAt
import Derived.Deep.DeepCutAuto
import Derived.Outline
import Derived.Deep.AppendLies
import Derived.Lib.TrailingZeros
import Derived.Lib.BitFns
import Derived.Test.YtekcenacpklpgaaDoorProg
import Derived.Shelf.Spec.TrailingZeros
import Derived.Ground.Names7Prog
import Derived.Shelf.Small.Bits
import Derived.Shelf.Strconv.Itoa0
import Derived.Shelf.Slices.Turned
import Derived.Ground.Names2Prog
import Derived.Shelf.Slices.Clone
import Derived.Ground.SlgnProg
import Derived.Shelf.SlicesE.Clone
import Derived.Test.YtekcenacpklpgaaDoorRows
import Derived.ProofKit
import Derived.LaidMore
import Derived.OpenShut
import Derived.Stop.Joined
namespace Go.Proofs.YtekcenacpklpgaaDoor
open Go Go.RowKit

/-- Nothing that was there has turned. -/
abbrev Kept (w w' : World) : Prop := Below w.heap.size w w'

theorem Kept.then {a b c : World} (h : Kept a b) (k : Kept b c) : Kept a c :=
  h.trans ⟨k.os, k.tape, k.output, k.size, fun i hi => k.block i (Nat.lt_of_lt_of_le hi h.size)⟩
theorem Kept.drewN {a b : World} (h : Kept a b) (n : Nat) : Kept a (b.drewN n) := ⟨h.os, h.tape, h.output, h.size, h.block⟩
theorem Kept.newBlock {a b : World} (h : Kept a b) (o : Obj) : Kept a (b.alloc o) := h.alloc h.size o
theorem Kept.box (w : World) (o : Obj) : Kept w (w.alloc o) := (Below.refl _ _).alloc (Nat.le_refl _) o
theorem Kept.same (w : World) : Kept w w := Below.refl _ _
theorem Kept.cellAt {w w' : World} (h : Kept w w') {a : Addr} {v : Value} (hc : w.cell? a = some v) : w'.cell? a = some v :=
  (h.cell (World.block_lt_of_cell? w a hc)).trans hc

/-- 'A', n: a slice's address and length: it reads as xs, whole numbers of 64 bits. -/
structure Ints (w : World) (A : Option Addr) (n : Nat) (xs : List Int) : Prop where
  len : xs.length = n
  small : n ≤ 9223372036854775807
  rng : ∀ x ∈ xs, -9223372036854775808 ≤ x ∧ x ≤ 9223372036854775807
  cell : 0 < n → ∃ a, A = some a ∧ ∀ j, j < n → w.cell? (a.add j) = some (.int .i64 (xs.getD j 0))

theorem Ints.kept {w w' : World} {A : Option Addr} {n : Nat} {xs : List Int} (h : Ints w A n xs) (hk : Kept w w') : Ints w' A n xs :=
  ⟨h.len, h.small, h.rng, fun hn => by
    obtain ⟨a, e, hc⟩ := h.cell hn
    exact ⟨a, e, fun j hj => hk.cellAt (hc j hj)⟩⟩

theorem Ints.getD_rng {w : World} {A : Option Addr} {n : Nat} {xs : List Int} (h : Ints w A n xs) (j : Nat) : -9223372036854775808 ≤ xs.getD j 0 ∧ xs.getD j 0 ≤ 9223372036854775807 := by
  by_cases hj : j < xs.length
  · rw [List.getD_eq_getElem?_getD, List.getElem?_eq_getElem hj]
    exact h.rng _ (List.getElem_mem hj)
  · rw [List.getD_eq_getElem?_getD, List.getElem?_eq_none (by omega)]
    exact ⟨by decide, by decide⟩


open Go.Sort in
theorem cell_grow {w : World} {a : Addr} (h : a.block < w.heap.size) (d : Nat) (os : Array Obj) : (grow (redrawn w d) os).cell? a = w.cell? a := (below_regrown w d os).cell h
attribute [go_sem] cell_grow
theorem add_block' (a : Addr) (j : Nat) : (a.add j).block = a.block := by unfold Addr.add; split <;> rfl
attribute [go_sem] add_block'
open Go.Sort in
theorem Kept.regrown {w w' : World} (h : ∃ p : Regrown, w' = grow (redrawn w p.d) p.os) : Kept w w' := by
  obtain ⟨p, rfl⟩ := h
  exact below_regrown w p.d p.os
theorem Ints.block {w : World} {a : Addr} {n : Nat} {xs : List Int} (h : Ints w (some a) n xs) (hn : 0 < n) : a.block < w.heap.size := by
  obtain ⟨b, e, hc⟩ := h.cell hn
  cases e
  have := World.block_lt_of_cell? w _ (hc 0 hn)
  rwa [add_block'] at this
/-- The number at a place, behind a name. -/
theorem Ints.named {w : World} {a : Addr} {n : Nat} {xs : List Int} (h : Ints w (some a) n xs) (k : Nat) (hk : k < n) :
    ∃ x : Int, Hid (xs.getD k 0 = x) ∧ w.cell? (a.add k) = some (.int .i64 x) ∧ -9223372036854775808 ≤ x ∧ x ≤ 9223372036854775807 := by
  obtain ⟨b, e, hc⟩ := h.cell (by omega)
  cases e
  exact ⟨_, rfl, hc k hk, h.getD_rng k⟩
theorem Ints.addr {w : World} {A : Option Addr} {n : Nat} {xs : List Int} (h : Ints w A n xs) (hn : 0 < n) : ∃ a, A = some a ∧ a.block < w.heap.size := by
  obtain ⟨a, rfl, hc⟩ := h.cell hn
  exact ⟨a, rfl, h.block hn⟩

theorem Ints.of_cells {w : World} {b : Nat} {xs : List Int} {t : TypeId} {fr : Nat × Nat} (h : w.heap[b]? = some (.cells (xs.map (Value.int .i64)).toArray t fr)) (hs : xs.length ≤ 140737488355328)
    (hr : ∀ x ∈ xs, -9223372036854775808 ≤ x ∧ x ≤ 9223372036854775807) {n : Nat} (hn : n = xs.length) : Ints w (some ⟨b, 0, none⟩) n xs :=
  ⟨hn.symm, by omega, hr, fun _ => ⟨_, rfl, fun j hj => by
    have e : (⟨b, 0, none⟩ : Addr).add j = ⟨b, j, none⟩ := by unfold Addr.add; split <;> simp_all
    rw [e]
    unfold World.cell?
    simp only [h]
    rw [List.getElem?_toArray, List.getElem?_map, List.getElem?_eq_getElem (by omega)]
    simp [List.getD_eq_getElem?_getD, List.getElem?_eq_getElem (show j < xs.length by omega)]⟩⟩
theorem Ints.none (w : World) : Ints w none 0 [] := ⟨rfl, by omega, by simp, fun h => by omega⟩
theorem heap_new (w : World) (o : Obj) : (w.alloc o).heap[w.heap.size]? = some o := by
  show (w.heap.push o)[w.heap.size]? = _
  simp
theorem heap_old {w : World} {b : Nat} {x : Obj} (o : Obj) (h : w.heap[b]? = some x) : (w.alloc o).heap[b]? = some x := by
  have hb : b < w.heap.size := (Array.getElem?_eq_some_iff.1 h).1
  rw [Below.heap_alloc w o b hb]; exact h

/-- A row that came in, as far as its length. -/
theorem Ints.of_row {w : World} {a : Option Addr} {len cap : Nat} {zs : List Int}
    (h : (a = Option.none ∧ len = 0 ∧ cap = 0 ∧ zs = []) ∨ ∃ x, a = some x ∧ len ≤ cap ∧ cap ≤ maxLen ∧ zs.length = cap ∧ (∀ i, i < zs.length → w.cell? (x.add i) = some (.int .i64 (zs.getD i 0))) ∧ ∀ n ∈ zs, (Lit.int .i64 n).wf = true) :
    Ints w a len (zs.take len) := by
  rcases h with ⟨rfl, rfl, rfl, rfl⟩ | ⟨x, rfl, h1, h2, h3, h4, h5⟩
  · exact Ints.none w
  · unfold maxLen at h2
    refine ⟨by simp; omega, by omega, fun n hn => ?_, fun _ => ⟨x, rfl, fun j hj => ?_⟩⟩
    · have := h5 n (List.mem_of_mem_take hn)
      simp [Lit.wf, IntKind.min, IntKind.max, IntKind.signed, IntKind.bits] at this
      omega
    · rw [h4 j (by omega)]
      simp [List.getD_eq_getElem?_getD, hj]

theorem own_base {w : World} {base : Nat} {e : TypeId} {size n : Nat} {v : Value} {xs : List Value} (h : w.ownsRow base e size v n xs) (k : Nat) (hk : v.ownBlock = some k) : base ≤ k := by
  rcases h.2 with ⟨rfl, _⟩ | ⟨g, cap, cur, rfl, hb, _⟩
  · simp [Value.ownBlock] at hk
  · have : g = k := by simpa [Value.ownBlock] using hk
    omega
/-- Behind an append to a row of the call's own: nothing below has turned. -/
theorem Kept.appended {w1 wr w2 : World} {base : Nat} {e : TypeId} {size n : Nat} {v : Value} {xs : List Value} (hk : Kept w1 wr) (hown : wr.ownsRow base e size v n xs) (hb : w1.heap.size ≤ base) {o : Obj} (hg : (wr.alloc o).grownBy w2 v.ownBlock) : Kept w1 w2 :=
  (hk.newBlock o).grown hg (by have := hk.size; simp; omega) (fun k hk' => Nat.le_trans hb (own_base hown k hk'))
/-- What owns a row of whole numbers reads as them. -/
theorem Ints.of_own {w : World} {base n : Nat} {e : TypeId} {v : Value} {xs : List Int} (h : w.ownsRow base e 1 v n (xs.map (Value.int .i64))) (hr : ∀ x ∈ xs, -9223372036854775808 ≤ x ∧ x ≤ 9223372036854775807) :
    ∃ A c, v = .slice A n c ∧ Ints w A n xs ∧ ∀ a, A = some a → base ≤ a.block := by
  have hl : xs.length = n := by have := h.1; simpa using this
  have hob := own_base h
  rcases Nat.eq_zero_or_pos n with h0 | h0
  · rcases h.2 with ⟨rfl, rfl⟩ | ⟨g, cap, cur, rfl, _⟩
    · exact ⟨Option.none, 0, rfl, ⟨hl, by omega, hr, fun hp => absurd hp (by omega)⟩, by simp⟩
    · exact ⟨_, cap, rfl, ⟨hl, by omega, hr, fun hp => absurd hp (by omega)⟩, fun a ha => by cases ha; exact hob g rfl⟩
  · obtain ⟨g, cap, rfl, _, _⟩ := h.form h0
    have hm : n ≤ 9223372036854775807 := by
      rcases h.2 with ⟨_, h1⟩ | ⟨g', cap', cur, he, _, _, h1, h2, _⟩
      · omega
      · simp only [maxLen] at h2
        omega
    refine ⟨_, cap, rfl, ⟨hl, hm, hr, fun _ => ⟨_, rfl, fun j hj => h.cells (g := g) rfl j _ ?_⟩⟩, fun a ha => by cases ha; exact hob g rfl⟩
    simp [List.getElem?_eq_getElem (show j < xs.length by omega), List.getD_eq_getElem?_getD]
/-- What lies there lay not there in w. -/
def Fresh (w : World) (A : Option Addr) : Prop := ∀ a, A = some a → w.heap.size ≤ a.block
theorem Fresh.none (w : World) : Fresh w Option.none := by intro a h; cases h
theorem Fresh.mono {w w' : World} {A : Option Addr} (h : Fresh w' A) (hs : w.heap.size ≤ w'.heap.size) : Fresh w A := fun a ha => Nat.le_trans hs (h a ha)
/-- A list is handed back, in memory of the call's own. -/
def ListPost (xs : List Int) (w : World) (e : Ending) (w' : World) : Prop :=
  ∃ A c, e = .returned (.slice A xs.length c) ∧ Ints w' A xs.length xs ∧ Kept w w' ∧ Fresh w A

/-- All that was there but block B has not turned. -/
structure KeptBut (B : Nat) (w w' : World) : Prop where
  os : w'.os = w.os
  tape : w'.tape = w.tape
  output : w'.output = w.output
  size : w.heap.size ≤ w'.heap.size
  block : ∀ k, k < w.heap.size → k ≠ B → w'.heap[k]? = w.heap[k]?
theorem KeptBut.refl (B : Nat) (w : World) : KeptBut B w w := ⟨rfl, rfl, rfl, Nat.le_refl _, fun _ _ _ => rfl⟩
theorem KeptBut.then {B : Nat} {a b c : World} (h : KeptBut B a b) (k : KeptBut B b c) : KeptBut B a c :=
  ⟨k.os.trans h.os, k.tape.trans h.tape, k.output.trans h.output, Nat.le_trans h.size k.size, fun i hi hB => (k.block i (Nat.lt_of_lt_of_le hi h.size) hB).trans (h.block i hi hB)⟩
theorem KeptBut.of {w w' : World} (h : Kept w w') (B : Nat) : KeptBut B w w' := ⟨h.os, h.tape, h.output, h.size, fun k hk _ => h.block k hk⟩
theorem KeptBut.set (w : World) {B : Nat} {a : Addr} (h : a.block = B) (v : Value) : KeptBut B w (w.setCell a v) :=
  ⟨rfl, rfl, rfl, by simp [World.setCell], fun k _ hB => Below.heap_setCell _ _ _ _ (by rw [h]; exact hB)⟩
theorem KeptBut.cellAt {B : Nat} {w w' : World} (h : KeptBut B w w') {a : Addr} {v : Value} (hc : w.cell? a = some v) (hB : a.block ≠ B) : w'.cell? a = some v :=
  (World.cell?_of_block (w := w) (h.block a.block (World.block_lt_of_cell? w a hc) hB)).trans hc
theorem KeptBut.kept {B : Nat} {w w' : World} (h : KeptBut B w w') (hB : w.heap.size ≤ B) : Kept w w' := ⟨h.os, h.tape, h.output, h.size, fun k hk => h.block k hk (by omega)⟩
theorem Ints.keptBut {B : Nat} {w w' : World} {A : Option Addr} {n : Nat} {xs : List Int} (h : Ints w A n xs) (hk : KeptBut B w w') (hB : ∀ a, A = some a → a.block ≠ B) : Ints w' A n xs :=
  ⟨h.len, h.small, h.rng, fun hn => by
    obtain ⟨a, e, hc⟩ := h.cell hn
    exact ⟨a, e, fun j hj => hk.cellAt (hc j hj) (by rw [add_block']; exact hB a e)⟩⟩

end Go.Proofs.YtekcenacpklpgaaDoor

namespace Go.Proofs.YtekcenacpklpgaaDoor
namespace Pl

/-- The set of those k below n for which f says yes. -/
def mkSet (f : Nat → Bool) : Nat → Nat
  | 0 => 0
  | n + 1 => (if f n then 2 ^ n else 0) + mkSet f n

theorem mkSet_lt (f : Nat → Bool) (n : Nat) : mkSet f n < 2 ^ n := by
  induction n with
  | zero => simp [mkSet]
  | succ n ih => simp only [mkSet]; split <;> rw [Nat.pow_succ] <;> omega

theorem testBit_mkSet (f : Nat → Bool) (n k : Nat) : (mkSet f n).testBit k = (decide (k < n) && f k) := by
  induction n with
  | zero => simp [mkSet]
  | succ n ih =>
    simp only [mkSet]
    by_cases hk : k = n
    · subst hk
      split
      · rename_i h
        rw [Nat.testBit_two_pow_add_eq, Nat.testBit_lt_two_pow (mkSet_lt f k)]
        simp [h]
      · rename_i h
        rw [Nat.zero_add, Nat.testBit_lt_two_pow (mkSet_lt f k)]
        simp [h]
    · split
      · rename_i h
        by_cases hlt : k < n
        · rw [Nat.testBit_two_pow_add_gt hlt, ih]
          have : k < n + 1 := by omega
          simp [hlt, this]
        · have h1 : n + 1 ≤ k := by omega
          rw [Nat.testBit_lt_two_pow]
          · have : ¬ k < n + 1 := by omega
            simp [this]
          · have := mkSet_lt f n
            have h2 : 2 ^ (n + 1) ≤ 2 ^ k := Nat.pow_le_pow_right (by decide) h1
            rw [Nat.pow_succ] at h2
            omega
      · rw [Nat.zero_add, ih]
        by_cases hlt : k < n
        · have : k < n + 1 := by omega
          simp [hlt, this]
        · have : ¬ k < n + 1 := by omega
          simp [hlt, this]

theorem mkSet_congr {f g : Nat → Bool} {n : Nat} (h : ∀ k, k < n → f k = g k) : mkSet f n = mkSet g n := by
  apply Nat.eq_of_testBit_eq
  intro i
  rw [testBit_mkSet, testBit_mkSet]
  by_cases hi : i < n
  · simp [hi, h i hi]
  · simp [hi]

theorem mkSet_testBit {b n : Nat} (h : b < 2 ^ n) : mkSet b.testBit n = b := by
  apply Nat.eq_of_testBit_eq
  intro i
  rw [testBit_mkSet]
  by_cases hi : i < n
  · simp [hi]
  · have h2 : 2 ^ n ≤ 2 ^ i := Nat.pow_le_pow_right (by decide) (by omega)
    rw [Nat.testBit_lt_two_pow (by omega)]
    simp [hi]

theorem lt_of_testBit {b n : Nat} (h : ∀ k, n ≤ k → b.testBit k = false) : b < 2 ^ n := by
  have : b = mkSet b.testBit n := by
    apply Nat.eq_of_testBit_eq
    intro i
    rw [testBit_mkSet]
    by_cases hi : i < n
    · simp [hi]
    · rw [h i (by omega)]; simp
  rw [this]
  exact mkSet_lt _ _

/-- All that are less than n, of 0 to 63. -/
def fst (n : Nat) : Nat := mkSet (fun k => decide (k < n)) 64

theorem two_pow_testBit (n k : Nat) : (2 ^ n - 1).testBit k = decide (k < n) := Nat.testBit_two_pow_sub_one n k

theorem fst_small {n : Nat} (h : n ≤ 64) : fst n = 2 ^ n - 1 := by
  apply Nat.eq_of_testBit_eq
  intro i
  rw [fst, testBit_mkSet, two_pow_testBit]
  by_cases hi : i < n
  · have : i < 64 := by omega
    simp [hi, this]
  · simp [hi]
theorem fst_big {n : Nat} (h : 64 ≤ n) : fst n = 2 ^ 64 - 1 := by
  apply Nat.eq_of_testBit_eq
  intro i
  rw [fst, testBit_mkSet, two_pow_testBit]
  by_cases hi : i < 64
  · have : i < n := by omega
    simp [hi, this]
  · simp [hi]
theorem fst_lt (n : Nat) : fst n < 2 ^ 64 := mkSet_lt _ _
theorem testBit_fst (n k : Nat) : (fst n).testBit k = (decide (k < 64) && decide (k < n)) := testBit_mkSet _ _ _

/-- a, less those of b. -/
def less (a b : Nat) : Nat := a &&& (18446744073709551615 - b)
theorem testBit_less {a b k : Nat} (ha : a < 2 ^ 64) (hb : b < 2 ^ 64) : (less a b).testBit k = (a.testBit k && !b.testBit k) := by
  unfold less
  have e : 18446744073709551615 - b = 2 ^ 64 - (b + 1) := by omega
  rw [Nat.testBit_and, e, Nat.testBit_two_pow_sub_succ hb]
  by_cases hk : k < 64
  · simp [hk]
  · have h2 : 2 ^ 64 ≤ 2 ^ k := Nat.pow_le_pow_right (by decide) (by omega)
    rw [Nat.testBit_lt_two_pow (by omega)]
    simp
theorem less_lt {a b : Nat} (ha : a < 2 ^ 64) : less a b < 2 ^ 64 := Nat.lt_of_le_of_lt (Nat.and_le_left) ha
theorem less_eq {a b : Nat} (ha : a < 2 ^ 64) (hb : b < 2 ^ 64) : less a b = mkSet (fun k => a.testBit k && !b.testBit k) 64 := by
  apply Nat.eq_of_testBit_eq
  intro i
  rw [testBit_less ha hb, testBit_mkSet]
  by_cases hi : i < 64
  · simp [hi]
  · have h2 : 2 ^ 64 ≤ 2 ^ i := Nat.pow_le_pow_right (by decide) (by omega)
    rw [Nat.testBit_lt_two_pow (by omega)]
    simp

/-- Nothing of L from n on. -/
theorem less_fst_zero {L n : Nat} (hL : L < 2 ^ 64) (hn : n ≤ 64) : less L (fst n) = 0 ↔ L < 2 ^ n := by
  constructor
  · intro h
    apply lt_of_testBit
    intro k hk
    have := testBit_less (k := k) hL (fst_lt n)
    rw [h, testBit_fst] at this
    by_cases h64 : k < 64
    · have hkn : ¬ k < n := by omega
      simpa [h64, hkn] using this
    · have h2 : 2 ^ 64 ≤ 2 ^ k := Nat.pow_le_pow_right (by decide) (by omega)
      exact Nat.testBit_lt_two_pow (by omega)
  · intro h
    apply Nat.eq_of_testBit_eq
    intro i
    rw [testBit_less hL (fst_lt n), testBit_fst, Nat.zero_testBit]
    by_cases hi : i < n
    · have : i < 64 := by omega
      simp [hi, this]
    · have h2 : 2 ^ n ≤ 2 ^ i := Nat.pow_le_pow_right (by decide) (by omega)
      rw [Nat.testBit_lt_two_pow (by omega)]
      simp

/-! ### The elements -/
/-- Those below n that are in a set, rising. -/
def upto (b n : Nat) : List Nat := (List.range n).filter b.testBit
def elems (b : Nat) : List Nat := upto b 64

theorem upto_succ (b n : Nat) : upto b (n + 1) = upto b n ++ (if b.testBit n then [n] else []) := by
  unfold upto
  rw [List.range_succ, List.filter_append]
  cases h : b.testBit n <;> simp [h]

theorem mem_upto {b n k : Nat} : k ∈ upto b n ↔ k < n ∧ b.testBit k = true := by
  unfold upto
  rw [List.mem_filter, List.mem_range]

theorem mem_elems {b k : Nat} : k ∈ elems b ↔ k < 64 ∧ b.testBit k = true := mem_upto

theorem upto_of_lt {b n m : Nat} (h : b < 2 ^ n) (hm : n ≤ m) : upto b m = upto b n := by
  induction m with
  | zero => have : n = 0 := by omega
            subst this; rfl
  | succ m ih =>
    by_cases he : n = m + 1
    · rw [he]
    · rw [upto_succ, ih (by omega)]
      have h2 : 2 ^ n ≤ 2 ^ m := Nat.pow_le_pow_right (by decide) (by omega)
      rw [Nat.testBit_lt_two_pow (by omega)]
      simp

theorem elems_of_lt {b n : Nat} (h : b < 2 ^ n) (hn : n ≤ 64) : elems b = upto b n := upto_of_lt h hn

theorem sorted_upto (b n : Nat) : (upto b n).Pairwise (· < ·) := by
  unfold upto
  exact List.Pairwise.filter _ (List.pairwise_lt_range)

theorem upto_length_le (b n : Nat) : (upto b n).length ≤ n := by
  unfold upto
  have := List.length_filter_le b.testBit (List.range n)
  simpa using this

theorem elems_length_le (b : Nat) : (elems b).length ≤ 64 := upto_length_le b 64

/-- Two rising lists with the same members are one. -/
theorem sorted_ext : ∀ {l m : List Nat}, l.Pairwise (· < ·) → m.Pairwise (· < ·) → (∀ k, k ∈ l ↔ k ∈ m) → l = m
  | [], [], _, _, _ => rfl
  | [], y :: m, _, _, h => by have := (h y).2 (by simp); simp at this
  | x :: l, [], _, _, h => by have := (h x).1 (by simp); simp at this
  | x :: l, y :: m, hl, hm, h => by
    rw [List.pairwise_cons] at hl hm
    have hxy : x = y := by
      have h1 := (h x).1 (by simp)
      have h2 := (h y).2 (by simp)
      rw [List.mem_cons] at h1 h2
      rcases h1 with h1 | h1
      · exact h1
      · rcases h2 with h2 | h2
        · exact h2.symm
        · have := hl.1 y h2
          have := hm.1 x h1
          omega
    subst hxy
    congr 1
    refine sorted_ext hl.2 hm.2 fun k => ?_
    constructor
    · intro hk
      have := (h k).1 (List.mem_cons_of_mem _ hk)
      rcases List.mem_cons.1 this with h1 | h1
      · have := hl.1 k hk; omega
      · exact h1
    · intro hk
      have := (h k).2 (List.mem_cons_of_mem _ hk)
      rcases List.mem_cons.1 this with h1 | h1
      · have := hm.1 k hk; omega
      · exact h1

theorem elems_zero : elems 0 = [] := by
  unfold elems upto
  rw [List.filter_eq_nil_iff]
  intro k _
  simp

theorem eq_of_elems {a b : Nat} (ha : a < 2 ^ 64) (hb : b < 2 ^ 64) (h : elems a = elems b) : a = b := by
  apply Nat.eq_of_testBit_eq
  intro i
  by_cases hi : i < 64
  · have h1 := @mem_elems a i
    have h2 := @mem_elems b i
    rw [h] at h1
    rw [Bool.eq_iff_iff]
    have := h1.symm.trans h2
    simpa [hi] using this
  · have h2 : 2 ^ 64 ≤ 2 ^ i := Nat.pow_le_pow_right (by decide) (by omega)
    rw [Nat.testBit_lt_two_pow (by omega), Nat.testBit_lt_two_pow (by omega)]

/-! ### The least one is taken off -/
theorem ctz_testBit {b : Nat} (h0 : b ≠ 0) (h : b < 2 ^ 64) : Lib.ctz 64 b < 64 ∧ b.testBit (Lib.ctz 64 b) = true ∧ ∀ j, j < Lib.ctz 64 b → b.testBit j = false := by
  obtain ⟨m, hm, hk⟩ := Lib.ctzFrom_spec 64 b (by omega) h
  have e : Lib.ctz 64 b = Lib.ctzFrom 64 b := by simp [Lib.ctz, h0]
  rw [e]
  generalize Lib.ctzFrom 64 b = t at *
  refine ⟨hk, ?_, fun j hj => ?_⟩
  · rw [hm, Nat.mul_comm, Nat.testBit_mul_two_pow]
    simp [Nat.testBit_zero]
  · rw [hm, Nat.mul_comm, Nat.testBit_mul_two_pow]
    have : ¬ t ≤ j := by omega
    simp [this]

theorem testBit_drop {b : Nat} (h0 : b ≠ 0) (h : b < 2 ^ 64) (j : Nat) : (b &&& (b - 1)).testBit j = (b.testBit j && !decide (j = Lib.ctz 64 b)) := by
  obtain ⟨m, hm, hk⟩ := Lib.ctzFrom_spec 64 b (by omega) h
  have e : Lib.ctz 64 b = Lib.ctzFrom 64 b := by simp [Lib.ctz, h0]
  rw [e]
  generalize Lib.ctzFrom 64 b = t at *
  have hp : 0 < 2 ^ t := Nat.two_pow_pos t
  have e1 : b - 1 = 2 ^ t * (2 * m) + (2 ^ t - 1) := by
    rw [hm, Nat.mul_add, Nat.mul_one]; omega
  rw [Nat.testBit_and, e1, Nat.testBit_two_pow_mul_add (2 * m) (by omega : 2 ^ t - 1 < 2 ^ t)]
  rw [hm, Nat.mul_comm, Nat.testBit_mul_two_pow]
  by_cases hjt : j < t
  · have : ¬ t ≤ j := by omega
    simp [hjt, this]
  · have h1 : t ≤ j := by omega
    simp only [hjt, h1, if_false, decide_true, Bool.true_and]
    by_cases he : j = t
    · subst he; simp
    · obtain ⟨i, hi⟩ : ∃ i, j - t = i + 1 := ⟨j - t - 1, by omega⟩
      rw [hi, Nat.testBit_succ, Nat.testBit_succ]
      have d1 : (2 * m + 1) / 2 = m := by omega
      have d2 : 2 * m / 2 = m := by omega
      rw [d1, d2]
      simp [he]

theorem drop_lt {b : Nat} (h : b < 2 ^ 64) : b &&& (b - 1) < 2 ^ 64 := Nat.lt_of_le_of_lt Nat.and_le_left h

/-- The elements: the least one, and those of what is left. -/
theorem elems_cons {b : Nat} (h0 : b ≠ 0) (h : b < 2 ^ 64) : elems b = Lib.ctz 64 b :: elems (b &&& (b - 1)) := by
  obtain ⟨h1, h2, h3⟩ := ctz_testBit h0 h
  refine sorted_ext (sorted_upto _ _) ?_ fun k => ?_
  · rw [List.pairwise_cons]
    refine ⟨fun k hk => ?_, sorted_upto _ _⟩
    have := (mem_elems.1 hk).2
    rw [testBit_drop h0 h, Bool.and_eq_true] at this
    by_cases hlt : k < Lib.ctz 64 b
    · rw [h3 k hlt] at this; simp at this
    · have : k ≠ Lib.ctz 64 b := by simpa using this.2
      omega
  · rw [mem_elems, List.mem_cons, mem_elems, testBit_drop h0 h]
    constructor
    · rintro ⟨a, b'⟩
      by_cases he : k = Lib.ctz 64 b
      · exact .inl he
      · exact .inr ⟨a, by simp [he, b']⟩
    · rintro (rfl | ⟨a, b'⟩)
      · exact ⟨h1, h2⟩
      · rw [Bool.and_eq_true] at b'
        exact ⟨a, b'.1⟩


/-- The elements, as whole numbers. -/
def elemsI (b : Nat) : List Int := (elems b).map Int.ofNat
theorem elemsI_zero : elemsI 0 = [] := by unfold elemsI; rw [elems_zero]; rfl
theorem elemsI_cons {b : Nat} (h0 : b ≠ 0) (h : b < 2 ^ 64) : elemsI b = ((Lib.ctz 64 b : Nat) : Int) :: elemsI (b &&& (b - 1)) := by
  unfold elemsI; rw [elems_cons h0 h]; rfl
theorem elemsI_length_le (b : Nat) : (elemsI b).length ≤ 64 := by unfold elemsI; rw [List.length_map]; exact elems_length_le b

/-! ### Domains -/
/-- Is the value at place i right, behind the one ahead of it? -/
def okAt (xs : List Int) (i : Nat) : Bool := decide (-1048576 ≤ xs.getD i 0) && decide (xs.getD i 0 ≤ 1048576) && (decide (i = 0) || decide (xs.getD (i - 1) 0 < xs.getD i 0))
def okUpto (xs : List Int) (n : Nat) : Bool := (List.range n).all (okAt xs)
theorem okUpto_succ (xs : List Int) (n : Nat) : okUpto xs (n + 1) = (okUpto xs n && okAt xs n) := by
  unfold okUpto
  rw [List.range_succ, List.all_append]
  simp
theorem okUpto_mono {xs : List Int} {m n : Nat} (h : okUpto xs n = true) (hm : m ≤ n) : okUpto xs m = true := by
  unfold okUpto at *
  rw [List.all_eq_true] at *
  intro i hi
  exact h i (List.mem_range.2 (Nat.lt_of_lt_of_le (List.mem_range.1 hi) hm))
theorem okUpto_bad {xs : List Int} {m n : Nat} (h : okAt xs m = false) (hm : m < n) : okUpto xs n = false := by
  cases e : okUpto xs n with
  | false => rfl
  | true =>
    have := okUpto_mono e (show m + 1 ≤ n from hm)
    rw [okUpto_succ, h] at this
    simp at this
/-- May a domain be? -/
def mayB (xs : List Int) (L : Nat) : Bool := decide (xs.length ≤ 64) && decide (L < 2 ^ xs.length) && okUpto xs xs.length

/-- The values that are left. -/
def valsOf (xs : List Int) (L : Nat) : List Int := (elemsI L).map fun k => xs.getD k.toNat 0
/-- .., of a domain that may be; else none. -/
def listB (xs : List Int) (L : Nat) : List Int := if mayB xs L = true then valsOf xs L else []
theorem valsOf_length (xs : List Int) (L : Nat) : (valsOf xs L).length = (elemsI L).length := by simp [valsOf]
theorem mayB_len {xs : List Int} {L : Nat} (h : mayB xs L = true) : xs.length ≤ 64 := by simp [mayB] at h; exact h.1.1
theorem mayB_lt {xs : List Int} {L : Nat} (h : mayB xs L = true) : L < 2 ^ xs.length := by simp [mayB] at h; exact h.1.2
theorem mayB_ok {xs : List Int} {L : Nat} (h : mayB xs L = true) : okUpto xs xs.length = true := by simp [mayB] at h; exact h.2
theorem mem_elemsI {b : Nat} {x : Int} : x ∈ elemsI b ↔ ∃ k : Nat, x = k ∧ k < 64 ∧ b.testBit k = true := by
  unfold elemsI
  rw [List.mem_map]
  constructor
  · rintro ⟨k, hk, rfl⟩
    exact ⟨k, rfl, mem_elems.1 hk⟩
  · rintro ⟨k, rfl, hk⟩
    exact ⟨k, mem_elems.2 hk, rfl⟩
/-- A place that is left is a place. -/
theorem elemsI_lt {xs : List Int} {L : Nat} (h : mayB xs L = true) {x : Int} (hx : x ∈ elemsI L) : 0 ≤ x ∧ x < xs.length := by
  obtain ⟨k, rfl, _, hb⟩ := mem_elemsI.1 hx
  refine ⟨by omega, ?_⟩
  by_cases hk : k < xs.length
  · omega
  · have h1 := mayB_lt h
    have h2 : 2 ^ xs.length ≤ 2 ^ k := Nat.pow_le_pow_right (by decide) (by omega)
    rw [Nat.testBit_lt_two_pow (by omega)] at hb
    simp at hb
theorem okUpto_at {xs : List Int} {n k : Nat} (h : okUpto xs n = true) (hk : k < n) : okAt xs k = true := by
  unfold okUpto at h
  rw [List.all_eq_true] at h
  exact h k (List.mem_range.2 hk)
theorem okAt_rng {xs : List Int} {k : Nat} (h : okAt xs k = true) : -1048576 ≤ xs.getD k 0 ∧ xs.getD k 0 ≤ 1048576 := by
  unfold okAt at h
  simp only [Bool.and_eq_true, decide_eq_true_eq] at h
  exact h.1
theorem valsOf_rng {xs : List Int} {L : Nat} (h : mayB xs L = true) : ∀ v ∈ valsOf xs L, -1048576 ≤ v ∧ v ≤ 1048576 := by
  intro v hv
  unfold valsOf at hv
  rw [List.mem_map] at hv
  obtain ⟨x, hx, rfl⟩ := hv
  have := elemsI_lt h hx
  exact okAt_rng (okUpto_at (mayB_ok h) (by omega))
theorem listB_rng (xs : List Int) (L : Nat) : ∀ v ∈ listB xs L, -1048576 ≤ v ∧ v ≤ 1048576 := by
  intro v hv
  unfold listB at hv
  split at hv
  · exact valsOf_rng (by assumption) v hv
  · simp at hv
theorem listB_length (xs : List Int) (L : Nat) : (listB xs L).length ≤ 64 := by
  unfold listB
  split
  · rw [valsOf_length]; exact elemsI_length_le L
  · simp

end Pl
end Go.Proofs.YtekcenacpklpgaaDoor

set_option maxHeartbeats 400000
namespace Go.Proofs.YtekcenacpklpgaaDoor
open Go Go.RowKit Pl

theorem ret_u64 {a b : Int} (h : a = b) : Ending.returned (.int .u64 a) = .returned (.int .u64 b) := by rw [h]
theorem ret_i64 {a b : Int} (h : a = b) : Ending.returned (.int .i64 a) = .returned (.int .i64 b) := by rw [h]
theorem ret_bool {a b : Bool} (h : a = b) : Ending.returned (.bool a) = .returned (.bool b) := by rw [h]

theorem wrap_pow {n : Nat} (h : n < 64) : IntKind.u64.wrap (IntKind.u64.wrap (2 ^ n) - 1) = ((fst n : Nat) : Int) := by
  rw [fst_small (by omega)]
  have h1 : (2 : Nat) ^ n < 2 ^ 64 := Nat.pow_lt_pow_right (by decide) h
  have h2 : 0 < (2 : Nat) ^ n := Nat.two_pow_pos n
  have e : ((2 : Int) ^ n) = ((2 ^ n : Nat) : Int) := by simp
  rw [e, IntKind.wrap_u64, IntKind.wrap_u64]
  omega

theorem andNot_fst {L n : Nat} (hL : L < 2 ^ 64) : bits BinOp.andNot IntKind.u64 (L : Int) ((fst n : Nat) : Int) = ((less L (fst n) : Nat) : Int) :=
  u64_andNot_nat L (fst n) hL (fst_lt n)
theorem andNot_ne {L n : Nat} (hL : L < 2 ^ 64) (hn : n ≤ 64) : (bits BinOp.andNot IntKind.u64 (L : Int) ((fst n : Nat) : Int) != 0) = !decide (L < 2 ^ n) := by
  rw [andNot_fst hL]
  have := less_fst_zero hL hn
  by_cases h : L < 2 ^ n
  · simp [this.2 h, h]
  · have h1 : less L (fst n) ≠ 0 := fun e => h (this.1 e)
    simp [h, h1]

theorem first_any (n : Int) (w : World) :
    Calls Tryd.prog 52 #[.int .i64 n] w fun e w' => e = .returned (.int .u64 (fst n.toNat : Nat)) ∧ Kept w w' := by
  go_enter Tryd.func52, Tryd.ntmps52
  go_wp2
  · go_ret
    have h : n ≤ 0 := by assumption
    have e : n.toNat = 0 := by omega
    exact ⟨ret_u64 (by rw [e]; rfl), Below.refl _ _⟩
  · go_ret
    have h : 64 ≤ n := by assumption
    exact ⟨ret_u64 (by rw [fst_big (by omega)]; rfl), Below.refl _ _⟩
  · go_ret
    have h : n < 64 := by assumption
    exact ⟨ret_u64 (wrap_pow (by omega)), Below.refl _ _⟩
end Go.Proofs.YtekcenacpklpgaaDoor

namespace Go.Proofs
open Go.Shelf
def Tryd.laysTz_ren : Go.Shelf.Ren := ⟨fun | 29 => 96 | n => n, fun | 22 => 45 | 3 => 3 | 4 => 4 | 25 => 102 | 54 => 113 | 0 => 0 | 5 => 5 | n => n, fun | 1 => 0 | n => n⟩
theorem Tryd.laysTz : Go.Proofs.Lays7.n29 Tryd.prog Tryd.laysTz_ren := {
  mixed := by kernel_rfl
  f29 := Tryd.func96.trans (congrArg some (by kernel_rfl))
  t0 := Tryd.underlying0
  a0 := Tryd.isAgg0
  z0 := Tryd.sizeOf0
  v0 := Tryd.zeroValue0
  i0 := by kernel_rfl
  t3 := Tryd.underlying3
  a3 := Tryd.isAgg3
  z3 := Tryd.sizeOf3
  v3 := Tryd.zeroValue3
  i3 := by kernel_rfl
  t4 := Tryd.underlying4
  a4 := Tryd.isAgg4
  z4 := Tryd.sizeOf4
  v4 := Tryd.zeroValue4
  i4 := by kernel_rfl
  t5 := Tryd.underlying5
  a5 := Tryd.isAgg5
  z5 := Tryd.sizeOf5
  v5 := Tryd.zeroValue5
  i5 := by kernel_rfl
  t22 := Tryd.underlying45
  a22 := Tryd.isAgg45
  z22 := Tryd.sizeOf45
  v22 := Tryd.zeroValue45
  i22 := by kernel_rfl
  t25 := Tryd.underlying102
  a25 := Tryd.isAgg102
  z25 := Tryd.sizeOf102
  v25 := Tryd.zeroValue102
  i25 := by kernel_rfl
  t54 := Tryd.underlying113
  a54 := Tryd.isAgg113
  z54 := Tryd.sizeOf113
  g1 := by kernel_rfl }
open Go.RowKit Go.Lib in
theorem Tryd.bits_TrailingZeros64 (x : Nat) (hx : x < 18446744073709551616) (w : World) (hT : x ≠ 0 → TabAt 0 Lib.deBruijn64tab w) :
    Calls Tryd.prog 96 #[.int .u64 x] w fun e w' => e = .returned (.int .i64 (Lib.ctz 64 x)) ∧ w' = w := Any7.bits_TrailingZeros64 Tryd.laysTz x hx w hT
def Tryd.lays134_ren : Go.Shelf.Ren := ⟨fun | 134 => 97 | 129 => 99 | n => n, fun | 53 => 45 | 3 => 3 | 4 => 4 | 46 => 102 | 5 => 5 | 9 => 9 | n => n, fun | n => n⟩
theorem Tryd.lays134 : Go.Proofs.Lays.n134 Tryd.prog Tryd.lays134_ren := {
  mixed := by kernel_rfl
  f129 := Tryd.func99.trans (congrArg some (by kernel_rfl))
  f134 := Tryd.func97.trans (congrArg some (by kernel_rfl))
  t3 := Tryd.underlying3
  a3 := Tryd.isAgg3
  z3 := Tryd.sizeOf3
  v3 := Tryd.zeroValue3
  t4 := Tryd.underlying4
  a4 := Tryd.isAgg4
  z4 := Tryd.sizeOf4
  v4 := Tryd.zeroValue4
  t5 := Tryd.underlying5
  a5 := Tryd.isAgg5
  z5 := Tryd.sizeOf5
  v5 := Tryd.zeroValue5
  t9 := Tryd.underlying9
  a9 := Tryd.isAgg9
  z9 := Tryd.sizeOf9
  v9 := Tryd.zeroValue9
  t46 := Tryd.underlying102
  a46 := Tryd.isAgg102
  z46 := Tryd.sizeOf102
  v46 := Tryd.zeroValue102
  t53 := Tryd.underlying45
  a53 := Tryd.isAgg45
  z53 := Tryd.sizeOf45
  v53 := Tryd.zeroValue45 }
/-- bits.LeadingZeros64: "LeadingZeros64 returns the number of leading zero bits in x; the result is 64 for x == 0.": IT RETURNS '64 - Lib.bitLen x'; the world is as it was. ITS CALLEE bits.Len64 IS MET BY ITS OWN CONTRACT OFF THE SHELF (lay that first): entered in place it sends the kernel out of memory. (LAID: no walk: one application.) -/
theorem Tryd.bits_LeadingZeros64 (x : Int) (w : World) (h0 : 0 ≤ x) (h1 : x ≤ 18446744073709551615) :
    Calls Tryd.prog 97 #[.int .u64 x] w fun e w' => e = .returned (.int .i64 (64 - (Lib.bitLen x.toNat : Int))) ∧ w' = w := Any.bits_LeadingZeros64 Tryd.lays134 x w h0 h1
def Tryd.lays129_ren : Go.Shelf.Ren := ⟨fun | 129 => 99 | n => n, fun | 53 => 45 | 3 => 3 | 4 => 4 | 46 => 102 | 5 => 5 | 9 => 9 | n => n, fun | n => n⟩
theorem Tryd.lays129 : Go.Proofs.Lays.n129 Tryd.prog Tryd.lays129_ren := {
  mixed := by kernel_rfl
  f129 := Tryd.func99.trans (congrArg some (by kernel_rfl))
  t3 := Tryd.underlying3
  a3 := Tryd.isAgg3
  z3 := Tryd.sizeOf3
  v3 := Tryd.zeroValue3
  t4 := Tryd.underlying4
  a4 := Tryd.isAgg4
  z4 := Tryd.sizeOf4
  v4 := Tryd.zeroValue4
  t5 := Tryd.underlying5
  a5 := Tryd.isAgg5
  z5 := Tryd.sizeOf5
  v5 := Tryd.zeroValue5
  t9 := Tryd.underlying9
  a9 := Tryd.isAgg9
  z9 := Tryd.sizeOf9
  v9 := Tryd.zeroValue9
  t46 := Tryd.underlying102
  a46 := Tryd.isAgg102
  z46 := Tryd.sizeOf102
  v46 := Tryd.zeroValue102
  t53 := Tryd.underlying45
  a53 := Tryd.isAgg45
  z53 := Tryd.sizeOf45
  v53 := Tryd.zeroValue45 }
/-- bits.Len64: "Len64 returns the minimum number of bits required to represent x; the result is 0 for x == 0.": IT RETURNS 'Lib.bitLen x'; the world is as it was. ('h0', 'h1': x is a uint64.) (LAID: no walk: one application.) -/
theorem Tryd.bits_Len64 (x : Int) (w : World) (h0 : 0 ≤ x) (h1 : x ≤ 18446744073709551615) :
    Calls Tryd.prog 99 #[.int .u64 x] w fun e w' => e = .returned (.int .i64 (Lib.bitLen x.toNat)) ∧ w' = w := Any.bits_Len64 Tryd.lays129 x w h0 h1
def Tryd.lays108_ren : Go.Shelf.Ren := ⟨fun | 108 => 90 | n => n, fun | 28 => 22 | 3 => 3 | 0 => 0 | 4 => 4 | n => n, fun | n => n⟩
theorem Tryd.lays108 : Go.Proofs.Lays.n108 Tryd.prog Tryd.lays108_ren := {
  mixed := by kernel_rfl
  f108 := Tryd.func90.trans (congrArg some (by kernel_rfl))
  t0 := Tryd.underlying0
  a0 := Tryd.isAgg0
  z0 := Tryd.sizeOf0
  v0 := Tryd.zeroValue0
  t3 := Tryd.underlying3
  a3 := Tryd.isAgg3
  z3 := Tryd.sizeOf3
  v3 := Tryd.zeroValue3
  t4 := Tryd.underlying4
  a4 := Tryd.isAgg4
  z4 := Tryd.sizeOf4
  v4 := Tryd.zeroValue4
  t28 := Tryd.underlying22
  a28 := Tryd.isAgg22
  z28 := Tryd.sizeOf22
  v28 := Tryd.zeroValue22 }
open Go.Lib in
/-- slices.Index at []int: "Index returns the index of the first occurrence of v in s, or -1 if not present.": IT RETURNS 'Lib.idxOf (the elements) v'; the world is as it was. 'zs': what the cells behind the slice's address hold (its spare capacity too, if you have it); 'zs.take n': its elements. (LAID: no walk: one application.) -/
theorem Tryd.slices_Index_int (b off n c : Nat) (zs : List Int) (x : Int) (w : World) (hz : n ≤ zs.length) (hbig : n ≤ 9223372036854775807) (hc : ∀ j, j < zs.length → w.cell? ⟨b, off + j, none⟩ = some (.int .i64 (zs.getD j 0))) :
    Calls Tryd.prog 90 #[.slice (some ⟨b, off, none⟩) n c, .int .i64 x] w fun e w' => e = .returned (.int .i64 (Lib.idxOf (zs.take n) x)) ∧ w' = w := Any.slices_Index_int Tryd.lays108 b off n c zs x w hz hbig hc
open Go.Lib in
/-- The same at a slice of length 0, a nil one too: no cell is known, none is asked for. (LAID: no walk: one application.) -/
theorem Tryd.slices_Index_int_empty (a : Option Addr) (c : Nat) (x : Int) (w : World) :
    Calls Tryd.prog 90 #[.slice a 0 c, .int .i64 x] w fun e w' => e = .returned (.int .i64 (Lib.idxOf [] x)) ∧ w' = w := Any.slices_Index_int_empty Tryd.lays108 a c x w
def Tryd.lays107_ren : Go.Shelf.Ren := ⟨fun | 107 => 79 | 108 => 90 | n => n, fun | 28 => 22 | 3 => 3 | 4 => 4 | 0 => 0 | n => n, fun | n => n⟩
theorem Tryd.lays107 : Go.Proofs.Lays.n107 Tryd.prog Tryd.lays107_ren := {
  mixed := by kernel_rfl
  f107 := Tryd.func79.trans (congrArg some (by kernel_rfl))
  f108 := Tryd.func90.trans (congrArg some (by kernel_rfl))
  t0 := Tryd.underlying0
  a0 := Tryd.isAgg0
  z0 := Tryd.sizeOf0
  v0 := Tryd.zeroValue0
  t3 := Tryd.underlying3
  a3 := Tryd.isAgg3
  z3 := Tryd.sizeOf3
  v3 := Tryd.zeroValue3
  t4 := Tryd.underlying4
  a4 := Tryd.isAgg4
  z4 := Tryd.sizeOf4
  v4 := Tryd.zeroValue4
  t28 := Tryd.underlying22
  a28 := Tryd.isAgg22
  z28 := Tryd.sizeOf22
  v28 := Tryd.zeroValue22 }
open Go.Lib in
/-- slices.Contains at []int: "Contains reports whether v is present in s.": IT RETURNS 'elements.contains v'; the world is as it was. ITS CALLEE slices.Index IS MET BY ITS OWN CONTRACT OFF THE SHELF (lay that first): no loop is walked here. (LAID: no walk: one application.) -/
theorem Tryd.slices_Contains_int (b off n c : Nat) (zs : List Int) (x : Int) (w : World) (hz : n ≤ zs.length) (hbig : n ≤ 9223372036854775807) (hc : ∀ j, j < zs.length → w.cell? ⟨b, off + j, none⟩ = some (.int .i64 (zs.getD j 0))) :
    Calls Tryd.prog 79 #[.slice (some ⟨b, off, none⟩) n c, .int .i64 x] w fun e w' => e = .returned (.bool ((zs.take n).contains x)) ∧ w' = w := Any.slices_Contains_int Tryd.lays107 b off n c zs x w hz hbig hc
open Go.Lib in
/-- The same at a slice of length 0, a nil one too. (LAID: no walk: one application.) -/
theorem Tryd.slices_Contains_int_empty (a : Option Addr) (c : Nat) (x : Int) (w : World) :
    Calls Tryd.prog 79 #[.slice a 0 c, .int .i64 x] w fun e w' => e = .returned (.bool false) ∧ w' = w := Any.slices_Contains_int_empty Tryd.lays107 a c x w
def Tryd.laysNm215_ren : Go.Shelf.Ren := ⟨fun | 15 => 24 | n => n, fun | 22 => 22 | 3 => 3 | 4 => 4 | n => n, fun | n => n⟩
theorem Tryd.laysNm215 : Go.Proofs.Lays2.n15 Tryd.prog Tryd.laysNm215_ren := {
  mixed := by kernel_rfl
  f15 := Tryd.func24.trans (congrArg some (by kernel_rfl))
  t3 := Tryd.underlying3
  a3 := Tryd.isAgg3
  z3 := Tryd.sizeOf3
  v3 := Tryd.zeroValue3
  t4 := Tryd.underlying4
  a4 := Tryd.isAgg4
  z4 := Tryd.sizeOf4
  v4 := Tryd.zeroValue4
  t22 := Tryd.underlying22
  a22 := Tryd.isAgg22
  z22 := Tryd.sizeOf22
  v22 := Tryd.zeroValue22
  i3 := by kernel_rfl }
open Go.RowKit Go.Lib in
/-- slices.Clone at []int: "Clone returns a copy of the slice. The elements are copied using assignment, so this is a shallow clone. The result may have additional unused capacity. The result preserves the nilness of s.": OF A SLICE THAT IS NOT nil IT RETURNS A SLICE THAT IS NOT nil, OF THE SAME ELEMENTS, IN MEMORY OF THE CALL's OWN: in the how-to's words (6f): 'w'.ownsRow B e 1 v' n cells': v' begins at the head of a row among the blocks from B on (B: the heap's size at the call), not frozen, whose first cells are the elements · 'Below B w w'': below B all is as it was. The capacity is whatever the run-time gives. 'zs': what the cells behind the slice's address hold; 'zs.take n': its elements. (LAID: no walk: one application.) -/
theorem Tryd.slices_Clone_int (b off n c : Nat) (zs : List Int) (w : World) (hz : n ≤ zs.length) (hbig : n * 8 ≤ 140737488355328) (hc : ∀ j, j < zs.length → w.cell? ⟨b, off + j, none⟩ = some (.int .i64 (zs.getD j 0))) :
    Calls Tryd.prog 24 #[.slice (some ⟨b, off, none⟩) n c] w fun e w' => ∃ v', e = .returned v' ∧ w'.ownsRow w.heap.size 3 1 v' n ((zs.take n).map (Value.int .i64)) ∧ v' ≠ .slice none 0 0 ∧ Below w.heap.size w w' := Any.slices_Clone_int Tryd.laysNm215 b off n c zs w hz hbig hc
open Go.RowKit Go.Lib in
/-- The same at nil: nil comes back; the world is as it was. (LAID: no walk: one application.) -/
theorem Tryd.slices_Clone_int_nil (n c : Nat) (w : World) :
    Calls Tryd.prog 24 #[.slice none n c] w fun e w' => e = .returned (.slice none 0 0) ∧ w' = w := Any.slices_Clone_int_nil Tryd.laysNm215 n c w
open Go.RowKit Go.Lib in
/-- The same at a slice of length 0 that is not nil, WHATEVER ITS ADDRESS (no cell is asked for): a slice that is not nil and owns nothing comes back. (LAID: no walk: one application.) -/
theorem Tryd.slices_Clone_int_zero (a : Addr) (c : Nat) (w : World) :
    Calls Tryd.prog 24 #[.slice (some a) 0 c] w fun e w' => ∃ v', e = .returned v' ∧ w'.ownsRow w.heap.size 3 1 v' 0 [] ∧ v' ≠ .slice none 0 0 ∧ Below w.heap.size w w' := Any.slices_Clone_int_zero Tryd.laysNm215 a c w
def Tryd.laysSlE041_f24_ren : Go.Shelf.Ren := ⟨fun | 41 => 24 | n => n, fun | 22 => 22 | 23 => 3 | 4 => 4 | n => n, fun | n => n⟩
theorem Tryd.laysSlE041_f24 : Go.Proofs.SlLaysE0.n41 Tryd.prog Tryd.laysSlE041_f24_ren := {
  mixed := by kernel_rfl
  f41 := ⟨Tryd.f24.name, by decide, Tryd.func24.trans (congrArg some (by kernel_rfl))⟩
  t4 := Tryd.underlying4
  a4 := Tryd.isAgg4
  z4 := Tryd.sizeOf4
  v4 := Tryd.zeroValue4
  t22 := Tryd.underlying22
  a22 := Tryd.isAgg22
  z22 := Tryd.sizeOf22
  v22 := Tryd.zeroValue22 }
open Go.RowKit Go.Lib in
/-- slices.Clone: "Clone returns a copy of the slice. The elements are copied using assignment, so this is a shallow clone. The result may have additional unused capacity. The result preserves the nilness of s.": OF A SLICE THAT IS NOT nil IT RETURNS A SLICE THAT IS NOT nil, OF THE SAME CELLS, IN MEMORY OF THE CALL's OWN ('ownsRow': the how-to's 6f); below the heap's size at the call all is as it was. (LAID AT THE INSTANCE 'slices.Clone[[]int,int]': no walk: one application.) -/
theorem Tryd.slices_Clone (i0 : TypeInfo) (z : Value) (size bytes : Nat) (hi : Tryd.prog.info? 3 = some i0) (hz0 : i0.zero = some z) (hz1 : i0.size = size) (hz2 : i0.bytes = bytes) (hzs : z.cells.size = size) (hsz : 0 < size) (z23 : ∀ w, (Go.sizeOf 3).run Tryd.prog w = .ok size w) (b off n c : Nat) (news : List Value) (w : World) (hl : news.length = n * size) (hn : n ≤ maxLen) (hbig : n * bytes ≤ 140737488355328) (hc : ∀ j u, news[j]? = some u → w.cell? ⟨b, off + j, none⟩ = some u) (h1 : ∀ u ∈ news, u.oneCell' = true) :
    Calls Tryd.prog 24 #[.slice (some ⟨b, off, none⟩) n c] w fun e w' => ∃ v', e = .returned v' ∧ w'.ownsRow w.heap.size 3 size v' n news ∧ v' ≠ .slice none 0 0 ∧ Below w.heap.size w w' := AnyE.slices_Clone Tryd.laysSlE041_f24 i0 z size bytes hi hz0 hz1 hz2 hzs hsz z23 b off n c news w hl hn hbig hc h1
open Go.RowKit Go.Lib in
/-- The same at nil: nil comes back; the world is as it was; nothing is asked of the element's type. (LAID AT THE INSTANCE 'slices.Clone[[]int,int]': no walk: one application.) -/
theorem Tryd.slices_Clone_nil (n c : Nat) (w : World) :
    Calls Tryd.prog 24 #[.slice none n c] w fun e w' => e = .returned (.slice none 0 0) ∧ w' = w := AnyE.slices_Clone_nil Tryd.laysSlE041_f24 n c w
end Go.Proofs

set_option maxHeartbeats 400000
set_option maxRecDepth 10000
namespace Go.Proofs.YtekcenacpklpgaaDoor
open Go Go.RowKit Pl

/-- The library's table lies as its initialiser lays it. -/
def Tab (w : World) : Prop := TabAt 0 Lib.deBruijn64tab w
theorem Tab.kept {w w' : World} (h : Tab w) (hk : Kept w w') : Tab w' := fun j hj => hk.cellAt (h j hj)

/-- The least one; -1, if there is none. -/
def lo (b : Nat) : Int := if b = 0 then -1 else (Lib.ctz 64 b : Nat)

theorem least_any (b : Nat) (w : World) (hb : b < 2 ^ 64) (hT : Tab w) :
    Calls Tryd.prog 88 #[.int .u64 b] w fun e w' => e = .returned (.int .i64 (lo b)) ∧ w = w' := by
  by_cases h0 : b = 0
  · subst h0
    go_enter Tryd.func88, Tryd.ntmps88
    go_wp2_with fail
    go_ret
    exact ⟨rfl, rfl⟩
  · have hz : ((b : Int) == 0) = false := by simp; omega
    have e : lo b = (Lib.ctz 64 b : Nat) := if_neg h0
    rw [e]
    have HT := Lib.hid hT
    clear hT e h0
    go_enter Tryd.func88, Tryd.ntmps88
    go_wp2_with (go_at_call 96; refine (Tryd.bits_TrailingZeros64 b hb _ (fun _ => HT.out)).mono ?_; rintro e w' ⟨rfl, rfl⟩)
    go_ret
    exact ⟨rfl, rfl⟩

theorem bitLenAux_le : ∀ (f x : Nat), Lib.bitLenAux f x ≤ f
  | 0, _ => by simp [Lib.bitLenAux]
  | f + 1, x => by
    have := bitLenAux_le f (x / 2)
    simp only [Lib.bitLenAux]
    split <;> omega
theorem bitLen_le (b : Nat) : Lib.bitLen b ≤ 64 := bitLenAux_le 64 b

theorem greatest_any (b : Nat) (w : World) (hb : b < 2 ^ 64) :
    Calls Tryd.prog 89 #[.int .u64 b] w fun e w' => e = .returned (.int .i64 ((Lib.bitLen b : Int) - 1)) ∧ w = w' := by
  have h1 := Tryd.bits_LeadingZeros64 (b : Int)
  have hl : (Lib.bitLen b : Int) ≤ 64 := by have := bitLen_le b; omega
  have hl0 : 0 ≤ (Lib.bitLen b : Int) := by omega
  rw [Int.toNat_natCast] at h1
  generalize (Lib.bitLen b : Int) = n at *
  have H1 := Lib.hid h1
  clear h1
  go_enter Tryd.func89, Tryd.ntmps89
  go_wp2_with (go_at_call 97; refine (H1.out _ (by omega) (by omega)).mono ?_; rintro e w' ⟨rfl, rfl⟩)
  go_ret
  exact ⟨ret_i64 (by omega), rfl⟩

theorem first_quiet (n : Int) (w : World) :
    Calls Tryd.prog 52 #[.int .i64 n] w fun e w' => e = .returned (.int .u64 (fst n.toNat : Nat)) ∧ w = w' := by
  go_enter Tryd.func52, Tryd.ntmps52
  go_wp2
  · go_ret
    have h : n ≤ 0 := by assumption
    have e : n.toNat = 0 := by omega
    exact ⟨ret_u64 (by rw [e]; rfl), rfl⟩
  · go_ret
    have h : 64 ≤ n := by assumption
    exact ⟨ret_u64 (by rw [fst_big (by omega)]; rfl), rfl⟩
  · go_ret
    have h : n < 64 := by assumption
    exact ⟨ret_u64 (wrap_pow (by omega)), rfl⟩

/-- All from low to high, of 0 to 63. -/
def btw (low high : Int) : Nat := mkSet (fun k => decide (low ≤ (k : Int)) && decide ((k : Int) ≤ high)) 64

theorem less_fst_fst (a b : Nat) : less (fst a) (fst b) = mkSet (fun k => decide (k < a) && !decide (k < b)) 64 := by
  rw [less_eq (fst_lt a) (fst_lt b)]
  refine mkSet_congr fun k hk => ?_
  simp [testBit_fst, hk]

/-- The set of those of a list that are from 0 to 63. -/
def ofL (l : List Int) : Nat := mkSet (fun k => l.contains (k : Int)) 64
theorem ofL_lt (l : List Int) : ofL l < 2 ^ 64 := mkSet_lt _ _
theorem ofL_snoc_in {l : List Int} {k : Nat} (hk : k < 64) : ofL (l ++ [(k : Int)]) = ofL l ||| 2 ^ k := by
  apply Nat.eq_of_testBit_eq
  intro i
  rw [Nat.testBit_or, ofL, ofL, testBit_mkSet, testBit_mkSet, Nat.testBit_two_pow]
  by_cases hi : i < 64
  · rw [Bool.eq_iff_iff]
    by_cases e : k = i
    · simp [hi, e]
    · simp [hi, e]
      intro h
      omega
  · have : ¬ k = i := by omega
    simp [hi, this]
theorem ofL_snoc_out {l : List Int} {x : Int} (hx : x < 0 ∨ 63 < x) : ofL (l ++ [x]) = ofL l := by
  refine mkSet_congr fun k hk => ?_
  rw [Bool.eq_iff_iff]
  simp
  omega

theorem take_succ_getD {l : List Int} {k : Nat} {x : Int} (hk : k < l.length) (hx : l.getD k 0 = x) : l.take (k + 1) = l.take k ++ [x] := by
  rw [List.take_add_one, List.getElem?_eq_getElem hk]
  rw [List.getD_eq_getElem?_getD, List.getElem?_eq_getElem hk] at hx
  have hx' : l[k] = x := by simpa using hx
  rw [hx']
  rfl

theorem or_pow {b k : Nat} (hb : b < 2 ^ 64) (hk : k < 64) : bits BinOp.or IntKind.u64 (b : Int) (IntKind.u64.wrap (2 ^ k)) = ((b ||| 2 ^ k : Nat) : Int) := by
  have h1 : (2 : Nat) ^ k < 2 ^ 64 := Nat.pow_lt_pow_right (by decide) hk
  have e : IntKind.u64.wrap (2 ^ k) = ((2 ^ k : Nat) : Int) := by
    have e : ((2 : Int) ^ k) = ((2 ^ k : Nat) : Int) := by simp
    rw [e, IntKind.wrap_u64]
    generalize (2 : Nat) ^ k = p at *
    omega
  rw [e]
  exact u64_or_nat b (2 ^ k) hb h1

theorem of_any (A : Option Addr) (n c : Nat) (l : List Int) (w : World) (hl : Ints w A n l) :
    Calls Tryd.prog 95 #[.slice A n c] w fun e w' => e = .returned (.int .u64 (ofL l : Nat)) ∧ w = w' := by
  have Hl := Lib.hid hl
  have hs1 := hl.small
  clear hl
  go_enter Tryd.func95, Tryd.ntmps95
  go_wp2
  go_loop [3, 8] (fun u v => ∃ k : Nat, k ≤ n ∧ v = .int .i64 k ∧ ∃ b : Nat, u = .int .u64 b ∧ Hid (b = ofL (l.take k))) (fun _ v => n - (intOf v).toNat)
  case atStart => exact ⟨0, Nat.zero_le _, rfl, 0, rfl, by show 0 = ofL []; decide⟩
  case round =>
    obtain ⟨k, hk, rfl, b, rfl, Hb⟩ := hrel
    by_cases hlt : k < n
    · obtain ⟨a, rfl, hba⟩ := Hl.out.addr (by omega)
      obtain ⟨x, Hx, hcx, hx1, hx2⟩ := Hl.out.named k hlt
      have hlen := Hl.out.len
      have ht := take_succ_getD (by omega) Hx.out
      by_cases hin : 0 ≤ x ∧ x < 64
      · obtain ⟨y, rfl⟩ := Int.eq_ofNat_of_zero_le hin.1
        have hy : y < 64 := by omega
        have ho := or_pow (b := b) (by rw [Hb.out]; exact ofL_lt _) hy
        have Hn : Hid (b ||| 2 ^ y = ofL (l.take (k + 1))) := by
          show b ||| 2 ^ y = ofL (l.take (k + 1))
          rw [ht, ofL_snoc_in hy, Hb.out]
        clear hlen ht hin
        generalize b ||| 2 ^ y = b2 at *
        go_wp2
        go_round
        case rel => exact ⟨k + 1, by omega, by go_num, b2, by simp [*], Hn⟩
        case measure => simp [intOf]; omega
      · have Hn : Hid (b = ofL (l.take (k + 1))) := by
          show b = ofL (l.take (k + 1))
          rw [ht, ofL_snoc_out (by omega), Hb.out]
        clear hlen ht
        by_cases h0 : 0 ≤ x
        · have h1 : ¬ x < 64 := fun h => hin ⟨h0, h⟩
          clear hin
          go_wp2
          go_round
          case rel => exact ⟨k + 1, by omega, by go_num, b, rfl, Hn⟩
          case measure => simp [intOf]; omega
        · clear hin
          go_wp2
          go_round
          case rel => exact ⟨k + 1, by omega, by go_num, b, rfl, Hn⟩
          case measure => simp [intOf]; omega
    · go_wp2
      go_ret
      have e : k = n := by omega
      rw [e] at Hb
      exact ⟨ret_u64 (by rw [Hb.out, ← Hl.out.len, List.take_length]), rfl⟩
end Go.Proofs.YtekcenacpklpgaaDoor

namespace Go.Proofs.YtekcenacpklpgaaDoor
open Go Go.ChangeShapes Go.WideShapes Go.ChangeAt Go.RowKit

abbrev laidL : List (String × DataW Unit) := [("math/bits.deBruijn64tab", Rows.laid_math_bits_deBruijn64tab)]
set_option maxRecDepth 100000 in
theorem door_met (os : Os) (args : Array Value) : laidMetH Tryd.prog laidL ((World.doorLaid Tryd.prog 400 os).forCall (fun _ _ => 0) ⟨#[], args, []⟩).memory :=
  laidMetH_of_parts3 (fuel := 8) (laidMet_of_run' 8 (by kernel_rfl) (by kernel_rfl)) (by kernel_rfl) (by kernel_rfl)
theorem laid_list : (Rows.laid_math_bits_deBruijn64tab : DataW Unit) = .agg (Lib.deBruijn64tab.map fun (n : Nat) => .lit (.int .u8 (n : Int))) := rfl
theorem tab_len : Lib.deBruijn64tab.length = 64 := rfl
set_option maxRecDepth 100000 in
theorem tab_of_laid {W : World} (h : laidMetH Tryd.prog laidL W) : Tab W := by
  rw [MakeChecks.laidMetH_plain _ _ _ (by kernel_rfl)] at h
  obtain ⟨ps, ⟨g, t, cs, fuel, p, q, hg, ht, hv, hd, _, _⟩, _, _⟩ := h
  obtain rfl := Option.some.inj ((show Tryd.prog.globalNamed "math/bits.deBruijn64tab" = some 0 by kernel_rfl).symm.trans hg)
  obtain rfl := Option.some.inj ((show (Tryd.prog.globals[0]?).map (·.type) = some 113 by kernel_rfl).symm.trans ht)
  have cu : Tryd.prog.cellsOf 5 = 1 := by kernel_rfl
  have ca : Tryd.prog.cellsOf 113 = 64 := by kernel_rfl
  obtain ⟨xs, m, _, ex, hlen, hl, hel⟩ := DataW.trod_array Tryd.underlying113 hd
  rw [ca] at hlen
  rw [laid_list] at ex
  have e3 := DataW.agg.inj (Prod.mk.inj ex).1
  intro j hj
  rw [tab_len] at hj
  have k := hel j hj
  rw [cu] at k
  have hx : xs[j]? = some xs[j] := List.getElem?_eq_getElem (by omega)
  rw [hx] at k
  obtain ⟨z, a, b, _⟩ := DataW.trod_int Tryd.underlying5 k
  have ej : (xs.map (·.1))[j]? = (Lib.deBruijn64tab.map fun (n : Nat) => (DataW.lit (.int .u8 (n : Int)) : DataW Unit))[j]? := by rw [e3]
  rw [List.getElem?_map, List.getElem?_map, hx, List.getElem?_eq_getElem (by rw [tab_len]; exact hj)] at ej
  simp only [Option.map_some, Option.some.injEq] at ej
  rw [b] at ej
  have ez : z = ((Lib.deBruijn64tab[j]'(by rw [tab_len]; exact hj) : Nat) : Int) := by simpa using ej
  rw [World.var?_cell (show Tryd.prog.globalNamed "math/bits.deBruijn64tab" = some 0 by kernel_rfl) hv j]
  have hc : cs[j]? = some (.int .u8 z) := by
    have h1 : (cs.toList.drop (j * 1)).take 1 = [.int .u8 z] := a
    rw [Nat.mul_one] at h1
    have h2 : (cs.toList.drop j)[0]? = some (.int .u8 z) := by
      have := congrArg (fun l => l[0]?) h1
      simpa [List.getElem?_take] using this
    rw [List.getElem?_drop] at h2
    simpa using h2
  rw [hc, ez]
  rw [List.getD_eq_getElem?_getD, List.getElem?_eq_getElem (by rw [tab_len]; exact hj)]
  rfl
end Go.Proofs.YtekcenacpklpgaaDoor

namespace Go.Proofs.YtekcenacpklpgaaDoor
namespace Pl

/-- A domain: its values, and which are left. -/
abbrev DomB := List Int × Nat

/-- What is left of a domain: those places for whose values f says yes. -/
@[irreducible] def keepL (f : Int → Bool) (d : DomB) : Nat := mkSet (fun k => d.2.testBit k && f (d.1.getD k 0)) 64
def keepD (f : Int → Bool) (d : DomB) : DomB := (d.1, keepL f d)
theorem keepD_fst (f : Int → Bool) (d : DomB) : (keepD f d).1 = d.1 := rfl
theorem keepD_lt (f : Int → Bool) (d : DomB) : (keepD f d).2 < 2 ^ 64 := by
  show keepL f d < _
  unfold keepL; exact mkSet_lt _ _
theorem testBit_keepD (f : Int → Bool) (d : DomB) (k : Nat) : (keepD f d).2.testBit k = (decide (k < 64) && (d.2.testBit k && f (d.1.getD k 0))) := by
  show (keepL f d).testBit k = _
  unfold keepL; exact testBit_mkSet _ _ _

theorem mayB_iff {d : DomB} : mayB d.1 d.2 = true ↔ d.1.length ≤ 64 ∧ d.2 < 2 ^ d.1.length ∧ okUpto d.1 d.1.length = true := by
  simp [mayB, and_assoc]

theorem may_bit {d : DomB} (h : mayB d.1 d.2 = true) {k : Nat} (hk : d.2.testBit k = true) : k < d.1.length ∧ k < 64 := by
  have h1 := mayB_lt h
  have h2 := mayB_len h
  by_cases hlt : k < d.1.length
  · exact ⟨hlt, by omega⟩
  · have h3 : 2 ^ d.1.length ≤ 2 ^ k := Nat.pow_le_pow_right (by decide) (by omega)
    rw [Nat.testBit_lt_two_pow (by omega)] at hk
    simp at hk

theorem keepD_may {f : Int → Bool} {d : DomB} (h : mayB d.1 d.2 = true) : mayB (keepD f d).1 (keepD f d).2 = true := by
  rw [mayB_iff] at *
  refine ⟨h.1, lt_of_testBit fun k hk => ?_, h.2.2⟩
  rw [testBit_keepD]
  have h3 : 2 ^ d.1.length ≤ 2 ^ k := Nat.pow_le_pow_right (by decide) hk
  rw [Nat.testBit_lt_two_pow (by have := h.2.1; omega)]
  simp

theorem mem_listB {d : DomB} {v : Int} : v ∈ listB d.1 d.2 ↔ mayB d.1 d.2 = true ∧ ∃ k, k < d.1.length ∧ d.2.testBit k = true ∧ d.1.getD k 0 = v := by
  unfold listB
  split
  · rename_i h
    unfold valsOf
    rw [List.mem_map]
    constructor
    · rintro ⟨x, hx, rfl⟩
      obtain ⟨k, rfl, _, hk⟩ := mem_elemsI.1 hx
      exact ⟨h, k, (may_bit h hk).1, hk, rfl⟩
    · rintro ⟨_, k, hk, hb, rfl⟩
      exact ⟨k, mem_elemsI.2 ⟨k, rfl, (may_bit h hb).2, hb⟩, rfl⟩
  · rename_i h
    simp [h]

theorem bit_mem {d : DomB} (h : mayB d.1 d.2 = true) {k : Nat} (hk : d.2.testBit k = true) : d.1.getD k 0 ∈ listB d.1 d.2 :=
  mem_listB.2 ⟨h, k, (may_bit h hk).1, hk, rfl⟩

theorem mem_keepD {f : Int → Bool} {d : DomB} (h : mayB d.1 d.2 = true) {v : Int} : v ∈ listB (keepD f d).1 (keepD f d).2 ↔ v ∈ listB d.1 d.2 ∧ f v = true := by
  rw [mem_listB, mem_listB]
  constructor
  · rintro ⟨_, k, hk, hb, rfl⟩
    rw [testBit_keepD] at hb
    simp only [Bool.and_eq_true] at hb
    exact ⟨⟨h, k, hk, hb.2.1, rfl⟩, hb.2.2⟩
  · rintro ⟨⟨_, k, hk, hb, rfl⟩, hf⟩
    refine ⟨keepD_may h, k, hk, ?_, rfl⟩
    rw [testBit_keepD]
    have := (may_bit h hb).2
    rw [hb, hf]; simp [this]

/-- What counts is what f says of the values that are left. -/
theorem keepD_congr {f g : Int → Bool} {d : DomB} (h : mayB d.1 d.2 = true) (hfg : ∀ v ∈ listB d.1 d.2, f v = g v) : keepD f d = keepD g d := by
  refine Prod.ext rfl ?_
  show keepL f d = keepL g d
  unfold keepL
  apply mkSet_congr
  intro k _
  cases hb : d.2.testBit k with
  | false => rfl
  | true => rw [Bool.true_and, Bool.true_and]; exact hfg _ (bit_mem h hb)
theorem keepD_all {f : Int → Bool} {d : DomB} (h : mayB d.1 d.2 = true) (hf : ∀ v ∈ listB d.1 d.2, f v = true) : keepD f d = d := by
  have hl : d.2 < 2 ^ 64 := Nat.lt_of_lt_of_le (mayB_lt h) (Nat.pow_le_pow_right (by decide) (mayB_len h))
  have : keepD f d = keepD (fun _ => true) d := keepD_congr h hf
  rw [this]
  refine Prod.ext rfl ?_
  show keepL _ d = d.2
  unfold keepL
  simp only [Bool.and_true]
  have e : (fun k => d.2.testBit k) = d.2.testBit := rfl
  rw [e, mkSet_testBit hl]
theorem keepD_keepD (f g : Int → Bool) (d : DomB) : keepD f (keepD g d) = keepD (fun x => g x && f x) d := by
  refine Prod.ext rfl ?_
  show keepL f (d.1, keepL g d) = keepL _ d
  unfold keepL
  apply mkSet_congr
  intro k hk
  rw [testBit_mkSet]
  simp [hk, Bool.and_assoc]

/-- The list of domains, of each of which some is kept. -/
def stepB (kp : Nat → Int → Bool) (ds : List DomB) : List DomB := (List.range ds.length).map fun i => keepD (kp i) (ds.getD i ([], 0))
theorem stepB_length (kp : Nat → Int → Bool) (ds : List DomB) : (stepB kp ds).length = ds.length := by simp [stepB]
theorem stepB_getD (kp : Nat → Int → Bool) (ds : List DomB) {i : Nat} (hi : i < ds.length) : (stepB kp ds).getD i ([], 0) = keepD (kp i) (ds.getD i ([], 0)) := by
  unfold stepB
  rw [List.getD_eq_getElem?_getD, List.getElem?_map, List.getElem?_range hi]
  rfl

/-- May each domain be? -/
def allMay (ds : List DomB) : Bool := ds.all fun d => mayB d.1 d.2
theorem allMay_at {ds : List DomB} (h : allMay ds = true) {i : Nat} (hi : i < ds.length) : mayB (ds.getD i ([], 0)).1 (ds.getD i ([], 0)).2 = true := by
  unfold allMay at h
  rw [List.all_eq_true] at h
  have : ds.getD i ([], 0) ∈ ds := by
    rw [List.getD_eq_getElem?_getD, List.getElem?_eq_getElem hi]
    exact List.getElem_mem hi
  exact h _ this

theorem ext_getD {us bs : List DomB} (hl : us.length = bs.length) (h : ∀ i, i < us.length → us.getD i ([], 0) = bs.getD i ([], 0)) : us = bs := by
  apply List.ext_getElem hl
  intro i h1 h2
  have := h i h1
  rw [List.getD_eq_getElem?_getD, List.getD_eq_getElem?_getD, List.getElem?_eq_getElem h1, List.getElem?_eq_getElem h2] at this
  simpa using this

/-- One domain of the list turned. -/
theorem getD_set (ds : List DomB) (p i : Nat) (d : DomB) (hp : p < ds.length) : (ds.set p d).getD i ([], 0) = if i = p then d else ds.getD i ([], 0) := by
  simp only [List.getD_eq_getElem?_getD, List.getElem?_set]
  by_cases h : p = i
  · subst h; simp [hp]
  · have : ¬ i = p := fun e => h e.symm
    simp [h, this]

/-- The list of what is left, turned into what is kept. -/
theorem stepB_congr {kp kq : Nat → Int → Bool} {ds : List DomB} (h : allMay ds = true) (hk : ∀ i, i < ds.length → ∀ v ∈ listB (ds.getD i ([], 0)).1 (ds.getD i ([], 0)).2, kp i v = kq i v) : stepB kp ds = stepB kq ds := by
  unfold stepB
  apply List.map_congr_left
  intro i hi
  have hi := List.mem_range.1 hi
  exact keepD_congr (allMay_at h hi) (hk i hi)

end Pl
end Go.Proofs.YtekcenacpklpgaaDoor

namespace Go.Proofs.YtekcenacpklpgaaDoor
namespace Pl

structure ConB where
  kind : Int
  vars : List Int
  coefs : List Int
  rel : Int
  const : Int
  nums : List Int

/-- Are all numbers from -m to m? -/
def withinB (l : List Int) (m : Int) : Bool := l.all fun x => decide (-m ≤ x) && decide (x ≤ m)
theorem within_take {l : List Int} {k : Nat} {x m : Int} (hk : k < l.length) (hx : l.getD k 0 = x) (h : withinB (l.take k) m = true) : withinB (l.take (k + 1)) m = (decide (-m ≤ x) && decide (x ≤ m)) := by
  have e : l.take (k + 1) = l.take k ++ [x] := by
    rw [List.take_succ_eq_append_getElem hk]
    rw [List.getD_eq_getElem?_getD, List.getElem?_eq_getElem hk] at hx
    simp only [Option.getD_some] at hx
    rw [hx]
  rw [e]
  unfold withinB at *
  rw [List.all_append, h]
  simp
theorem within_bad {l : List Int} {k : Nat} {m : Int} (h : withinB (l.take k) m = false) : withinB l m = false := by
  cases e : withinB l m with
  | false => rfl
  | true =>
    unfold withinB at *
    rw [List.all_eq_true] at e
    have : (l.take k).all (fun x => decide (-m ≤ x) && decide (x ≤ m)) = true := List.all_eq_true.2 fun d hd => e d (List.mem_of_mem_take hd)
    rw [h] at this
    cases this
theorem withinB_mem {l : List Int} {m x : Int} (h : withinB l m = true) (hx : x ∈ l) : -m ≤ x ∧ x ≤ m := by
  unfold withinB at h
  rw [List.all_eq_true] at h
  simpa using h x hx

/-- Is the variable at a place right, behind those ahead of it? -/
def vOk (vs : List Int) (V : Int) (i : Nat) : Bool := decide (0 ≤ vs.getD i 0) && decide (vs.getD i 0 < V) && !((vs.take i).contains (vs.getD i 0))
def vUpto (vs : List Int) (V : Int) (k : Nat) : Bool := (List.range k).all (vOk vs V)
def varsOk (vs : List Int) (V : Int) : Bool := vUpto vs V vs.length
theorem vUpto_zero (vs : List Int) (V : Int) : vUpto vs V 0 = true := rfl
theorem vUpto_succ (vs : List Int) (V : Int) (k : Nat) : vUpto vs V (k + 1) = (vUpto vs V k && vOk vs V k) := by
  unfold vUpto
  rw [List.range_succ, List.all_append]
  simp
theorem vUpto_bad {vs : List Int} {V : Int} {m n : Nat} (h : vOk vs V m = false) (hm : m < n) : vUpto vs V n = false := by
  cases e : vUpto vs V n with
  | false => rfl
  | true =>
    unfold vUpto at e
    rw [List.all_eq_true] at e
    have := e m (List.mem_range.2 hm)
    rw [h] at this
    cases this
theorem vUpto_at {vs : List Int} {V : Int} {n k : Nat} (h : vUpto vs V n = true) (hk : k < n) : vOk vs V k = true := by
  unfold vUpto at h
  rw [List.all_eq_true] at h
  exact h k (List.mem_range.2 hk)
theorem vOk_named {vs : List Int} {V x : Int} {i : Nat} (hx : vs.getD i 0 = x) : vOk vs V i = (decide (0 ≤ x) && decide (x < V) && !((vs.take i).contains x)) := by
  unfold vOk; rw [hx]
theorem varsOk_rng {vs : List Int} {V : Int} (h : varsOk vs V = true) {i : Nat} (hi : i < vs.length) : 0 ≤ vs.getD i 0 ∧ vs.getD i 0 < V := by
  have := vUpto_at h hi
  unfold vOk at this
  simp only [Bool.and_eq_true, decide_eq_true_eq] at this
  exact this.1
theorem varsOk_ne {vs : List Int} {V : Int} (h : varsOk vs V = true) {i k : Nat} (hi : i < vs.length) (hk : k < i) : vs.getD k 0 ≠ vs.getD i 0 := by
  have := vUpto_at h hi
  unfold vOk at this
  simp only [Bool.and_eq_true, Bool.not_eq_true', List.contains_eq_mem, decide_eq_false_iff_not] at this
  intro e
  apply this.2
  rw [← e]
  rw [List.getD_eq_getElem?_getD, List.getElem?_eq_getElem (by omega)]
  simp only [Option.getD_some]
  exact List.mem_take_iff_getElem.2 ⟨k, by omega, rfl⟩

/-- There is no sum, and there are from so many to so many numbers. -/
def bareB (C : ConB) (least most : Int) : Bool :=
  decide (C.coefs.length = 0) && decide (C.rel = 0) && decide (C.const = 0) && decide (least ≤ C.nums.length) && decide ((C.nums.length : Int) ≤ most) && withinB C.nums 1048576
def variablesB (C : ConB) (V least most : Int) : Bool := decide (least ≤ C.vars.length) && decide ((C.vars.length : Int) ≤ most) && varsOk C.vars V
def elemB (C : ConB) (V : Int) : Bool := variablesB C V 2 2 && bareB C 1 96
def tabB (C : ConB) (V : Int) : Bool := variablesB C V 1 8 && bareB C 0 96 && decide ((C.nums.length : Int) % C.vars.length = 0)

end Pl
end Go.Proofs.YtekcenacpklpgaaDoor

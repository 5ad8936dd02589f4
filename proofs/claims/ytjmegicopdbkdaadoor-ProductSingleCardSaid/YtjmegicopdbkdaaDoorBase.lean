/-
  What the contracts speak of: slices that are read, worlds that have only grown. No program in it.
-/
import Derived.WalkKit
import Derived.WalkSpells
import Derived.WalkLawsBesides
import Derived.KernelRfl
import Derived.Deep.QuietTactic
import Derived.BigQuiet
import Derived.Lib.QuietBelow
import Derived.Lib.Hide
import Derived.Laws.BitsAllLaws
import Derived.Deep.LoopGhost
import Derived.OwnWalk
import Derived.Maps.AppendAt
import Derived.Deep.DeepCutAuto
import Derived.Outline
import Derived.Deep.AppendLies
namespace Go.Proofs.YtjmegicopdbkdaaDoor
open Go Go.RowKit

/-- Nothing that was there has turned. -/
abbrev Kept (w w' : World) : Prop := Below w.heap.size w w'

theorem Kept.then {a b c : World} (h : Kept a b) (k : Kept b c) : Kept a c :=
  h.trans ⟨k.os, k.tape, k.output, k.size, fun i hi => k.block i (Nat.lt_of_lt_of_le hi h.size)⟩
theorem Kept.drewN {a b : World} (h : Kept a b) (n : Nat) : Kept a (b.drewN n) := ⟨h.os, h.tape, h.output, h.size, h.block⟩
theorem Kept.newBlock {a b : World} (h : Kept a b) (o : Obj) : Kept a (b.alloc o) := h.alloc h.size o
theorem Kept.box (w : World) (o : Obj) : Kept w (w.alloc o) := (Below.refl _ _).alloc (Nat.le_refl _) o
theorem Kept.same (w : World) : Kept w w := Below.refl _ _
theorem Kept.cellAt {w w' : World} (h : Kept w w') {a : Addr} {v : Value} (hc : w.cell? a = some v) : w'.cell? a = some v :=
  (h.cell (World.block_lt_of_cell? w a hc)).trans hc

/-- 'A', n: a slice's address and length: it reads as xs, whole numbers of 64 bits. -/
structure Ints (w : World) (A : Option Addr) (n : Nat) (xs : List Int) : Prop where
  len : xs.length = n
  small : n ≤ 9223372036854775807
  rng : ∀ x ∈ xs, -9223372036854775808 ≤ x ∧ x ≤ 9223372036854775807
  cell : 0 < n → ∃ a, A = some a ∧ ∀ j, j < n → w.cell? (a.add j) = some (.int .i64 (xs.getD j 0))

theorem Ints.kept {w w' : World} {A : Option Addr} {n : Nat} {xs : List Int} (h : Ints w A n xs) (hk : Kept w w') : Ints w' A n xs :=
  ⟨h.len, h.small, h.rng, fun hn => by
    obtain ⟨a, e, hc⟩ := h.cell hn
    exact ⟨a, e, fun j hj => hk.cellAt (hc j hj)⟩⟩

theorem Ints.getD_rng {w : World} {A : Option Addr} {n : Nat} {xs : List Int} (h : Ints w A n xs) (j : Nat) : -9223372036854775808 ≤ xs.getD j 0 ∧ xs.getD j 0 ≤ 9223372036854775807 := by
  by_cases hj : j < xs.length
  · rw [List.getD_eq_getElem?_getD, List.getElem?_eq_getElem hj]
    exact h.rng _ (List.getElem_mem hj)
  · rw [List.getD_eq_getElem?_getD, List.getElem?_eq_none (by omega)]
    exact ⟨by decide, by decide⟩


open Go.Sort in
theorem cell_grow {w : World} {a : Addr} (h : a.block < w.heap.size) (d : Nat) (os : Array Obj) : (grow (redrawn w d) os).cell? a = w.cell? a := (below_regrown w d os).cell h
attribute [go_sem] cell_grow
theorem add_block' (a : Addr) (j : Nat) : (a.add j).block = a.block := by unfold Addr.add; split <;> rfl
attribute [go_sem] add_block'
open Go.Sort in
theorem Kept.regrown {w w' : World} (h : ∃ p : Regrown, w' = grow (redrawn w p.d) p.os) : Kept w w' := by
  obtain ⟨p, rfl⟩ := h
  exact below_regrown w p.d p.os
theorem Ints.block {w : World} {a : Addr} {n : Nat} {xs : List Int} (h : Ints w (some a) n xs) (hn : 0 < n) : a.block < w.heap.size := by
  obtain ⟨b, e, hc⟩ := h.cell hn
  cases e
  have := World.block_lt_of_cell? w _ (hc 0 hn)
  rwa [add_block'] at this
/-- The number at a place, behind a name. -/
theorem Ints.named {w : World} {a : Addr} {n : Nat} {xs : List Int} (h : Ints w (some a) n xs) (k : Nat) (hk : k < n) :
    ∃ x : Int, Hid (xs.getD k 0 = x) ∧ w.cell? (a.add k) = some (.int .i64 x) ∧ -9223372036854775808 ≤ x ∧ x ≤ 9223372036854775807 := by
  obtain ⟨b, e, hc⟩ := h.cell (by omega)
  cases e
  exact ⟨_, rfl, hc k hk, h.getD_rng k⟩
theorem Ints.addr {w : World} {A : Option Addr} {n : Nat} {xs : List Int} (h : Ints w A n xs) (hn : 0 < n) : ∃ a, A = some a ∧ a.block < w.heap.size := by
  obtain ⟨a, rfl, hc⟩ := h.cell hn
  exact ⟨a, rfl, h.block hn⟩

theorem Ints.of_cells {w : World} {b : Nat} {xs : List Int} {t : TypeId} {fr : Nat × Nat} (h : w.heap[b]? = some (.cells (xs.map (Value.int .i64)).toArray t fr)) (hs : xs.length ≤ 140737488355328)
    (hr : ∀ x ∈ xs, -9223372036854775808 ≤ x ∧ x ≤ 9223372036854775807) {n : Nat} (hn : n = xs.length) : Ints w (some ⟨b, 0, none⟩) n xs :=
  ⟨hn.symm, by omega, hr, fun _ => ⟨_, rfl, fun j hj => by
    have e : (⟨b, 0, none⟩ : Addr).add j = ⟨b, j, none⟩ := by unfold Addr.add; split <;> simp_all
    rw [e]
    unfold World.cell?
    simp only [h]
    rw [List.getElem?_toArray, List.getElem?_map, List.getElem?_eq_getElem (by omega)]
    simp [List.getD_eq_getElem?_getD, List.getElem?_eq_getElem (show j < xs.length by omega)]⟩⟩
theorem Ints.none (w : World) : Ints w none 0 [] := ⟨rfl, by omega, by simp, fun h => by omega⟩
theorem heap_new (w : World) (o : Obj) : (w.alloc o).heap[w.heap.size]? = some o := by
  show (w.heap.push o)[w.heap.size]? = _
  simp
theorem heap_old {w : World} {b : Nat} {x : Obj} (o : Obj) (h : w.heap[b]? = some x) : (w.alloc o).heap[b]? = some x := by
  have hb : b < w.heap.size := (Array.getElem?_eq_some_iff.1 h).1
  rw [Below.heap_alloc w o b hb]; exact h

/-- A row that came in, as far as its length. -/
theorem Ints.of_row {w : World} {a : Option Addr} {len cap : Nat} {zs : List Int}
    (h : (a = Option.none ∧ len = 0 ∧ cap = 0 ∧ zs = []) ∨ ∃ x, a = some x ∧ len ≤ cap ∧ cap ≤ maxLen ∧ zs.length = cap ∧ (∀ i, i < zs.length → w.cell? (x.add i) = some (.int .i64 (zs.getD i 0))) ∧ ∀ n ∈ zs, (Lit.int .i64 n).wf = true) :
    Ints w a len (zs.take len) := by
  rcases h with ⟨rfl, rfl, rfl, rfl⟩ | ⟨x, rfl, h1, h2, h3, h4, h5⟩
  · exact Ints.none w
  · unfold maxLen at h2
    refine ⟨by simp; omega, by omega, fun n hn => ?_, fun _ => ⟨x, rfl, fun j hj => ?_⟩⟩
    · have := h5 n (List.mem_of_mem_take hn)
      simp [Lit.wf, IntKind.min, IntKind.max, IntKind.signed, IntKind.bits] at this
      omega
    · rw [h4 j (by omega)]
      simp [List.getD_eq_getElem?_getD, hj]

theorem own_base {w : World} {base : Nat} {e : TypeId} {size n : Nat} {v : Value} {xs : List Value} (h : w.ownsRow base e size v n xs) (k : Nat) (hk : v.ownBlock = some k) : base ≤ k := by
  rcases h.2 with ⟨rfl, _⟩ | ⟨g, cap, cur, rfl, hb, _⟩
  · simp [Value.ownBlock] at hk
  · have : g = k := by simpa [Value.ownBlock] using hk
    omega
/-- Behind an append to a row of the call's own: nothing below has turned. -/
theorem Kept.appended {w1 wr w2 : World} {base : Nat} {e : TypeId} {size n : Nat} {v : Value} {xs : List Value} (hk : Kept w1 wr) (hown : wr.ownsRow base e size v n xs) (hb : w1.heap.size ≤ base) {o : Obj} (hg : (wr.alloc o).grownBy w2 v.ownBlock) : Kept w1 w2 :=
  (hk.newBlock o).grown hg (by have := hk.size; simp; omega) (fun k hk' => Nat.le_trans hb (own_base hown k hk'))
/-- What owns a row of whole numbers reads as them. -/
theorem Ints.of_own {w : World} {base n : Nat} {e : TypeId} {v : Value} {xs : List Int} (h : w.ownsRow base e 1 v n (xs.map (Value.int .i64))) (hr : ∀ x ∈ xs, -9223372036854775808 ≤ x ∧ x ≤ 9223372036854775807) :
    ∃ A c, v = .slice A n c ∧ Ints w A n xs ∧ ∀ a, A = some a → base ≤ a.block := by
  have hl : xs.length = n := by have := h.1; simpa using this
  have hob := own_base h
  rcases Nat.eq_zero_or_pos n with h0 | h0
  · rcases h.2 with ⟨rfl, rfl⟩ | ⟨g, cap, cur, rfl, _⟩
    · exact ⟨Option.none, 0, rfl, ⟨hl, by omega, hr, fun hp => absurd hp (by omega)⟩, by simp⟩
    · exact ⟨_, cap, rfl, ⟨hl, by omega, hr, fun hp => absurd hp (by omega)⟩, fun a ha => by cases ha; exact hob g rfl⟩
  · obtain ⟨g, cap, rfl, _, _⟩ := h.form h0
    have hm : n ≤ 9223372036854775807 := by
      rcases h.2 with ⟨_, h1⟩ | ⟨g', cap', cur, he, _, _, h1, h2, _⟩
      · omega
      · simp only [maxLen] at h2
        omega
    refine ⟨_, cap, rfl, ⟨hl, hm, hr, fun _ => ⟨_, rfl, fun j hj => h.cells (g := g) rfl j _ ?_⟩⟩, fun a ha => by cases ha; exact hob g rfl⟩
    simp [List.getElem?_eq_getElem (show j < xs.length by omega), List.getD_eq_getElem?_getD]
/-- What lies there lay not there in w. -/
def Fresh (w : World) (A : Option Addr) : Prop := ∀ a, A = some a → w.heap.size ≤ a.block
theorem Fresh.none (w : World) : Fresh w Option.none := by intro a h; cases h
theorem Fresh.mono {w w' : World} {A : Option Addr} (h : Fresh w' A) (hs : w.heap.size ≤ w'.heap.size) : Fresh w A := fun a ha => Nat.le_trans hs (h a ha)
/-- A list is handed back, in memory of the call's own. -/
def ListPost (xs : List Int) (w : World) (e : Ending) (w' : World) : Prop :=
  ∃ A c, e = .returned (.slice A xs.length c) ∧ Ints w' A xs.length xs ∧ Kept w w' ∧ Fresh w A

/-- All that was there but block B has not turned. -/
structure KeptBut (B : Nat) (w w' : World) : Prop where
  os : w'.os = w.os
  tape : w'.tape = w.tape
  output : w'.output = w.output
  size : w.heap.size ≤ w'.heap.size
  block : ∀ k, k < w.heap.size → k ≠ B → w'.heap[k]? = w.heap[k]?
theorem KeptBut.refl (B : Nat) (w : World) : KeptBut B w w := ⟨rfl, rfl, rfl, Nat.le_refl _, fun _ _ _ => rfl⟩
theorem KeptBut.then {B : Nat} {a b c : World} (h : KeptBut B a b) (k : KeptBut B b c) : KeptBut B a c :=
  ⟨k.os.trans h.os, k.tape.trans h.tape, k.output.trans h.output, Nat.le_trans h.size k.size, fun i hi hB => (k.block i (Nat.lt_of_lt_of_le hi h.size) hB).trans (h.block i hi hB)⟩
theorem KeptBut.of {w w' : World} (h : Kept w w') (B : Nat) : KeptBut B w w' := ⟨h.os, h.tape, h.output, h.size, fun k hk _ => h.block k hk⟩
theorem KeptBut.set (w : World) {B : Nat} {a : Addr} (h : a.block = B) (v : Value) : KeptBut B w (w.setCell a v) :=
  ⟨rfl, rfl, rfl, by simp [World.setCell], fun k _ hB => Below.heap_setCell _ _ _ _ (by rw [h]; exact hB)⟩
theorem KeptBut.cellAt {B : Nat} {w w' : World} (h : KeptBut B w w') {a : Addr} {v : Value} (hc : w.cell? a = some v) (hB : a.block ≠ B) : w'.cell? a = some v :=
  (World.cell?_of_block (w := w) (h.block a.block (World.block_lt_of_cell? w a hc) hB)).trans hc
theorem KeptBut.kept {B : Nat} {w w' : World} (h : KeptBut B w w') (hB : w.heap.size ≤ B) : Kept w w' := ⟨h.os, h.tape, h.output, h.size, fun k hk => h.block k hk (by omega)⟩
theorem Ints.keptBut {B : Nat} {w w' : World} {A : Option Addr} {n : Nat} {xs : List Int} (h : Ints w A n xs) (hk : KeptBut B w w') (hB : ∀ a, A = some a → a.block ≠ B) : Ints w' A n xs :=
  ⟨h.len, h.small, h.rng, fun hn => by
    obtain ⟨a, e, hc⟩ := h.cell hn
    exact ⟨a, e, fun j hj => hk.cellAt (hc j hj) (by rw [add_block']; exact hB a e)⟩⟩

end Go.Proofs.YtjmegicopdbkdaaDoor

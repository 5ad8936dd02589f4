/-
  Worlds in which some blocks may have turned.
-/
import Derived.Test.YtjmegicopdbkdaaDoorKept2
namespace Go.Proofs.YtjmegicopdbkdaaDoor
open Go Go.RowKit Pl

/-- All that was there but the blocks of X has not turned. -/
structure KeptX (X : Nat → Prop) (w w' : World) : Prop where
  os : w'.os = w.os
  tape : w'.tape = w.tape
  output : w'.output = w.output
  size : w.heap.size ≤ w'.heap.size
  block : ∀ k, k < w.heap.size → ¬ X k → w'.heap[k]? = w.heap[k]?
theorem KeptX.refl (X : Nat → Prop) (w : World) : KeptX X w w := ⟨rfl, rfl, rfl, Nat.le_refl _, fun _ _ _ => rfl⟩
theorem KeptX.then {X : Nat → Prop} {a b c : World} (h : KeptX X a b) (k : KeptX X b c) : KeptX X a c :=
  ⟨k.os.trans h.os, k.tape.trans h.tape, k.output.trans h.output, Nat.le_trans h.size k.size, fun i hi hB => (k.block i (Nat.lt_of_lt_of_le hi h.size) hB).trans (h.block i hi hB)⟩
theorem KeptX.of {w w' : World} (h : Kept w w') (X : Nat → Prop) : KeptX X w w' := ⟨h.os, h.tape, h.output, h.size, fun k hk _ => h.block k hk⟩
theorem KeptX.ofBut {B : Nat} {w w' : World} (h : KeptBut B w w') {X : Nat → Prop} (hX : X B) : KeptX X w w' :=
  ⟨h.os, h.tape, h.output, h.size, fun k hk hn => h.block k hk (fun e => hn (e ▸ hX))⟩
theorem KeptX.heapAt {X : Nat → Prop} {w w' : World} (h : KeptX X w w') {O : Nat} {o : Obj} (hO : w.heap[O]? = some o) (hn : ¬ X O) : w'.heap[O]? = some o := (h.block O (lt_at hO) hn).trans hO
theorem KeptX.cellAt {X : Nat → Prop} {w w' : World} (h : KeptX X w w') {a : Addr} {v : Value} (hc : w.cell? a = some v) (hn : ¬ X a.block) : w'.cell? a = some v :=
  (World.cell?_of_block (w := w) (h.block a.block (World.block_lt_of_cell? w a hc) hn)).trans hc
/-- .. below a world whose blocks are none of X. -/
theorem KeptX.below {X : Nat → Prop} {w0 w w' : World} (h0 : Kept w0 w) (h : KeptX X w w') (hX : ∀ k, X k → w0.heap.size ≤ k) : Kept w0 w' :=
  ⟨h.os.trans h0.os, h.tape.trans h0.tape, h.output.trans h0.output, Nat.le_trans h0.size h.size, fun k hk => (h.block k (Nat.lt_of_lt_of_le hk h0.size) (fun e => by have := hX k e; omega)).trans (h0.block k hk)⟩
theorem KeptX.but {X : Nat → Prop} {B : Nat} {w0 w w' : World} (h0 : Kept w0 w) (h : KeptX X w w') (hX : ∀ k, X k → k = B ∨ w0.heap.size ≤ k) : KeptBut B w0 w' :=
  ⟨h.os.trans h0.os, h.tape.trans h0.tape, h.output.trans h0.output, Nat.le_trans h0.size h.size, fun k hk hB => (h.block k (Nat.lt_of_lt_of_le hk h0.size) (fun e => by have := hX k e; omega)).trans (h0.block k hk)⟩
theorem Ints.keptX {X : Nat → Prop} {w w' : World} {A : Option Addr} {n : Nat} {xs : List Int} (h : Ints w A n xs) (hk : KeptX X w w') (hB : 0 < n → ∀ a, A = some a → ¬ X a.block) : Ints w' A n xs :=
  ⟨h.len, h.small, h.rng, fun hn => by
    obtain ⟨a, e, hc⟩ := h.cell hn
    exact ⟨a, e, fun j hj => hk.cellAt (hc j hj) (by rw [add_block']; exact hB hn a e)⟩⟩
end Go.Proofs.YtjmegicopdbkdaaDoor

/-
  Slices of domains, as they are read.
-/
import Derived.Test.YtjmegicopdbkdaaDoorKept2
set_option maxHeartbeats 1000000
set_option maxRecDepth 10000
namespace Go.Proofs.YtjmegicopdbkdaaDoor
open Go Go.RowKit Pl

abbrev nilD : DomB := ([], 0)

/-- 'A', n: a slice's address and length: it reads as the domains ds. -/
structure Doms (w : World) (A : Option Addr) (n : Nat) (ds : List DomB) : Prop where
  len : ds.length = n
  small : n ≤ 9223372036854775807
  live : ∀ j, j < n → (ds.getD j nilD).2 < 2 ^ 64
  cell : 0 < n → ∃ a, A = some a ∧ ∀ j, j < n → ∃ B m c, w.cell? (a.add (j * 2)) = some (.slice B m c) ∧ w.cell? ⟨a.block, (a.add (j * 2)).off + 1, Option.none⟩ = some (.int .u64 ((ds.getD j nilD).2 : Nat)) ∧ Ints w B m (ds.getD j nilD).1

theorem Doms.kept {w w' : World} {A : Option Addr} {n : Nat} {ds : List DomB} (h : Doms w A n ds) (hk : Kept w w') : Doms w' A n ds :=
  ⟨h.len, h.small, h.live, fun hn => by
    obtain ⟨a, e, hc⟩ := h.cell hn
    refine ⟨a, e, fun j hj => ?_⟩
    obtain ⟨B, m, c, h1, h2, h3⟩ := hc j hj
    exact ⟨B, m, c, hk.cellAt h1, hk.cellAt h2, h3.kept hk⟩⟩
theorem Doms.none (w : World) : Doms w Option.none 0 [] := ⟨rfl, by omega, fun j hj => by omega, fun h => by omega⟩
theorem Doms.addr {w : World} {A : Option Addr} {n : Nat} {ds : List DomB} (h : Doms w A n ds) (hn : 0 < n) : ∃ a, A = some a ∧ a.block < w.heap.size := by
  obtain ⟨a, rfl, hc⟩ := h.cell hn
  obtain ⟨B, m, c, h1, _⟩ := hc 0 hn
  have := World.block_lt_of_cell? w _ h1
  exact ⟨a, rfl, by rwa [add_block'] at this⟩
/-- The domain at a place, behind names. -/
theorem Doms.named {w : World} {a : Addr} {n : Nat} {ds : List DomB} (h : Doms w (some a) n ds) (k : Nat) (hk : k < n) :
    ∃ (xs : List Int) (L : Nat) (B : Option Addr) (m c : Nat), Hid (ds.getD k nilD = (xs, L)) ∧ w.cell? (a.add (k * 2)) = some (.slice B m c) ∧ w.cell? ⟨a.block, (a.add (k * 2)).off + 1, Option.none⟩ = some (.int .u64 (L : Nat)) ∧ Hid (Ints w B m xs) ∧ L < 2 ^ 64 := by
  obtain ⟨b, e, hc⟩ := h.cell (by omega)
  cases e
  obtain ⟨B, m, c, h1, h2, h3⟩ := hc k hk
  exact ⟨_, _, B, m, c, rfl, h1, h2, h3, h.live k hk⟩
theorem take_dom {ds : List DomB} {k : Nat} {d : DomB} (hk : k < ds.length) (hd : ds.getD k nilD = d) : ds.take (k + 1) = ds.take k ++ [d] := by
  rw [List.take_succ_eq_append_getElem hk]
  rw [List.getD_eq_getElem?_getD, List.getElem?_eq_getElem hk] at hd
  simp only [Option.getD_some] at hd
  rw [hd]
theorem allMay_take {ds : List DomB} {k : Nat} {xs : List Int} {L : Nat} (hk : k < ds.length) (hd : ds.getD k nilD = (xs, L)) (h : allMay (ds.take k) = true) : allMay (ds.take (k + 1)) = mayB xs L := by
  rw [take_dom hk hd]
  unfold allMay at *
  rw [List.all_append, h]
  simp
theorem allMay_bad {ds : List DomB} {k : Nat} (h : allMay (ds.take k) = false) : allMay ds = false := by
  cases e : allMay ds with
  | false => rfl
  | true =>
    unfold allMay at *
    rw [List.all_eq_true] at e
    have : (ds.take k).all (fun d => mayB d.1 d.2) = true := List.all_eq_true.2 fun d hd => e d (List.mem_of_mem_take hd)
    rw [h] at this
    cases this
end Go.Proofs.YtjmegicopdbkdaaDoor

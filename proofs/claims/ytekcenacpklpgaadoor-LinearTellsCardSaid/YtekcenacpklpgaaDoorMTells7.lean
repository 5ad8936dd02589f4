/-
  Contracts and plain laws that the card rests on, part 7.
-/
import Derived.Test.YtekcenacpklpgaaDoorMTells3
import Derived.Laws.OwnMore
import Derived.Test.YtekcenacpklpgaaDoorMTells4
import Derived.Test.YtekcenacpklpgaaDoorMTells6
import Derived.Test.YtekcenacpklpgaaDoorMTells5
set_option maxHeartbeats 1000000
namespace Go.Proofs.YtekcenacpklpgaaDoor
open Go Go.RowKit Pl

/-- The slice u, in blocks from base on, owns the domains ds; their values do not lie in its own block. -/
def OwnR (w : World) (base : Nat) (u : Value) (ds : List DomB) : Prop :=
  ∃ vs : List Value, w.ownsRow base 71 2 u ds.length vs ∧ ∀ j, j < ds.length → (ds.getD j nilD).2 < 2 ^ 64 ∧
    ∃ B m c, vs[j * 2]? = some (.slice B m c) ∧ vs[j * 2 + 1]? = some (.int .u64 ((ds.getD j nilD).2 : Nat)) ∧ Ints w B m (ds.getD j nilD).1 ∧ (0 < m → ∀ a, B = some a → u.ownBlock ≠ some a.block)

theorem OwnR.nil (w : World) (base : Nat) : OwnR w base (.slice Option.none 0 0) [] :=
  ⟨[], World.ownsRow_nil _ _ _ _, fun j hj => by simp at hj⟩

theorem OwnR.kept {w w' : World} {base : Nat} {u : Value} {ds : List DomB} (h : OwnR w base u ds) (hk : Kept w w') : OwnR w' base u ds := by
  obtain ⟨vs, hown, hd⟩ := h
  refine ⟨vs, hown.kept (row := Option.none) ⟨hk.os, hk.tape, hk.output, hk.size, fun k hk' _ => hk.block k hk'⟩ ?_, fun j hj => ?_⟩
  · cases u.ownBlock <;> simp
  · obtain ⟨hl, B, m, c, h1, h2, h3, h4⟩ := hd j hj
    exact ⟨hl, B, m, c, h1, h2, h3.kept hk, h4⟩

/-- One more: behind the copy of its values and the append. w1: where the append begins (its element laid in a block of its own). -/
theorem OwnR.snoc {w1 w2 : World} {base g cap : Nat} {u : Value} {ds : List DomB} {d : DomB} {B : Option Addr} {m c : Nat} {vs : List Value}
    (hown : w1.ownsRow base 71 2 u ds.length vs) (hd : ∀ j, j < ds.length → (ds.getD j nilD).2 < 2 ^ 64 ∧ ∃ B m c, vs[j * 2]? = some (.slice B m c) ∧ vs[j * 2 + 1]? = some (.int .u64 ((ds.getD j nilD).2 : Nat)) ∧ Ints w1 B m (ds.getD j nilD).1 ∧ (0 < m → ∀ a, B = some a → u.ownBlock ≠ some a.block))
    (hI : Ints w1 B m d.1) (hB : 0 < m → ∀ a, B = some a → u.ownBlock ≠ some a.block) (hL : d.2 < 2 ^ 64)
    (h2 : w2.ownsRow base 71 2 (.slice (some ⟨g, 0, Option.none⟩) (ds.length + 1) cap) (ds.length + 1) (vs ++ [.slice B m c, .int .u64 (d.2 : Nat)]))
    (hg : w1.grownBy w2 u.ownBlock) (hat : u.ownBlock = some g ∨ w1.heap.size ≤ g) : OwnR w2 base (.slice (some ⟨g, 0, Option.none⟩) (ds.length + 1) cap) (ds ++ [d]) := by
  have hlen : vs.length = ds.length * 2 := hown.1
  have hne : ∀ a : Addr, a.block < w1.heap.size → u.ownBlock ≠ some a.block → Value.ownBlock (.slice (some ⟨g, 0, Option.none⟩) (ds.length + 1) cap) ≠ some a.block := by
    intro a h1 h2 e
    simp only [Value.ownBlock, Option.some.injEq] at e
    rcases hat with h | h
    · rw [h, e] at h2; exact h2 rfl
    · omega
  have hint : ∀ {B : Option Addr} {m : Nat} {xs : List Int}, Ints w1 B m xs → (0 < m → ∀ a, B = some a → u.ownBlock ≠ some a.block) → Ints w2 B m xs := by
    intro B m xs h hb
    refine ⟨h.len, h.small, h.rng, fun hn => ?_⟩
    obtain ⟨a, e, hc⟩ := h.cell hn
    exact ⟨a, e, fun j hj => hg.cell (hc j hj) (by rw [add_block']; exact fun e' => hb hn a e e'.symm)⟩
  have hblk : ∀ {B : Option Addr} {m : Nat} {xs : List Int}, Ints w1 B m xs → 0 < m → ∀ a, B = some a → a.block < w1.heap.size := by
    intro B m xs h hn a ha
    subst ha
    exact h.block hn
  refine ⟨vs ++ [.slice B m c, .int .u64 (d.2 : Nat)], by rw [List.length_append]; exact h2, fun j hj => ?_⟩
  rw [List.length_append] at hj
  simp only [List.length_cons, List.length_nil] at hj
  by_cases hlt : j < ds.length
  · rw [getD_snoc hlt]
    obtain ⟨hl, B', m', c', e1, e2, e3, e4⟩ := hd j hlt
    refine ⟨hl, B', m', c', ?_, ?_, hint e3 e4, fun hn a ha => hne a (hblk e3 hn a ha) (e4 hn a ha)⟩
    · rw [List.getElem?_append_left (by omega)]; exact e1
    · rw [List.getElem?_append_left (by omega)]; exact e2
  · have e : j = ds.length := by omega
    subst e
    rw [getD_last]
    refine ⟨hL, B, m, c, ?_, ?_, hint hI hB, fun hn a ha => hne a (hblk hI hn a ha) (hB hn a ha)⟩
    · rw [List.getElem?_append_right (by omega), hlen]; simp
    · rw [List.getElem?_append_right (by omega), hlen]
      have : ds.length * 2 + 1 - ds.length * 2 = 1 := by omega
      rw [this]; rfl

theorem OwnR.parts {w : World} {base : Nat} {u : Value} {ds : List DomB} (h : OwnR w base u ds) : ∃ A c, u = .slice A ds.length c := by
  obtain ⟨vs, hown, _⟩ := h
  rcases hown.2 with ⟨rfl, h0⟩ | ⟨g, cap, cur, rfl, _⟩
  · rw [h0]; exact ⟨_, _, rfl⟩
  · exact ⟨_, _, rfl⟩

theorem OwnR.doms {w : World} {base c : Nat} {A : Option Addr} {n : Nat} {ds : List DomB} (h : OwnR w base (.slice A n c) ds) (hn : ds.length = n) (hs : n ≤ 9223372036854775807) : Doms w A n ds := by
  obtain ⟨vs, hown, hd⟩ := h
  subst hn
  refine ⟨rfl, hs, fun j hj => (hd j hj).1, fun h0 => ?_⟩
  obtain ⟨g, cap, e, hb, hlt⟩ := hown.form h0
  cases e
  refine ⟨_, rfl, fun j hj => ?_⟩
  obtain ⟨_, B, m, c, e1, e2, e3, _⟩ := hd j hj
  refine ⟨B, m, c, hown.cells (g := g) rfl _ _ e1, ?_, e3⟩
  have := hown.cells (g := g) rfl _ _ e2
  rw [add_plain] at this ⊢
  exact this

/-- A domain of the row is turned. -/
theorem OwnR.set {w : World} {base g n cap p : Nat} {ds : List DomB} {d : DomB} {B : Option Addr} {m c : Nat} (h : OwnR w base (.slice (some ⟨g, 0, Option.none⟩) n cap) ds) (hn : ds.length = n) (_hp : p < n) (hI : Ints w B m d.1) (hB : 0 < m → ∀ a, B = some a → a.block ≠ g) (hL : d.2 < 2 ^ 64) :
    OwnR ((w.setCell ⟨g, p * 2, Option.none⟩ (.slice B m c)).setCell ⟨g, p * 2 + 1, Option.none⟩ (.int .u64 (d.2 : Nat))) base (.slice (some ⟨g, 0, Option.none⟩) n cap) (ds.set p d) := by
  obtain ⟨vs, hown, hd⟩ := h
  subst hn
  have hlen : vs.length = ds.length * 2 := hown.1
  have h2 := (((hown.stored (p * 2) (.slice B m c)).1).stored (p * 2 + 1) (.int .u64 (d.2 : Nat))).1
  have hk : KeptBut g w ((w.setCell ⟨g, p * 2, Option.none⟩ (.slice B m c)).setCell ⟨g, p * 2 + 1, Option.none⟩ (.int .u64 (d.2 : Nat))) := (KeptBut.set _ (a := ⟨g, p * 2, Option.none⟩) rfl _).then (KeptBut.set _ (a := ⟨g, p * 2 + 1, Option.none⟩) rfl _)
  refine ⟨_, by rw [List.length_set]; exact h2, fun j hj => ?_⟩
  rw [List.length_set] at hj
  rw [getD_set ds p j d (by omega)]
  by_cases e : j = p
  · subst e
    rw [if_pos rfl]
    refine ⟨hL, B, m, c, ?_, ?_, hI.keptBut0 hk hB, fun hn a ha e => hB hn a ha (by simpa [Value.ownBlock] using e.symm)⟩
    · rw [List.getElem?_set_ne (by omega), List.getElem?_set_self (by omega)]
    · rw [List.getElem?_set_self (by rw [List.length_set]; omega)]
  · rw [if_neg e]
    obtain ⟨hl, B', m', c', e1, e2, e3, e4⟩ := hd j hj
    refine ⟨hl, B', m', c', ?_, ?_, e3.keptBut0 hk (fun hn a ha e => e4 hn a ha (by simp [Value.ownBlock, e])), e4⟩
    · rw [List.getElem?_set_ne (by omega), List.getElem?_set_ne (by omega)]; exact e1
    · rw [List.getElem?_set_ne (by omega), List.getElem?_set_ne (by omega)]; exact e2

/-- What is left of a domain of the row is turned. -/
theorem OwnR.setLive {w : World} {base g n cap p L : Nat} {ds : List DomB} (h : OwnR w base (.slice (some ⟨g, 0, Option.none⟩) n cap) ds) (hn : ds.length = n) (_hp : p < n) (hL : L < 2 ^ 64) :
    OwnR (w.setCell ⟨g, p * 2 + 1, Option.none⟩ (.int .u64 (L : Nat))) base (.slice (some ⟨g, 0, Option.none⟩) n cap) (ds.set p ((ds.getD p nilD).1, L)) := by
  obtain ⟨vs, hown, hd⟩ := h
  subst hn
  have hlen : vs.length = ds.length * 2 := hown.1
  have h2 := (hown.stored (p * 2 + 1) (.int .u64 (L : Nat))).1
  have hk : KeptBut g w (w.setCell ⟨g, p * 2 + 1, Option.none⟩ (.int .u64 (L : Nat))) := KeptBut.set _ (a := ⟨g, p * 2 + 1, Option.none⟩) rfl _
  refine ⟨_, by rw [List.length_set]; exact h2, fun j hj => ?_⟩
  rw [List.length_set] at hj
  rw [getD_set ds p j _ (by omega)]
  obtain ⟨hl, B', m', c', e1, e2, e3, e4⟩ := hd j hj
  have e3' := e3.keptBut0 hk (fun hn a ha e => e4 hn a ha (by simp [Value.ownBlock, e]))
  by_cases e : j = p
  · subst e
    rw [if_pos rfl]
    refine ⟨hL, B', m', c', ?_, ?_, e3', e4⟩
    · rw [List.getElem?_set_ne (by omega)]; exact e1
    · rw [List.getElem?_set_self (by omega)]
  · rw [if_neg e]
    refine ⟨hl, B', m', c', ?_, ?_, e3', e4⟩
    · rw [List.getElem?_set_ne (by omega)]; exact e1
    · rw [List.getElem?_set_ne (by omega)]; exact e2

/-- The domain at a place of the row, behind names; where it lies; that it may be written. -/
theorem OwnR.named {w : World} {base g n cap : Nat} {ds : List DomB} (h : OwnR w base (.slice (some ⟨g, 0, Option.none⟩) n cap) ds) (hn : ds.length = n) (p : Nat) (hp : p < n) :
    ∃ (xs : List Int) (L : Nat) (B : Option Addr) (m c : Nat), Hid (ds.getD p nilD = (xs, L)) ∧ w.cell? ⟨g, p * 2, Option.none⟩ = some (.slice B m c) ∧ w.cell? ⟨g, p * 2 + 1, Option.none⟩ = some (.int .u64 (L : Nat)) ∧ Hid (Ints w B m xs) ∧ L < 2 ^ 64 ∧
      Hid (0 < m → ∀ a, B = some a → a.block ≠ g) ∧ w.frozen? ⟨g, p * 2, Option.none⟩ = false ∧ w.frozen? ⟨g, p * 2 + 1, Option.none⟩ = false := by
  obtain ⟨vs, hown, hd⟩ := h
  subst hn
  obtain ⟨hl, B, m, c, e1, e2, e3, e4⟩ := hd p hp
  refine ⟨_, _, B, m, c, rfl, ?_, ?_, e3, hl, fun hn a ha e => e4 hn a ha (by simp [Value.ownBlock, e]), hown.frozenAt _, hown.frozenAt _⟩
  · rw [hown.cellAt _ (by omega)]; exact e1
  · rw [hown.cellAt _ (by omega)]; exact e2
end Go.Proofs.YtekcenacpklpgaaDoor

set_option maxHeartbeats 1000000
set_option maxRecDepth 10000
namespace Go.Proofs.YtekcenacpklpgaaDoor
open Go Go.RowKit Pl

/-- It reads as lists of whole numbers. -/
structure LL (w : World) (A : Option Addr) (n : Nat) (ls : List (List Int)) : Prop where
  len : ls.length = n
  small : n ≤ 9223372036854775807
  cell : 0 < n → ∃ a, A = some a ∧ ∀ j, j < n → ∃ B m c, w.cell? (a.add j) = some (.slice B m c) ∧ Ints w B m (ls.getD j [])
theorem LL.kept {w w' : World} {A : Option Addr} {n : Nat} {ls : List (List Int)} (h : LL w A n ls) (hk : Kept w w') : LL w' A n ls :=
  ⟨h.len, h.small, fun hn => by
    obtain ⟨a, e, hc⟩ := h.cell hn
    refine ⟨a, e, fun j hj => ?_⟩
    obtain ⟨B, m, c, h1, h2⟩ := hc j hj
    exact ⟨B, m, c, hk.cellAt h1, h2.kept hk⟩⟩
theorem LL.named {w : World} {A : Option Addr} {n : Nat} {ls : List (List Int)} (h : LL w A n ls) (k : Nat) (hk : k < n) :
    ∃ (a : Addr) (l : List Int) (B : Option Addr) (m c : Nat), A = some a ∧ a.block < w.heap.size ∧ Hid (ls.getD k [] = l) ∧ w.cell? (a.add k) = some (.slice B m c) ∧ Hid (Ints w B m l) := by
  obtain ⟨a, rfl, hc⟩ := h.cell (by omega)
  obtain ⟨B, m, c, h1, h2⟩ := hc k hk
  have := World.block_lt_of_cell? w _ h1
  rw [add_block'] at this
  exact ⟨a, _, B, m, c, rfl, this, rfl, h1, h2⟩

/-- The slice u, in blocks from base on, owns the lists; their numbers do not lie in its own block. -/
def OwnL (w : World) (base : Nat) (u : Value) (ls : List (List Int)) : Prop :=
  ∃ vs : List Value, w.ownsRow base 22 1 u ls.length vs ∧ ∀ j, j < ls.length → ∃ B m c, vs[j]? = some (.slice B m c) ∧ Ints w B m (ls.getD j []) ∧ (0 < m → ∀ a, B = some a → u.ownBlock ≠ some a.block)
theorem OwnL.kept {w w' : World} {base : Nat} {u : Value} {ls : List (List Int)} (h : OwnL w base u ls) (hk : Kept w w') : OwnL w' base u ls := by
  obtain ⟨vs, hown, hd⟩ := h
  refine ⟨vs, own_kept hown hk, fun j hj => ?_⟩
  obtain ⟨B, m, c, h1, h2, h3⟩ := hd j hj
  exact ⟨B, m, c, h1, h2.kept hk, h3⟩
theorem OwnL.snoc {w1 w2 : World} {base g cap : Nat} {u : Value} {ls : List (List Int)} {l : List Int} {B : Option Addr} {m c : Nat} {vs : List Value}
    (hown : w1.ownsRow base 22 1 u ls.length vs) (hd : ∀ j, j < ls.length → ∃ B m c, vs[j]? = some (.slice B m c) ∧ Ints w1 B m (ls.getD j []) ∧ (0 < m → ∀ a, B = some a → u.ownBlock ≠ some a.block))
    (hI : Ints w1 B m l) (hB : 0 < m → ∀ a, B = some a → u.ownBlock ≠ some a.block)
    (h2 : w2.ownsRow base 22 1 (.slice (some ⟨g, 0, Option.none⟩) (ls.length + 1) cap) (ls.length + 1) (vs ++ [.slice B m c]))
    (hg : w1.grownBy w2 u.ownBlock) (hat : u.ownBlock = some g ∨ w1.heap.size ≤ g) : OwnL w2 base (.slice (some ⟨g, 0, Option.none⟩) (ls.length + 1) cap) (ls ++ [l]) := by
  have hlen : vs.length = ls.length := by have := hown.1; omega
  have hne : ∀ a : Addr, a.block < w1.heap.size → u.ownBlock ≠ some a.block → Value.ownBlock (.slice (some ⟨g, 0, Option.none⟩) (ls.length + 1) cap) ≠ some a.block := by
    intro a h1 h2 e
    simp only [Value.ownBlock, Option.some.injEq] at e
    rcases hat with h | h
    · rw [h, e] at h2; exact h2 rfl
    · omega
  have hint : ∀ {B : Option Addr} {m : Nat} {xs : List Int}, Ints w1 B m xs → (0 < m → ∀ a, B = some a → u.ownBlock ≠ some a.block) → Ints w2 B m xs := by
    intro B m xs h hb
    refine ⟨h.len, h.small, h.rng, fun hn => ?_⟩
    obtain ⟨a, e, hc⟩ := h.cell hn
    exact ⟨a, e, fun j hj => hg.cell (hc j hj) (by rw [add_block']; exact fun e' => hb hn a e e'.symm)⟩
  have hblk : ∀ {B : Option Addr} {m : Nat} {xs : List Int}, Ints w1 B m xs → 0 < m → ∀ a, B = some a → a.block < w1.heap.size := by
    intro B m xs h hn a ha
    subst ha
    exact h.block hn
  refine ⟨vs ++ [.slice B m c], by rw [List.length_append]; exact h2, fun j hj => ?_⟩
  rw [List.length_append] at hj
  simp only [List.length_cons, List.length_nil] at hj
  by_cases hlt : j < ls.length
  · have e0 : (ls ++ [l]).getD j [] = ls.getD j [] := by simp only [List.getD_eq_getElem?_getD, List.getElem?_append_left hlt]
    rw [e0]
    obtain ⟨B', m', c', e1, e3, e4⟩ := hd j hlt
    refine ⟨B', m', c', ?_, hint e3 e4, fun hn a ha => hne a (hblk e3 hn a ha) (e4 hn a ha)⟩
    rw [List.getElem?_append_left (by omega)]; exact e1
  · have e : j = ls.length := by omega
    subst e
    have e0 : (ls ++ [l]).getD ls.length [] = l := by simp [List.getD_eq_getElem?_getD]
    rw [e0]
    refine ⟨B, m, c, ?_, hint hI hB, fun hn a ha => hne a (hblk hI hn a ha) (hB hn a ha)⟩
    rw [List.getElem?_append_right (by omega), hlen]; simp
theorem OwnL.parts {w : World} {base : Nat} {u : Value} {ls : List (List Int)} (h : OwnL w base u ls) : ∃ A c, u = .slice A ls.length c := by
  obtain ⟨vs, hown, _⟩ := h
  rcases hown.2 with ⟨rfl, h0⟩ | ⟨g, cap, cur, rfl, _⟩
  · rw [h0]; exact ⟨_, _, rfl⟩
  · exact ⟨_, _, rfl⟩
theorem OwnL.lists {w : World} {base c : Nat} {A : Option Addr} {n : Nat} {ls : List (List Int)} (h : OwnL w base (.slice A n c) ls) (hn : ls.length = n) (hs : n ≤ 9223372036854775807) : LL w A n ls := by
  obtain ⟨vs, hown, hd⟩ := h
  subst hn
  refine ⟨rfl, hs, fun h0 => ?_⟩
  obtain ⟨g, cap, e, hb, hlt⟩ := hown.form h0
  cases e
  refine ⟨_, rfl, fun j hj => ?_⟩
  obtain ⟨B, m, c, e1, e3, _⟩ := hd j hj
  exact ⟨B, m, c, hown.cells (g := g) rfl _ _ e1, e3⟩
theorem OwnL.set {w : World} {base g n cap p : Nat} {ls : List (List Int)} {l : List Int} {B : Option Addr} {m c : Nat} (h : OwnL w base (.slice (some ⟨g, 0, Option.none⟩) n cap) ls) (hn : ls.length = n) (_hp : p < n) (hI : Ints w B m l) (hB : 0 < m → ∀ a, B = some a → a.block ≠ g) :
    OwnL (w.setCell ⟨g, p, Option.none⟩ (.slice B m c)) base (.slice (some ⟨g, 0, Option.none⟩) n cap) (ls.set p l) := by
  obtain ⟨vs, hown, hd⟩ := h
  subst hn
  have hlen : vs.length = ls.length := by have := hown.1; omega
  have h2 := (hown.stored p (.slice B m c)).1
  have hk : KeptBut g w (w.setCell ⟨g, p, Option.none⟩ (.slice B m c)) := KeptBut.set _ (a := ⟨g, p, Option.none⟩) rfl _
  refine ⟨_, by rw [List.length_set]; exact h2, fun j hj => ?_⟩
  rw [List.length_set] at hj
  by_cases e : j = p
  · subst e
    have e0 : (ls.set j l).getD j [] = l := by simp [List.getD_eq_getElem?_getD, hj]
    rw [e0]
    refine ⟨B, m, c, ?_, hI.keptBut0 hk hB, fun hn a ha e => hB hn a ha (by simpa [Value.ownBlock] using e.symm)⟩
    rw [List.getElem?_set_self (by omega)]
  · have e0 : (ls.set p l).getD j [] = ls.getD j [] := by simp only [List.getD_eq_getElem?_getD, List.getElem?_set_ne (fun h => e h.symm)]
    rw [e0]
    obtain ⟨B', m', c', e1, e3, e4⟩ := hd j hj
    refine ⟨B', m', c', ?_, e3.keptBut0 hk (fun hn a ha e => e4 hn a ha (by simp [Value.ownBlock, e])), e4⟩
    rw [List.getElem?_set_ne (by omega)]; exact e1
/-- A cell of the row stands there, and may be written. -/
theorem OwnL.at {w : World} {base g n cap : Nat} {ls : List (List Int)} (h : OwnL w base (.slice (some ⟨g, 0, Option.none⟩) n cap) ls) (hn : ls.length = n) (p : Nat) (hp : p < n) :
    (∃ v, w.cell? ⟨g, p, Option.none⟩ = some v) ∧ w.frozen? ⟨g, p, Option.none⟩ = false := by
  obtain ⟨vs, hown, hd⟩ := h
  subst hn
  obtain ⟨B, m, c, e1, _, _⟩ := hd p hp
  exact ⟨⟨_, by rw [hown.cellAt _ (by omega)]; exact e1⟩, hown.frozenAt _⟩

/-- What is left of each. -/
def listsOf (ds : List DomB) : List (List Int) := ds.map fun d => listB d.1 d.2
theorem listsOf_getD (ds : List DomB) {i : Nat} (hi : i < ds.length) : (listsOf ds).getD i [] = listB (ds.getD i nilD).1 (ds.getD i nilD).2 := by
  unfold listsOf
  rw [List.getD_eq_getElem?_getD, List.getElem?_map, List.getD_eq_getElem?_getD, List.getElem?_eq_getElem hi]
  rfl

theorem info_ints : (Tryd.prog.info? 22).map (fun i => (i.zero, i.size, i.bytes)) = some (some (.slice Option.none 0 0), 1, 24) := by kernel_rfl
/-- Lists are handed back, in a slice of the call's own. -/
def ListsPost (ls : List (List Int)) (w : World) (e : Ending) (w' : World) : Prop :=
  ∃ A c, e = .returned (.slice A ls.length c) ∧ LL w' A ls.length ls ∧ Kept w w'

theorem rlists_any (A : Option Addr) (n c : Nat) (ds : List DomB) (w : World) (hS : Doms w A n ds) (hn : n ≤ 1000) :
    Calls Tryd.prog 33 #[.slice A n c] w (ListsPost (listsOf ds) w) := by
  obtain ⟨i0, hi, hz0, hz1, hz2⟩ := info_parts info_ints
  have HS := Lib.hid hS
  have Hlen := Lib.hid hS.len
  clear hS
  go_enter Tryd.func33, Tryd.ntmps33
  go_wp2_with fail
  go_loopw [3, 4] (fun u v wr => ∃ k : Nat, k ≤ n ∧ v = .int .i64 k ∧ Hid (OwnL wr w.heap.size u (listsOf (ds.take k))) ∧ Hid (Kept w wr)) (fun _ v _ => n - (intOf v).toNat)
  case atStart =>
    refine ⟨0, Nat.zero_le _, rfl, ?_, Kept.box _ _⟩
    exact ⟨[], World.ownsRow_made w #[] 0 (Nat.le_refl _) (by decide) rfl, fun j hj => by simp [listsOf] at hj⟩
  case round =>
    obtain ⟨k, hk, rfl, HO, Hkw⟩ := hrel
    by_cases hlt : k < n
    · have hSr := HS.out.kept Hkw.out
      obtain ⟨a, rfl, hblk⟩ := hSr.addr (by omega)
      obtain ⟨xs, L, B, m, cB, Hd, hc1, hc2, HI, hL⟩ := hSr.named k hlt
      clear hSr
      go_wp2_with fail
      refine (rdlist_any B m cB L xs _ HI.out hL).mono ?_
      rintro e w1 ⟨Bl, cl, rfl, hIl, hk1, hfl⟩
      have HIl := Lib.hid hIl
      have Hk1 := Lib.hid hk1
      have Hfl := Lib.hid hfl
      obtain ⟨vs, hown, hd⟩ := HO.out
      have hkl : (listsOf (ds.take k)).length = k := by unfold listsOf; rw [List.length_map, List.length_take]; have := Hlen.out; omega
      rw [hkl] at hown hd
      have Hul : Hid (∀ i, u3.ownBlock = some i → w.heap.size ≤ i ∧ i < wr.heap.size) := hown.lt
      have Hown := Lib.hid (own_kept hown hk1)
      have Hdd := Lib.hid hd
      have hszr := Hkw.out.size
      have hsz1 := hk1.size
      have Hlb : Hid (listsOf (ds.take (k + 1)) = listsOf (ds.take k) ++ [listB xs L]) := by
        show _ = _
        rw [take_dom (by have := Hlen.out; omega) Hd.out]
        unfold listsOf
        rw [List.map_append]; rfl
      have hel := listB_length xs L
      clear hIl hk1 hfl hown hd hc1 hc2
      generalize listB xs L = l at *
      generalize hmm : l.length = mm at *
      clear hmm
      go_wp2_with (at_builtin; refine wpList_append_own_at _ rfl _ _ 60 rfl w.heap.size 22 i0 (.slice Option.none 0 0) 1 24 Tryd.underlying60 hi hz0 hz1 hz2 rfl (by decide) _ _ _ rfl (Hown.out.alloc _) ⟨w1.heap.size, 0, none⟩ 1 1 [.slice Bl mm cl] rfl rfl (cell_one_new _ _ _) (by simp [Value.oneCell']) (by unfold maxLen; omega) (by omega) (by simp; omega) ?_; intro v' w2 hown' hgrow _ hloc; obtain ⟨g, cap, rfl, hgb, hgl⟩ := hown'.form (by omega))
      go_roundw
      case rel =>
        refine ⟨k + 1, by omega, by go_num, ?_, ?_⟩
        · show OwnL _ _ _ _
          rw [Hlb.out]
          have hk2 := Kept.box w1 (.cells #[.slice Bl mm cl] 22)
          have := OwnL.snoc (ls := listsOf (ds.take k)) (l := l) (c := cl) (by rw [hkl]; exact Hown.out.alloc _) ?_ (HIl.out.kept hk2) ?_ (by rw [hkl]; exact hown') hgrow ?_
          · rw [hkl] at this; exact this
          · rw [hkl]
            intro j hj
            obtain ⟨B1, m1, c1', e1, e3, e4⟩ := Hdd.out j hj
            exact ⟨B1, m1, c1', e1, e3.kept (Hk1.out.then hk2), e4⟩
          · intro _ a' ha' e
            have := Hul.out _ e
            have := Hfl.out a' ha'
            omega
          · rcases hloc with h | h
            · exact Or.inl (by rw [← h]; rfl)
            · right
              have : g = w1.heap.size + 1 := by simpa [Value.ownBlock] using h
              simp only [World.size_alloc]
              omega
        · show Kept w w2
          exact ((Hkw.out.then Hk1.out).newBlock _).grown hgrow (by simp; omega) (fun i hi => (Hul.out i hi).1)
      case measure => simp [intOf]; omega
    · have e : k = n := by omega
      subst e
      rw [List.take_of_length_le (by have := Hlen.out; omega)] at HO
      obtain ⟨A5, c5, rfl⟩ := HO.out.parts
      have hl5 : (listsOf ds).length = k := by unfold listsOf; rw [List.length_map]; exact Hlen.out
      have HD := Lib.hid (HO.out.lists (n := (listsOf ds).length) rfl (by omega))
      clear HO
      go_wp2_with fail
      go_ret
      exact ⟨A5, c5, rfl, HD.out, Hkw.out⟩
end Go.Proofs.YtekcenacpklpgaaDoor

set_option maxHeartbeats 1000000
set_option maxRecDepth 10000
namespace Go.Proofs.YtekcenacpklpgaaDoor
open Go Go.RowKit Pl

/-- The list of a variable. -/
def lsAt (vars : List Int) (ls : List (List Int)) (i : Nat) : List Int := ls.getD (vars.getD i 0).toNat []
/-- All values of the first variables' lists, each once. -/
def allS (vars : List Int) (ls : List (List Int)) (j : Nat) : List Int := (List.range j).foldl (fun acc i => addAll acc (lsAt vars ls i)) []
theorem allS_zero (vars : List Int) (ls : List (List Int)) : allS vars ls 0 = [] := rfl
theorem allS_succ (vars : List Int) (ls : List (List Int)) (j : Nat) : allS vars ls (j + 1) = addAll (allS vars ls j) (lsAt vars ls j) := by unfold allS; rw [List.range_succ, List.foldl_append]; rfl
theorem addB_len (acc : List Int) (v : Int) : (addB acc v).length ≤ acc.length + 1 := by unfold addB; split <;> simp
theorem addAll_len (l : List Int) : ∀ acc : List Int, (addAll acc l).length ≤ acc.length + l.length := by
  induction l with
  | nil => intro acc; simp [addAll]
  | cons v l ih =>
    intro acc
    have e : addAll acc (v :: l) = addAll (addB acc v) l := rfl
    have h1 := ih (addB acc v)
    have h2 := addB_len acc v
    rw [e, List.length_cons]
    omega
theorem allS_len {vars : List Int} {ls : List (List Int)} (h : ∀ q, (ls.getD q []).length ≤ 64) (j : Nat) : (allS vars ls j).length ≤ 64 * j := by
  induction j with
  | zero => simp [allS_zero]
  | succ j ih =>
    rw [allS_succ]
    have h1 := addAll_len (lsAt vars ls j) (allS vars ls j)
    have h2 := h (vars.getD j 0).toNat
    unfold lsAt at h1 ⊢
    omega
theorem allS_allU {C : ConB} {ds : List DomB} (hv : varsOk C.vars ds.length = true) {j : Nat} (hj : j ≤ C.vars.length) : allS C.vars (listsOf ds) j = allU C ds j := by
  induction j with
  | zero => rfl
  | succ j ih =>
    rw [allS_succ, allU_succ, ih (by omega)]
    have h1 := varsOk_rng hv (i := j) (by omega)
    unfold lsAt
    rw [listsOf_getD ds (by omega)]
    rfl

/-- Is one of the first variables' lists empty? -/
def wipedS (vars : List Int) (ls : List (List Int)) (j : Nat) : Bool := (List.range j).any fun i => decide ((lsAt vars ls i).length = 0)
theorem wipedS_succ (vars : List Int) (ls : List (List Int)) (j : Nat) : wipedS vars ls (j + 1) = (wipedS vars ls j || decide ((lsAt vars ls j).length = 0)) := by
  unfold wipedS; rw [List.range_succ, List.any_append]; simp
theorem wipedS_wiped {C : ConB} {ds : List DomB} (hv : varsOk C.vars ds.length = true) : wipedS C.vars (listsOf ds) C.vars.length = wipedB C ds C.vars.length := by
  unfold wipedS wipedB
  rw [Bool.eq_iff_iff, List.any_eq_true, List.any_eq_true]
  have e : ∀ i, i < C.vars.length → lsAt C.vars (listsOf ds) i = leftOf C ds i := fun i hi => by
    have h1 := varsOk_rng hv hi
    unfold lsAt
    rw [listsOf_getD ds (by omega)]
    rfl
  constructor
  · rintro ⟨i, hi, h⟩
    exact ⟨i, hi, by rw [← e i (List.mem_range.1 hi)]; exact h⟩
  · rintro ⟨i, hi, h⟩
    exact ⟨i, hi, by rw [e i (List.mem_range.1 hi)]; exact h⟩

/-- Is a value none of the first other lists alone? -/
def soloP (vars : List Int) (ls : List (List Int)) (i k : Nat) (x : Int) : Bool := (List.range k).all fun q => decide (q = i) || !(lsAt vars ls q == [x])
theorem soloP_zero (vars : List Int) (ls : List (List Int)) (i : Nat) (x : Int) : soloP vars ls i 0 x = true := rfl
theorem soloP_succ (vars : List Int) (ls : List (List Int)) (i k : Nat) (x : Int) : soloP vars ls i (k + 1) x = (soloP vars ls i k x && (decide (k = i) || !(lsAt vars ls k == [x]))) := by
  unfold soloP; rw [List.range_succ, List.all_append]; simp
theorem soloP_sole {C : ConB} {ds : List DomB} (hv : varsOk C.vars ds.length = true) {i : Nat} (hi : i < C.vars.length) (x : Int) : soloP C.vars (listsOf ds) i C.vars.length x = !soleB C ds i x := by
  have e : ∀ i, i < C.vars.length → lsAt C.vars (listsOf ds) i = leftOf C ds i := fun i hi => by
    have h1 := varsOk_rng hv hi
    unfold lsAt
    rw [listsOf_getD ds (by omega)]
    rfl
  unfold soloP soleB
  rw [Bool.eq_iff_iff, List.all_eq_true, Bool.not_eq_true', List.any_eq_false]
  constructor
  · intro h k hk
    have h1 := h k hk
    have hk := List.mem_range.1 hk
    rw [e k hk] at h1
    by_cases ek : k = i
    · subst ek; simp
    · rw [decide_eq_false ek] at h1
      simp at h1
      simp [h1]
  · intro h k hk
    have h1 := h k hk
    have hk := List.mem_range.1 hk
    rw [e k hk]
    by_cases ek : k = i
    · rw [decide_eq_true ek]; rfl
    · have hne : C.vars.getD k 0 ≠ C.vars.getD i 0 := by
        rcases Nat.lt_or_ge k i with h4 | h4
        · exact varsOk_ne hv hi h4
        · exact (varsOk_ne hv hk (by omega)).symm
      rw [decide_eq_false hne] at h1
      simp at h1
      simp [h1]

/-- The lists, those of the first j filtered by questions at the places. -/
def setU (vars : List Int) (ls : List (List Int)) (g : Nat → Int → Bool) : Nat → List (List Int)
  | 0 => ls
  | j + 1 => (setU vars ls g j).set (vars.getD j 0).toNat ((ls.getD (vars.getD j 0).toNat []).filter (g j))
theorem setU_length (vars : List Int) (ls : List (List Int)) (g : Nat → Int → Bool) (j : Nat) : (setU vars ls g j).length = ls.length := by
  induction j with
  | zero => rfl
  | succ j ih => simp only [setU, List.length_set, ih]
theorem setU_out {vars : List Int} {ls : List (List Int)} {g : Nat → Int → Bool} {j q : Nat} (h : ∀ k, k < j → (vars.getD k 0).toNat ≠ q) : (setU vars ls g j).getD q [] = ls.getD q [] := by
  induction j with
  | zero => rfl
  | succ j ih =>
    simp only [setU]
    rw [List.getD_eq_getElem?_getD, List.getElem?_set_ne (h j (by omega)), ← List.getD_eq_getElem?_getD]
    exact ih fun k hk => h k (by omega)
theorem setU_in {vars : List Int} {ls : List (List Int)} {g : Nat → Int → Bool} {j i : Nat} (hv : ∀ k, k < j → (vars.getD k 0).toNat < ls.length) (hd : ∀ k, k < j → k ≠ i → (vars.getD k 0).toNat ≠ (vars.getD i 0).toNat) (hi : i < j) :
    (setU vars ls g j).getD (vars.getD i 0).toNat [] = (ls.getD (vars.getD i 0).toNat []).filter (g i) := by
  induction j with
  | zero => omega
  | succ j ih =>
    simp only [setU]
    rw [getD_set3 _ _ _ _ _ (by rw [setU_length]; exact hv j (by omega))]
    by_cases e : j = i
    · subst e; rw [if_pos rfl]
    · rw [if_neg (fun h => hd j (by omega) e h.symm)]
      exact ih (fun k hk => hv k (by omega)) (fun k hk => hd k (by omega)) (by omega)
/-- What is kept by the lists so filtered. -/
theorem setU_keeps {vars : List Int} {ls : List (List Int)} {g : Nat → Int → Bool} {q : Nat} {v : Int} (hv : varsOk vars ls.length = true) (hm : v ∈ ls.getD q []) : ((setU vars ls g vars.length).getD q []).contains v = varsKp vars g vars.length q v := by
  have hr : ∀ k, k < vars.length → (vars.getD k 0).toNat < ls.length := fun k hk => by have := varsOk_rng hv hk; omega
  rw [Bool.eq_iff_iff, List.contains_iff_mem, varsKp_iff]
  by_cases h : ∃ i, i < vars.length ∧ (vars.getD i 0).toNat = q
  · obtain ⟨i, hi, rfl⟩ := h
    rw [setU_in hr (fun k hk e => varsOk_ne' hv hi hk e) hi, List.mem_filter]
    constructor
    · rintro ⟨_, h2⟩ k hk e
      have : k = i := by
        rcases Nat.decEq k i with h3 | h3
        · exact absurd e (varsOk_ne' hv hi hk h3)
        · exact h3
      subst this; exact h2
    · intro h2
      exact ⟨hm, h2 i hi rfl⟩
  · have hn : ∀ k, k < vars.length → (vars.getD k 0).toNat ≠ q := fun k hk e => h ⟨k, hk, e⟩
    rw [setU_out hn]
    exact ⟨fun _ k hk e => absurd e (hn k hk), fun _ => hm⟩

/-- The lists, those of the first j less what others are alone. -/
abbrev lessG (vars : List Int) (ls : List (List Int)) (m i : Nat) (x : Int) : Bool := soloP vars ls i m x
abbrev lessU (vars : List Int) (ls : List (List Int)) (m j : Nat) : List (List Int) := setU vars ls (lessG vars ls m) j
/-- In the middle of a variable's round. -/
def midU (vars : List Int) (ls : List (List Int)) (m j p k : Nat) : List (List Int) := (lessU vars ls m j).set p ((ls.getD p []).filter (soloP vars ls j k))
theorem midU_length (vars : List Int) (ls : List (List Int)) (m j p k : Nat) : (midU vars ls m j p k).length = ls.length := by
  unfold midU; rw [List.length_set, setU_length]
theorem midU_zero {vars : List Int} {ls : List (List Int)} {m j p : Nat} (hv : varsOk vars ls.length = true) (hj : j < vars.length) (hp : vars.getD j 0 = (p : Nat)) : midU vars ls m j p 0 = lessU vars ls m j := by
  have hpl : p < ls.length := by have := varsOk_rng hv hj; omega
  unfold midU
  have e0 : (ls.getD p []).filter (soloP vars ls j 0) = ls.getD p [] := List.filter_eq_self.2 fun x _ => soloP_zero _ _ _ _
  have e : (lessU vars ls m j).getD p [] = ls.getD p [] := setU_out (fun k hk => by have := varsOk_ne' hv hj (show k < vars.length by omega) (by omega); rw [hp] at this; exact this)
  have h := set_getD_self (lessU vars ls m j) p [] (by rw [setU_length]; exact hpl)
  rw [e0, ← e]
  exact h
theorem midU_at {vars : List Int} {ls : List (List Int)} {m j p k : Nat} (hp : p < ls.length) : (midU vars ls m j p k).getD p [] = (ls.getD p []).filter (soloP vars ls j k) := by
  unfold midU
  rw [getD_set3 _ _ _ _ _ (by rw [setU_length]; exact hp), if_pos rfl]
theorem midU_no {vars : List Int} {ls : List (List Int)} {m j p k : Nat} (h : k = j ∨ (lsAt vars ls k).length ≠ 1) : midU vars ls m j p (k + 1) = midU vars ls m j p k := by
  unfold midU
  congr 1
  refine List.filter_congr fun x _ => ?_
  rw [soloP_succ]
  rcases h with h | h
  · rw [decide_eq_true h]; simp
  · have e : (lsAt vars ls k == [x]) = false := by
      rw [Bool.eq_false_iff]
      intro h2
      rw [beq_iff_eq] at h2
      rw [h2] at h
      simp at h
    rw [e]; simp
theorem midU_yes {vars : List Int} {ls : List (List Int)} {m j p k : Nat} {y : Int} (f : Int → Bool) (hf : ∀ x, f x = (x != y)) (hp : p < ls.length) (hk : k ≠ j) (h : lsAt vars ls k = [y]) :
    midU vars ls m j p (k + 1) = (midU vars ls m j p k).set p (((midU vars ls m j p k).getD p []).filter f) := by
  rw [midU_at hp]
  unfold midU
  rw [List.set_set, List.filter_filter]
  congr 1
  refine List.filter_congr fun x _ => ?_
  rw [soloP_succ, h, decide_eq_false hk, hf, Bool.and_comm]
  congr 1
  rw [Bool.eq_iff_iff, Bool.false_or, Bool.not_eq_true', beq_eq_false_iff_ne, bne_iff_ne]
  constructor
  · intro h e
    subst e
    exact h rfl
  · intro h e
    injection e with e
    exact h e.symm
theorem midU_end {vars : List Int} {ls : List (List Int)} {m j p : Nat} (hp : vars.getD j 0 = (p : Nat)) : midU vars ls m j p m = lessU vars ls m (j + 1) := by
  unfold midU
  rw [show lessU vars ls m (j + 1) = (lessU vars ls m j).set (vars.getD j 0).toNat ((ls.getD (vars.getD j 0).toNat []).filter (soloP vars ls j m)) from rfl, hp, Int.toNat_natCast]
/-- What is kept by the lists emptied. -/
theorem noneU_keeps {vars : List Int} {ls : List (List Int)} {q : Nat} {v : Int} (hv : varsOk vars ls.length = true) (hm : v ∈ ls.getD q []) : ((noneU vars ls vars.length).getD q []).contains v = varsKp vars (fun _ _ => false) vars.length q v := by
  have hr : ∀ k, k < vars.length → (vars.getD k 0).toNat < ls.length := fun k hk => by have := varsOk_rng hv hk; omega
  rw [Bool.eq_iff_iff, List.contains_iff_mem, varsKp_iff]
  by_cases h : ∃ i, i < vars.length ∧ (vars.getD i 0).toNat = q
  · rw [noneU_in hr h]
    obtain ⟨i, hi, e⟩ := h
    constructor
    · intro h; simp at h
    · intro h; exact absurd (h i hi e) (by decide)
  · have hn : ∀ k, k < vars.length → (vars.getD k 0).toNat ≠ q := fun k hk e => h ⟨k, hk, e⟩
    rw [noneU_out hn]
    exact ⟨fun _ k hk e => absurd e (hn k hk), fun _ => hm⟩
theorem noneU_noneU (vars : List Int) (ls : List (List Int)) (q j : Nat) (hv : varsOk vars ls.length = true) (hj : j = vars.length) : (noneU vars (noneU vars ls j) j).getD q [] = (noneU vars ls j).getD q [] := by
  subst hj
  have hr : ∀ k, k < vars.length → (vars.getD k 0).toNat < ls.length := fun k hk => by have := varsOk_rng hv hk; omega
  by_cases h : ∃ i, i < vars.length ∧ (vars.getD i 0).toNat = q
  · rw [noneU_in hr h, noneU_in (by rw [noneU_length]; exact hr) h]
  · have hn : ∀ k, k < vars.length → (vars.getD k 0).toNat ≠ q := fun k hk e => h ⟨k, hk, e⟩
    rw [noneU_out hn]
end Go.Proofs.YtekcenacpklpgaaDoor

set_option maxHeartbeats 1000000
set_option maxRecDepth 10000
namespace Go.Proofs.YtekcenacpklpgaaDoor
open Go Go.RowKit Pl

/-- What is left of the variables of a row. -/
def lsV (vars : List Int) (ds : List DomB) (i : Nat) : List Int := listB (ds.getD (vars.getD i 0).toNat nilD).1 (ds.getD (vars.getD i 0).toNat nilD).2
theorem lsV_left (C : ConB) (ds : List DomB) : lsV C.vars ds = leftOf C ds := rfl
theorem getD_drop1 (l : List Int) (i : Nat) : (l.drop 1).getD i 0 = l.getD (i + 1) 0 := by
  rw [List.getD_eq_getElem?_getD, List.getD_eq_getElem?_getD, List.getElem?_drop, Nat.add_comm]
theorem lsV_rest (C : ConB) (ds : List DomB) : lsV (C.vars.drop 1) ds = restOf C ds := by
  funext i
  unfold lsV restOf leftOf
  rw [getD_drop1]
theorem lsAt_lsV {vars : List Int} {ds : List DomB} (hv : ∀ i, i < vars.length → 0 ≤ vars.getD i 0 ∧ vars.getD i 0 < ds.length) {i : Nat} (hi : i < vars.length) : lsAt vars (listsOf ds) i = lsV vars ds i := by
  have h1 := hv i hi
  unfold lsAt
  rw [listsOf_getD ds (by omega)]
  rfl
theorem varsOk_drop {vs : List Int} {V : Int} (h : varsOk vs V = true) : varsOk (vs.drop 1) V = true := by
  unfold varsOk vUpto
  rw [List.all_eq_true]
  intro i hi
  have hi := List.mem_range.1 hi
  rw [List.length_drop] at hi
  have h1 := varsOk_rng h (i := i + 1) (by omega)
  unfold vOk
  rw [getD_drop1, decide_eq_true h1.1, decide_eq_true h1.2]
  simp only [Bool.and_self, Bool.true_and, Bool.not_eq_true']
  rw [Bool.eq_false_iff]
  intro hc
  rw [List.contains_iff_mem, List.mem_take_iff_getElem] at hc
  obtain ⟨k, hk, e⟩ := hc
  rw [List.length_drop] at hk
  have h2 := varsOk_ne h (i := i + 1) (k := k + 1) (by omega) (by omega)
  apply h2
  rw [← e, List.getElem_drop, List.getD_eq_getElem?_getD, List.getElem?_eq_getElem (by omega)]
  simp [Nat.add_comm]

/-- Ends are settled by the first lists. -/
theorem ends_congr {cs : List Int} {ls ms : Nat → List Int} {but : Int} {j : Nat} (h : ∀ i, i < j → ls i = ms i) : lowBut cs ls but j = lowBut cs ms but j ∧ highBut cs ls but j = highBut cs ms but j := by
  induction j with
  | zero => exact ⟨rfl, rfl⟩
  | succ j ih =>
    obtain ⟨h1, h2⟩ := ih fun i hi => h i (by omega)
    simp only [lowBut, highBut]
    rw [h1, h2, h j (by omega)]
    exact ⟨rfl, rfl⟩
theorem sumG_congr {cs : List Int} {ls ms : Nat → List Int} {m : Nat} {rel c : Int} {i : Nat} (h : ∀ i, i < m → ls i = ms i) : sumG cs ls m rel c i = sumG cs ms m rel c i := by
  funext x
  unfold sumG
  obtain ⟨h1, h2⟩ := ends_congr (cs := cs) (but := i) h
  rw [h1, h2]

/-- The questions of a step at what a row has behind its first. -/
theorem varsKp_split {vars : List Int} {g : Nat → Int → Bool} {n q : Nat} {v : Int} (hn : 0 < n) : varsKp vars g n q v = ((!decide ((vars.getD 0 0).toNat = q) || g 0 v) && varsKp (vars.drop 1) (fun i x => g (i + 1) x) (n - 1) q v) := by
  rw [Bool.eq_iff_iff, Bool.and_eq_true, varsKp_iff, varsKp_iff]
  constructor
  · intro h
    refine ⟨?_, fun k hk e => ?_⟩
    · by_cases e : (vars.getD 0 0).toNat = q
      · rw [h 0 hn e]; simp
      · rw [decide_eq_false e]; rfl
    · rw [getD_drop1] at e
      exact h (k + 1) (by omega) e
  · rintro ⟨h1, h2⟩ k hk e
    cases k with
    | zero =>
      rw [decide_eq_true e] at h1
      simpa using h1
    | succ k => exact h2 k (by omega) (by rw [getD_drop1]; exact e)
/-- What is kept by lists, the first variable's of which is filled last. -/
theorem first_keeps {vars : List Int} {ls rs : List (List Int)} {fl : List Int} {g : Nat → Int → Bool} {q : Nat} {v : Int} (hv : varsOk vars ls.length = true) (hl : rs.length = ls.length) (hn : 0 < vars.length) (_hm : v ∈ ls.getD q [])
    (hf : (vars.getD 0 0).toNat = q → fl.contains v = g 0 v) (hr : (vars.getD 0 0).toNat ≠ q → (rs.getD q []).contains v = varsKp (vars.drop 1) (fun i x => g (i + 1) x) (vars.drop 1).length q v) :
    ((rs.set (vars.getD 0 0).toNat fl).getD q []).contains v = varsKp vars g vars.length q v := by
  have h0 := varsOk_rng hv hn
  rw [varsKp_split hn, getD_set3 _ _ _ _ _ (by omega)]
  rw [List.length_drop] at hr
  by_cases e : (vars.getD 0 0).toNat = q
  · rw [if_pos e.symm, hf e, decide_eq_true e]
    have : varsKp (vars.drop 1) (fun i x => g (i + 1) x) (vars.length - 1) q v = true := by
      rw [varsKp_iff]
      intro k hk e2
      rw [getD_drop1] at e2
      exact absurd (e2.trans e.symm) (varsOk_ne' hv hn (show k + 1 < vars.length by omega) (by omega))
    rw [this]; simp
  · rw [if_neg (fun h => e h.symm), hr e, decide_eq_false e]; simp

/-- Whether values 0 and 1 are in the first variable's list, and which of these stay. -/
def firstL (C : ConB) (ds : List DomB) : List Int :=
  (if (leftOf C ds 0).contains 0 = true ∧ mayL (lowBut C.coefs (restOf C ds) (-1) (C.vars.length - 1)) (highBut C.coefs (restOf C ds) (-1) (C.vars.length - 1)) (contraB C.rel) C.const = true then [0] else []) ++
  (if (leftOf C ds 0).contains 1 = true ∧ mayL (lowBut C.coefs (restOf C ds) (-1) (C.vars.length - 1)) (highBut C.coefs (restOf C ds) (-1) (C.vars.length - 1)) C.rel C.const = true then [1] else [])
theorem firstL_contains {C : ConB} {ds : List DomB} {v : Int} (hv : v ∈ leftOf C ds 0) : (firstL C ds).contains v = iffG C ds 0 v := by
  unfold firstL iffG
  rw [if_pos rfl, Bool.eq_iff_iff, List.contains_iff_mem, List.mem_append, Bool.or_eq_true, Bool.and_eq_true, Bool.and_eq_true, decide_eq_true_eq, decide_eq_true_eq]
  have hc := List.contains_iff_mem.2 hv
  constructor
  · rintro (h | h)
    · split at h
      · rename_i h2
        rw [List.mem_singleton] at h
        exact .inr ⟨h, h2.2⟩
      · simp at h
    · split at h
      · rename_i h2
        rw [List.mem_singleton] at h
        exact .inl ⟨h, h2.2⟩
      · simp at h
  · rintro (⟨rfl, h⟩ | ⟨rfl, h⟩)
    · right; rw [if_pos ⟨hc, h⟩]; simp
    · left; rw [if_pos ⟨hc, h⟩]; simp

/-- A variable's round, out of what is left so far. -/
theorem stepVars_on {vars : List Int} {g : Nat → Int → Bool} {ds : List DomB} {j p : Nat} (hp : p < ds.length) (hj : vars.getD j 0 = (p : Nat)) :
    stepB (varsKp vars g (j + 1)) ds = (stepB (varsKp vars g j) ds).set p (keepD (g j) ((stepB (varsKp vars g j) ds).getD p nilD)) := by
  apply ext_getD (by rw [List.length_set, stepB_length, stepB_length])
  intro i hi
  rw [stepB_length] at hi
  rw [stepB_getD _ _ hi, getD_set _ _ _ _ (by rw [stepB_length]; exact hp)]
  unfold nilD
  by_cases e : i = p
  · subst e
    rw [if_pos rfl, stepB_getD _ _ hi, keepD_keepD]
    congr 1
    funext x
    rw [varsKp_succ, hj, Int.toNat_natCast, decide_eq_true rfl]
    simp
  · rw [if_neg e, stepB_getD _ _ hi]
    congr 1
    funext x
    rw [varsKp_succ, hj, Int.toNat_natCast, decide_eq_false (fun h => e h.symm)]
    simp
/-- .., out of what there was. -/
theorem stepVars_was {vars : List Int} {g : Nat → Int → Bool} {ds : List DomB} {j p : Nat} (hv : varsOk vars ds.length = true) (hjl : j < vars.length) (hj : vars.getD j 0 = (p : Nat)) :
    stepB (varsKp vars g (j + 1)) ds = (stepB (varsKp vars g j) ds).set p (keepD (g j) (ds.getD p nilD)) := by
  have hp : p < ds.length := by have := varsOk_rng hv hjl; omega
  apply ext_getD (by rw [List.length_set, stepB_length, stepB_length])
  intro i hi
  rw [stepB_length] at hi
  rw [stepB_getD _ _ hi, getD_set _ _ _ _ (by rw [stepB_length]; exact hp)]
  unfold nilD
  by_cases e : i = p
  · subst e
    rw [if_pos rfl]
    congr 1
    funext x
    rw [varsKp_succ, hj, Int.toNat_natCast, decide_eq_true rfl]
    have h1 : varsKp vars g j i x = true := varsKp_iff.2 fun k hk e => by
      have := varsOk_ne' hv hjl (show k < vars.length by omega) (by omega)
      rw [hj] at this
      exact absurd e this
    rw [h1]; simp
  · rw [if_neg e, stepB_getD _ _ hi]
    congr 1
    funext x
    rw [varsKp_succ, hj, Int.toNat_natCast, decide_eq_false (fun h => e h.symm)]
    simp
/-- A first variable's round, behind those of the others. -/
theorem first_step {C : ConB} {ds : List DomB} {kq : Nat → Int → Bool} {h : Int → Bool} {g : Nat → Int → Bool} {p : Nat} (hv : varsOk C.vars ds.length = true) (hm : allMay ds = true) (hn : 0 < C.vars.length) (hp : C.vars.getD 0 0 = (p : Nat))
    (hh : ∀ v ∈ leftOf C ds 0, h v = g 0 v) (hq : ∀ i, i < ds.length → i ≠ p → ∀ v ∈ listB (ds.getD i nilD).1 (ds.getD i nilD).2, kq i v = varsKp (C.vars.drop 1) (fun i x => g (i + 1) x) (C.vars.drop 1).length i v) :
    (stepB kq ds).set p (keepD h (ds.getD p nilD)) = stepB (varsKp C.vars g C.vars.length) ds := by
  have hpl : p < ds.length := by have := varsOk_rng hv hn; omega
  apply ext_getD (by rw [List.length_set, stepB_length, stepB_length])
  intro i hi
  rw [List.length_set, stepB_length] at hi
  rw [stepB_getD _ _ hi, getD_set _ _ _ _ (by rw [stepB_length]; exact hpl)]
  by_cases e : i = p
  · subst e
    rw [if_pos rfl]
    refine keepD_congr (allMay_at hm hi) fun v hv2 => ?_
    have e0 : leftOf C ds 0 = listB (ds.getD i nilD).1 (ds.getD i nilD).2 := by unfold leftOf; rw [hp, Int.toNat_natCast]
    rw [hh v (by rw [e0]; exact hv2), varsKp_split hn, hp, Int.toNat_natCast, decide_eq_true rfl]
    have : varsKp (C.vars.drop 1) (fun i x => g (i + 1) x) (C.vars.length - 1) i v = true := by
      rw [varsKp_iff]
      intro k hk e2
      rw [getD_drop1] at e2
      have := varsOk_ne' hv hn (show k + 1 < C.vars.length by omega) (by omega)
      rw [hp, Int.toNat_natCast] at this
      exact absurd e2 this
    rw [this]; simp
  · rw [if_neg e, stepB_getD _ _ hi]
    refine keepD_congr (allMay_at hm hi) fun v hv2 => ?_
    have := hq i hi e v hv2
    rw [List.length_drop] at this
    rw [this, varsKp_split hn, hp, Int.toNat_natCast, decide_eq_false (fun h => e h.symm)]
    simp
end Go.Proofs.YtekcenacpklpgaaDoor

set_option maxHeartbeats 1000000
set_option maxRecDepth 10000
namespace Go.Proofs.YtekcenacpklpgaaDoor
open Go Go.RowKit Pl

theorem varsKp_congr {vars : List Int} {g h : Nat → Int → Bool} {j i : Nat} {x : Int} (hgh : ∀ k, k < j → g k x = h k x) : varsKp vars g j i x = varsKp vars h j i x := by
  rw [Bool.eq_iff_iff, varsKp_iff, varsKp_iff]
  constructor
  · intro a k hk e; rw [← hgh k hk]; exact a k hk e
  · intro a k hk e; rw [hgh k hk]; exact a k hk e
theorem lists_len (ds : List DomB) : (listsOf ds).length = ds.length := by unfold listsOf; rw [List.length_map]
theorem lsAt_left {C : ConB} {ds : List DomB} (hv : varsOk C.vars ds.length = true) {i : Nat} (hi : i < C.vars.length) : lsAt C.vars (listsOf ds) i = leftOf C ds i :=
  lsAt_lsV (fun _ hi => varsOk_rng hv hi) hi
theorem lsAt_rest {C : ConB} {ds : List DomB} (hv : varsOk C.vars ds.length = true) {i : Nat} (hi : i < C.vars.length - 1) : lsAt (C.vars.drop 1) (listsOf ds) i = restOf C ds i := by
  rw [lsAt_lsV (fun i hi => varsOk_rng (varsOk_drop hv) hi) (by rw [List.length_drop]; exact hi), lsV_rest]

theorem rl_none {C : ConB} {ds : List DomB} {n1 : Nat} (hl : C.vars.length = n1) (hv : varsOk C.vars ds.length = true) (hm : allMay ds = true) (hw : wipedB C ds n1 = true) :
    stepB (fun i x => ((noneU C.vars (listsOf ds) n1).getD i []).contains x) ds = stepB (linKp C ds) ds := by
  subst hl
  refine stepB_congr hm fun i hi v hv2 => ?_
  have hmem : v ∈ (listsOf ds).getD i [] := by rw [listsOf_getD ds hi]; exact hv2
  rw [noneU_keeps (by rw [lists_len]; exact hv) hmem]
  unfold linKp
  refine varsKp_congr fun k hk => ?_
  unfold linG
  rw [if_pos hw]
theorem rl_sum {C : ConB} {ds : List DomB} {n1 : Nat} (hl : C.vars.length = n1) (hk : C.kind = 1) (hv : varsOk C.vars ds.length = true) (hm : allMay ds = true) (hw : wipedB C ds n1 = false) :
    stepB (fun i x => ((setU C.vars (listsOf ds) (sumG C.coefs (lsAt C.vars (listsOf ds)) n1 C.rel C.const) n1).getD i []).contains x) ds = stepB (linKp C ds) ds := by
  subst hl
  refine stepB_congr hm fun i hi v hv2 => ?_
  have hmem : v ∈ (listsOf ds).getD i [] := by rw [listsOf_getD ds hi]; exact hv2
  rw [setU_keeps (by rw [lists_len]; exact hv) hmem]
  unfold linKp
  refine varsKp_congr fun k hk2 => ?_
  unfold linG
  rw [if_neg (by rw [hw]; decide), if_pos hk, sumG_congr (fun i hi => lsAt_left hv hi)]
theorem rl_iff {C : ConB} {ds : List DomB} {rs : List (List Int)} {fl : List Int} (hk : C.kind = 3) (hv : varsOk C.vars ds.length = true) (hm : allMay ds = true) (hw : wipedB C ds C.vars.length = false) (hn : 0 < C.vars.length) (hrl : rs.length = ds.length)
    (hf : ∀ v ∈ leftOf C ds 0, fl.contains v = iffG C ds 0 v)
    (hr : ∀ q, ∀ v ∈ (listsOf ds).getD q [], (rs.getD q []).contains v = varsKp (C.vars.drop 1) (fun i x => iffG C ds (i + 1) x) (C.vars.drop 1).length q v) :
    stepB (fun i x => ((rs.set (C.vars.getD 0 0).toNat fl).getD i []).contains x) ds = stepB (linKp C ds) ds := by
  refine stepB_congr hm fun i hi v hv2 => ?_
  have hmem : v ∈ (listsOf ds).getD i [] := by rw [listsOf_getD ds hi]; exact hv2
  have e : linKp C ds i v = varsKp C.vars (iffG C ds) C.vars.length i v := by
    unfold linKp
    refine varsKp_congr fun k _ => ?_
    unfold linG
    rw [if_neg (by rw [hw]; decide), if_neg (by rw [hk]; decide)]
  rw [e]
  refine first_keeps (ls := listsOf ds) (by rw [lists_len]; exact hv) (by rw [hrl, lists_len]) hn hmem (fun e0 => hf v ?_) (fun _ => hr i v hmem)
  unfold leftOf
  rw [e0]
  exact hv2
/-- The lists of the other variables, behind a sum. -/
theorem rl_rest {C : ConB} {ds : List DomB} {m : Nat} {rel : Int} (hv : varsOk C.vars ds.length = true) (hl : (C.vars.drop 1).length = m) (hg : (fun i x => iffG C ds (i + 1) x) = sumG C.coefs (restOf C ds) m rel C.const) (q : Nat) (v : Int) (hmem : v ∈ (listsOf ds).getD q []) :
    ((setU (C.vars.drop 1) (listsOf ds) (sumG C.coefs (lsAt (C.vars.drop 1) (listsOf ds)) m rel C.const) m).getD q []).contains v = varsKp (C.vars.drop 1) (fun i x => iffG C ds (i + 1) x) (C.vars.drop 1).length q v := by
  subst hl
  rw [setU_keeps (by rw [lists_len]; exact varsOk_drop hv) hmem]
  refine varsKp_congr fun k hk2 => ?_
  have h := congrFun (congrFun hg k) v
  rw [h, sumG_congr (fun i hi => lsAt_rest hv (by rw [List.length_drop] at hi; exact hi))]
theorem rl_same {C : ConB} {ds : List DomB} (hg : (fun i x => iffG C ds (i + 1) x) = fun _ _ => true) (q : Nat) (v : Int) (hmem : v ∈ (listsOf ds).getD q []) :
    ((listsOf ds).getD q []).contains v = varsKp (C.vars.drop 1) (fun i x => iffG C ds (i + 1) x) (C.vars.drop 1).length q v := by
  rw [hg, List.contains_iff_mem.2 hmem]
  symm
  exact varsKp_iff.2 fun _ _ _ => rfl
/-- What the first variable's list is filled with. -/
def fillF (y z b1 b2 : Bool) : List Int := (if (z && b2) = true then [0] else []) ++ (if (y && b1) = true then [1] else [])
theorem fillF_contains {C : ConB} {ds : List DomB} {y z : Bool} {m : Nat} (hl : C.vars.length - 1 = m) (hy : (leftOf C ds 0).contains 1 = y) (hz : (leftOf C ds 0).contains 0 = z) {v : Int} (hv : v ∈ leftOf C ds 0) :
    (fillF y z (mayL (lowBut C.coefs (restOf C ds) (-1) m) (highBut C.coefs (restOf C ds) (-1) m) C.rel C.const) (mayL (lowBut C.coefs (restOf C ds) (-1) m) (highBut C.coefs (restOf C ds) (-1) m) (contraB C.rel) C.const)).contains v = iffG C ds 0 v := by
  rw [← firstL_contains hv]
  subst hl
  unfold fillF firstL
  rw [hy, hz]
  simp only [Bool.and_eq_true]
theorem rl_ff {C : ConB} {ds : List DomB} {n1 : Nat} (hl : C.vars.length = n1) (hk : C.kind = 3) (hv : varsOk C.vars ds.length = true) (hm : allMay ds = true) (hw : wipedB C ds n1 = false)
    (hff : ∀ i, ∀ x, (i = 0 → x ∈ leftOf C ds 0) → iffG C ds i x = false) :
    stepB (fun i x => ((noneU C.vars (listsOf ds) n1).getD i []).contains x) ds = stepB (linKp C ds) ds := by
  subst hl
  refine stepB_congr hm fun i hi v hv2 => ?_
  have hmem : v ∈ (listsOf ds).getD i [] := by rw [listsOf_getD ds hi]; exact hv2
  rw [noneU_keeps (by rw [lists_len]; exact hv) hmem]
  unfold linKp
  rw [Bool.eq_iff_iff, varsKp_iff, varsKp_iff]
  have e : ∀ k, (C.vars.getD k 0).toNat = i → linG C ds k v = false := fun k e => by
    unfold linG
    rw [if_neg (by rw [hw]; decide), if_neg (by rw [hk]; decide)]
    exact hff k v (fun e0 => by subst e0; unfold leftOf; rw [e]; exact hv2)
  constructor
  · intro h k hk e2; exact absurd (h k hk e2) (by decide)
  · intro h k hk e2; exact absurd (h k hk e2) (by rw [e k e2]; decide)
end Go.Proofs.YtekcenacpklpgaaDoor

set_option maxHeartbeats 1000000
set_option maxRecDepth 10000
namespace Go.Proofs.YtekcenacpklpgaaDoor
open Go Go.RowKit Pl

theorem doms_nil (w : World) : Doms w Option.none 0 [] := ⟨rfl, by decide, fun j hj => absurd hj (Nat.not_lt_zero _), fun h => absurd h (Nat.lt_irrefl _)⟩
theorem beq_decide (a b : Int) : (a == b) = decide (b = a) := by
  rw [Bool.eq_iff_iff, beq_iff_eq, decide_eq_true_eq]; exact eq_comm

theorem rsames_any (A B : Option Addr) (n c d : Nat) (ds : List DomB) (w : World) (hA : Doms w A n ds) (hB : Doms w B n ds) :
    Calls Tryd.prog 13 #[.slice A n c, .slice B n d] w fun e w' => e = .returned (.bool true) ∧ Kept w w' := by
  have HA := Lib.hid hA
  have HB := Lib.hid hB
  have hsm := hA.small
  clear hA hB
  go_enter Tryd.func13, Tryd.ntmps13
  go_wp2_with fail
  go_loopw [5] (fun v wr => ∃ k : Nat, k ≤ n ∧ v = .int .i64 k ∧ Hid (Kept w wr)) (fun v _ => n - (intOf v).toNat)
  case atStart => exact ⟨0, Nat.zero_le _, rfl, Kept.same _⟩
  case round =>
    obtain ⟨k, hk, rfl, Hkw⟩ := hrel
    by_cases hlt : k < n
    · have hSr := HA.out.kept Hkw.out
      have hSb := HB.out.kept Hkw.out
      obtain ⟨a, rfl, hblk⟩ := hSr.addr (by omega)
      obtain ⟨b, rfl, hblk2⟩ := hSb.addr (by omega)
      obtain ⟨xs, L, Bx, mx, cx, Hdx, hc1, hc2, HIx, hLx⟩ := hSr.named k hlt
      obtain ⟨ys, M, By, my, cy, Hdy, hc3, hc4, HIy, hLy⟩ := hSb.named k hlt
      have e := Hdx.out.symm.trans Hdy.out
      simp only [Prod.mk.injEq] at e
      obtain ⟨rfl, rfl⟩ := e
      have HQ : Hid (∀ W, Kept wr W → Calls Tryd.prog 41 #[.agg #[.slice Bx mx cx, .int .u64 L], .agg #[.slice By my cy, .int .u64 L]] W fun e w' => e = .returned (.bool true) ∧ Kept W w') := fun W hW => by
        have := rdsame_any Bx By mx my cx cy L L xs xs W (HIx.out.kept hW) (HIy.out.kept hW)
        simpa using this
      have hl1 := World.block_lt_of_cell? wr _ hc1
      have hl2 := World.block_lt_of_cell? wr _ hc2
      have hl3 := World.block_lt_of_cell? wr _ hc3
      have hl4 := World.block_lt_of_cell? wr _ hc4
      clear hSr hSb
      go_wp2_with fail
      refine wp_region_quiet_below (by kernel_rfl) (by kernel_rfl) ?_
      repeat (any_goals (first | go_big_quiet_step (((go_at_call 41; exact Calls.regrown_of (HQ.out _ (below_regrown _ _ _))))) | quiet_step (((go_at_call 41; exact Calls.regrown_of (HQ.out _ (below_regrown _ _ _))))) | (refine wpQuiet_step (fun K hK => ?_); go_simp; split <;> (refine hK _ ?_; clear hK K))))
      all_goals (refine wpQuiet_nil ?_; intro w1 hw'; replace hw' := Kept.regrown hw')
      have Hk9 := Lib.hid (Hkw.out.then hw')
      clear hw'
      go_wp2_with fail
      go_roundw
      case rel => exact ⟨k + 1, by omega, by go_num, Hk9.out⟩
      case measure => simp [intOf]; omega
    · have e : k = n := by omega
      subst e
      go_wp2_with fail
      go_ret
      exact ⟨rfl, Hkw.out⟩

theorem rright12_any (K R Ct : Int) (A1 A2 A3 : Option Addr) (n1 c1 n2 c2 n3 c3 : Nat) (C : ConB) (q : Int) (O : Nat) (A : Option Addr) (n c : Nat) (ds : List DomB) (w : World) (hC : ConIn w K R Ct A1 A2 A3 n1 c1 n2 c2 n3 c3 C) (hS : Doms w A n ds) (hO : w.heap[O]? = some (.cells #[.int .i64 q] 3)) :
    Calls Tryd.prog 31 #[.agg #[.int .i64 K, .slice A1 n1 c1, .slice A2 n2 c2, .int .i64 R, .int .i64 Ct, .slice A3 n3 c3], .slice A n c, .slice (some ⟨O, 0, Option.none⟩) 1 1] w fun e w' => e = .returned (.bool (decide (C.kind = q) && allMay ds && rightB C n)) ∧ Kept w w' := by
  have HC := Lib.hid hC
  have HS := Lib.hid hS
  have HO := Lib.hid hO
  have Hlen := Lib.hid hS.len
  have hsm := hS.small
  have Hkind := Lib.hid hC.kind
  clear hC hS hO
  have HB : Hid (∀ wr, Kept (w.alloc (.cells #[.int .i64 K, .slice A1 n1 c1, .slice A2 n2 c2, .int .i64 R, .int .i64 Ct, .slice A3 n3 c3] 24)) wr → wr.heap[w.heap.size]? = some (.cells #[.int .i64 K, .slice A1 n1 c1, .slice A2 n2 c2, .int .i64 R, .int .i64 Ct, .slice A3 n3 c3] 24)) := fun wr h => h.heapAt (heap_new _ _)
  go_enter Tryd.func31, Tryd.ntmps31
  go_wp2_with fail
  go_loopw [7, 8] (fun u v wr => ∃ k : Nat, k ≤ 1 ∧ v = .int .i64 k ∧ u = .bool (decide (k = 1) && decide (K = q)) ∧ Hid (Kept (w.alloc (.cells #[.int .i64 K, .slice A1 n1 c1, .slice A2 n2 c2, .int .i64 R, .int .i64 Ct, .slice A3 n3 c3] 24)) wr)) (fun _ v _ => 1 - (intOf v).toNat)
  case atStart => exact ⟨0, Nat.zero_le _, rfl, rfl, Kept.same _⟩
  case round =>
    obtain ⟨k, hk, rfl, rfl, Hkw⟩ := hrel
    have hb := HB.out wr Hkw.out
    have b0 := cell_at hb 0
    have b1 := cell_at hb 1
    have b2 := cell_at hb 2
    have b3 := cell_at hb 3
    have b4 := cell_at hb 4
    have b5 := cell_at hb 5
    simp only [List.getElem?_toArray, List.getElem?_cons_zero, List.getElem?_cons_succ] at b0 b1 b2 b3 b4 b5
    clear hb
    have hlb : w.heap.size < wr.heap.size := World.block_lt_of_cell? wr _ b0
    have hq := cell_at (((Kept.box _ _).then Hkw.out).heapAt HO.out) 0
    simp only [List.getElem?_toArray, List.getElem?_cons_zero] at hq
    have hlO : O < wr.heap.size := World.block_lt_of_cell? wr _ hq
    by_cases hk1 : k = 1
    · subst hk1
      have eK : (decide (1 = 1) && decide (K = q)) = decide (K = q) := by simp
      rw [eK]
      have Hb : Hid (decide (C.kind = q) = decide (K = q)) := by show _ = _; rw [Hkind.out]
      clear eK hq
      generalize decide (K = q) = b at *
      go_wp2_with fail
      clear b0 b1 b2 b3 b4 b5
      have Hkw0 := Lib.hid Hkw.out
      go_loopw [7, 9] (fun u v wq => ∃ j : Nat, j ≤ n ∧ v = .int .i64 j ∧ u = .bool (b && allMay (ds.take j)) ∧ Hid (Kept wr wq)) (fun _ v _ => n - (intOf v).toNat)
      case atStart => exact ⟨0, Nat.zero_le _, rfl, by simp [allMay], Kept.same _⟩
      case round =>
        obtain ⟨j, hj, rfl, rfl, Hkq⟩ := hrel
        have Hk2 := Lib.hid (Hkw0.out.then Hkq.out)
        have hb := HB.out wr Hk2.out
        have b0 := cell_at hb 0
        have b1 := cell_at hb 1
        have b2 := cell_at hb 2
        have b3 := cell_at hb 3
        have b4 := cell_at hb 4
        have b5 := cell_at hb 5
        simp only [List.getElem?_toArray, List.getElem?_cons_zero, List.getElem?_cons_succ] at b0 b1 b2 b3 b4 b5
        clear hb
        by_cases hlt : j < n
        · have hSr := HS.out.kept ((Kept.box _ _).then Hk2.out)
          obtain ⟨a, rfl, hblk⟩ := hSr.addr (by omega)
          obtain ⟨xs, L, Bx, mx, cx, Hdx, hc1, hc2, HIx, hLx⟩ := hSr.named j hlt
          have Hs : Hid (allMay (ds.take (j + 1)) = (allMay (ds.take j) && mayB xs L)) := by
            show _ = _
            rw [take_dom (by have := Hlen.out; omega) Hdx.out]
            unfold allMay
            rw [List.all_append]
            simp
          have HQ := Lib.hid (rmay_any Bx mx cx L xs wr HIx.out hLx)
          clear hSr
          generalize mayB xs L = m1 at HQ Hs
          generalize hq1 : (b && allMay (ds.take j)) = q1
          have Hq1 := Lib.hid hq1
          clear hq1
          cases q1 with
          | false =>
            go_wp2_with fail
            go_roundw
            case rel => exact ⟨j + 1, by omega, by go_num, by rw [Hs.out, ← Bool.and_assoc, Hq1.out]; rfl, Hkq.out⟩
            case measure => simp [intOf]; omega
          | true =>
            go_wp2_with fail
            refine HQ.out.mono ?_
            rintro e w1 ⟨rfl, hk1⟩
            have Hk1 := Lib.hid (Hkq.out.then hk1)
            clear hk1 b0 b1 b2 b3 b4 b5
            go_wp2_with fail
            go_roundw
            case rel => (repeat apply Exists.intro); exact ⟨⟨j + 1, by omega, by go_num, by rw [Hs.out, ← Bool.and_assoc, Hq1.out]; simp, Hk1.out⟩, rfl⟩
            case measure => simp [intOf]; omega
        · have e : j = n := by omega
          subst e
          rw [List.take_of_length_le (by have := Hlen.out; omega)]
          generalize hq1 : (b && allMay ds) = q1
          have Hq2 : Hid ((decide (C.kind = q) && allMay ds && rightB C j) = (q1 && rightB C j)) := by show _ = _; rw [Hb.out, hq1]
          clear hq1
          have HQ := Lib.hid (rright_any K R Ct A1 A2 A3 n1 c1 n2 c2 n3 c3 C j wr (HC.out.kept ((Kept.box _ _).then Hk2.out)))
          have HK2 := Lib.hid ((Kept.box _ _).then Hk2.out)
          cases q1 with
          | false =>
            go_wp2_with fail
            go_ret
            exact ⟨ret_bool (by rw [Hq2.out]; rfl), HK2.out⟩
          | true =>
            generalize hr : rightB C j = r at HQ
            have Hr := Lib.hid hr
            clear hr
            go_wp2_with fail
            refine HQ.out.mono ?_
            rintro e w1 ⟨rfl, hk1⟩
            have HK3 := Lib.hid (HK2.out.then hk1)
            clear hk1 b0 b1 b2 b3 b4 b5
            go_wp2_with fail
            go_ret
            exact ⟨ret_bool (by rw [Hq2.out, Hr.out]; simp), HK3.out⟩
    · have e : k = 0 := by omega
      subst e
      go_wp2_with fail
      refine wp_region_quiet_below (by kernel_rfl) (by kernel_rfl) ?_
      repeat (any_goals (first | go_big_quiet_step ((fail)) | quiet_step ((fail)) | (refine wpQuiet_step (fun K hK => ?_); go_simp; split <;> (refine hK _ ?_; clear hK K))))
      all_goals (refine wpQuiet_nil ?_; intro w1 hw'; replace hw' := Kept.regrown hw')
      all_goals try (exfalso; omega)
      have Hk9 := Lib.hid (Hkw.out.then hw')
      clear hw' b0 b1 b2 b3 b4 b5 hq
      go_wp2_with fail
      go_roundw
      case rel => exact ⟨1, by omega, by go_num, by first | rfl | (simp; exact beq_decide _ _), Hk9.out⟩
      case measure => simp [intOf]
end Go.Proofs.YtekcenacpklpgaaDoor

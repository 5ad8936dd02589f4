/-
  A slice of domains of the call's own.
-/
import Derived.Test.YtjmegicopdbkdaaDoorDoms
import Derived.Test.YtjmegicopdbkdaaDoorKeptX
import Derived.Laws.OwnMore
set_option maxHeartbeats 1000000
namespace Go.Proofs.YtjmegicopdbkdaaDoor
open Go Go.RowKit Pl

/-- The slice u, in blocks from base on, owns the domains ds; their values do not lie in its own block. -/
def OwnD (w : World) (base : Nat) (u : Value) (ds : List DomB) : Prop :=
  ∃ vs : List Value, w.ownsRow base 47 2 u ds.length vs ∧ ∀ j, j < ds.length → (ds.getD j nilD).2 < 2 ^ 64 ∧
    ∃ B m c, vs[j * 2]? = some (.slice B m c) ∧ vs[j * 2 + 1]? = some (.int .u64 ((ds.getD j nilD).2 : Nat)) ∧ Ints w B m (ds.getD j nilD).1 ∧ (0 < m → ∀ a, B = some a → u.ownBlock ≠ some a.block)

theorem OwnD.nil (w : World) (base : Nat) : OwnD w base (.slice Option.none 0 0) [] :=
  ⟨[], World.ownsRow_nil _ _ _ _, fun j hj => by simp at hj⟩

theorem own_kept {w w' : World} {base : Nat} {e : TypeId} {size n : Nat} {v : Value} {xs : List Value} (h : w.ownsRow base e size v n xs) (hk : Kept w w') : w'.ownsRow base e size v n xs :=
  h.kept (row := Option.none) ⟨hk.os, hk.tape, hk.output, hk.size, fun k hk' _ => hk.block k hk'⟩ (by cases v.ownBlock <;> simp)

theorem OwnD.kept {w w' : World} {base : Nat} {u : Value} {ds : List DomB} (h : OwnD w base u ds) (hk : Kept w w') : OwnD w' base u ds := by
  obtain ⟨vs, hown, hd⟩ := h
  refine ⟨vs, hown.kept (row := Option.none) ⟨hk.os, hk.tape, hk.output, hk.size, fun k hk' _ => hk.block k hk'⟩ ?_, fun j hj => ?_⟩
  · cases u.ownBlock <;> simp
  · obtain ⟨hl, B, m, c, h1, h2, h3, h4⟩ := hd j hj
    exact ⟨hl, B, m, c, h1, h2, h3.kept hk, h4⟩

theorem getD_snoc {ds : List DomB} {d : DomB} {j : Nat} (hj : j < ds.length) : (ds ++ [d]).getD j nilD = ds.getD j nilD := by
  simp only [List.getD_eq_getElem?_getD, List.getElem?_append_left hj]
theorem getD_last (ds : List DomB) (d : DomB) : (ds ++ [d]).getD ds.length nilD = d := by
  simp [List.getD_eq_getElem?_getD]

/-- One more: behind the copy of its values and the append. w1: where the append begins (its element laid in a block of its own). -/
theorem OwnD.snoc {w1 w2 : World} {base g cap : Nat} {u : Value} {ds : List DomB} {d : DomB} {B : Option Addr} {m c : Nat} {vs : List Value}
    (hown : w1.ownsRow base 47 2 u ds.length vs) (hd : ∀ j, j < ds.length → (ds.getD j nilD).2 < 2 ^ 64 ∧ ∃ B m c, vs[j * 2]? = some (.slice B m c) ∧ vs[j * 2 + 1]? = some (.int .u64 ((ds.getD j nilD).2 : Nat)) ∧ Ints w1 B m (ds.getD j nilD).1 ∧ (0 < m → ∀ a, B = some a → u.ownBlock ≠ some a.block))
    (hI : Ints w1 B m d.1) (hB : 0 < m → ∀ a, B = some a → u.ownBlock ≠ some a.block) (hL : d.2 < 2 ^ 64)
    (h2 : w2.ownsRow base 47 2 (.slice (some ⟨g, 0, Option.none⟩) (ds.length + 1) cap) (ds.length + 1) (vs ++ [.slice B m c, .int .u64 (d.2 : Nat)]))
    (hg : w1.grownBy w2 u.ownBlock) (hat : u.ownBlock = some g ∨ w1.heap.size ≤ g) : OwnD w2 base (.slice (some ⟨g, 0, Option.none⟩) (ds.length + 1) cap) (ds ++ [d]) := by
  have hlen : vs.length = ds.length * 2 := hown.1
  have hne : ∀ a : Addr, a.block < w1.heap.size → u.ownBlock ≠ some a.block → Value.ownBlock (.slice (some ⟨g, 0, Option.none⟩) (ds.length + 1) cap) ≠ some a.block := by
    intro a h1 h2 e
    simp only [Value.ownBlock, Option.some.injEq] at e
    rcases hat with h | h
    · rw [h, e] at h2; exact h2 rfl
    · omega
  have hint : ∀ {B : Option Addr} {m : Nat} {xs : List Int}, Ints w1 B m xs → (0 < m → ∀ a, B = some a → u.ownBlock ≠ some a.block) → Ints w2 B m xs := by
    intro B m xs h hb
    refine ⟨h.len, h.small, h.rng, fun hn => ?_⟩
    obtain ⟨a, e, hc⟩ := h.cell hn
    exact ⟨a, e, fun j hj => hg.cell (hc j hj) (by rw [add_block']; exact fun e' => hb hn a e e'.symm)⟩
  have hblk : ∀ {B : Option Addr} {m : Nat} {xs : List Int}, Ints w1 B m xs → 0 < m → ∀ a, B = some a → a.block < w1.heap.size := by
    intro B m xs h hn a ha
    subst ha
    exact h.block hn
  refine ⟨vs ++ [.slice B m c, .int .u64 (d.2 : Nat)], by rw [List.length_append]; exact h2, fun j hj => ?_⟩
  rw [List.length_append] at hj
  simp only [List.length_cons, List.length_nil] at hj
  by_cases hlt : j < ds.length
  · rw [getD_snoc hlt]
    obtain ⟨hl, B', m', c', e1, e2, e3, e4⟩ := hd j hlt
    refine ⟨hl, B', m', c', ?_, ?_, hint e3 e4, fun hn a ha => hne a (hblk e3 hn a ha) (e4 hn a ha)⟩
    · rw [List.getElem?_append_left (by omega)]; exact e1
    · rw [List.getElem?_append_left (by omega)]; exact e2
  · have e : j = ds.length := by omega
    subst e
    rw [getD_last]
    refine ⟨hL, B, m, c, ?_, ?_, hint hI hB, fun hn a ha => hne a (hblk hI hn a ha) (hB hn a ha)⟩
    · rw [List.getElem?_append_right (by omega), hlen]; simp
    · rw [List.getElem?_append_right (by omega), hlen]
      have : ds.length * 2 + 1 - ds.length * 2 = 1 := by omega
      rw [this]; rfl

theorem OwnD.parts {w : World} {base : Nat} {u : Value} {ds : List DomB} (h : OwnD w base u ds) : ∃ A c, u = .slice A ds.length c := by
  obtain ⟨vs, hown, _⟩ := h
  rcases hown.2 with ⟨rfl, h0⟩ | ⟨g, cap, cur, rfl, _⟩
  · rw [h0]; exact ⟨_, _, rfl⟩
  · exact ⟨_, _, rfl⟩

theorem OwnD.doms {w : World} {base c : Nat} {A : Option Addr} {n : Nat} {ds : List DomB} (h : OwnD w base (.slice A n c) ds) (hn : ds.length = n) (hs : n ≤ 9223372036854775807) : Doms w A n ds := by
  obtain ⟨vs, hown, hd⟩ := h
  subst hn
  refine ⟨rfl, hs, fun j hj => (hd j hj).1, fun h0 => ?_⟩
  obtain ⟨g, cap, e, hb, hlt⟩ := hown.form h0
  cases e
  refine ⟨_, rfl, fun j hj => ?_⟩
  obtain ⟨_, B, m, c, e1, e2, e3, _⟩ := hd j hj
  refine ⟨B, m, c, hown.cells (g := g) rfl _ _ e1, ?_, e3⟩
  have := hown.cells (g := g) rfl _ _ e2
  rw [add_plain] at this ⊢
  exact this

/-- A domain of the row is turned. -/
theorem OwnD.set {w : World} {base g n cap p : Nat} {ds : List DomB} {d : DomB} {B : Option Addr} {m c : Nat} (h : OwnD w base (.slice (some ⟨g, 0, Option.none⟩) n cap) ds) (hn : ds.length = n) (_hp : p < n) (hI : Ints w B m d.1) (hB : 0 < m → ∀ a, B = some a → a.block ≠ g) (hL : d.2 < 2 ^ 64) :
    OwnD ((w.setCell ⟨g, p * 2, Option.none⟩ (.slice B m c)).setCell ⟨g, p * 2 + 1, Option.none⟩ (.int .u64 (d.2 : Nat))) base (.slice (some ⟨g, 0, Option.none⟩) n cap) (ds.set p d) := by
  obtain ⟨vs, hown, hd⟩ := h
  subst hn
  have hlen : vs.length = ds.length * 2 := hown.1
  have h2 := (((hown.stored (p * 2) (.slice B m c)).1).stored (p * 2 + 1) (.int .u64 (d.2 : Nat))).1
  have hk : KeptBut g w ((w.setCell ⟨g, p * 2, Option.none⟩ (.slice B m c)).setCell ⟨g, p * 2 + 1, Option.none⟩ (.int .u64 (d.2 : Nat))) := (KeptBut.set _ (a := ⟨g, p * 2, Option.none⟩) rfl _).then (KeptBut.set _ (a := ⟨g, p * 2 + 1, Option.none⟩) rfl _)
  refine ⟨_, by rw [List.length_set]; exact h2, fun j hj => ?_⟩
  rw [List.length_set] at hj
  rw [getD_set ds p j d (by omega)]
  by_cases e : j = p
  · subst e
    rw [if_pos rfl]
    refine ⟨hL, B, m, c, ?_, ?_, hI.keptBut0 hk hB, fun hn a ha e => hB hn a ha (by simpa [Value.ownBlock] using e.symm)⟩
    · rw [List.getElem?_set_ne (by omega), List.getElem?_set_self (by omega)]
    · rw [List.getElem?_set_self (by rw [List.length_set]; omega)]
  · rw [if_neg e]
    obtain ⟨hl, B', m', c', e1, e2, e3, e4⟩ := hd j hj
    refine ⟨hl, B', m', c', ?_, ?_, e3.keptBut0 hk (fun hn a ha e => e4 hn a ha (by simp [Value.ownBlock, e])), e4⟩
    · rw [List.getElem?_set_ne (by omega), List.getElem?_set_ne (by omega)]; exact e1
    · rw [List.getElem?_set_ne (by omega), List.getElem?_set_ne (by omega)]; exact e2

/-- What is left of a domain of the row is turned. -/
theorem OwnD.setLive {w : World} {base g n cap p L : Nat} {ds : List DomB} (h : OwnD w base (.slice (some ⟨g, 0, Option.none⟩) n cap) ds) (hn : ds.length = n) (_hp : p < n) (hL : L < 2 ^ 64) :
    OwnD (w.setCell ⟨g, p * 2 + 1, Option.none⟩ (.int .u64 (L : Nat))) base (.slice (some ⟨g, 0, Option.none⟩) n cap) (ds.set p ((ds.getD p nilD).1, L)) := by
  obtain ⟨vs, hown, hd⟩ := h
  subst hn
  have hlen : vs.length = ds.length * 2 := hown.1
  have h2 := (hown.stored (p * 2 + 1) (.int .u64 (L : Nat))).1
  have hk : KeptBut g w (w.setCell ⟨g, p * 2 + 1, Option.none⟩ (.int .u64 (L : Nat))) := KeptBut.set _ (a := ⟨g, p * 2 + 1, Option.none⟩) rfl _
  refine ⟨_, by rw [List.length_set]; exact h2, fun j hj => ?_⟩
  rw [List.length_set] at hj
  rw [getD_set ds p j _ (by omega)]
  obtain ⟨hl, B', m', c', e1, e2, e3, e4⟩ := hd j hj
  have e3' := e3.keptBut0 hk (fun hn a ha e => e4 hn a ha (by simp [Value.ownBlock, e]))
  by_cases e : j = p
  · subst e
    rw [if_pos rfl]
    refine ⟨hL, B', m', c', ?_, ?_, e3', e4⟩
    · rw [List.getElem?_set_ne (by omega)]; exact e1
    · rw [List.getElem?_set_self (by omega)]
  · rw [if_neg e]
    refine ⟨hl, B', m', c', ?_, ?_, e3', e4⟩
    · rw [List.getElem?_set_ne (by omega)]; exact e1
    · rw [List.getElem?_set_ne (by omega)]; exact e2

/-- The domain at a place of the row, behind names; where it lies; that it may be written. -/
theorem OwnD.named {w : World} {base g n cap : Nat} {ds : List DomB} (h : OwnD w base (.slice (some ⟨g, 0, Option.none⟩) n cap) ds) (hn : ds.length = n) (p : Nat) (hp : p < n) :
    ∃ (xs : List Int) (L : Nat) (B : Option Addr) (m c : Nat), Hid (ds.getD p nilD = (xs, L)) ∧ w.cell? ⟨g, p * 2, Option.none⟩ = some (.slice B m c) ∧ w.cell? ⟨g, p * 2 + 1, Option.none⟩ = some (.int .u64 (L : Nat)) ∧ Hid (Ints w B m xs) ∧ L < 2 ^ 64 ∧
      Hid (0 < m → ∀ a, B = some a → a.block ≠ g) ∧ w.frozen? ⟨g, p * 2, Option.none⟩ = false ∧ w.frozen? ⟨g, p * 2 + 1, Option.none⟩ = false := by
  obtain ⟨vs, hown, hd⟩ := h
  subst hn
  obtain ⟨hl, B, m, c, e1, e2, e3, e4⟩ := hd p hp
  refine ⟨_, _, B, m, c, rfl, ?_, ?_, e3, hl, fun hn a ha e => e4 hn a ha (by simp [Value.ownBlock, e]), hown.frozenAt _, hown.frozenAt _⟩
  · rw [hown.cellAt _ (by omega)]; exact e1
  · rw [hown.cellAt _ (by omega)]; exact e2
end Go.Proofs.YtjmegicopdbkdaaDoor

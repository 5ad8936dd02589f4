/-
  Slices of slices of whole numbers; the document's Lists.
-/
import Derived.Test.YthddanjmnifloaaDoorOwnR
import Derived.Test.YthddanjmnifloaaDoorRef04
set_option maxHeartbeats 1000000
set_option maxRecDepth 10000
namespace Go.Proofs.YthddanjmnifloaaDoor
open Go Go.RowKit Pl

/-- It reads as lists of whole numbers. -/
structure LL (w : World) (A : Option Addr) (n : Nat) (ls : List (List Int)) : Prop where
  len : ls.length = n
  small : n ≤ 9223372036854775807
  cell : 0 < n → ∃ a, A = some a ∧ ∀ j, j < n → ∃ B m c, w.cell? (a.add j) = some (.slice B m c) ∧ Ints w B m (ls.getD j [])
theorem LL.kept {w w' : World} {A : Option Addr} {n : Nat} {ls : List (List Int)} (h : LL w A n ls) (hk : Kept w w') : LL w' A n ls :=
  ⟨h.len, h.small, fun hn => by
    obtain ⟨a, e, hc⟩ := h.cell hn
    refine ⟨a, e, fun j hj => ?_⟩
    obtain ⟨B, m, c, h1, h2⟩ := hc j hj
    exact ⟨B, m, c, hk.cellAt h1, h2.kept hk⟩⟩
theorem LL.named {w : World} {A : Option Addr} {n : Nat} {ls : List (List Int)} (h : LL w A n ls) (k : Nat) (hk : k < n) :
    ∃ (a : Addr) (l : List Int) (B : Option Addr) (m c : Nat), A = some a ∧ a.block < w.heap.size ∧ Hid (ls.getD k [] = l) ∧ w.cell? (a.add k) = some (.slice B m c) ∧ Hid (Ints w B m l) := by
  obtain ⟨a, rfl, hc⟩ := h.cell (by omega)
  obtain ⟨B, m, c, h1, h2⟩ := hc k hk
  have := World.block_lt_of_cell? w _ h1
  rw [add_block'] at this
  exact ⟨a, _, B, m, c, rfl, this, rfl, h1, h2⟩

/-- The slice u, in blocks from base on, owns the lists; their numbers do not lie in its own block. -/
def OwnL (w : World) (base : Nat) (u : Value) (ls : List (List Int)) : Prop :=
  ∃ vs : List Value, w.ownsRow base 23 1 u ls.length vs ∧ ∀ j, j < ls.length → ∃ B m c, vs[j]? = some (.slice B m c) ∧ Ints w B m (ls.getD j []) ∧ (0 < m → ∀ a, B = some a → u.ownBlock ≠ some a.block)
theorem OwnL.kept {w w' : World} {base : Nat} {u : Value} {ls : List (List Int)} (h : OwnL w base u ls) (hk : Kept w w') : OwnL w' base u ls := by
  obtain ⟨vs, hown, hd⟩ := h
  refine ⟨vs, own_kept hown hk, fun j hj => ?_⟩
  obtain ⟨B, m, c, h1, h2, h3⟩ := hd j hj
  exact ⟨B, m, c, h1, h2.kept hk, h3⟩
theorem OwnL.snoc {w1 w2 : World} {base g cap : Nat} {u : Value} {ls : List (List Int)} {l : List Int} {B : Option Addr} {m c : Nat} {vs : List Value}
    (hown : w1.ownsRow base 23 1 u ls.length vs) (hd : ∀ j, j < ls.length → ∃ B m c, vs[j]? = some (.slice B m c) ∧ Ints w1 B m (ls.getD j []) ∧ (0 < m → ∀ a, B = some a → u.ownBlock ≠ some a.block))
    (hI : Ints w1 B m l) (hB : 0 < m → ∀ a, B = some a → u.ownBlock ≠ some a.block)
    (h2 : w2.ownsRow base 23 1 (.slice (some ⟨g, 0, Option.none⟩) (ls.length + 1) cap) (ls.length + 1) (vs ++ [.slice B m c]))
    (hg : w1.grownBy w2 u.ownBlock) (hat : u.ownBlock = some g ∨ w1.heap.size ≤ g) : OwnL w2 base (.slice (some ⟨g, 0, Option.none⟩) (ls.length + 1) cap) (ls ++ [l]) := by
  have hlen : vs.length = ls.length := by have := hown.1; omega
  have hne : ∀ a : Addr, a.block < w1.heap.size → u.ownBlock ≠ some a.block → Value.ownBlock (.slice (some ⟨g, 0, Option.none⟩) (ls.length + 1) cap) ≠ some a.block := by
    intro a h1 h2 e
    simp only [Value.ownBlock, Option.some.injEq] at e
    rcases hat with h | h
    · rw [h, e] at h2; exact h2 rfl
    · omega
  have hint : ∀ {B : Option Addr} {m : Nat} {xs : List Int}, Ints w1 B m xs → (0 < m → ∀ a, B = some a → u.ownBlock ≠ some a.block) → Ints w2 B m xs := by
    intro B m xs h hb
    refine ⟨h.len, h.small, h.rng, fun hn => ?_⟩
    obtain ⟨a, e, hc⟩ := h.cell hn
    exact ⟨a, e, fun j hj => hg.cell (hc j hj) (by rw [add_block']; exact fun e' => hb hn a e e'.symm)⟩
  have hblk : ∀ {B : Option Addr} {m : Nat} {xs : List Int}, Ints w1 B m xs → 0 < m → ∀ a, B = some a → a.block < w1.heap.size := by
    intro B m xs h hn a ha
    subst ha
    exact h.block hn
  refine ⟨vs ++ [.slice B m c], by rw [List.length_append]; exact h2, fun j hj => ?_⟩
  rw [List.length_append] at hj
  simp only [List.length_cons, List.length_nil] at hj
  by_cases hlt : j < ls.length
  · have e0 : (ls ++ [l]).getD j [] = ls.getD j [] := by simp only [List.getD_eq_getElem?_getD, List.getElem?_append_left hlt]
    rw [e0]
    obtain ⟨B', m', c', e1, e3, e4⟩ := hd j hlt
    refine ⟨B', m', c', ?_, hint e3 e4, fun hn a ha => hne a (hblk e3 hn a ha) (e4 hn a ha)⟩
    rw [List.getElem?_append_left (by omega)]; exact e1
  · have e : j = ls.length := by omega
    subst e
    have e0 : (ls ++ [l]).getD ls.length [] = l := by simp [List.getD_eq_getElem?_getD]
    rw [e0]
    refine ⟨B, m, c, ?_, hint hI hB, fun hn a ha => hne a (hblk hI hn a ha) (hB hn a ha)⟩
    rw [List.getElem?_append_right (by omega), hlen]; simp
theorem OwnL.parts {w : World} {base : Nat} {u : Value} {ls : List (List Int)} (h : OwnL w base u ls) : ∃ A c, u = .slice A ls.length c := by
  obtain ⟨vs, hown, _⟩ := h
  rcases hown.2 with ⟨rfl, h0⟩ | ⟨g, cap, cur, rfl, _⟩
  · rw [h0]; exact ⟨_, _, rfl⟩
  · exact ⟨_, _, rfl⟩
theorem OwnL.lists {w : World} {base c : Nat} {A : Option Addr} {n : Nat} {ls : List (List Int)} (h : OwnL w base (.slice A n c) ls) (hn : ls.length = n) (hs : n ≤ 9223372036854775807) : LL w A n ls := by
  obtain ⟨vs, hown, hd⟩ := h
  subst hn
  refine ⟨rfl, hs, fun h0 => ?_⟩
  obtain ⟨g, cap, e, hb, hlt⟩ := hown.form h0
  cases e
  refine ⟨_, rfl, fun j hj => ?_⟩
  obtain ⟨B, m, c, e1, e3, _⟩ := hd j hj
  exact ⟨B, m, c, hown.cells (g := g) rfl _ _ e1, e3⟩
theorem OwnL.set {w : World} {base g n cap p : Nat} {ls : List (List Int)} {l : List Int} {B : Option Addr} {m c : Nat} (h : OwnL w base (.slice (some ⟨g, 0, Option.none⟩) n cap) ls) (hn : ls.length = n) (_hp : p < n) (hI : Ints w B m l) (hB : 0 < m → ∀ a, B = some a → a.block ≠ g) :
    OwnL (w.setCell ⟨g, p, Option.none⟩ (.slice B m c)) base (.slice (some ⟨g, 0, Option.none⟩) n cap) (ls.set p l) := by
  obtain ⟨vs, hown, hd⟩ := h
  subst hn
  have hlen : vs.length = ls.length := by have := hown.1; omega
  have h2 := (hown.stored p (.slice B m c)).1
  have hk : KeptBut g w (w.setCell ⟨g, p, Option.none⟩ (.slice B m c)) := KeptBut.set _ (a := ⟨g, p, Option.none⟩) rfl _
  refine ⟨_, by rw [List.length_set]; exact h2, fun j hj => ?_⟩
  rw [List.length_set] at hj
  by_cases e : j = p
  · subst e
    have e0 : (ls.set j l).getD j [] = l := by simp [List.getD_eq_getElem?_getD, hj]
    rw [e0]
    refine ⟨B, m, c, ?_, hI.keptBut0 hk hB, fun hn a ha e => hB hn a ha (by simpa [Value.ownBlock] using e.symm)⟩
    rw [List.getElem?_set_self (by omega)]
  · have e0 : (ls.set p l).getD j [] = ls.getD j [] := by simp only [List.getD_eq_getElem?_getD, List.getElem?_set_ne (fun h => e h.symm)]
    rw [e0]
    obtain ⟨B', m', c', e1, e3, e4⟩ := hd j hj
    refine ⟨B', m', c', ?_, e3.keptBut0 hk (fun hn a ha e => e4 hn a ha (by simp [Value.ownBlock, e])), e4⟩
    rw [List.getElem?_set_ne (by omega)]; exact e1
/-- A cell of the row stands there, and may be written. -/
theorem OwnL.at {w : World} {base g n cap : Nat} {ls : List (List Int)} (h : OwnL w base (.slice (some ⟨g, 0, Option.none⟩) n cap) ls) (hn : ls.length = n) (p : Nat) (hp : p < n) :
    (∃ v, w.cell? ⟨g, p, Option.none⟩ = some v) ∧ w.frozen? ⟨g, p, Option.none⟩ = false := by
  obtain ⟨vs, hown, hd⟩ := h
  subst hn
  obtain ⟨B, m, c, e1, _, _⟩ := hd p hp
  exact ⟨⟨_, by rw [hown.cellAt _ (by omega)]; exact e1⟩, hown.frozenAt _⟩

/-- What is left of each. -/
def listsOf (ds : List DomB) : List (List Int) := ds.map fun d => listB d.1 d.2
theorem listsOf_getD (ds : List DomB) {i : Nat} (hi : i < ds.length) : (listsOf ds).getD i [] = listB (ds.getD i nilD).1 (ds.getD i nilD).2 := by
  unfold listsOf
  rw [List.getD_eq_getElem?_getD, List.getElem?_map, List.getD_eq_getElem?_getD, List.getElem?_eq_getElem hi]
  rfl

theorem info_ints : (Tryd.prog.info? 23).map (fun i => (i.zero, i.size, i.bytes)) = some (some (.slice Option.none 0 0), 1, 24) := by kernel_rfl
/-- Lists are handed back, in a slice of the call's own. -/
def ListsPost (ls : List (List Int)) (w : World) (e : Ending) (w' : World) : Prop :=
  ∃ A c, e = .returned (.slice A ls.length c) ∧ LL w' A ls.length ls ∧ Kept w w'

theorem rlists_any (A : Option Addr) (n c : Nat) (ds : List DomB) (w : World) (hS : Doms w A n ds) (hn : n ≤ 1000) :
    Calls Tryd.prog 58 #[.slice A n c] w (ListsPost (listsOf ds) w) := by
  obtain ⟨i0, hi, hz0, hz1, hz2⟩ := info_parts info_ints
  have HS := Lib.hid hS
  have Hlen := Lib.hid hS.len
  clear hS
  go_enter Tryd.func58, Tryd.ntmps58
  go_wp2_with fail
  go_loopw [3, 4] (fun u v wr => ∃ k : Nat, k ≤ n ∧ v = .int .i64 k ∧ Hid (OwnL wr w.heap.size u (listsOf (ds.take k))) ∧ Hid (Kept w wr)) (fun _ v _ => n - (intOf v).toNat)
  case atStart =>
    refine ⟨0, Nat.zero_le _, rfl, ?_, Kept.box _ _⟩
    exact ⟨[], World.ownsRow_made w #[] 0 (Nat.le_refl _) (by decide) rfl, fun j hj => by simp [listsOf] at hj⟩
  case round =>
    obtain ⟨k, hk, rfl, HO, Hkw⟩ := hrel
    by_cases hlt : k < n
    · have hSr := HS.out.kept Hkw.out
      obtain ⟨a, rfl, hblk⟩ := hSr.addr (by omega)
      obtain ⟨xs, L, B, m, cB, Hd, hc1, hc2, HI, hL⟩ := hSr.named k hlt
      clear hSr
      go_wp2_with fail
      refine (rdlist_any B m cB L xs _ HI.out hL).mono ?_
      rintro e w1 ⟨Bl, cl, rfl, hIl, hk1, hfl⟩
      have HIl := Lib.hid hIl
      have Hk1 := Lib.hid hk1
      have Hfl := Lib.hid hfl
      obtain ⟨vs, hown, hd⟩ := HO.out
      have hkl : (listsOf (ds.take k)).length = k := by unfold listsOf; rw [List.length_map, List.length_take]; have := Hlen.out; omega
      rw [hkl] at hown hd
      have Hul : Hid (∀ i, u3.ownBlock = some i → w.heap.size ≤ i ∧ i < wr.heap.size) := hown.lt
      have Hown := Lib.hid (own_kept hown hk1)
      have Hdd := Lib.hid hd
      have hszr := Hkw.out.size
      have hsz1 := hk1.size
      have Hlb : Hid (listsOf (ds.take (k + 1)) = listsOf (ds.take k) ++ [listB xs L]) := by
        show _ = _
        rw [take_dom (by have := Hlen.out; omega) Hd.out]
        unfold listsOf
        rw [List.map_append]; rfl
      have hel := listB_length xs L
      clear hIl hk1 hfl hown hd hc1 hc2
      generalize listB xs L = l at *
      generalize hmm : l.length = mm at *
      clear hmm
      go_wp2_with (at_builtin; refine wpList_append_own_at _ rfl _ _ 74 rfl w.heap.size 23 i0 (.slice Option.none 0 0) 1 24 Tryd.underlying74 hi hz0 hz1 hz2 rfl (by decide) _ _ _ rfl (Hown.out.alloc _) ⟨w1.heap.size, 0, none⟩ 1 1 [.slice Bl mm cl] rfl rfl (cell_one_new _ _ _) (by simp [Value.oneCell']) (by unfold maxLen; omega) (by omega) (by simp; omega) ?_; intro v' w2 hown' hgrow _ hloc; obtain ⟨g, cap, rfl, hgb, hgl⟩ := hown'.form (by omega))
      go_roundw
      case rel =>
        refine ⟨k + 1, by omega, by go_num, ?_, ?_⟩
        · show OwnL _ _ _ _
          rw [Hlb.out]
          have hk2 := Kept.box w1 (.cells #[.slice Bl mm cl] 23)
          have := OwnL.snoc (ls := listsOf (ds.take k)) (l := l) (c := cl) (by rw [hkl]; exact Hown.out.alloc _) ?_ (HIl.out.kept hk2) ?_ (by rw [hkl]; exact hown') hgrow ?_
          · rw [hkl] at this; exact this
          · rw [hkl]
            intro j hj
            obtain ⟨B1, m1, c1', e1, e3, e4⟩ := Hdd.out j hj
            exact ⟨B1, m1, c1', e1, e3.kept (Hk1.out.then hk2), e4⟩
          · intro _ a' ha' e
            have := Hul.out _ e
            have := Hfl.out a' ha'
            omega
          · rcases hloc with h | h
            · exact Or.inl (by rw [← h]; rfl)
            · right
              have : g = w1.heap.size + 1 := by simpa [Value.ownBlock] using h
              simp only [World.size_alloc]
              omega
        · show Kept w w2
          exact ((Hkw.out.then Hk1.out).newBlock _).grown hgrow (by simp; omega) (fun i hi => (Hul.out i hi).1)
      case measure => simp [intOf]; omega
    · have e : k = n := by omega
      subst e
      rw [List.take_of_length_le (by have := Hlen.out; omega)] at HO
      obtain ⟨A5, c5, rfl⟩ := HO.out.parts
      have hl5 : (listsOf ds).length = k := by unfold listsOf; rw [List.length_map]; exact Hlen.out
      have HD := Lib.hid (HO.out.lists (n := (listsOf ds).length) rfl (by omega))
      clear HO
      go_wp2_with fail
      go_ret
      exact ⟨A5, c5, rfl, HD.out, Hkw.out⟩
end Go.Proofs.YthddanjmnifloaaDoor

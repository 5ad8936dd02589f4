/-
  Contracts and plain laws that the card rests on, part 7.
-/
import Derived.Test.YthddanjmnifloaaDoorG6
import Derived.Test.YthddanjmnifloaaDoorG4
import Derived.Deep.RegionHeld3
import Derived.Test.YthddanjmnifloaaDoorG2
set_option maxHeartbeats 1000000
set_option maxRecDepth 10000
namespace Go.Proofs.YthddanjmnifloaaDoor
open Go Go.RowKit Pl

/-- It reads as lists of whole numbers. -/
structure LL (w : World) (A : Option Addr) (n : Nat) (ls : List (List Int)) : Prop where
  len : ls.length = n
  small : n ≤ 9223372036854775807
  cell : 0 < n → ∃ a, A = some a ∧ ∀ j, j < n → ∃ B m c, w.cell? (a.add j) = some (.slice B m c) ∧ Ints w B m (ls.getD j [])
theorem LL.kept {w w' : World} {A : Option Addr} {n : Nat} {ls : List (List Int)} (h : LL w A n ls) (hk : Kept w w') : LL w' A n ls :=
  ⟨h.len, h.small, fun hn => by
    obtain ⟨a, e, hc⟩ := h.cell hn
    refine ⟨a, e, fun j hj => ?_⟩
    obtain ⟨B, m, c, h1, h2⟩ := hc j hj
    exact ⟨B, m, c, hk.cellAt h1, h2.kept hk⟩⟩
theorem LL.named {w : World} {A : Option Addr} {n : Nat} {ls : List (List Int)} (h : LL w A n ls) (k : Nat) (hk : k < n) :
    ∃ (a : Addr) (l : List Int) (B : Option Addr) (m c : Nat), A = some a ∧ a.block < w.heap.size ∧ Hid (ls.getD k [] = l) ∧ w.cell? (a.add k) = some (.slice B m c) ∧ Hid (Ints w B m l) := by
  obtain ⟨a, rfl, hc⟩ := h.cell (by omega)
  obtain ⟨B, m, c, h1, h2⟩ := hc k hk
  have := World.block_lt_of_cell? w _ h1
  rw [add_block'] at this
  exact ⟨a, _, B, m, c, rfl, this, rfl, h1, h2⟩

/-- The slice u, in blocks from base on, owns the lists; their numbers do not lie in its own block. -/
def OwnL (w : World) (base : Nat) (u : Value) (ls : List (List Int)) : Prop :=
  ∃ vs : List Value, w.ownsRow base 23 1 u ls.length vs ∧ ∀ j, j < ls.length → ∃ B m c, vs[j]? = some (.slice B m c) ∧ Ints w B m (ls.getD j []) ∧ (0 < m → ∀ a, B = some a → u.ownBlock ≠ some a.block)
theorem OwnL.kept {w w' : World} {base : Nat} {u : Value} {ls : List (List Int)} (h : OwnL w base u ls) (hk : Kept w w') : OwnL w' base u ls := by
  obtain ⟨vs, hown, hd⟩ := h
  refine ⟨vs, own_kept hown hk, fun j hj => ?_⟩
  obtain ⟨B, m, c, h1, h2, h3⟩ := hd j hj
  exact ⟨B, m, c, h1, h2.kept hk, h3⟩
theorem OwnL.snoc {w1 w2 : World} {base g cap : Nat} {u : Value} {ls : List (List Int)} {l : List Int} {B : Option Addr} {m c : Nat} {vs : List Value}
    (hown : w1.ownsRow base 23 1 u ls.length vs) (hd : ∀ j, j < ls.length → ∃ B m c, vs[j]? = some (.slice B m c) ∧ Ints w1 B m (ls.getD j []) ∧ (0 < m → ∀ a, B = some a → u.ownBlock ≠ some a.block))
    (hI : Ints w1 B m l) (hB : 0 < m → ∀ a, B = some a → u.ownBlock ≠ some a.block)
    (h2 : w2.ownsRow base 23 1 (.slice (some ⟨g, 0, Option.none⟩) (ls.length + 1) cap) (ls.length + 1) (vs ++ [.slice B m c]))
    (hg : w1.grownBy w2 u.ownBlock) (hat : u.ownBlock = some g ∨ w1.heap.size ≤ g) : OwnL w2 base (.slice (some ⟨g, 0, Option.none⟩) (ls.length + 1) cap) (ls ++ [l]) := by
  have hlen : vs.length = ls.length := by have := hown.1; omega
  have hne : ∀ a : Addr, a.block < w1.heap.size → u.ownBlock ≠ some a.block → Value.ownBlock (.slice (some ⟨g, 0, Option.none⟩) (ls.length + 1) cap) ≠ some a.block := by
    intro a h1 h2 e
    simp only [Value.ownBlock, Option.some.injEq] at e
    rcases hat with h | h
    · rw [h, e] at h2; exact h2 rfl
    · omega
  have hint : ∀ {B : Option Addr} {m : Nat} {xs : List Int}, Ints w1 B m xs → (0 < m → ∀ a, B = some a → u.ownBlock ≠ some a.block) → Ints w2 B m xs := by
    intro B m xs h hb
    refine ⟨h.len, h.small, h.rng, fun hn => ?_⟩
    obtain ⟨a, e, hc⟩ := h.cell hn
    exact ⟨a, e, fun j hj => hg.cell (hc j hj) (by rw [add_block']; exact fun e' => hb hn a e e'.symm)⟩
  have hblk : ∀ {B : Option Addr} {m : Nat} {xs : List Int}, Ints w1 B m xs → 0 < m → ∀ a, B = some a → a.block < w1.heap.size := by
    intro B m xs h hn a ha
    subst ha
    exact h.block hn
  refine ⟨vs ++ [.slice B m c], by rw [List.length_append]; exact h2, fun j hj => ?_⟩
  rw [List.length_append] at hj
  simp only [List.length_cons, List.length_nil] at hj
  by_cases hlt : j < ls.length
  · have e0 : (ls ++ [l]).getD j [] = ls.getD j [] := by simp only [List.getD_eq_getElem?_getD, List.getElem?_append_left hlt]
    rw [e0]
    obtain ⟨B', m', c', e1, e3, e4⟩ := hd j hlt
    refine ⟨B', m', c', ?_, hint e3 e4, fun hn a ha => hne a (hblk e3 hn a ha) (e4 hn a ha)⟩
    rw [List.getElem?_append_left (by omega)]; exact e1
  · have e : j = ls.length := by omega
    subst e
    have e0 : (ls ++ [l]).getD ls.length [] = l := by simp [List.getD_eq_getElem?_getD]
    rw [e0]
    refine ⟨B, m, c, ?_, hint hI hB, fun hn a ha => hne a (hblk hI hn a ha) (hB hn a ha)⟩
    rw [List.getElem?_append_right (by omega), hlen]; simp
theorem OwnL.parts {w : World} {base : Nat} {u : Value} {ls : List (List Int)} (h : OwnL w base u ls) : ∃ A c, u = .slice A ls.length c := by
  obtain ⟨vs, hown, _⟩ := h
  rcases hown.2 with ⟨rfl, h0⟩ | ⟨g, cap, cur, rfl, _⟩
  · rw [h0]; exact ⟨_, _, rfl⟩
  · exact ⟨_, _, rfl⟩
theorem OwnL.lists {w : World} {base c : Nat} {A : Option Addr} {n : Nat} {ls : List (List Int)} (h : OwnL w base (.slice A n c) ls) (hn : ls.length = n) (hs : n ≤ 9223372036854775807) : LL w A n ls := by
  obtain ⟨vs, hown, hd⟩ := h
  subst hn
  refine ⟨rfl, hs, fun h0 => ?_⟩
  obtain ⟨g, cap, e, hb, hlt⟩ := hown.form h0
  cases e
  refine ⟨_, rfl, fun j hj => ?_⟩
  obtain ⟨B, m, c, e1, e3, _⟩ := hd j hj
  exact ⟨B, m, c, hown.cells (g := g) rfl _ _ e1, e3⟩
theorem OwnL.set {w : World} {base g n cap p : Nat} {ls : List (List Int)} {l : List Int} {B : Option Addr} {m c : Nat} (h : OwnL w base (.slice (some ⟨g, 0, Option.none⟩) n cap) ls) (hn : ls.length = n) (_hp : p < n) (hI : Ints w B m l) (hB : 0 < m → ∀ a, B = some a → a.block ≠ g) :
    OwnL (w.setCell ⟨g, p, Option.none⟩ (.slice B m c)) base (.slice (some ⟨g, 0, Option.none⟩) n cap) (ls.set p l) := by
  obtain ⟨vs, hown, hd⟩ := h
  subst hn
  have hlen : vs.length = ls.length := by have := hown.1; omega
  have h2 := (hown.stored p (.slice B m c)).1
  have hk : KeptBut g w (w.setCell ⟨g, p, Option.none⟩ (.slice B m c)) := KeptBut.set _ (a := ⟨g, p, Option.none⟩) rfl _
  refine ⟨_, by rw [List.length_set]; exact h2, fun j hj => ?_⟩
  rw [List.length_set] at hj
  by_cases e : j = p
  · subst e
    have e0 : (ls.set j l).getD j [] = l := by simp [List.getD_eq_getElem?_getD, hj]
    rw [e0]
    refine ⟨B, m, c, ?_, hI.keptBut0 hk hB, fun hn a ha e => hB hn a ha (by simpa [Value.ownBlock] using e.symm)⟩
    rw [List.getElem?_set_self (by omega)]
  · have e0 : (ls.set p l).getD j [] = ls.getD j [] := by simp only [List.getD_eq_getElem?_getD, List.getElem?_set_ne (fun h => e h.symm)]
    rw [e0]
    obtain ⟨B', m', c', e1, e3, e4⟩ := hd j hj
    refine ⟨B', m', c', ?_, e3.keptBut0 hk (fun hn a ha e => e4 hn a ha (by simp [Value.ownBlock, e])), e4⟩
    rw [List.getElem?_set_ne (by omega)]; exact e1
/-- A cell of the row stands there, and may be written. -/
theorem OwnL.at {w : World} {base g n cap : Nat} {ls : List (List Int)} (h : OwnL w base (.slice (some ⟨g, 0, Option.none⟩) n cap) ls) (hn : ls.length = n) (p : Nat) (hp : p < n) :
    (∃ v, w.cell? ⟨g, p, Option.none⟩ = some v) ∧ w.frozen? ⟨g, p, Option.none⟩ = false := by
  obtain ⟨vs, hown, hd⟩ := h
  subst hn
  obtain ⟨B, m, c, e1, _, _⟩ := hd p hp
  exact ⟨⟨_, by rw [hown.cellAt _ (by omega)]; exact e1⟩, hown.frozenAt _⟩

/-- What is left of each. -/
def listsOf (ds : List DomB) : List (List Int) := ds.map fun d => listB d.1 d.2
theorem listsOf_getD (ds : List DomB) {i : Nat} (hi : i < ds.length) : (listsOf ds).getD i [] = listB (ds.getD i nilD).1 (ds.getD i nilD).2 := by
  unfold listsOf
  rw [List.getD_eq_getElem?_getD, List.getElem?_map, List.getD_eq_getElem?_getD, List.getElem?_eq_getElem hi]
  rfl

theorem info_ints : (Tryd.prog.info? 23).map (fun i => (i.zero, i.size, i.bytes)) = some (some (.slice Option.none 0 0), 1, 24) := by kernel_rfl
/-- Lists are handed back, in a slice of the call's own. -/
def ListsPost (ls : List (List Int)) (w : World) (e : Ending) (w' : World) : Prop :=
  ∃ A c, e = .returned (.slice A ls.length c) ∧ LL w' A ls.length ls ∧ Kept w w'

theorem rlists_any (A : Option Addr) (n c : Nat) (ds : List DomB) (w : World) (hS : Doms w A n ds) (hn : n ≤ 1000) :
    Calls Tryd.prog 58 #[.slice A n c] w (ListsPost (listsOf ds) w) := by
  obtain ⟨i0, hi, hz0, hz1, hz2⟩ := info_parts info_ints
  have HS := Lib.hid hS
  have Hlen := Lib.hid hS.len
  clear hS
  go_enter Tryd.func58, Tryd.ntmps58
  go_wp2_with fail
  go_loopw [3, 4] (fun u v wr => ∃ k : Nat, k ≤ n ∧ v = .int .i64 k ∧ Hid (OwnL wr w.heap.size u (listsOf (ds.take k))) ∧ Hid (Kept w wr)) (fun _ v _ => n - (intOf v).toNat)
  case atStart =>
    refine ⟨0, Nat.zero_le _, rfl, ?_, Kept.box _ _⟩
    exact ⟨[], World.ownsRow_made w #[] 0 (Nat.le_refl _) (by decide) rfl, fun j hj => by simp [listsOf] at hj⟩
  case round =>
    obtain ⟨k, hk, rfl, HO, Hkw⟩ := hrel
    by_cases hlt : k < n
    · have hSr := HS.out.kept Hkw.out
      obtain ⟨a, rfl, hblk⟩ := hSr.addr (by omega)
      obtain ⟨xs, L, B, m, cB, Hd, hc1, hc2, HI, hL⟩ := hSr.named k hlt
      clear hSr
      go_wp2_with fail
      refine (rdlist_any B m cB L xs _ HI.out hL).mono ?_
      rintro e w1 ⟨Bl, cl, rfl, hIl, hk1, hfl⟩
      have HIl := Lib.hid hIl
      have Hk1 := Lib.hid hk1
      have Hfl := Lib.hid hfl
      obtain ⟨vs, hown, hd⟩ := HO.out
      have hkl : (listsOf (ds.take k)).length = k := by unfold listsOf; rw [List.length_map, List.length_take]; have := Hlen.out; omega
      rw [hkl] at hown hd
      have Hul : Hid (∀ i, u3.ownBlock = some i → w.heap.size ≤ i ∧ i < wr.heap.size) := hown.lt
      have Hown := Lib.hid (own_kept hown hk1)
      have Hdd := Lib.hid hd
      have hszr := Hkw.out.size
      have hsz1 := hk1.size
      have Hlb : Hid (listsOf (ds.take (k + 1)) = listsOf (ds.take k) ++ [listB xs L]) := by
        show _ = _
        rw [take_dom (by have := Hlen.out; omega) Hd.out]
        unfold listsOf
        rw [List.map_append]; rfl
      have hel := listB_length xs L
      clear hIl hk1 hfl hown hd hc1 hc2
      generalize listB xs L = l at *
      generalize hmm : l.length = mm at *
      clear hmm
      go_wp2_with (at_builtin; refine wpList_append_own_at _ rfl _ _ 74 rfl w.heap.size 23 i0 (.slice Option.none 0 0) 1 24 Tryd.underlying74 hi hz0 hz1 hz2 rfl (by decide) _ _ _ rfl (Hown.out.alloc _) ⟨w1.heap.size, 0, none⟩ 1 1 [.slice Bl mm cl] rfl rfl (cell_one_new _ _ _) (by simp [Value.oneCell']) (by unfold maxLen; omega) (by omega) (by simp; omega) ?_; intro v' w2 hown' hgrow _ hloc; obtain ⟨g, cap, rfl, hgb, hgl⟩ := hown'.form (by omega))
      go_roundw
      case rel =>
        refine ⟨k + 1, by omega, by go_num, ?_, ?_⟩
        · show OwnL _ _ _ _
          rw [Hlb.out]
          have hk2 := Kept.box w1 (.cells #[.slice Bl mm cl] 23)
          have := OwnL.snoc (ls := listsOf (ds.take k)) (l := l) (c := cl) (by rw [hkl]; exact Hown.out.alloc _) ?_ (HIl.out.kept hk2) ?_ (by rw [hkl]; exact hown') hgrow ?_
          · rw [hkl] at this; exact this
          · rw [hkl]
            intro j hj
            obtain ⟨B1, m1, c1', e1, e3, e4⟩ := Hdd.out j hj
            exact ⟨B1, m1, c1', e1, e3.kept (Hk1.out.then hk2), e4⟩
          · intro _ a' ha' e
            have := Hul.out _ e
            have := Hfl.out a' ha'
            omega
          · rcases hloc with h | h
            · exact Or.inl (by rw [← h]; rfl)
            · right
              have : g = w1.heap.size + 1 := by simpa [Value.ownBlock] using h
              simp only [World.size_alloc]
              omega
        · show Kept w w2
          exact ((Hkw.out.then Hk1.out).newBlock _).grown hgrow (by simp; omega) (fun i hi => (Hul.out i hi).1)
      case measure => simp [intOf]; omega
    · have e : k = n := by omega
      subst e
      rw [List.take_of_length_le (by have := Hlen.out; omega)] at HO
      obtain ⟨A5, c5, rfl⟩ := HO.out.parts
      have hl5 : (listsOf ds).length = k := by unfold listsOf; rw [List.length_map]; exact Hlen.out
      have HD := Lib.hid (HO.out.lists (n := (listsOf ds).length) rfl (by omega))
      clear HO
      go_wp2_with fail
      go_ret
      exact ⟨A5, c5, rfl, HD.out, Hkw.out⟩
end Go.Proofs.YthddanjmnifloaaDoor

set_option maxHeartbeats 1000000
set_option maxRecDepth 10000
namespace Go.Proofs.YthddanjmnifloaaDoor
open Go Go.RowKit Pl

/-- Is each number of a row, from a place on, left? -/
def aliveUpto (C : ConB) (ls : List (List Int)) (s j : Nat) : Bool := (List.range j).all fun i => (ls.getD (C.vars.getD i 0).toNat []).contains (C.nums.getD (s + i) 0)
theorem aliveUpto_succ (C : ConB) (ls : List (List Int)) (s j : Nat) : aliveUpto C ls s (j + 1) = (aliveUpto C ls s j && (ls.getD (C.vars.getD j 0).toNat []).contains (C.nums.getD (s + j) 0)) := by
  unfold aliveUpto
  rw [List.range_succ, List.all_append]; simp
theorem aliveUpto_bad {C : ConB} {ls : List (List Int)} {s j m : Nat} (h : aliveUpto C ls s j = false) (hm : j ≤ m) : aliveUpto C ls s m = false := by
  cases e : aliveUpto C ls s m with
  | false => rfl
  | true =>
    unfold aliveUpto at *
    rw [List.all_eq_true] at e
    rw [← h, eq_comm, List.all_eq_true]
    exact fun i hi => e i (List.mem_range.2 (by have := List.mem_range.1 hi; omega))

theorem ralive_any (K R Ct : Int) (A1 A2 A3 : Option Addr) (n1 c1 n2 c2 n3 c3 : Nat) (C : ConB) (A : Option Addr) (n c : Nat) (ls : List (List Int)) (s : Nat) (w : World) (hC : ConIn w K R Ct A1 A2 A3 n1 c1 n2 c2 n3 c3 C) (hL : LL w A n ls) (hv : varsOk C.vars n = true) (hs : s + n1 ≤ n3) (h64 : ∀ j, (ls.getD j []).length ≤ 64) :
    Calls Tryd.prog 72 #[.agg #[.int .i64 K, .slice A1 n1 c1, .slice A2 n2 c2, .int .i64 R, .int .i64 Ct, .slice A3 n3 c3], .slice A n c, .int .i64 s] w fun e w' => e = .returned (.bool (aliveUpto C ls s n1)) ∧ Kept w w' := by
  have HC := Lib.hid hC
  have HL := Lib.hid hL
  have Hv := Lib.hid hv
  have H64 := Lib.hid h64
  have Hl1 := Lib.hid hC.vars.len
  have Hl3 := Lib.hid hC.nums.len
  have hs1 := hC.vars.small
  have hs3 := hC.nums.small
  clear hC hL hv h64
  have HB : Hid (∀ wr, Kept (w.alloc (.cells #[.int .i64 K, .slice A1 n1 c1, .slice A2 n2 c2, .int .i64 R, .int .i64 Ct, .slice A3 n3 c3] 37)) wr → wr.heap[w.heap.size]? = some (.cells #[.int .i64 K, .slice A1 n1 c1, .slice A2 n2 c2, .int .i64 R, .int .i64 Ct, .slice A3 n3 c3] 37)) := fun wr h => h.heapAt (heap_new _ _)
  go_enter Tryd.func72, Tryd.ntmps72
  go_wp2_with fail
  go_loopw [7] (fun u wr => ∃ j : Nat, j ≤ n1 ∧ u = .int .i64 j ∧ Hid (Kept (w.alloc (.cells #[.int .i64 K, .slice A1 n1 c1, .slice A2 n2 c2, .int .i64 R, .int .i64 Ct, .slice A3 n3 c3] 37)) wr) ∧ Hid (aliveUpto C ls s j = true)) (fun u _ => n1 - (intOf u).toNat)
  case atStart => exact ⟨0, Nat.zero_le _, rfl, Kept.same _, rfl⟩
  case round =>
    obtain ⟨j, hj, rfl, Hkw, Hok⟩ := hrel
    have HwQ := Lib.hid ((Kept.box w (.cells #[.int .i64 K, .slice A1 n1 c1, .slice A2 n2 c2, .int .i64 R, .int .i64 Ct, .slice A3 n3 c3] 37)).then Hkw.out)
    have hb := HB.out wr Hkw.out
    have b0 := cell_at hb 0
    have b1 := cell_at hb 1
    have b2 := cell_at hb 2
    have b3 := cell_at hb 3
    have b4 := cell_at hb 4
    have b5 := cell_at hb 5
    simp only [List.getElem?_toArray, List.getElem?_cons_zero, List.getElem?_cons_succ] at b0 b1 b2 b3 b4 b5
    clear hb
    have hlb : w.heap.size < wr.heap.size := World.block_lt_of_cell? wr _ b0
    by_cases hlt : j < n1
    · obtain ⟨av, hav, hbv⟩ := (HC.out.vars.kept HwQ.out).addr (by omega)
      subst hav
      obtain ⟨v, Hv1, hcv, _, _⟩ := (HC.out.vars.kept HwQ.out).named j hlt
      obtain ⟨hv0, hv1⟩ := varsOk_rng Hv.out (i := j) (by have := Hl1.out; omega)
      rw [Hv1.out] at hv0 hv1
      obtain ⟨p, rfl⟩ := Int.eq_ofNat_of_zero_le hv0
      have hpn : p < n := by omega
      obtain ⟨al, l, Bl, ml, cl, hal, hbal, Hl, hcl, HIl⟩ := (HL.out.kept HwQ.out).named p hpn
      subst hal
      obtain ⟨a3, ha3, hb3⟩ := (HC.out.nums.kept HwQ.out).addr (by omega)
      subst ha3
      obtain ⟨y, Hy, hcy, _, _⟩ := (HC.out.nums.kept HwQ.out).named (s + j) (by omega)
      have hml : ml ≤ 100000 := by have := H64.out p; rw [Hl.out] at this; have := HIl.out.len; omega
      have Hnext : Hid (aliveUpto C ls s (j + 1) = l.contains y) := by
        show _ = _
        rw [aliveUpto_succ, Hok.out, Bool.true_and, Hv1.out, Int.toNat_natCast, Hl.out, Hy.out]
      have HS5 : Hid (∀ W, Kept wr W → W.cell? ⟨w.heap.size, 1, Option.none⟩ = some (.slice (some av) n1 c1) ∧ W.cell? ⟨w.heap.size, 5, Option.none⟩ = some (.slice (some a3) n3 c3) ∧ W.cell? (av.add j) = some (.int .i64 p) ∧ W.cell? (al.add p) = some (.slice Bl ml cl) ∧ W.cell? (a3.add (s + j)) = some (.int .i64 y)) := fun W hW =>
        ⟨hW.cellAt b1, hW.cellAt b5, hW.cellAt hcv, hW.cellAt hcl, hW.cellAt hcy⟩
      have hsi : IntKind.i64.wrap ((s : Int) + (j : Int)) = (s : Int) + (j : Int) := IntWalk.i64_in _ (by omega)
      have hsi2 : ((s : Int) + (j : Int)).toNat = s + j := by omega
      have hsi0 : (0 : Int) ≤ (s : Int) + (j : Int) := by omega
      have hsi3 : (s : Int) + (j : Int) < (n3 : Int) := by omega
      have hj0 : (0 : Int) ≤ (j : Int) := by omega
      have hj3 : (j : Int) < (n1 : Int) := by omega
      have hp0 : (0 : Int) ≤ (p : Int) := by omega
      have hp3 : (p : Int) < (n : Int) := by omega
      obtain ⟨m9, hm9⟩ : ∃ m9, m9 = (l.filter (inB y y)).length := ⟨_, rfl⟩
      have HQ : Hid (∀ W, Kept wr W → Calls Tryd.prog 91 #[.slice Bl ml cl, .int .i64 y, .int .i64 y] W fun e w' => ∃ A' c', e = .returned (.slice A' m9 c') ∧ Kept W w') := fun W hW => by
        refine (rlbetween_any Bl ml cl l y y W (HIl.out.kept hW) hml).mono ?_
        rintro e wC ⟨A', c', he, _, hkC, _⟩
        exact ⟨A', c', by rw [he, hm9], hkC⟩
      have Hz : Hid (((m9 : Int) == 0) = !(l.contains y)) := by
        show _ = _
        have h := inB_len l y
        rw [← hm9] at h
        cases hc : l.contains y with
        | false => have := h.2 hc; subst this; rfl
        | true =>
          have : m9 ≠ 0 := fun e => by rw [h.1 e] at hc; cases hc
          simp; omega
      clear hm9
      generalize l.contains y = g at Hnext Hz
      cases g with
      | true =>
        have hz := Hz.out
        simp only [Bool.not_true] at hz
        go_wp2_with fail
        go_region_held3 (fun W => W.cell? ⟨w.heap.size, 1, Option.none⟩ = some (.slice (some av) n1 c1) ∧ W.cell? ⟨w.heap.size, 5, Option.none⟩ = some (.slice (some a3) n3 c3) ∧ W.cell? (av.add j) = some (.int .i64 p) ∧ W.cell? (al.add p) = some (.slice Bl ml cl) ∧ W.cell? (a3.add (s + j)) = some (.int .i64 y))
          (first | exact HS5.out _ (Kept.same _) | exact HS5.out _ (Kept.drewn _) | exact HS5.out _ ((Kept.drewn _).then hkC))
          (first | (go_at_call 91; refine (HQ.out _ (Kept.drewn _)).mono ?_; rintro e wC ⟨A', c', rfl, hkC⟩))

        have Hk9 := Lib.hid (Hkw.out.then ((Kept.drewn _).then hkC))
        clear hkC hsi hsi2 hsi0 hsi3 hj0 hj3 hp0 hp3 b0 b1 b2 b3 b4 b5
        go_wp2_with fail
        go_roundw
        case rel => exact ⟨j + 1, by omega, by go_num, Hk9.out, Hnext.out⟩
        case measure => simp [intOf]; omega
      | false =>
        have hz := Hz.out
        simp only [Bool.not_false] at hz
        go_wp2_with fail
        go_region_held3 (fun W => W.cell? ⟨w.heap.size, 1, Option.none⟩ = some (.slice (some av) n1 c1) ∧ W.cell? ⟨w.heap.size, 5, Option.none⟩ = some (.slice (some a3) n3 c3) ∧ W.cell? (av.add j) = some (.int .i64 p) ∧ W.cell? (al.add p) = some (.slice Bl ml cl) ∧ W.cell? (a3.add (s + j)) = some (.int .i64 y))
          (first | exact HS5.out _ (Kept.same _) | exact HS5.out _ (Kept.drewn _) | exact HS5.out _ ((Kept.drewn _).then hkC))
          (first | (go_at_call 91; refine (HQ.out _ (Kept.drewn _)).mono ?_; rintro e wC ⟨A', c', rfl, hkC⟩))

        have Hk9 := Lib.hid (Hkw.out.then ((Kept.drewn _).then hkC))
        clear hkC hsi hsi2 hsi0 hsi3 hj0 hj3 hp0 hp3 b0 b1 b2 b3 b4 b5
        go_wp2_with fail
        go_ret
        exact ⟨ret_bool (by rw [aliveUpto_bad Hnext.out (by omega)]), (Kept.box _ _).then Hk9.out⟩
    · have e : j = n1 := by omega
      subst e
      go_wp2_with fail
      go_ret
      exact ⟨ret_bool (by rw [Hok.out]), HwQ.out⟩
end Go.Proofs.YthddanjmnifloaaDoor

namespace Go.Proofs.YthddanjmnifloaaDoor
namespace Pl

/-- What the questions of the first j variables keep. -/
def varsKp (vars : List Int) (g : Nat → Int → Bool) (j i : Nat) (x : Int) : Bool := (List.range j).all fun k => !decide ((vars.getD k 0).toNat = i) || g k x
theorem varsKp_iff {vars : List Int} {g : Nat → Int → Bool} {j i : Nat} {x : Int} : varsKp vars g j i x = true ↔ ∀ k, k < j → (vars.getD k 0).toNat = i → g k x = true := by
  unfold varsKp
  rw [List.all_eq_true]
  constructor
  · intro h k hk e
    have := h k (List.mem_range.2 hk)
    rw [decide_eq_true e] at this
    simpa using this
  · intro h k hk
    by_cases e : (vars.getD k 0).toNat = i
    · rw [h k (List.mem_range.1 hk) e]; simp
    · rw [decide_eq_false e]; rfl
theorem varsKp_succ (vars : List Int) (g : Nat → Int → Bool) (j i : Nat) (x : Int) : varsKp vars g (j + 1) i x = (varsKp vars g j i x && (!decide ((vars.getD j 0).toNat = i) || g j x)) := by
  unfold varsKp
  rw [List.range_succ, List.all_append]; simp

/-- What is kept behind the first ones of a list. -/
def pkV (g : Int → Bool) (l : List Int) (x : Int) : Bool := l.all fun v => x != v || g v
theorem pkV_none (g : Int → Bool) {d : DomB} (hm : mayB d.1 d.2 = true) : keepD (pkV g []) d = d := keepD_all hm (fun _ _ => rfl)
theorem pkV_yes {g : Int → Bool} {l : List Int} {v : Int} (hv : g v = true) : pkV g (l ++ [v]) = pkV g l := by
  funext x; unfold pkV; rw [List.all_append]; simp [hv]
theorem pkV_no {g : Int → Bool} {l : List Int} {v : Int} (hv : g v = false) (d : DomB) : keepD (fun x => x != v) (keepD (pkV g l) d) = keepD (pkV g (l ++ [v])) d := by
  rw [keepD_keepD]
  congr 1
  funext x; unfold pkV; rw [List.all_append]; simp [hv]

/-- The domains in the middle of a variable's round. -/
def midB (vars : List Int) (g : Nat → Int → Bool) (ds : List DomB) (j p m : Nat) : List DomB :=
  (stepB (varsKp vars g j) ds).set p (keepD (pkV (g j) ((listB (ds.getD p ([], 0)).1 (ds.getD p ([], 0)).2).take m)) ((stepB (varsKp vars g j) ds).getD p ([], 0)))

theorem set_getD_self {α : Type} (l : List α) (p : Nat) (d : α) (hp : p < l.length) : l.set p (l.getD p d) = l := by
  apply List.ext_getElem (by simp)
  intro i h1 h2
  rw [List.getElem_set]
  split
  · rename_i e; subst e
    rw [List.getD_eq_getElem?_getD, List.getElem?_eq_getElem hp]; rfl
  · rfl

theorem midB_length (vars : List Int) (g : Nat → Int → Bool) (ds : List DomB) (j p m : Nat) : (midB vars g ds j p m).length = ds.length := by
  unfold midB; rw [List.length_set, stepB_length]
theorem midB_at (vars : List Int) (g : Nat → Int → Bool) (ds : List DomB) (j p m : Nat) (hp : p < ds.length) :
    (midB vars g ds j p m).getD p ([], 0) = keepD (pkV (g j) ((listB (ds.getD p ([], 0)).1 (ds.getD p ([], 0)).2).take m)) (keepD (varsKp vars g j p) (ds.getD p ([], 0))) := by
  unfold midB
  rw [getD_set _ _ _ _ (by rw [stepB_length]; exact hp), if_pos rfl, stepB_getD _ _ hp]
theorem midB_may {vars : List Int} {g : Nat → Int → Bool} {ds : List DomB} {j p m : Nat} (hp : p < ds.length) (hm : allMay ds = true) : mayB ((midB vars g ds j p m).getD p ([], 0)).1 ((midB vars g ds j p m).getD p ([], 0)).2 = true := by
  rw [midB_at _ _ _ _ _ _ hp]
  exact keepD_may (keepD_may (allMay_at hm hp))
theorem midB_vals (vars : List Int) (g : Nat → Int → Bool) (ds : List DomB) (j p m : Nat) (hp : p < ds.length) : ((midB vars g ds j p m).getD p ([], 0)).1 = (ds.getD p ([], 0)).1 := by
  rw [midB_at _ _ _ _ _ _ hp, keepD_fst, keepD_fst]

theorem stepB_varsKp_zero {vars : List Int} {g : Nat → Int → Bool} {ds : List DomB} (hm : allMay ds = true) : stepB (varsKp vars g 0) ds = ds := by
  apply ext_getD (stepB_length _ _)
  intro i hi
  rw [stepB_length] at hi
  rw [stepB_getD _ _ hi]
  exact keepD_all (allMay_at hm hi) (fun _ _ => rfl)

theorem midB_zero {vars : List Int} {g : Nat → Int → Bool} {ds : List DomB} {j p : Nat} (hp : p < ds.length) (hm : allMay ds = true) : midB vars g ds j p 0 = stepB (varsKp vars g j) ds := by
  unfold midB
  rw [List.take_zero, stepB_getD _ _ hp, pkV_none _ (keepD_may (allMay_at hm hp)), ← stepB_getD _ _ hp]
  exact set_getD_self _ _ _ (by rw [stepB_length]; exact hp)

theorem take_one {l : List Int} {m : Nat} {v : Int} (hm : m < l.length) (hv : l.getD m 0 = v) : l.take (m + 1) = l.take m ++ [v] := by
  rw [List.take_succ_eq_append_getElem hm]
  rw [List.getD_eq_getElem?_getD, List.getElem?_eq_getElem hm] at hv
  simp only [Option.getD_some] at hv
  rw [hv]

theorem midB_yes {vars : List Int} {g : Nat → Int → Bool} {ds : List DomB} {j p m : Nat} {v : Int} (hl : m < (listB (ds.getD p ([], 0)).1 (ds.getD p ([], 0)).2).length) (hv : (listB (ds.getD p ([], 0)).1 (ds.getD p ([], 0)).2).getD m 0 = v) (hg : g j v = true) :
    midB vars g ds j p (m + 1) = midB vars g ds j p m := by
  unfold midB
  rw [take_one hl hv, pkV_yes hg]
theorem midB_no {vars : List Int} {g : Nat → Int → Bool} {ds : List DomB} {j p m : Nat} {v : Int} (hp : p < ds.length) (hl : m < (listB (ds.getD p ([], 0)).1 (ds.getD p ([], 0)).2).length) (hv : (listB (ds.getD p ([], 0)).1 (ds.getD p ([], 0)).2).getD m 0 = v) (hg : g j v = false) :
    midB vars g ds j p (m + 1) = (midB vars g ds j p m).set p (keepD (fun x => x != v) ((midB vars g ds j p m).getD p ([], 0))) := by
  rw [midB_at _ _ _ _ _ _ hp]
  unfold midB
  rw [List.set_set, take_one hl hv, stepB_getD _ _ hp, pkV_no hg]
theorem midB_end {vars : List Int} {g : Nat → Int → Bool} {ds : List DomB} {j p m : Nat} (hp : p < ds.length) (hm : allMay ds = true) (hj : vars.getD j 0 = (p : Nat)) (hl : (listB (ds.getD p ([], 0)).1 (ds.getD p ([], 0)).2).length = m) :
    midB vars g ds j p m = stepB (varsKp vars g (j + 1)) ds := by
  apply ext_getD (by rw [midB_length, stepB_length])
  intro i hi
  rw [midB_length] at hi
  rw [stepB_getD _ _ hi]
  by_cases e : i = p
  · subst e
    rw [midB_at _ _ _ _ _ _ hi, List.take_of_length_le (by omega), keepD_keepD]
    refine keepD_congr (allMay_at hm hi) fun v hv => ?_
    rw [varsKp_succ, hj, Int.toNat_natCast, decide_eq_true rfl]
    congr 1
    simp only [Bool.not_true, Bool.false_or]
    unfold pkV
    rw [Bool.eq_iff_iff, List.all_eq_true]
    constructor
    · intro h
      simpa using h v hv
    · intro h u _
      by_cases e : v = u
      · subst e; simp [h]
      · simp [e]
  · unfold midB
    rw [getD_set _ _ _ _ (by rw [stepB_length]; exact hp), if_neg e, stepB_getD _ _ hi]
    congr 1
    funext x
    rw [varsKp_succ, hj, Int.toNat_natCast, decide_eq_false (fun h => e h.symm)]
    simp

/-! ### The laws of a step that keeps so -/
theorem varsKp_mono {vars : List Int} {g h : Nat → Int → Bool} {j i : Nat} {x : Int} (hgh : ∀ k, k < j → (vars.getD k 0).toNat = i → g k x = true → h k x = true) (hx : varsKp vars g j i x = true) : varsKp vars h j i x = true :=
  varsKp_iff.2 fun k hk e => hgh k hk e (varsKp_iff.1 hx k hk e)

end Pl
end Go.Proofs.YthddanjmnifloaaDoor

namespace Go.Proofs.YthddanjmnifloaaDoor
namespace Pl

theorem getD_set3 {α : Type} (l : List α) (i j : Nat) (v d : α) (hi : i < l.length) : (l.set i v).getD j d = if j = i then v else l.getD j d := by
  by_cases e : j = i
  · subst e; rw [if_pos rfl]; simp [List.getD_eq_getElem?_getD, hi]
  · rw [if_neg e]; simp only [List.getD_eq_getElem?_getD, List.getElem?_set_ne (fun h => e h.symm)]

/-- The lists, those of the first j variables emptied. -/
def noneU (vars : List Int) (ls : List (List Int)) : Nat → List (List Int)
  | 0 => ls
  | j + 1 => (noneU vars ls j).set (vars.getD j 0).toNat []
theorem noneU_length (vars : List Int) (ls : List (List Int)) (j : Nat) : (noneU vars ls j).length = ls.length := by
  induction j with
  | zero => rfl
  | succ j ih => simp only [noneU, List.length_set, ih]
theorem noneU_out {vars : List Int} {ls : List (List Int)} {j q : Nat} (h : ∀ k, k < j → (vars.getD k 0).toNat ≠ q) : (noneU vars ls j).getD q [] = ls.getD q [] := by
  induction j with
  | zero => rfl
  | succ j ih =>
    simp only [noneU]
    rw [List.getD_eq_getElem?_getD, List.getElem?_set_ne (h j (by omega)), ← List.getD_eq_getElem?_getD]
    exact ih fun k hk => h k (by omega)
theorem noneU_in {vars : List Int} {ls : List (List Int)} {j q : Nat} (hv : ∀ k, k < j → (vars.getD k 0).toNat < ls.length) (h : ∃ k, k < j ∧ (vars.getD k 0).toNat = q) : (noneU vars ls j).getD q [] = [] := by
  induction j with
  | zero => obtain ⟨k, hk, _⟩ := h; omega
  | succ j ih =>
    simp only [noneU]
    rw [getD_set3 _ _ _ _ _ (by rw [noneU_length]; exact hv j (by omega))]
    split
    · rfl
    · rename_i hne
      obtain ⟨k, hk, e⟩ := h
      refine ih (fun k hk => hv k (by omega)) ⟨k, ?_, e⟩
      have : k ≠ j := fun h => hne (by rw [← e, h])
      omega

/-- .., and those of the first j filled by what their questions let by. -/
def fillU (vars : List Int) (ls : List (List Int)) (g : Nat → Int → Bool) (m : Nat) : Nat → List (List Int)
  | 0 => noneU vars ls m
  | j + 1 => (fillU vars ls g m j).set (vars.getD j 0).toNat ((ls.getD (vars.getD j 0).toNat []).filter (g j))
theorem fillU_length (vars : List Int) (ls : List (List Int)) (g : Nat → Int → Bool) (m j : Nat) : (fillU vars ls g m j).length = ls.length := by
  induction j with
  | zero => exact noneU_length _ _ _
  | succ j ih => simp only [fillU, List.length_set, ih]
theorem fillU_out {vars : List Int} {ls : List (List Int)} {g : Nat → Int → Bool} {m j q : Nat} (h : ∀ k, k < j → (vars.getD k 0).toNat ≠ q) : (fillU vars ls g m j).getD q [] = (noneU vars ls m).getD q [] := by
  induction j with
  | zero => rfl
  | succ j ih =>
    simp only [fillU]
    rw [List.getD_eq_getElem?_getD, List.getElem?_set_ne (h j (by omega)), ← List.getD_eq_getElem?_getD]
    exact ih fun k hk => h k (by omega)
theorem fillU_in {vars : List Int} {ls : List (List Int)} {g : Nat → Int → Bool} {m j i : Nat} (hv : ∀ k, k < j → (vars.getD k 0).toNat < ls.length) (hd : ∀ k, k < j → k ≠ i → (vars.getD k 0).toNat ≠ (vars.getD i 0).toNat) (hi : i < j) :
    (fillU vars ls g m j).getD (vars.getD i 0).toNat [] = (ls.getD (vars.getD i 0).toNat []).filter (g i) := by
  induction j with
  | zero => omega
  | succ j ih =>
    simp only [fillU]
    rw [getD_set3 _ _ _ _ _ (by rw [fillU_length]; exact hv j (by omega))]
    by_cases e : j = i
    · subst e; rw [if_pos rfl]
    · rw [if_neg (fun h => hd j (by omega) e h.symm)]
      exact ih (fun k hk => hv k (by omega)) (fun k hk => hd k (by omega)) (by omega)

theorem varsOk_ne' {vs : List Int} {V : Int} (h : varsOk vs V = true) {i k : Nat} (hi : i < vs.length) (hk : k < vs.length) (e : k ≠ i) : (vs.getD k 0).toNat ≠ (vs.getD i 0).toNat := by
  have h1 := varsOk_rng h hi
  have h2 := varsOk_rng h hk
  have h3 : vs.getD k 0 ≠ vs.getD i 0 := by
    rcases Nat.lt_or_ge k i with h4 | h4
    · exact varsOk_ne h hi h4
    · exact (varsOk_ne h hk (by omega)).symm
  omega

/-- In the middle of a variable's round. -/
def midL (vars : List Int) (ls : List (List Int)) (g : Nat → Int → Bool) (m j p k : Nat) : List (List Int) := (fillU vars ls g m j).set p (((ls.getD p []).take k).filter (g j))
theorem midL_length (vars : List Int) (ls : List (List Int)) (g : Nat → Int → Bool) (m j p k : Nat) : (midL vars ls g m j p k).length = ls.length := by
  unfold midL; rw [List.length_set, fillU_length]
theorem midL_zero {vars : List Int} {ls : List (List Int)} {g : Nat → Int → Bool} {j p : Nat} (hv : varsOk vars ls.length = true) (hj : j < vars.length) (hp : vars.getD j 0 = (p : Nat)) : midL vars ls g vars.length j p 0 = fillU vars ls g vars.length j := by
  have hpl : p < ls.length := by have := varsOk_rng hv hj; omega
  unfold midL
  rw [List.take_zero, List.filter_nil]
  have e : (fillU vars ls g vars.length j).getD p [] = [] := by
    rw [fillU_out (fun k hk => by have := varsOk_ne' hv hj (show k < vars.length by omega) (by omega); rw [hp] at this; exact this)]
    exact noneU_in (fun k hk => by have := varsOk_rng hv hk; omega) ⟨j, hj, by rw [hp]; rfl⟩
  have h := set_getD_self (fillU vars ls g vars.length j) p [] (by rw [fillU_length]; exact hpl)
  rw [e] at h
  exact h
theorem midL_at {vars : List Int} {ls : List (List Int)} {g : Nat → Int → Bool} {m j p k : Nat} (hp : p < ls.length) : (midL vars ls g m j p k).getD p [] = ((ls.getD p []).take k).filter (g j) := by
  unfold midL
  rw [getD_set3 _ _ _ _ _ (by rw [fillU_length]; exact hp), if_pos rfl]
theorem midL_no {vars : List Int} {ls : List (List Int)} {g : Nat → Int → Bool} {m j p k : Nat} {v : Int} (hk : k < (ls.getD p []).length) (hv : (ls.getD p []).getD k 0 = v) (hg : g j v = false) : midL vars ls g m j p (k + 1) = midL vars ls g m j p k := by
  unfold midL
  rw [take_one hk hv, List.filter_append]
  simp [hg]
theorem midL_yes {vars : List Int} {ls : List (List Int)} {g : Nat → Int → Bool} {m j p k : Nat} {v : Int} (hp : p < ls.length) (hk : k < (ls.getD p []).length) (hv : (ls.getD p []).getD k 0 = v) (hg : g j v = true) :
    midL vars ls g m j p (k + 1) = (midL vars ls g m j p k).set p ((midL vars ls g m j p k).getD p [] ++ [v]) := by
  rw [midL_at hp]
  unfold midL
  rw [List.set_set, take_one hk hv, List.filter_append]
  simp [hg]
theorem midL_end {vars : List Int} {ls : List (List Int)} {g : Nat → Int → Bool} {m j p k : Nat} (hp : vars.getD j 0 = (p : Nat)) (hk : (ls.getD p []).length = k) : midL vars ls g m j p k = fillU vars ls g m (j + 1) := by
  unfold midL
  simp only [fillU]
  rw [hp, Int.toNat_natCast, List.take_of_length_le (by omega)]

/-- What is kept by the lists so filled. -/
theorem fillU_keeps {vars : List Int} {ls : List (List Int)} {g : Nat → Int → Bool} {q : Nat} {v : Int} (hv : varsOk vars ls.length = true) (hm : v ∈ ls.getD q []) : ((fillU vars ls g vars.length vars.length).getD q []).contains v = varsKp vars g vars.length q v := by
  have hr : ∀ k, k < vars.length → (vars.getD k 0).toNat < ls.length := fun k hk => by have := varsOk_rng hv hk; omega
  rw [Bool.eq_iff_iff, List.contains_iff_mem, varsKp_iff]
  by_cases h : ∃ i, i < vars.length ∧ (vars.getD i 0).toNat = q
  · obtain ⟨i, hi, rfl⟩ := h
    rw [fillU_in hr (fun k hk e => varsOk_ne' hv hi hk e) hi, List.mem_filter]
    constructor
    · rintro ⟨_, h2⟩ k hk e
      have : k = i := by
        rcases Nat.decEq k i with h3 | h3
        · exact absurd e (varsOk_ne' hv hi hk h3)
        · exact h3
      subst this; exact h2
    · intro h2
      exact ⟨hm, h2 i hi rfl⟩
  · have hn : ∀ k, k < vars.length → (vars.getD k 0).toNat ≠ q := fun k hk e => h ⟨k, hk, e⟩
    rw [fillU_out hn, noneU_out hn]
    exact ⟨fun _ k hk e => absurd e (hn k hk), fun _ => hm⟩
end Pl
end Go.Proofs.YthddanjmnifloaaDoor

set_option maxHeartbeats 1000000
set_option maxRecDepth 10000
namespace Go.Proofs.YthddanjmnifloaaDoor
open Go Go.RowKit Pl

theorem LL.row {w : World} {a : Addr} {n : Nat} {ls : List (List Int)} (h : LL w (some a) n ls) (hn : 0 < n) :
    ∃ vs : List Value, vs.length = n * 1 ∧ (∀ j u, vs[j]? = some u → w.cell? (a.add j) = some u) ∧ (∀ u ∈ vs, u.oneCell' = true) ∧
      ∀ j, j < n → ∃ B m c, vs[j]? = some (.slice B m c) ∧ Ints w B m (ls.getD j []) := by
  obtain ⟨b, e, hc⟩ := h.cell hn
  cases e
  refine ⟨(List.range n).map fun i => (w.cell? (a.add i)).getD undef, by simp, ?_, ?_, ?_⟩
  · intro j u hu
    rw [List.getElem?_map] at hu
    by_cases hj : j < n
    · rw [List.getElem?_range hj] at hu
      simp only [Option.map_some, Option.some.injEq] at hu
      obtain ⟨B, m, c, h1, _⟩ := hc j hj
      rw [h1] at hu ⊢; simpa using hu
    · rw [List.getElem?_eq_none (by simp; omega)] at hu
      simp at hu
  · intro u hu
    rw [List.mem_map] at hu
    obtain ⟨j, hj, rfl⟩ := hu
    obtain ⟨B, m, c, h1, _⟩ := hc j (List.mem_range.1 hj)
    rw [h1]; rfl
  · intro j hj
    obtain ⟨B, m, c, h1, h3⟩ := hc j hj
    exact ⟨B, m, c, by rw [List.getElem?_map, List.getElem?_range hj]; simp [h1], h3⟩

theorem any_snoc (f : Int → Bool) (l : List Int) (v : Int) : (l ++ [v]).any f = (l.any f || f v) := by rw [List.any_append]; simp

theorem keptBut_grown {B : Nat} {w0 w w2 : World} (h : KeptBut B w0 w) (o : Obj) {r : Option Nat} (hg : (w.alloc o).grownBy w2 r) (hr : ∀ i, r = some i → i = B ∨ w0.heap.size ≤ i) : KeptBut B w0 w2 := by
  have h1 := h.then (KeptBut.of (Kept.box w o) B)
  exact ⟨hg.os.trans h1.os, hg.tape.trans h1.tape, hg.output.trans h1.output, Nat.le_trans h1.size hg.size, fun k hk hB =>
    (hg.block k (Nat.lt_of_lt_of_le hk h1.size) (fun e => by rcases hr k e.symm with h | h <;> omega)).trans (h1.block k hk hB)⟩

end Go.Proofs.YthddanjmnifloaaDoor

set_option maxHeartbeats 1000000
set_option maxRecDepth 10000
namespace Go.Proofs.YthddanjmnifloaaDoor
open Go Go.RowKit Pl

/-- Lists are handed back, in a slice that the call owns. -/
def OwnLPost (n : Nat) (ls : List (List Int)) (w : World) (e : Ending) (w' : World) : Prop :=
  ∃ g c, e = .returned (.slice (some ⟨g, 0, Option.none⟩) n c) ∧ OwnL w' w.heap.size (.slice (some ⟨g, 0, Option.none⟩) n c) ls ∧ w.heap.size ≤ g ∧ g < w'.heap.size ∧ Kept w w'

theorem own_lower {w : World} {base base' : Nat} {e : TypeId} {size n : Nat} {v : Value} {xs : List Value} (h : w.ownsRow base e size v n xs) (hb : base' ≤ base) : w.ownsRow base' e size v n xs :=
  ⟨h.1, h.2.imp id (fun ⟨g, cap, cur, hv, hb2, r⟩ => ⟨g, cap, cur, hv, Nat.le_trans hb hb2, r⟩)⟩

theorem rnone_any (K R Ct : Int) (A1 A2 A3 : Option Addr) (n1 c1 n2 c2 n3 c3 : Nat) (C : ConB) (A : Option Addr) (n c : Nat) (ls : List (List Int)) (w : World) (hC : ConIn w K R Ct A1 A2 A3 n1 c1 n2 c2 n3 c3 C) (hL : LL w A n ls) (hv : varsOk C.vars n = true) (h0 : 0 < n) (hn : n ≤ 1000) :
    Calls Tryd.prog 71 #[.agg #[.int .i64 K, .slice A1 n1 c1, .slice A2 n2 c2, .int .i64 R, .int .i64 Ct, .slice A3 n3 c3], .slice A n c] w (OwnLPost n (noneU C.vars ls n1) w) := by
  obtain ⟨i0, hi, hz0, hz1, hz2⟩ := info_parts info_ints
  have HC := Lib.hid hC
  have HL := Lib.hid hL
  have Hv := Lib.hid hv
  have Hlen := Lib.hid hL.len
  have Hl1 := Lib.hid hC.vars.len
  have hs1 := hC.vars.small
  obtain ⟨a, _, _, _, _, rfl, hba, _, _, _⟩ := hL.named 0 h0
  obtain ⟨vs, hvl, hvc, hvo, hvd⟩ := hL.row h0
  have Hvd := Lib.hid hvd
  have Hvc := Lib.hid hvc
  clear hC hL hv hvd hvc
  have HR0 : Hid (((w.alloc (.cells #[.int .i64 K, .slice A1 n1 c1, .slice A2 n2 c2, .int .i64 R, .int .i64 Ct, .slice A3 n3 c3] 37)).alloc (.cells #[] 23)).ownsRow (w.heap.size + 1) 23 1 (.slice (some ⟨w.heap.size + 1, 0, Option.none⟩) 0 0) 0 []) := own_empty (heap_new2 _ _ _) (Nat.le_refl _)
  have HB : Hid (∀ wr, Kept (w.alloc (.cells #[.int .i64 K, .slice A1 n1 c1, .slice A2 n2 c2, .int .i64 R, .int .i64 Ct, .slice A3 n3 c3] 37)) wr → wr.heap[w.heap.size]? = some (.cells #[.int .i64 K, .slice A1 n1 c1, .slice A2 n2 c2, .int .i64 R, .int .i64 Ct, .slice A3 n3 c3] 37)) := fun wr h => h.heapAt (heap_new _ _)
  go_enter Tryd.func71, Tryd.ntmps71
  go_wp2_with (at_builtin; refine wpList_append_own _ rfl _ _ 74 rfl (w.heap.size + 1) 23 i0 (.slice Option.none 0 0) 1 24 Tryd.underlying74 hi hz0 hz1 hz2 rfl (by decide) _ _ _ rfl HR0.out a n c vs rfl hvl (fun j u hu => ((Kept.box w _).newBlock _).cellAt (Hvc.out j u hu)) hvo (by unfold maxLen; omega) (by omega) (by simp) ?_; intro v' w2 hown' hgrow _; rw [Nat.zero_add, List.nil_append] at hown'; obtain ⟨g, cap, rfl, hgb, hgl⟩ := hown'.form h0)
  have HK : Hid (Kept (w.alloc (.cells #[.int .i64 K, .slice A1 n1 c1, .slice A2 n2 c2, .int .i64 R, .int .i64 Ct, .slice A3 n3 c3] 37)) w2) := (Kept.box _ (.cells #[] 23)).grown hgrow (by simp) (fun i hi => by simp [Act.eval, Value.ownBlock] at hi; simp; omega)
  have HKw := Lib.hid ((Kept.box w _).then HK.out)
  have HO : Hid (OwnL w2 w.heap.size (.slice (some ⟨g, 0, Option.none⟩) n cap) ls) := by
    refine ⟨vs, by rw [Hlen.out]; exact own_lower hown' (Nat.le_succ _), fun j hj => ?_⟩
    rw [Hlen.out] at hj
    obtain ⟨B', m', c', e1, e3⟩ := Hvd.out j hj
    refine ⟨B', m', c', e1, e3.kept HKw.out, fun hm a' ha' e => ?_⟩
    subst ha'
    have := e3.block hm
    simp only [Value.ownBlock, Option.some.injEq] at e
    omega
  clear hown' hgrow hvo hvl
  go_wp2_with fail
  go_loopw [6] (fun u wr => ∃ j : Nat, j ≤ n1 ∧ u = .int .i64 j ∧ Hid (OwnL wr w.heap.size (.slice (some ⟨g, 0, Option.none⟩) n cap) (noneU C.vars ls j)) ∧ Hid (KeptBut g w2 wr)) (fun u _ => n1 - (intOf u).toNat)
  case atStart => exact ⟨0, Nat.zero_le _, rfl, HO.out, KeptBut.refl _ _⟩
  case round =>
    obtain ⟨j, hj, rfl, HOr, Hkr⟩ := hrel
    have HKb : Hid (Kept (w.alloc (.cells #[.int .i64 K, .slice A1 n1 c1, .slice A2 n2 c2, .int .i64 R, .int .i64 Ct, .slice A3 n3 c3] 37)) wr) := ((KeptBut.of HK.out g).then Hkr.out).kept (by simp; omega)
    have HKq := Lib.hid ((Kept.box w _).then HKb.out)
    have hb := HB.out wr HKb.out
    have b0 := cell_at hb 0
    have b1 := cell_at hb 1
    have b2 := cell_at hb 2
    have b3 := cell_at hb 3
    have b4 := cell_at hb 4
    have b5 := cell_at hb 5
    simp only [List.getElem?_toArray, List.getElem?_cons_zero, List.getElem?_cons_succ] at b0 b1 b2 b3 b4 b5
    clear hb
    have hlb : w.heap.size < wr.heap.size := World.block_lt_of_cell? wr _ b0
    have hgr : g < wr.heap.size := by have := Hkr.out.size; omega
    by_cases hlt : j < n1
    · obtain ⟨av, hav, hbv⟩ := (HC.out.vars.kept HKq.out).addr (by omega)
      subst hav
      obtain ⟨v, Hv1, hcv, _, _⟩ := (HC.out.vars.kept HKq.out).named j hlt
      obtain ⟨hv0, hv1⟩ := varsOk_rng Hv.out (i := j) (by have := Hl1.out; omega)
      rw [Hv1.out] at hv0 hv1
      obtain ⟨p, rfl⟩ := Int.eq_ofNat_of_zero_le hv0
      have hpn : p < n := by omega
      have Hln : Hid ((noneU C.vars ls j).length = n) := by show _ = _; rw [noneU_length]; exact Hlen.out
      obtain ⟨⟨vv, hcc⟩, hfz⟩ := HOr.out.at Hln.out p hpn
      have hset := HOr.out.set Hln.out hpn (B := Option.none) (m := 0) (c := 0) (l := []) (Ints.none _) (fun h => absurd h (Nat.lt_irrefl _))
      have Hnx : Hid (noneU C.vars ls (j + 1) = (noneU C.vars ls j).set p []) := by show _ = _; simp only [noneU]; rw [Hv1.out, Int.toNat_natCast]
      have HOn : Hid (OwnL (wr.setCell ⟨g, p, Option.none⟩ (.slice Option.none 0 0)) w.heap.size (.slice (some ⟨g, 0, Option.none⟩) n cap) (noneU C.vars ls (j + 1))) := by
        show OwnL _ _ _ _
        rw [Hnx.out]; exact hset
      clear hset
      go_wp2_with fail
      go_roundw
      case rel => exact ⟨j + 1, by omega, by go_num, HOn.out, Hkr.out.then (KeptBut.set _ (a := ⟨g, p, Option.none⟩) rfl _)⟩
      case measure => simp [intOf]; omega
    · have e : j = n1 := by omega
      subst e
      go_wp2_with fail
      go_ret
      exact ⟨g, cap, rfl, HOr.out, by omega, hgr, HKq.out⟩
end Go.Proofs.YthddanjmnifloaaDoor

/-
  Contracts and plain laws that the card rests on, part 9.
-/
import Derived.Test.YtekcenacpklpgaaDoorMContrary8
import Derived.Test.YtekcenacpklpgaaDoorMContrary5
import Derived.Test.YtekcenacpklpgaaDoorMContrary2
import Derived.Test.YtekcenacpklpgaaDoorMContrary4
import Derived.Test.YtekcenacpklpgaaDoorMContrary3
import Derived.Deep.RegionHeld3
import Derived.Test.YtekcenacpklpgaaDoorMContrary6
import Derived.Test.YtekcenacpklpgaaDoorMContrary7
set_option maxHeartbeats 1000000
set_option maxRecDepth 10000
namespace Go.Proofs.YtekcenacpklpgaaDoor
open Go Go.RowKit Pl

/-- It reads as lists of whole numbers. -/
structure LL (w : World) (A : Option Addr) (n : Nat) (ls : List (List Int)) : Prop where
  len : ls.length = n
  small : n ≤ 9223372036854775807
  cell : 0 < n → ∃ a, A = some a ∧ ∀ j, j < n → ∃ B m c, w.cell? (a.add j) = some (.slice B m c) ∧ Ints w B m (ls.getD j [])
theorem LL.kept {w w' : World} {A : Option Addr} {n : Nat} {ls : List (List Int)} (h : LL w A n ls) (hk : Kept w w') : LL w' A n ls :=
  ⟨h.len, h.small, fun hn => by
    obtain ⟨a, e, hc⟩ := h.cell hn
    refine ⟨a, e, fun j hj => ?_⟩
    obtain ⟨B, m, c, h1, h2⟩ := hc j hj
    exact ⟨B, m, c, hk.cellAt h1, h2.kept hk⟩⟩
theorem LL.named {w : World} {A : Option Addr} {n : Nat} {ls : List (List Int)} (h : LL w A n ls) (k : Nat) (hk : k < n) :
    ∃ (a : Addr) (l : List Int) (B : Option Addr) (m c : Nat), A = some a ∧ a.block < w.heap.size ∧ Hid (ls.getD k [] = l) ∧ w.cell? (a.add k) = some (.slice B m c) ∧ Hid (Ints w B m l) := by
  obtain ⟨a, rfl, hc⟩ := h.cell (by omega)
  obtain ⟨B, m, c, h1, h2⟩ := hc k hk
  have := World.block_lt_of_cell? w _ h1
  rw [add_block'] at this
  exact ⟨a, _, B, m, c, rfl, this, rfl, h1, h2⟩

/-- The slice u, in blocks from base on, owns the lists; their numbers do not lie in its own block. -/
def OwnL (w : World) (base : Nat) (u : Value) (ls : List (List Int)) : Prop :=
  ∃ vs : List Value, w.ownsRow base 22 1 u ls.length vs ∧ ∀ j, j < ls.length → ∃ B m c, vs[j]? = some (.slice B m c) ∧ Ints w B m (ls.getD j []) ∧ (0 < m → ∀ a, B = some a → u.ownBlock ≠ some a.block)
theorem OwnL.kept {w w' : World} {base : Nat} {u : Value} {ls : List (List Int)} (h : OwnL w base u ls) (hk : Kept w w') : OwnL w' base u ls := by
  obtain ⟨vs, hown, hd⟩ := h
  refine ⟨vs, own_kept hown hk, fun j hj => ?_⟩
  obtain ⟨B, m, c, h1, h2, h3⟩ := hd j hj
  exact ⟨B, m, c, h1, h2.kept hk, h3⟩
theorem OwnL.snoc {w1 w2 : World} {base g cap : Nat} {u : Value} {ls : List (List Int)} {l : List Int} {B : Option Addr} {m c : Nat} {vs : List Value}
    (hown : w1.ownsRow base 22 1 u ls.length vs) (hd : ∀ j, j < ls.length → ∃ B m c, vs[j]? = some (.slice B m c) ∧ Ints w1 B m (ls.getD j []) ∧ (0 < m → ∀ a, B = some a → u.ownBlock ≠ some a.block))
    (hI : Ints w1 B m l) (hB : 0 < m → ∀ a, B = some a → u.ownBlock ≠ some a.block)
    (h2 : w2.ownsRow base 22 1 (.slice (some ⟨g, 0, Option.none⟩) (ls.length + 1) cap) (ls.length + 1) (vs ++ [.slice B m c]))
    (hg : w1.grownBy w2 u.ownBlock) (hat : u.ownBlock = some g ∨ w1.heap.size ≤ g) : OwnL w2 base (.slice (some ⟨g, 0, Option.none⟩) (ls.length + 1) cap) (ls ++ [l]) := by
  have hlen : vs.length = ls.length := by have := hown.1; omega
  have hne : ∀ a : Addr, a.block < w1.heap.size → u.ownBlock ≠ some a.block → Value.ownBlock (.slice (some ⟨g, 0, Option.none⟩) (ls.length + 1) cap) ≠ some a.block := by
    intro a h1 h2 e
    simp only [Value.ownBlock, Option.some.injEq] at e
    rcases hat with h | h
    · rw [h, e] at h2; exact h2 rfl
    · omega
  have hint : ∀ {B : Option Addr} {m : Nat} {xs : List Int}, Ints w1 B m xs → (0 < m → ∀ a, B = some a → u.ownBlock ≠ some a.block) → Ints w2 B m xs := by
    intro B m xs h hb
    refine ⟨h.len, h.small, h.rng, fun hn => ?_⟩
    obtain ⟨a, e, hc⟩ := h.cell hn
    exact ⟨a, e, fun j hj => hg.cell (hc j hj) (by rw [add_block']; exact fun e' => hb hn a e e'.symm)⟩
  have hblk : ∀ {B : Option Addr} {m : Nat} {xs : List Int}, Ints w1 B m xs → 0 < m → ∀ a, B = some a → a.block < w1.heap.size := by
    intro B m xs h hn a ha
    subst ha
    exact h.block hn
  refine ⟨vs ++ [.slice B m c], by rw [List.length_append]; exact h2, fun j hj => ?_⟩
  rw [List.length_append] at hj
  simp only [List.length_cons, List.length_nil] at hj
  by_cases hlt : j < ls.length
  · have e0 : (ls ++ [l]).getD j [] = ls.getD j [] := by simp only [List.getD_eq_getElem?_getD, List.getElem?_append_left hlt]
    rw [e0]
    obtain ⟨B', m', c', e1, e3, e4⟩ := hd j hlt
    refine ⟨B', m', c', ?_, hint e3 e4, fun hn a ha => hne a (hblk e3 hn a ha) (e4 hn a ha)⟩
    rw [List.getElem?_append_left (by omega)]; exact e1
  · have e : j = ls.length := by omega
    subst e
    have e0 : (ls ++ [l]).getD ls.length [] = l := by simp [List.getD_eq_getElem?_getD]
    rw [e0]
    refine ⟨B, m, c, ?_, hint hI hB, fun hn a ha => hne a (hblk hI hn a ha) (hB hn a ha)⟩
    rw [List.getElem?_append_right (by omega), hlen]; simp
theorem OwnL.parts {w : World} {base : Nat} {u : Value} {ls : List (List Int)} (h : OwnL w base u ls) : ∃ A c, u = .slice A ls.length c := by
  obtain ⟨vs, hown, _⟩ := h
  rcases hown.2 with ⟨rfl, h0⟩ | ⟨g, cap, cur, rfl, _⟩
  · rw [h0]; exact ⟨_, _, rfl⟩
  · exact ⟨_, _, rfl⟩
theorem OwnL.lists {w : World} {base c : Nat} {A : Option Addr} {n : Nat} {ls : List (List Int)} (h : OwnL w base (.slice A n c) ls) (hn : ls.length = n) (hs : n ≤ 9223372036854775807) : LL w A n ls := by
  obtain ⟨vs, hown, hd⟩ := h
  subst hn
  refine ⟨rfl, hs, fun h0 => ?_⟩
  obtain ⟨g, cap, e, hb, hlt⟩ := hown.form h0
  cases e
  refine ⟨_, rfl, fun j hj => ?_⟩
  obtain ⟨B, m, c, e1, e3, _⟩ := hd j hj
  exact ⟨B, m, c, hown.cells (g := g) rfl _ _ e1, e3⟩
theorem OwnL.set {w : World} {base g n cap p : Nat} {ls : List (List Int)} {l : List Int} {B : Option Addr} {m c : Nat} (h : OwnL w base (.slice (some ⟨g, 0, Option.none⟩) n cap) ls) (hn : ls.length = n) (_hp : p < n) (hI : Ints w B m l) (hB : 0 < m → ∀ a, B = some a → a.block ≠ g) :
    OwnL (w.setCell ⟨g, p, Option.none⟩ (.slice B m c)) base (.slice (some ⟨g, 0, Option.none⟩) n cap) (ls.set p l) := by
  obtain ⟨vs, hown, hd⟩ := h
  subst hn
  have hlen : vs.length = ls.length := by have := hown.1; omega
  have h2 := (hown.stored p (.slice B m c)).1
  have hk : KeptBut g w (w.setCell ⟨g, p, Option.none⟩ (.slice B m c)) := KeptBut.set _ (a := ⟨g, p, Option.none⟩) rfl _
  refine ⟨_, by rw [List.length_set]; exact h2, fun j hj => ?_⟩
  rw [List.length_set] at hj
  by_cases e : j = p
  · subst e
    have e0 : (ls.set j l).getD j [] = l := by simp [List.getD_eq_getElem?_getD, hj]
    rw [e0]
    refine ⟨B, m, c, ?_, hI.keptBut0 hk hB, fun hn a ha e => hB hn a ha (by simpa [Value.ownBlock] using e.symm)⟩
    rw [List.getElem?_set_self (by omega)]
  · have e0 : (ls.set p l).getD j [] = ls.getD j [] := by simp only [List.getD_eq_getElem?_getD, List.getElem?_set_ne (fun h => e h.symm)]
    rw [e0]
    obtain ⟨B', m', c', e1, e3, e4⟩ := hd j hj
    refine ⟨B', m', c', ?_, e3.keptBut0 hk (fun hn a ha e => e4 hn a ha (by simp [Value.ownBlock, e])), e4⟩
    rw [List.getElem?_set_ne (by omega)]; exact e1
/-- A cell of the row stands there, and may be written. -/
theorem OwnL.at {w : World} {base g n cap : Nat} {ls : List (List Int)} (h : OwnL w base (.slice (some ⟨g, 0, Option.none⟩) n cap) ls) (hn : ls.length = n) (p : Nat) (hp : p < n) :
    (∃ v, w.cell? ⟨g, p, Option.none⟩ = some v) ∧ w.frozen? ⟨g, p, Option.none⟩ = false := by
  obtain ⟨vs, hown, hd⟩ := h
  subst hn
  obtain ⟨B, m, c, e1, _, _⟩ := hd p hp
  exact ⟨⟨_, by rw [hown.cellAt _ (by omega)]; exact e1⟩, hown.frozenAt _⟩

/-- What is left of each. -/
def listsOf (ds : List DomB) : List (List Int) := ds.map fun d => listB d.1 d.2
theorem listsOf_getD (ds : List DomB) {i : Nat} (hi : i < ds.length) : (listsOf ds).getD i [] = listB (ds.getD i nilD).1 (ds.getD i nilD).2 := by
  unfold listsOf
  rw [List.getD_eq_getElem?_getD, List.getElem?_map, List.getD_eq_getElem?_getD, List.getElem?_eq_getElem hi]
  rfl

theorem info_ints : (Tryd.prog.info? 22).map (fun i => (i.zero, i.size, i.bytes)) = some (some (.slice Option.none 0 0), 1, 24) := by kernel_rfl
/-- Lists are handed back, in a slice of the call's own. -/
def ListsPost (ls : List (List Int)) (w : World) (e : Ending) (w' : World) : Prop :=
  ∃ A c, e = .returned (.slice A ls.length c) ∧ LL w' A ls.length ls ∧ Kept w w'

theorem rlists_any (A : Option Addr) (n c : Nat) (ds : List DomB) (w : World) (hS : Doms w A n ds) (hn : n ≤ 1000) :
    Calls Tryd.prog 33 #[.slice A n c] w (ListsPost (listsOf ds) w) := by
  obtain ⟨i0, hi, hz0, hz1, hz2⟩ := info_parts info_ints
  have HS := Lib.hid hS
  have Hlen := Lib.hid hS.len
  clear hS
  go_enter Tryd.func33, Tryd.ntmps33
  go_wp2_with fail
  go_loopw [3, 4] (fun u v wr => ∃ k : Nat, k ≤ n ∧ v = .int .i64 k ∧ Hid (OwnL wr w.heap.size u (listsOf (ds.take k))) ∧ Hid (Kept w wr)) (fun _ v _ => n - (intOf v).toNat)
  case atStart =>
    refine ⟨0, Nat.zero_le _, rfl, ?_, Kept.box _ _⟩
    exact ⟨[], World.ownsRow_made w #[] 0 (Nat.le_refl _) (by decide) rfl, fun j hj => by simp [listsOf] at hj⟩
  case round =>
    obtain ⟨k, hk, rfl, HO, Hkw⟩ := hrel
    by_cases hlt : k < n
    · have hSr := HS.out.kept Hkw.out
      obtain ⟨a, rfl, hblk⟩ := hSr.addr (by omega)
      obtain ⟨xs, L, B, m, cB, Hd, hc1, hc2, HI, hL⟩ := hSr.named k hlt
      clear hSr
      go_wp2_with fail
      refine (rdlist_any B m cB L xs _ HI.out hL).mono ?_
      rintro e w1 ⟨Bl, cl, rfl, hIl, hk1, hfl⟩
      have HIl := Lib.hid hIl
      have Hk1 := Lib.hid hk1
      have Hfl := Lib.hid hfl
      obtain ⟨vs, hown, hd⟩ := HO.out
      have hkl : (listsOf (ds.take k)).length = k := by unfold listsOf; rw [List.length_map, List.length_take]; have := Hlen.out; omega
      rw [hkl] at hown hd
      have Hul : Hid (∀ i, u3.ownBlock = some i → w.heap.size ≤ i ∧ i < wr.heap.size) := hown.lt
      have Hown := Lib.hid (own_kept hown hk1)
      have Hdd := Lib.hid hd
      have hszr := Hkw.out.size
      have hsz1 := hk1.size
      have Hlb : Hid (listsOf (ds.take (k + 1)) = listsOf (ds.take k) ++ [listB xs L]) := by
        show _ = _
        rw [take_dom (by have := Hlen.out; omega) Hd.out]
        unfold listsOf
        rw [List.map_append]; rfl
      have hel := listB_length xs L
      clear hIl hk1 hfl hown hd hc1 hc2
      generalize listB xs L = l at *
      generalize hmm : l.length = mm at *
      clear hmm
      go_wp2_with (at_builtin; refine wpList_append_own_at _ rfl _ _ 60 rfl w.heap.size 22 i0 (.slice Option.none 0 0) 1 24 Tryd.underlying60 hi hz0 hz1 hz2 rfl (by decide) _ _ _ rfl (Hown.out.alloc _) ⟨w1.heap.size, 0, none⟩ 1 1 [.slice Bl mm cl] rfl rfl (cell_one_new _ _ _) (by simp [Value.oneCell']) (by unfold maxLen; omega) (by omega) (by simp; omega) ?_; intro v' w2 hown' hgrow _ hloc; obtain ⟨g, cap, rfl, hgb, hgl⟩ := hown'.form (by omega))
      go_roundw
      case rel =>
        refine ⟨k + 1, by omega, by go_num, ?_, ?_⟩
        · show OwnL _ _ _ _
          rw [Hlb.out]
          have hk2 := Kept.box w1 (.cells #[.slice Bl mm cl] 22)
          have := OwnL.snoc (ls := listsOf (ds.take k)) (l := l) (c := cl) (by rw [hkl]; exact Hown.out.alloc _) ?_ (HIl.out.kept hk2) ?_ (by rw [hkl]; exact hown') hgrow ?_
          · rw [hkl] at this; exact this
          · rw [hkl]
            intro j hj
            obtain ⟨B1, m1, c1', e1, e3, e4⟩ := Hdd.out j hj
            exact ⟨B1, m1, c1', e1, e3.kept (Hk1.out.then hk2), e4⟩
          · intro _ a' ha' e
            have := Hul.out _ e
            have := Hfl.out a' ha'
            omega
          · rcases hloc with h | h
            · exact Or.inl (by rw [← h]; rfl)
            · right
              have : g = w1.heap.size + 1 := by simpa [Value.ownBlock] using h
              simp only [World.size_alloc]
              omega
        · show Kept w w2
          exact ((Hkw.out.then Hk1.out).newBlock _).grown hgrow (by simp; omega) (fun i hi => (Hul.out i hi).1)
      case measure => simp [intOf]; omega
    · have e : k = n := by omega
      subst e
      rw [List.take_of_length_le (by have := Hlen.out; omega)] at HO
      obtain ⟨A5, c5, rfl⟩ := HO.out.parts
      have hl5 : (listsOf ds).length = k := by unfold listsOf; rw [List.length_map]; exact Hlen.out
      have HD := Lib.hid (HO.out.lists (n := (listsOf ds).length) rfl (by omega))
      clear HO
      go_wp2_with fail
      go_ret
      exact ⟨A5, c5, rfl, HD.out, Hkw.out⟩
end Go.Proofs.YtekcenacpklpgaaDoor

set_option maxHeartbeats 1000000
set_option maxRecDepth 10000
namespace Go.Proofs.YtekcenacpklpgaaDoor
open Go Go.RowKit Pl

/-- The list of a variable. -/
def lsAt (vars : List Int) (ls : List (List Int)) (i : Nat) : List Int := ls.getD (vars.getD i 0).toNat []
/-- All values of the first variables' lists, each once. -/
def allS (vars : List Int) (ls : List (List Int)) (j : Nat) : List Int := (List.range j).foldl (fun acc i => addAll acc (lsAt vars ls i)) []
theorem allS_zero (vars : List Int) (ls : List (List Int)) : allS vars ls 0 = [] := rfl
theorem allS_succ (vars : List Int) (ls : List (List Int)) (j : Nat) : allS vars ls (j + 1) = addAll (allS vars ls j) (lsAt vars ls j) := by unfold allS; rw [List.range_succ, List.foldl_append]; rfl
theorem addB_len (acc : List Int) (v : Int) : (addB acc v).length ≤ acc.length + 1 := by unfold addB; split <;> simp
theorem addAll_len (l : List Int) : ∀ acc : List Int, (addAll acc l).length ≤ acc.length + l.length := by
  induction l with
  | nil => intro acc; simp [addAll]
  | cons v l ih =>
    intro acc
    have e : addAll acc (v :: l) = addAll (addB acc v) l := rfl
    have h1 := ih (addB acc v)
    have h2 := addB_len acc v
    rw [e, List.length_cons]
    omega
theorem allS_len {vars : List Int} {ls : List (List Int)} (h : ∀ q, (ls.getD q []).length ≤ 64) (j : Nat) : (allS vars ls j).length ≤ 64 * j := by
  induction j with
  | zero => simp [allS_zero]
  | succ j ih =>
    rw [allS_succ]
    have h1 := addAll_len (lsAt vars ls j) (allS vars ls j)
    have h2 := h (vars.getD j 0).toNat
    unfold lsAt at h1 ⊢
    omega
theorem allS_allU {C : ConB} {ds : List DomB} (hv : varsOk C.vars ds.length = true) {j : Nat} (hj : j ≤ C.vars.length) : allS C.vars (listsOf ds) j = allU C ds j := by
  induction j with
  | zero => rfl
  | succ j ih =>
    rw [allS_succ, allU_succ, ih (by omega)]
    have h1 := varsOk_rng hv (i := j) (by omega)
    unfold lsAt
    rw [listsOf_getD ds (by omega)]
    rfl

/-- Is one of the first variables' lists empty? -/
def wipedS (vars : List Int) (ls : List (List Int)) (j : Nat) : Bool := (List.range j).any fun i => decide ((lsAt vars ls i).length = 0)
theorem wipedS_succ (vars : List Int) (ls : List (List Int)) (j : Nat) : wipedS vars ls (j + 1) = (wipedS vars ls j || decide ((lsAt vars ls j).length = 0)) := by
  unfold wipedS; rw [List.range_succ, List.any_append]; simp
theorem wipedS_wiped {C : ConB} {ds : List DomB} (hv : varsOk C.vars ds.length = true) : wipedS C.vars (listsOf ds) C.vars.length = wipedB C ds C.vars.length := by
  unfold wipedS wipedB
  rw [Bool.eq_iff_iff, List.any_eq_true, List.any_eq_true]
  have e : ∀ i, i < C.vars.length → lsAt C.vars (listsOf ds) i = leftOf C ds i := fun i hi => by
    have h1 := varsOk_rng hv hi
    unfold lsAt
    rw [listsOf_getD ds (by omega)]
    rfl
  constructor
  · rintro ⟨i, hi, h⟩
    exact ⟨i, hi, by rw [← e i (List.mem_range.1 hi)]; exact h⟩
  · rintro ⟨i, hi, h⟩
    exact ⟨i, hi, by rw [e i (List.mem_range.1 hi)]; exact h⟩

/-- Is a value none of the first other lists alone? -/
def soloP (vars : List Int) (ls : List (List Int)) (i k : Nat) (x : Int) : Bool := (List.range k).all fun q => decide (q = i) || !(lsAt vars ls q == [x])
theorem soloP_zero (vars : List Int) (ls : List (List Int)) (i : Nat) (x : Int) : soloP vars ls i 0 x = true := rfl
theorem soloP_succ (vars : List Int) (ls : List (List Int)) (i k : Nat) (x : Int) : soloP vars ls i (k + 1) x = (soloP vars ls i k x && (decide (k = i) || !(lsAt vars ls k == [x]))) := by
  unfold soloP; rw [List.range_succ, List.all_append]; simp
theorem soloP_sole {C : ConB} {ds : List DomB} (hv : varsOk C.vars ds.length = true) {i : Nat} (hi : i < C.vars.length) (x : Int) : soloP C.vars (listsOf ds) i C.vars.length x = !soleB C ds i x := by
  have e : ∀ i, i < C.vars.length → lsAt C.vars (listsOf ds) i = leftOf C ds i := fun i hi => by
    have h1 := varsOk_rng hv hi
    unfold lsAt
    rw [listsOf_getD ds (by omega)]
    rfl
  unfold soloP soleB
  rw [Bool.eq_iff_iff, List.all_eq_true, Bool.not_eq_true', List.any_eq_false]
  constructor
  · intro h k hk
    have h1 := h k hk
    have hk := List.mem_range.1 hk
    rw [e k hk] at h1
    by_cases ek : k = i
    · subst ek; simp
    · rw [decide_eq_false ek] at h1
      simp at h1
      simp [h1]
  · intro h k hk
    have h1 := h k hk
    have hk := List.mem_range.1 hk
    rw [e k hk]
    by_cases ek : k = i
    · rw [decide_eq_true ek]; rfl
    · have hne : C.vars.getD k 0 ≠ C.vars.getD i 0 := by
        rcases Nat.lt_or_ge k i with h4 | h4
        · exact varsOk_ne hv hi h4
        · exact (varsOk_ne hv hk (by omega)).symm
      rw [decide_eq_false hne] at h1
      simp at h1
      simp [h1]

/-- The lists, those of the first j filtered by questions at the places. -/
def setU (vars : List Int) (ls : List (List Int)) (g : Nat → Int → Bool) : Nat → List (List Int)
  | 0 => ls
  | j + 1 => (setU vars ls g j).set (vars.getD j 0).toNat ((ls.getD (vars.getD j 0).toNat []).filter (g j))
theorem setU_length (vars : List Int) (ls : List (List Int)) (g : Nat → Int → Bool) (j : Nat) : (setU vars ls g j).length = ls.length := by
  induction j with
  | zero => rfl
  | succ j ih => simp only [setU, List.length_set, ih]
theorem setU_out {vars : List Int} {ls : List (List Int)} {g : Nat → Int → Bool} {j q : Nat} (h : ∀ k, k < j → (vars.getD k 0).toNat ≠ q) : (setU vars ls g j).getD q [] = ls.getD q [] := by
  induction j with
  | zero => rfl
  | succ j ih =>
    simp only [setU]
    rw [List.getD_eq_getElem?_getD, List.getElem?_set_ne (h j (by omega)), ← List.getD_eq_getElem?_getD]
    exact ih fun k hk => h k (by omega)
theorem setU_in {vars : List Int} {ls : List (List Int)} {g : Nat → Int → Bool} {j i : Nat} (hv : ∀ k, k < j → (vars.getD k 0).toNat < ls.length) (hd : ∀ k, k < j → k ≠ i → (vars.getD k 0).toNat ≠ (vars.getD i 0).toNat) (hi : i < j) :
    (setU vars ls g j).getD (vars.getD i 0).toNat [] = (ls.getD (vars.getD i 0).toNat []).filter (g i) := by
  induction j with
  | zero => omega
  | succ j ih =>
    simp only [setU]
    rw [getD_set3 _ _ _ _ _ (by rw [setU_length]; exact hv j (by omega))]
    by_cases e : j = i
    · subst e; rw [if_pos rfl]
    · rw [if_neg (fun h => hd j (by omega) e h.symm)]
      exact ih (fun k hk => hv k (by omega)) (fun k hk => hd k (by omega)) (by omega)
/-- What is kept by the lists so filtered. -/
theorem setU_keeps {vars : List Int} {ls : List (List Int)} {g : Nat → Int → Bool} {q : Nat} {v : Int} (hv : varsOk vars ls.length = true) (hm : v ∈ ls.getD q []) : ((setU vars ls g vars.length).getD q []).contains v = varsKp vars g vars.length q v := by
  have hr : ∀ k, k < vars.length → (vars.getD k 0).toNat < ls.length := fun k hk => by have := varsOk_rng hv hk; omega
  rw [Bool.eq_iff_iff, List.contains_iff_mem, varsKp_iff]
  by_cases h : ∃ i, i < vars.length ∧ (vars.getD i 0).toNat = q
  · obtain ⟨i, hi, rfl⟩ := h
    rw [setU_in hr (fun k hk e => varsOk_ne' hv hi hk e) hi, List.mem_filter]
    constructor
    · rintro ⟨_, h2⟩ k hk e
      have : k = i := by
        rcases Nat.decEq k i with h3 | h3
        · exact absurd e (varsOk_ne' hv hi hk h3)
        · exact h3
      subst this; exact h2
    · intro h2
      exact ⟨hm, h2 i hi rfl⟩
  · have hn : ∀ k, k < vars.length → (vars.getD k 0).toNat ≠ q := fun k hk e => h ⟨k, hk, e⟩
    rw [setU_out hn]
    exact ⟨fun _ k hk e => absurd e (hn k hk), fun _ => hm⟩

/-- The lists, those of the first j less what others are alone. -/
abbrev lessG (vars : List Int) (ls : List (List Int)) (m i : Nat) (x : Int) : Bool := soloP vars ls i m x
abbrev lessU (vars : List Int) (ls : List (List Int)) (m j : Nat) : List (List Int) := setU vars ls (lessG vars ls m) j
/-- In the middle of a variable's round. -/
def midU (vars : List Int) (ls : List (List Int)) (m j p k : Nat) : List (List Int) := (lessU vars ls m j).set p ((ls.getD p []).filter (soloP vars ls j k))
theorem midU_length (vars : List Int) (ls : List (List Int)) (m j p k : Nat) : (midU vars ls m j p k).length = ls.length := by
  unfold midU; rw [List.length_set, setU_length]
theorem midU_zero {vars : List Int} {ls : List (List Int)} {m j p : Nat} (hv : varsOk vars ls.length = true) (hj : j < vars.length) (hp : vars.getD j 0 = (p : Nat)) : midU vars ls m j p 0 = lessU vars ls m j := by
  have hpl : p < ls.length := by have := varsOk_rng hv hj; omega
  unfold midU
  have e0 : (ls.getD p []).filter (soloP vars ls j 0) = ls.getD p [] := List.filter_eq_self.2 fun x _ => soloP_zero _ _ _ _
  have e : (lessU vars ls m j).getD p [] = ls.getD p [] := setU_out (fun k hk => by have := varsOk_ne' hv hj (show k < vars.length by omega) (by omega); rw [hp] at this; exact this)
  have h := set_getD_self (lessU vars ls m j) p [] (by rw [setU_length]; exact hpl)
  rw [e0, ← e]
  exact h
theorem midU_at {vars : List Int} {ls : List (List Int)} {m j p k : Nat} (hp : p < ls.length) : (midU vars ls m j p k).getD p [] = (ls.getD p []).filter (soloP vars ls j k) := by
  unfold midU
  rw [getD_set3 _ _ _ _ _ (by rw [setU_length]; exact hp), if_pos rfl]
theorem midU_no {vars : List Int} {ls : List (List Int)} {m j p k : Nat} (h : k = j ∨ (lsAt vars ls k).length ≠ 1) : midU vars ls m j p (k + 1) = midU vars ls m j p k := by
  unfold midU
  congr 1
  refine List.filter_congr fun x _ => ?_
  rw [soloP_succ]
  rcases h with h | h
  · rw [decide_eq_true h]; simp
  · have e : (lsAt vars ls k == [x]) = false := by
      rw [Bool.eq_false_iff]
      intro h2
      rw [beq_iff_eq] at h2
      rw [h2] at h
      simp at h
    rw [e]; simp
theorem midU_yes {vars : List Int} {ls : List (List Int)} {m j p k : Nat} {y : Int} (f : Int → Bool) (hf : ∀ x, f x = (x != y)) (hp : p < ls.length) (hk : k ≠ j) (h : lsAt vars ls k = [y]) :
    midU vars ls m j p (k + 1) = (midU vars ls m j p k).set p (((midU vars ls m j p k).getD p []).filter f) := by
  rw [midU_at hp]
  unfold midU
  rw [List.set_set, List.filter_filter]
  congr 1
  refine List.filter_congr fun x _ => ?_
  rw [soloP_succ, h, decide_eq_false hk, hf, Bool.and_comm]
  congr 1
  rw [Bool.eq_iff_iff, Bool.false_or, Bool.not_eq_true', beq_eq_false_iff_ne, bne_iff_ne]
  constructor
  · intro h e
    subst e
    exact h rfl
  · intro h e
    injection e with e
    exact h e.symm
theorem midU_end {vars : List Int} {ls : List (List Int)} {m j p : Nat} (hp : vars.getD j 0 = (p : Nat)) : midU vars ls m j p m = lessU vars ls m (j + 1) := by
  unfold midU
  rw [show lessU vars ls m (j + 1) = (lessU vars ls m j).set (vars.getD j 0).toNat ((ls.getD (vars.getD j 0).toNat []).filter (soloP vars ls j m)) from rfl, hp, Int.toNat_natCast]
/-- What is kept by the lists emptied. -/
theorem noneU_keeps {vars : List Int} {ls : List (List Int)} {q : Nat} {v : Int} (hv : varsOk vars ls.length = true) (hm : v ∈ ls.getD q []) : ((noneU vars ls vars.length).getD q []).contains v = varsKp vars (fun _ _ => false) vars.length q v := by
  have hr : ∀ k, k < vars.length → (vars.getD k 0).toNat < ls.length := fun k hk => by have := varsOk_rng hv hk; omega
  rw [Bool.eq_iff_iff, List.contains_iff_mem, varsKp_iff]
  by_cases h : ∃ i, i < vars.length ∧ (vars.getD i 0).toNat = q
  · rw [noneU_in hr h]
    obtain ⟨i, hi, e⟩ := h
    constructor
    · intro h; simp at h
    · intro h; exact absurd (h i hi e) (by decide)
  · have hn : ∀ k, k < vars.length → (vars.getD k 0).toNat ≠ q := fun k hk e => h ⟨k, hk, e⟩
    rw [noneU_out hn]
    exact ⟨fun _ k hk e => absurd e (hn k hk), fun _ => hm⟩
theorem noneU_noneU (vars : List Int) (ls : List (List Int)) (q j : Nat) (hv : varsOk vars ls.length = true) (hj : j = vars.length) : (noneU vars (noneU vars ls j) j).getD q [] = (noneU vars ls j).getD q [] := by
  subst hj
  have hr : ∀ k, k < vars.length → (vars.getD k 0).toNat < ls.length := fun k hk => by have := varsOk_rng hv hk; omega
  by_cases h : ∃ i, i < vars.length ∧ (vars.getD i 0).toNat = q
  · rw [noneU_in hr h, noneU_in (by rw [noneU_length]; exact hr) h]
  · have hn : ∀ k, k < vars.length → (vars.getD k 0).toNat ≠ q := fun k hk e => h ⟨k, hk, e⟩
    rw [noneU_out hn]
end Go.Proofs.YtekcenacpklpgaaDoor

set_option maxHeartbeats 1000000
set_option maxRecDepth 10000
namespace Go.Proofs.YtekcenacpklpgaaDoor
open Go Go.RowKit Pl

/-- What is left of the variables of a row. -/
def lsV (vars : List Int) (ds : List DomB) (i : Nat) : List Int := listB (ds.getD (vars.getD i 0).toNat nilD).1 (ds.getD (vars.getD i 0).toNat nilD).2
theorem lsV_left (C : ConB) (ds : List DomB) : lsV C.vars ds = leftOf C ds := rfl
theorem getD_drop1 (l : List Int) (i : Nat) : (l.drop 1).getD i 0 = l.getD (i + 1) 0 := by
  rw [List.getD_eq_getElem?_getD, List.getD_eq_getElem?_getD, List.getElem?_drop, Nat.add_comm]
theorem lsV_rest (C : ConB) (ds : List DomB) : lsV (C.vars.drop 1) ds = restOf C ds := by
  funext i
  unfold lsV restOf leftOf
  rw [getD_drop1]
theorem lsAt_lsV {vars : List Int} {ds : List DomB} (hv : ∀ i, i < vars.length → 0 ≤ vars.getD i 0 ∧ vars.getD i 0 < ds.length) {i : Nat} (hi : i < vars.length) : lsAt vars (listsOf ds) i = lsV vars ds i := by
  have h1 := hv i hi
  unfold lsAt
  rw [listsOf_getD ds (by omega)]
  rfl
theorem varsOk_drop {vs : List Int} {V : Int} (h : varsOk vs V = true) : varsOk (vs.drop 1) V = true := by
  unfold varsOk vUpto
  rw [List.all_eq_true]
  intro i hi
  have hi := List.mem_range.1 hi
  rw [List.length_drop] at hi
  have h1 := varsOk_rng h (i := i + 1) (by omega)
  unfold vOk
  rw [getD_drop1, decide_eq_true h1.1, decide_eq_true h1.2]
  simp only [Bool.and_self, Bool.true_and, Bool.not_eq_true']
  rw [Bool.eq_false_iff]
  intro hc
  rw [List.contains_iff_mem, List.mem_take_iff_getElem] at hc
  obtain ⟨k, hk, e⟩ := hc
  rw [List.length_drop] at hk
  have h2 := varsOk_ne h (i := i + 1) (k := k + 1) (by omega) (by omega)
  apply h2
  rw [← e, List.getElem_drop, List.getD_eq_getElem?_getD, List.getElem?_eq_getElem (by omega)]
  simp [Nat.add_comm]

/-- Ends are settled by the first lists. -/
theorem ends_congr {cs : List Int} {ls ms : Nat → List Int} {but : Int} {j : Nat} (h : ∀ i, i < j → ls i = ms i) : lowBut cs ls but j = lowBut cs ms but j ∧ highBut cs ls but j = highBut cs ms but j := by
  induction j with
  | zero => exact ⟨rfl, rfl⟩
  | succ j ih =>
    obtain ⟨h1, h2⟩ := ih fun i hi => h i (by omega)
    simp only [lowBut, highBut]
    rw [h1, h2, h j (by omega)]
    exact ⟨rfl, rfl⟩
theorem sumG_congr {cs : List Int} {ls ms : Nat → List Int} {m : Nat} {rel c : Int} {i : Nat} (h : ∀ i, i < m → ls i = ms i) : sumG cs ls m rel c i = sumG cs ms m rel c i := by
  funext x
  unfold sumG
  obtain ⟨h1, h2⟩ := ends_congr (cs := cs) (but := i) h
  rw [h1, h2]

/-- The questions of a step at what a row has behind its first. -/
theorem varsKp_split {vars : List Int} {g : Nat → Int → Bool} {n q : Nat} {v : Int} (hn : 0 < n) : varsKp vars g n q v = ((!decide ((vars.getD 0 0).toNat = q) || g 0 v) && varsKp (vars.drop 1) (fun i x => g (i + 1) x) (n - 1) q v) := by
  rw [Bool.eq_iff_iff, Bool.and_eq_true, varsKp_iff, varsKp_iff]
  constructor
  · intro h
    refine ⟨?_, fun k hk e => ?_⟩
    · by_cases e : (vars.getD 0 0).toNat = q
      · rw [h 0 hn e]; simp
      · rw [decide_eq_false e]; rfl
    · rw [getD_drop1] at e
      exact h (k + 1) (by omega) e
  · rintro ⟨h1, h2⟩ k hk e
    cases k with
    | zero =>
      rw [decide_eq_true e] at h1
      simpa using h1
    | succ k => exact h2 k (by omega) (by rw [getD_drop1]; exact e)
/-- What is kept by lists, the first variable's of which is filled last. -/
theorem first_keeps {vars : List Int} {ls rs : List (List Int)} {fl : List Int} {g : Nat → Int → Bool} {q : Nat} {v : Int} (hv : varsOk vars ls.length = true) (hl : rs.length = ls.length) (hn : 0 < vars.length) (_hm : v ∈ ls.getD q [])
    (hf : (vars.getD 0 0).toNat = q → fl.contains v = g 0 v) (hr : (vars.getD 0 0).toNat ≠ q → (rs.getD q []).contains v = varsKp (vars.drop 1) (fun i x => g (i + 1) x) (vars.drop 1).length q v) :
    ((rs.set (vars.getD 0 0).toNat fl).getD q []).contains v = varsKp vars g vars.length q v := by
  have h0 := varsOk_rng hv hn
  rw [varsKp_split hn, getD_set3 _ _ _ _ _ (by omega)]
  rw [List.length_drop] at hr
  by_cases e : (vars.getD 0 0).toNat = q
  · rw [if_pos e.symm, hf e, decide_eq_true e]
    have : varsKp (vars.drop 1) (fun i x => g (i + 1) x) (vars.length - 1) q v = true := by
      rw [varsKp_iff]
      intro k hk e2
      rw [getD_drop1] at e2
      exact absurd (e2.trans e.symm) (varsOk_ne' hv hn (show k + 1 < vars.length by omega) (by omega))
    rw [this]; simp
  · rw [if_neg (fun h => e h.symm), hr e, decide_eq_false e]; simp

/-- Whether values 0 and 1 are in the first variable's list, and which of these stay. -/
def firstL (C : ConB) (ds : List DomB) : List Int :=
  (if (leftOf C ds 0).contains 0 = true ∧ mayL (lowBut C.coefs (restOf C ds) (-1) (C.vars.length - 1)) (highBut C.coefs (restOf C ds) (-1) (C.vars.length - 1)) (contraB C.rel) C.const = true then [0] else []) ++
  (if (leftOf C ds 0).contains 1 = true ∧ mayL (lowBut C.coefs (restOf C ds) (-1) (C.vars.length - 1)) (highBut C.coefs (restOf C ds) (-1) (C.vars.length - 1)) C.rel C.const = true then [1] else [])
theorem firstL_contains {C : ConB} {ds : List DomB} {v : Int} (hv : v ∈ leftOf C ds 0) : (firstL C ds).contains v = iffG C ds 0 v := by
  unfold firstL iffG
  rw [if_pos rfl, Bool.eq_iff_iff, List.contains_iff_mem, List.mem_append, Bool.or_eq_true, Bool.and_eq_true, Bool.and_eq_true, decide_eq_true_eq, decide_eq_true_eq]
  have hc := List.contains_iff_mem.2 hv
  constructor
  · rintro (h | h)
    · split at h
      · rename_i h2
        rw [List.mem_singleton] at h
        exact .inr ⟨h, h2.2⟩
      · simp at h
    · split at h
      · rename_i h2
        rw [List.mem_singleton] at h
        exact .inl ⟨h, h2.2⟩
      · simp at h
  · rintro (⟨rfl, h⟩ | ⟨rfl, h⟩)
    · right; rw [if_pos ⟨hc, h⟩]; simp
    · left; rw [if_pos ⟨hc, h⟩]; simp

/-- A variable's round, out of what is left so far. -/
theorem stepVars_on {vars : List Int} {g : Nat → Int → Bool} {ds : List DomB} {j p : Nat} (hp : p < ds.length) (hj : vars.getD j 0 = (p : Nat)) :
    stepB (varsKp vars g (j + 1)) ds = (stepB (varsKp vars g j) ds).set p (keepD (g j) ((stepB (varsKp vars g j) ds).getD p nilD)) := by
  apply ext_getD (by rw [List.length_set, stepB_length, stepB_length])
  intro i hi
  rw [stepB_length] at hi
  rw [stepB_getD _ _ hi, getD_set _ _ _ _ (by rw [stepB_length]; exact hp)]
  unfold nilD
  by_cases e : i = p
  · subst e
    rw [if_pos rfl, stepB_getD _ _ hi, keepD_keepD]
    congr 1
    funext x
    rw [varsKp_succ, hj, Int.toNat_natCast, decide_eq_true rfl]
    simp
  · rw [if_neg e, stepB_getD _ _ hi]
    congr 1
    funext x
    rw [varsKp_succ, hj, Int.toNat_natCast, decide_eq_false (fun h => e h.symm)]
    simp
/-- .., out of what there was. -/
theorem stepVars_was {vars : List Int} {g : Nat → Int → Bool} {ds : List DomB} {j p : Nat} (hv : varsOk vars ds.length = true) (hjl : j < vars.length) (hj : vars.getD j 0 = (p : Nat)) :
    stepB (varsKp vars g (j + 1)) ds = (stepB (varsKp vars g j) ds).set p (keepD (g j) (ds.getD p nilD)) := by
  have hp : p < ds.length := by have := varsOk_rng hv hjl; omega
  apply ext_getD (by rw [List.length_set, stepB_length, stepB_length])
  intro i hi
  rw [stepB_length] at hi
  rw [stepB_getD _ _ hi, getD_set _ _ _ _ (by rw [stepB_length]; exact hp)]
  unfold nilD
  by_cases e : i = p
  · subst e
    rw [if_pos rfl]
    congr 1
    funext x
    rw [varsKp_succ, hj, Int.toNat_natCast, decide_eq_true rfl]
    have h1 : varsKp vars g j i x = true := varsKp_iff.2 fun k hk e => by
      have := varsOk_ne' hv hjl (show k < vars.length by omega) (by omega)
      rw [hj] at this
      exact absurd e this
    rw [h1]; simp
  · rw [if_neg e, stepB_getD _ _ hi]
    congr 1
    funext x
    rw [varsKp_succ, hj, Int.toNat_natCast, decide_eq_false (fun h => e h.symm)]
    simp
/-- A first variable's round, behind those of the others. -/
theorem first_step {C : ConB} {ds : List DomB} {kq : Nat → Int → Bool} {h : Int → Bool} {g : Nat → Int → Bool} {p : Nat} (hv : varsOk C.vars ds.length = true) (hm : allMay ds = true) (hn : 0 < C.vars.length) (hp : C.vars.getD 0 0 = (p : Nat))
    (hh : ∀ v ∈ leftOf C ds 0, h v = g 0 v) (hq : ∀ i, i < ds.length → i ≠ p → ∀ v ∈ listB (ds.getD i nilD).1 (ds.getD i nilD).2, kq i v = varsKp (C.vars.drop 1) (fun i x => g (i + 1) x) (C.vars.drop 1).length i v) :
    (stepB kq ds).set p (keepD h (ds.getD p nilD)) = stepB (varsKp C.vars g C.vars.length) ds := by
  have hpl : p < ds.length := by have := varsOk_rng hv hn; omega
  apply ext_getD (by rw [List.length_set, stepB_length, stepB_length])
  intro i hi
  rw [List.length_set, stepB_length] at hi
  rw [stepB_getD _ _ hi, getD_set _ _ _ _ (by rw [stepB_length]; exact hpl)]
  by_cases e : i = p
  · subst e
    rw [if_pos rfl]
    refine keepD_congr (allMay_at hm hi) fun v hv2 => ?_
    have e0 : leftOf C ds 0 = listB (ds.getD i nilD).1 (ds.getD i nilD).2 := by unfold leftOf; rw [hp, Int.toNat_natCast]
    rw [hh v (by rw [e0]; exact hv2), varsKp_split hn, hp, Int.toNat_natCast, decide_eq_true rfl]
    have : varsKp (C.vars.drop 1) (fun i x => g (i + 1) x) (C.vars.length - 1) i v = true := by
      rw [varsKp_iff]
      intro k hk e2
      rw [getD_drop1] at e2
      have := varsOk_ne' hv hn (show k + 1 < C.vars.length by omega) (by omega)
      rw [hp, Int.toNat_natCast] at this
      exact absurd e2 this
    rw [this]; simp
  · rw [if_neg e, stepB_getD _ _ hi]
    refine keepD_congr (allMay_at hm hi) fun v hv2 => ?_
    have := hq i hi e v hv2
    rw [List.length_drop] at this
    rw [this, varsKp_split hn, hp, Int.toNat_natCast, decide_eq_false (fun h => e h.symm)]
    simp
end Go.Proofs.YtekcenacpklpgaaDoor

set_option maxHeartbeats 1000000
set_option maxRecDepth 10000
namespace Go.Proofs.YtekcenacpklpgaaDoor
open Go Go.RowKit Pl

theorem listB_len {xs : List Int} {L : Nat} (h : mayB xs L = true) : (listB xs L).length = (elems L).length := by
  rw [show listB xs L = valsOf xs L from if_pos h, valsOf_length]; unfold elemsI; rw [List.length_map]
theorem listB_none {xs : List Int} {L : Nat} (h : mayB xs L = false) : listB xs L = [] := if_neg (by rw [h]; simp)

theorem size1_any (A : Option Addr) (n c L : Nat) (w : World) (hL : L < 2 ^ 64) :
    Calls Tryd.prog 55 #[.agg #[.slice A n c, .int .u64 L]] w fun e w' => e = .returned (.int .i64 ((elems L).length : Nat)) ∧ Kept w w' := by
  have HL := Lib.hid hL
  clear hL
  go_enter Tryd.func55, Tryd.ntmps55
  go_wp2_with (go_at_call 56; refine (count_any L _ HL.out).mono ?_; rintro e w' ⟨rfl, rfl⟩)
  go_ret
  exact ⟨rfl, Kept.box _ _⟩

theorem size_any (A : Option Addr) (n c L : Nat) (xs : List Int) (w : World) (hS : Ints w A n xs) (hL : L < 2 ^ 64) :
    Calls Tryd.prog 27 #[.agg #[.slice A n c, .int .u64 L]] w fun e w' => e = .returned (.int .i64 ((listB xs L).length : Nat)) ∧ Kept w w' := by
  have HS := Lib.hid hS
  have HL := Lib.hid hL
  clear hS hL
  have hmay : Hid (∀ W, Ints W A n xs → Calls Tryd.prog 23 #[.agg #[.slice A n c, .int .u64 L]] W fun e w' => e = .returned (.bool (mayB xs L)) ∧ Kept W w') := fun W hW => may_any A n c L xs W hW HL.out
  obtain ⟨q, hq⟩ : ∃ q, q = (listB xs L).length := ⟨_, rfl⟩
  rw [← hq]
  cases hm : mayB xs L with
  | true =>
    rw [listB_len hm] at hq
    rw [hm] at hmay
    have Hq := Lib.hid hq
    clear hm hq
    go_enter Tryd.func27, Tryd.ntmps27
    go_wp2_with (first
      | (go_at_call 23; refine (hmay.out _ (HS.out.kept ((Kept.box _ _).then (Kept.box _ _)))).mono ?_; rintro e w1 ⟨rfl, hk⟩; have hb1 := hk.cellAt (box2_0 (w.alloc _) (.slice A n c) (.int .u64 L) _); have hb2 := hk.cellAt (box2_1 (w.alloc _) (.slice A n c) (.int .u64 L) _); simp only [World.size_alloc] at hb1 hb2; have Hk := Lib.hid (((Kept.box _ _).then (Kept.box _ _)).then hk); clear hk)
      | (go_at_call 55; refine (size1_any A n c L _ HL.out).mono ?_; rintro e w2 ⟨rfl, hk2⟩; have Hk2 := Lib.hid (Hk.out.then hk2); clear hk2)
      | go_in)
    go_ret
    exact ⟨by rw [Hq.out]; rfl, Hk2.out⟩
  | false =>
    rw [listB_none hm] at hq
    rw [hm] at hmay
    subst hq
    clear hm
    go_enter Tryd.func27, Tryd.ntmps27
    go_wp2_with (first
      | (go_at_call 23; refine (hmay.out _ (HS.out.kept ((Kept.box _ _).then (Kept.box _ _)))).mono ?_; rintro e w1 ⟨rfl, hk⟩; have Hk := Lib.hid (((Kept.box _ _).then (Kept.box _ _)).then hk); clear hk)
      | go_in)
    go_ret
    exact ⟨rfl, Hk.out⟩

theorem at_any (a : Addr) (n c L k : Nat) (xs : List Int) (w : World) (hS : Ints w (some a) n xs) (hk : k < n) :
    Calls Tryd.prog 87 #[.agg #[.slice (some a) n c, .int .u64 L], .int .i64 k] w fun e w' => e = .returned (.tuple #[.int .i64 (xs.getD k 0), .bool true]) ∧ Kept w w' := by
  obtain ⟨x, Hx, hcx, hx1, hx2⟩ := (hS.kept (Kept.box w (.cells #[.slice (some a) n c, .int .u64 L] 47))).named k hk
  obtain ⟨a', ha', hab⟩ := (hS.kept (Kept.box w (.cells #[.slice (some a) n c, .int .u64 L] 47))).addr (by omega)
  cases ha'
  clear hS
  rw [Hx.out]
  go_enter Tryd.func87, Tryd.ntmps87
  go_wp2_with fail
  go_ret2
  exact ⟨rfl, Kept.box _ _⟩
theorem elems_one {L : Nat} (hL : L < 2 ^ 64) (h : (elems L).length = 1) : L ≠ 0 ∧ elems L = [Lib.ctz 64 L] := by
  have h0 : L ≠ 0 := fun e => by rw [e, elems_zero] at h; simp at h
  refine ⟨h0, ?_⟩
  rw [elems_cons h0 hL] at h ⊢
  rw [List.length_cons] at h
  rw [List.eq_nil_of_length_eq_zero (by omega : (elems (L &&& (L - 1))).length = 0)]

end Go.Proofs.YtekcenacpklpgaaDoor

set_option maxHeartbeats 1000000
set_option maxRecDepth 10000
namespace Go.Proofs.YtekcenacpklpgaaDoor
open Go Go.RowKit Go.Maps Pl

/-- Is nothing left of a variable? -/
def emptyB (ds : List DomB) (y : Int) : Bool := decide ((listB (ds.getD y.toNat nilD).1 (ds.getD y.toNat nilD).2).length = 0)
theorem wiped_any (C : ConB) (ds : List DomB) : C.vars.any (emptyB ds) = wipedB C ds C.vars.length := by
  unfold wipedB
  rw [Bool.eq_iff_iff, List.any_eq_true, List.any_eq_true]
  constructor
  · rintro ⟨x, hx, h⟩
    obtain ⟨k, hk, e⟩ := List.getElem_of_mem hx
    refine ⟨k, List.mem_range.2 hk, ?_⟩
    unfold leftOf
    rw [List.getD_eq_getElem?_getD (l := C.vars), List.getElem?_eq_getElem hk]
    subst e
    exact h
  · rintro ⟨k, hk, h⟩
    refine ⟨C.vars.getD k 0, ?_, h⟩
    rw [List.getD_eq_getElem?_getD, List.getElem?_eq_getElem (List.mem_range.1 hk)]
    exact List.getElem_mem _
theorem lin2_any (y : Int) (Bl : Nat) (Al : Option Addr) (nl cl : Nat) (ds : List DomB) (w : World) (hl : w.cell? ⟨Bl, 0, none⟩ = some (.slice Al nl cl)) (hD : Doms w Al nl ds) (h0 : 0 ≤ y) (h1 : y < nl) :
    Calls Tryd.prog 26 #[.int .i64 y, .pointer (some ⟨Bl, 0, none⟩)] w fun e w' => e = .returned (.bool (emptyB ds y)) ∧ Kept w w' := by
  obtain ⟨p, rfl⟩ := Int.eq_ofNat_of_zero_le h0
  have hpn : p < nl := by omega
  obtain ⟨al, rfl, hbl⟩ := hD.addr (by omega)
  obtain ⟨xs, L, B, m, cB, Hd, hc1, hc2, HI, hL⟩ := hD.named p hpn
  have HQ := Lib.hid (size_any B m cB L xs w HI.out hL)
  have He : Hid (emptyB ds (p : Int) = decide ((listB xs L).length = 0)) := by show _ = _; unfold emptyB; rw [Int.toNat_natCast, Hd.out]
  generalize (listB xs L).length = q at *
  have hlB := World.block_lt_of_cell? w _ hl
  clear hD h0 h1
  go_enter Tryd.func26, Tryd.ntmps26
  go_wp2_with fail
  refine HQ.out.mono ?_
  rintro e w1 ⟨rfl, hk⟩
  have Hk := Lib.hid hk
  clear hk
  by_cases hq : q = 0
  · have hd : ((q : Int) == 0) = true := by simp [hq]
    have Hq := Lib.hid hq
    clear hq
    go_wp2_with fail
    go_ret
    exact ⟨ret_bool (by rw [He.out, decide_eq_true Hq.out]), Hk.out⟩
  · have hd : ((q : Int) == 0) = false := by simp; omega
    have Hq := Lib.hid hq
    clear hq
    go_wp2_with fail
    go_ret
    exact ⟨ret_bool (by rw [He.out, decide_eq_false Hq.out]), Hk.out⟩

theorem lany_bad {xs : List Int} {g : Int → Bool} {k : Nat} {x : Int} (hk : k < xs.length) (hx : xs.getD k 0 = x) (h : g x = true) : xs.any g = true := by
  rw [List.any_eq_true]
  refine ⟨x, ?_, h⟩
  rw [← hx, List.getD_eq_getElem?_getD, List.getElem?_eq_getElem hk]
  exact List.getElem_mem _

theorem lints_index_any (A : Option Addr) (n c : Nat) (xs : List Int) (p0 : Value) (g : Int → Bool) (w : World) (hS : Ints w A n xs)
    (hF : ∀ (x : Int) (W : World), x ∈ xs → Kept w W → Calls Tryd.prog 26 #[.int .i64 x, p0] W fun e w' => e = .returned (.bool (g x)) ∧ Kept W w') :
    Calls Tryd.prog 53 #[.slice A n c, .func (.func 26) #[] #[p0]] w fun e w' => ∃ i : Int, e = .returned (.int .i64 i) ∧ (decide (0 ≤ i) = xs.any g) ∧ Kept w w' := by
  have HS := Lib.hid hS
  have hsm := hS.small
  have Hlen := Lib.hid hS.len
  have HF := Lib.hid hF
  clear hS hF
  go_enter Tryd.func53, Tryd.ntmps53
  go_wp2_with fail
  go_loopw [8] (fun v wr => ∃ k : Nat, k ≤ n ∧ v = .int .i64 k ∧ Hid (Kept w wr) ∧ Hid ((xs.take k).any g = false)) (fun v _ => n - (intOf v).toNat)
  case atStart => exact ⟨0, Nat.zero_le _, rfl, Below.refl _ _, rfl⟩
  case round =>
    obtain ⟨k, hk, rfl, Hkw, Hok⟩ := hrel
    by_cases hlt : k < n
    · have hSr := HS.out.kept Hkw.out
      obtain ⟨a, rfl, hblk⟩ := hSr.addr (by omega)
      obtain ⟨x, Hx, hcx, _, _⟩ := hSr.named k hlt
      have hkl : k < xs.length := by have := Hlen.out; omega
      have hmem : x ∈ xs := by
        rw [← Hx.out, List.getD_eq_getElem?_getD, List.getElem?_eq_getElem hkl]
        exact List.getElem_mem _
      have HQ := Lib.hid (HF.out x wr hmem Hkw.out)
      have Hbad : Hid (g x = true → xs.any g = true) := lany_bad hkl Hx.out
      have Hnext : Hid (g x = false → (xs.take (k + 1)).any g = false) := fun h => by
        rw [take_succ_getD hkl Hx.out, List.any_append, Hok.out]
        simp [h]
      clear hSr hmem
      generalize g x = b at HQ Hbad Hnext
      go_wp2_with fail
      refine HQ.out.mono ?_
      rintro e w1 ⟨rfl, hk1⟩
      have Hk1 := Lib.hid (Hkw.out.then hk1)
      clear hk1 HQ
      cases b with
      | false =>
        go_wp2
        go_roundw
        case rel => exact ⟨k + 1, by omega, by go_num, Hk1.out, Hnext.out (by first | rfl | trivial)⟩
        case measure => simp [intOf]; omega
      | true =>
        go_wp2
        go_ret
        refine ⟨k, rfl, ?_, Hk1.out⟩
        rw [Hbad.out (by first | rfl | trivial)]
        simp
    · have e : k = n := by omega
      subst e
      have h2 : xs.any g = false := by have := Hok.out; rwa [List.take_of_length_le (by have := Hlen.out; omega)] at this
      go_wp2
      go_ret
      exact ⟨-1, rfl, by rw [h2]; decide, Hkw.out⟩

theorem lints_contains_any (A : Option Addr) (n c : Nat) (xs : List Int) (p0 : Value) (g : Int → Bool) (w : World) (hS : Ints w A n xs)
    (hF : ∀ (x : Int) (W : World), x ∈ xs → Kept w W → Calls Tryd.prog 26 #[.int .i64 x, p0] W fun e w' => e = .returned (.bool (g x)) ∧ Kept W w') :
    Calls Tryd.prog 25 #[.slice A n c, .func (.func 26) #[] #[p0]] w fun e w' => e = .returned (.bool (xs.any g)) ∧ Kept w w' := by
  have HS := Lib.hid hS
  have HF := Lib.hid hF
  clear hS hF
  go_enter Tryd.func25, Tryd.ntmps25
  go_wp2_with fail
  refine (lints_index_any A n c xs p0 g _ HS.out HF.out).mono ?_
  rintro e w1 ⟨i, rfl, hi, hk⟩
  have Hi := Lib.hid hi
  clear hi
  go_wp2
  go_ret
  exact ⟨ret_bool Hi.out, hk⟩

end Go.Proofs.YtekcenacpklpgaaDoor

set_option maxHeartbeats 1000000
set_option maxRecDepth 10000
namespace Go.Proofs.YtekcenacpklpgaaDoor
open Go Go.RowKit Pl

theorem bitLenAux_spec : ∀ (f x : Nat), x < 2 ^ f → x ≠ 0 → ∃ k, Lib.bitLenAux f x = k + 1 ∧ x.testBit k = true ∧ x < 2 ^ (k + 1) := by
  intro f
  induction f with
  | zero => intro x h h0; simp at h; omega
  | succ f ih =>
    intro x h h0
    simp only [Lib.bitLenAux]
    by_cases h1 : x / 2 = 0
    · have : x = 1 := by omega
      subst this
      refine ⟨0, ?_, by decide, by decide⟩
      have e : Lib.bitLenAux f (1 / 2) = 0 := by
        cases f with
        | zero => rfl
        | succ f => simp [Lib.bitLenAux]
      rw [if_neg (by decide), e]
    · obtain ⟨k, hk, hb, hl⟩ := ih (x / 2) (by rw [Nat.pow_succ] at h; omega) h1
      refine ⟨k + 1, ?_, ?_, ?_⟩
      · rw [if_neg h0, hk]; omega
      · rw [Nat.testBit_succ]; exact hb
      · rw [Nat.pow_succ]; omega
theorem bitLen_spec {b : Nat} (hb : b < 2 ^ 64) (h0 : b ≠ 0) : ∃ k, Lib.bitLen b = k + 1 ∧ b.testBit k = true ∧ b < 2 ^ (k + 1) := bitLenAux_spec 64 b hb h0

theorem elems_first {L : Nat} (hL : L < 2 ^ 64) (h0 : L ≠ 0) : (elems L).getD 0 0 = Lib.ctz 64 L := by rw [elems_cons h0 hL]; rfl
theorem elems_last {L k : Nat} (hb : L.testBit k = true) (hl : L < 2 ^ (k + 1)) (hk : k < 64) : (elems L).getD ((elems L).length - 1) 0 = k ∧ 0 < (elems L).length := by
  have e : elems L = upto L k ++ [k] := by
    rw [elems_of_lt hl (by omega), upto_succ, hb]; rfl
  rw [e]
  simp [List.getD_eq_getElem?_getD]
theorem listB_getD {xs : List Int} {L j : Nat} (hm : mayB xs L = true) (hj : j < (elems L).length) : (listB xs L).getD j 0 = xs.getD ((elems L).getD j 0) 0 := by
  rw [show listB xs L = valsOf xs L from if_pos hm]
  unfold valsOf elemsI
  rw [List.map_map, List.getD_eq_getElem?_getD, List.getElem?_map, List.getElem?_eq_getElem hj, List.getD_eq_getElem?_getD (l := elems L), List.getElem?_eq_getElem hj]
  simp
theorem live_pos {xs : List Int} {L : Nat} (hm : mayB xs L = true) (h : 0 < (listB xs L).length) : L ≠ 0 := by
  intro e
  rw [listB_len hm, e, elems_zero] at h
  simp at h

theorem least_dom (a : Addr) (n c L : Nat) (xs : List Int) (w : World) (hS : Ints w (some a) n xs) (hL : L < 2 ^ 64) (hT : Tab w) (hm : mayB xs L = true) (h0 : 0 < (listB xs L).length) :
    Calls Tryd.prog 75 #[.agg #[.slice (some a) n c, .int .u64 L]] w fun e w' => e = .returned (.tuple #[.int .i64 ((listB xs L).getD 0 0), .bool true]) ∧ Kept w w' := by
  have hLn := live_pos hm h0
  have hlo : lo L = (Lib.ctz 64 L : Nat) := if_neg hLn
  have hk : Lib.ctz 64 L < n := by
    have h2 := (ctz_testBit hLn hL).2.1
    have h3 := mayB_lt hm
    rw [hS.len] at h3
    refine Nat.lt_of_not_le fun hle => ?_
    rw [Nat.testBit_lt_two_pow (Nat.lt_of_lt_of_le h3 (Nat.pow_le_pow_right (by omega) hle))] at h2
    cases h2
  have hv : (listB xs L).getD 0 0 = xs.getD (Lib.ctz 64 L) 0 := by
    rw [listB_getD hm (by rw [listB_len hm] at h0; exact h0), elems_first hL hLn]
  rw [hv]
  have HW := Lib.hid hS
  have HTW := Lib.hid hT
  have hmay : Hid (∀ W, Ints W (some a) n xs → Calls Tryd.prog 23 #[.agg #[.slice (some a) n c, .int .u64 L]] W fun e w' => e = .returned (.bool true) ∧ Kept W w') := fun W hW => by
    have := may_any (some a) n c L xs W hW hL
    rwa [hm] at this
  have HQL : Hid (∀ W, Tab W → Calls Tryd.prog 88 #[.int .u64 L] W fun e w' => e = .returned (.int .i64 (Lib.ctz 64 L : Nat)) ∧ Kept W w') := fun W hW => by rw [← hlo]; exact (least_any L W hL hW).mono fun _ _ ⟨h1, h2⟩ => ⟨h1, h2 ▸ Kept.same _⟩
  clear hS hT hv hm h0 hLn hlo
  generalize Lib.ctz 64 L = k at *
  have HA : Hid (∀ W, Ints W (some a) n xs → Calls Tryd.prog 87 #[.agg #[.slice (some a) n c, .int .u64 L], .int .i64 k] W fun e w' => e = .returned (.tuple #[.int .i64 (xs.getD k 0), .bool true]) ∧ Kept W w') := fun W hW => at_any a n c L k xs W hW hk
  generalize xs.getD k 0 = x at *
  go_enter Tryd.func75, Tryd.ntmps75
  go_wp2_with (first
    | (go_at_call 23; refine (hmay.out _ (HW.out.kept (Kept.box _ _))).mono ?_; rintro e w1 ⟨rfl, hk⟩; have hb1 := hk.cellAt (box2_0 w (.slice (some a) n c) (.int .u64 L) _); have hb2 := hk.cellAt (box2_1 w (.slice (some a) n c) (.int .u64 L) _); have Hk := Lib.hid ((Kept.box _ _).then hk); clear hk))
  go_region_held3 (fun V => V.cell? ⟨w.heap.size, 0, Option.none⟩ = some (.slice (some a) n c) ∧ V.cell? ⟨w.heap.size, 1, Option.none⟩ = some (.int .u64 L)) (first | go_keep | exact ⟨((Kept.drewn _).then hk4).cellAt hb1, ((Kept.drewn _).then hk4).cellAt hb2⟩ | exact ⟨(((Kept.drewn _).then hk4).then hk5).cellAt hb1, (((Kept.drewn _).then hk4).then hk5).cellAt hb2⟩)
      (first
      | (go_at_call 88; refine (HQL.out _ ((HTW.out.kept Hk.out).kept (Kept.drewn _))).mono ?_; rintro e W4 ⟨rfl, hk4⟩)
      | (go_at_call 87; refine (HA.out _ ((HW.out.kept Hk.out).kept ((Kept.drewn _).then hk4))).mono ?_; rintro e W5 ⟨rfl, hk5⟩))
  have Hk2 := Lib.hid (Hk.out.then (((Kept.drewn _).then hk4).then hk5))
  clear hk4 hk5
  go_wp2_with fail
  go_ret2
  exact ⟨rfl, Hk2.out⟩

theorem greatest_dom (a : Addr) (n c L : Nat) (xs : List Int) (w : World) (hS : Ints w (some a) n xs) (hL : L < 2 ^ 64) (hm : mayB xs L = true) (h0 : 0 < (listB xs L).length) :
    Calls Tryd.prog 76 #[.agg #[.slice (some a) n c, .int .u64 L]] w fun e w' => e = .returned (.tuple #[.int .i64 ((listB xs L).getD ((listB xs L).length - 1) 0), .bool true]) ∧ Kept w w' := by
  have hLn := live_pos hm h0
  obtain ⟨k, hkk, hb, hl⟩ := bitLen_spec hL hLn
  have hk : k < n := by
    have h3 := mayB_lt hm
    rw [hS.len] at h3
    refine Nat.lt_of_not_le fun hle => ?_
    rw [Nat.testBit_lt_two_pow (Nat.lt_of_lt_of_le h3 (Nat.pow_le_pow_right (by omega) hle))] at hb
    cases hb
  have hk64 : k < 64 := by have := mayB_len hm; have := hS.len; omega
  have hv : (listB xs L).getD ((listB xs L).length - 1) 0 = xs.getD k 0 := by
    obtain ⟨h1, h2⟩ := elems_last hb hl hk64
    rw [listB_len hm, listB_getD hm (by omega), h1]
  rw [hv]
  have HW := Lib.hid hS
  have hmay : Hid (∀ W, Ints W (some a) n xs → Calls Tryd.prog 23 #[.agg #[.slice (some a) n c, .int .u64 L]] W fun e w' => e = .returned (.bool true) ∧ Kept W w') := fun W hW => by
    have := may_any (some a) n c L xs W hW hL
    rwa [hm] at this
  have HQL : Hid (∀ W, Calls Tryd.prog 89 #[.int .u64 L] W fun e w' => e = .returned (.int .i64 (k : Nat)) ∧ Kept W w') := fun W => (greatest_any L W hL).mono fun _ _ ⟨h1, h2⟩ => ⟨by rw [h1, hkk]; simp, h2 ▸ Kept.same _⟩
  clear hS hv hm h0 hLn hkk hb hl
  have HA : Hid (∀ W, Ints W (some a) n xs → Calls Tryd.prog 87 #[.agg #[.slice (some a) n c, .int .u64 L], .int .i64 k] W fun e w' => e = .returned (.tuple #[.int .i64 (xs.getD k 0), .bool true]) ∧ Kept W w') := fun W hW => at_any a n c L k xs W hW hk
  generalize xs.getD k 0 = x at *
  go_enter Tryd.func76, Tryd.ntmps76
  go_wp2_with (first
    | (go_at_call 23; refine (hmay.out _ (HW.out.kept (Kept.box _ _))).mono ?_; rintro e w1 ⟨rfl, hk⟩; have hb1 := hk.cellAt (box2_0 w (.slice (some a) n c) (.int .u64 L) _); have hb2 := hk.cellAt (box2_1 w (.slice (some a) n c) (.int .u64 L) _); have Hk := Lib.hid ((Kept.box _ _).then hk); clear hk))
  go_region_held3 (fun V => V.cell? ⟨w.heap.size, 0, Option.none⟩ = some (.slice (some a) n c) ∧ V.cell? ⟨w.heap.size, 1, Option.none⟩ = some (.int .u64 L)) (first | go_keep | exact ⟨((Kept.drewn _).then hk4).cellAt hb1, ((Kept.drewn _).then hk4).cellAt hb2⟩ | exact ⟨(((Kept.drewn _).then hk4).then hk5).cellAt hb1, (((Kept.drewn _).then hk4).then hk5).cellAt hb2⟩)
      (first
      | (go_at_call 89; refine (HQL.out _).mono ?_; rintro e W4 ⟨rfl, hk4⟩)
      | (go_at_call 87; refine (HA.out _ ((HW.out.kept Hk.out).kept ((Kept.drewn _).then hk4))).mono ?_; rintro e W5 ⟨rfl, hk5⟩))
  have Hk2 := Lib.hid (Hk.out.then (((Kept.drewn _).then hk4).then hk5))
  clear hk4 hk5
  go_wp2_with fail
  go_ret2
  exact ⟨rfl, Hk2.out⟩
end Go.Proofs.YtekcenacpklpgaaDoor

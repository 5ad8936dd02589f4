/-
  Contracts and plain laws that the card rests on, part 2.
-/
import Derived.Test.YtjmegicopdbkdaaDoorRows
import Derived.Test.YtjmegicopdbkdaaDoorL1
import Derived.ProofKit
import Derived.LaidMore
import Derived.OpenShut
import Derived.Stop.Joined
import Derived.RangeFuncBox
import Derived.RangeFuncLeaves
import Derived.RangeFuncCalls
import Derived.RangeFuncWrites
import Derived.RangeFuncNested
import Derived.RangeFuncBound
import Derived.Shelf.Abstract
import Derived.Shelf.RegionOpen
import Derived.OwnWalkIn
import Derived.TacticsInMore
import Derived.LoopNIn
import Derived.LoopIn
import Derived.Deep.AppendLies
import Derived.Maps.AppendAt
namespace Go.Proofs.YtjmegicopdbkdaaDoor
open Go Go.ChangeShapes Go.WideShapes Go.ChangeAt Go.RowKit

abbrev laidL : List (String × DataW Unit) := [("math/bits.deBruijn64tab", Rows.laid_math_bits_deBruijn64tab)]
set_option maxRecDepth 100000 in
theorem door_met (os : Os) (args : Array Value) : laidMetH Tryd.prog laidL ((World.doorLaid Tryd.prog 400 os).forCall (fun _ _ => 0) ⟨#[], args, []⟩).memory :=
  laidMetH_of_parts3 (fuel := 8) (laidMet_of_run' 8 (by kernel_rfl) (by kernel_rfl)) (by kernel_rfl) (by kernel_rfl)
theorem laid_list : (Rows.laid_math_bits_deBruijn64tab : DataW Unit) = .agg (Lib.deBruijn64tab.map fun (n : Nat) => .lit (.int .u8 (n : Int))) := rfl
theorem tab_len : Lib.deBruijn64tab.length = 64 := rfl
set_option maxRecDepth 100000 in
theorem tab_of_laid {W : World} (h : laidMetH Tryd.prog laidL W) : Tab W := by
  rw [MakeChecks.laidMetH_plain _ _ _ (by kernel_rfl)] at h
  obtain ⟨ps, ⟨g, t, cs, fuel, p, q, hg, ht, hv, hd, _, _⟩, _, _⟩ := h
  obtain rfl := Option.some.inj ((show Tryd.prog.globalNamed "math/bits.deBruijn64tab" = some 0 by kernel_rfl).symm.trans hg)
  obtain rfl := Option.some.inj ((show (Tryd.prog.globals[0]?).map (·.type) = some 108 by kernel_rfl).symm.trans ht)
  have cu : Tryd.prog.cellsOf 5 = 1 := by kernel_rfl
  have ca : Tryd.prog.cellsOf 108 = 64 := by kernel_rfl
  obtain ⟨xs, m, _, ex, hlen, hl, hel⟩ := DataW.trod_array Tryd.underlying108 hd
  rw [ca] at hlen
  rw [laid_list] at ex
  have e3 := DataW.agg.inj (Prod.mk.inj ex).1
  intro j hj
  rw [tab_len] at hj
  have k := hel j hj
  rw [cu] at k
  have hx : xs[j]? = some xs[j] := List.getElem?_eq_getElem (by omega)
  rw [hx] at k
  obtain ⟨z, a, b, _⟩ := DataW.trod_int Tryd.underlying5 k
  have ej : (xs.map (·.1))[j]? = (Lib.deBruijn64tab.map fun (n : Nat) => (DataW.lit (.int .u8 (n : Int)) : DataW Unit))[j]? := by rw [e3]
  rw [List.getElem?_map, List.getElem?_map, hx, List.getElem?_eq_getElem (by rw [tab_len]; exact hj)] at ej
  simp only [Option.map_some, Option.some.injEq] at ej
  rw [b] at ej
  have ez : z = ((Lib.deBruijn64tab[j]'(by rw [tab_len]; exact hj) : Nat) : Int) := by simpa using ej
  rw [World.var?_cell (show Tryd.prog.globalNamed "math/bits.deBruijn64tab" = some 0 by kernel_rfl) hv j]
  have hc : cs[j]? = some (.int .u8 z) := by
    have h1 : (cs.toList.drop (j * 1)).take 1 = [.int .u8 z] := a
    rw [Nat.mul_one] at h1
    have h2 : (cs.toList.drop j)[0]? = some (.int .u8 z) := by
      have := congrArg (fun l => l[0]?) h1
      simpa [List.getElem?_take] using this
    rw [List.getElem?_drop] at h2
    simpa using h2
  rw [hc, ez]
  rw [List.getD_eq_getElem?_getD, List.getElem?_eq_getElem (by rw [tab_len]; exact hj)]
  rfl
end Go.Proofs.YtjmegicopdbkdaaDoor

namespace Go.Proofs.YtjmegicopdbkdaaDoor
namespace Pl

/-- A domain: its values, and which are left. -/
abbrev DomB := List Int × Nat

/-- What is left of a domain: those places for whose values f says yes. -/
@[irreducible] def keepL (f : Int → Bool) (d : DomB) : Nat := mkSet (fun k => d.2.testBit k && f (d.1.getD k 0)) 64
def keepD (f : Int → Bool) (d : DomB) : DomB := (d.1, keepL f d)
theorem keepD_fst (f : Int → Bool) (d : DomB) : (keepD f d).1 = d.1 := rfl
theorem keepD_lt (f : Int → Bool) (d : DomB) : (keepD f d).2 < 2 ^ 64 := by
  show keepL f d < _
  unfold keepL; exact mkSet_lt _ _
theorem testBit_keepD (f : Int → Bool) (d : DomB) (k : Nat) : (keepD f d).2.testBit k = (decide (k < 64) && (d.2.testBit k && f (d.1.getD k 0))) := by
  show (keepL f d).testBit k = _
  unfold keepL; exact testBit_mkSet _ _ _

theorem mayB_iff {d : DomB} : mayB d.1 d.2 = true ↔ d.1.length ≤ 64 ∧ d.2 < 2 ^ d.1.length ∧ okUpto d.1 d.1.length = true := by
  simp [mayB, and_assoc]

theorem may_bit {d : DomB} (h : mayB d.1 d.2 = true) {k : Nat} (hk : d.2.testBit k = true) : k < d.1.length ∧ k < 64 := by
  have h1 := mayB_lt h
  have h2 := mayB_len h
  by_cases hlt : k < d.1.length
  · exact ⟨hlt, by omega⟩
  · have h3 : 2 ^ d.1.length ≤ 2 ^ k := Nat.pow_le_pow_right (by decide) (by omega)
    rw [Nat.testBit_lt_two_pow (by omega)] at hk
    simp at hk

theorem keepD_may {f : Int → Bool} {d : DomB} (h : mayB d.1 d.2 = true) : mayB (keepD f d).1 (keepD f d).2 = true := by
  rw [mayB_iff] at *
  refine ⟨h.1, lt_of_testBit fun k hk => ?_, h.2.2⟩
  rw [testBit_keepD]
  have h3 : 2 ^ d.1.length ≤ 2 ^ k := Nat.pow_le_pow_right (by decide) hk
  rw [Nat.testBit_lt_two_pow (by have := h.2.1; omega)]
  simp

theorem mem_listB {d : DomB} {v : Int} : v ∈ listB d.1 d.2 ↔ mayB d.1 d.2 = true ∧ ∃ k, k < d.1.length ∧ d.2.testBit k = true ∧ d.1.getD k 0 = v := by
  unfold listB
  split
  · rename_i h
    unfold valsOf
    rw [List.mem_map]
    constructor
    · rintro ⟨x, hx, rfl⟩
      obtain ⟨k, rfl, _, hk⟩ := mem_elemsI.1 hx
      exact ⟨h, k, (may_bit h hk).1, hk, rfl⟩
    · rintro ⟨_, k, hk, hb, rfl⟩
      exact ⟨k, mem_elemsI.2 ⟨k, rfl, (may_bit h hb).2, hb⟩, rfl⟩
  · rename_i h
    simp [h]

theorem bit_mem {d : DomB} (h : mayB d.1 d.2 = true) {k : Nat} (hk : d.2.testBit k = true) : d.1.getD k 0 ∈ listB d.1 d.2 :=
  mem_listB.2 ⟨h, k, (may_bit h hk).1, hk, rfl⟩

theorem mem_keepD {f : Int → Bool} {d : DomB} (h : mayB d.1 d.2 = true) {v : Int} : v ∈ listB (keepD f d).1 (keepD f d).2 ↔ v ∈ listB d.1 d.2 ∧ f v = true := by
  rw [mem_listB, mem_listB]
  constructor
  · rintro ⟨_, k, hk, hb, rfl⟩
    rw [testBit_keepD] at hb
    simp only [Bool.and_eq_true] at hb
    exact ⟨⟨h, k, hk, hb.2.1, rfl⟩, hb.2.2⟩
  · rintro ⟨⟨_, k, hk, hb, rfl⟩, hf⟩
    refine ⟨keepD_may h, k, hk, ?_, rfl⟩
    rw [testBit_keepD]
    have := (may_bit h hb).2
    rw [hb, hf]; simp [this]

/-- What counts is what f says of the values that are left. -/
theorem keepD_congr {f g : Int → Bool} {d : DomB} (h : mayB d.1 d.2 = true) (hfg : ∀ v ∈ listB d.1 d.2, f v = g v) : keepD f d = keepD g d := by
  refine Prod.ext rfl ?_
  show keepL f d = keepL g d
  unfold keepL
  apply mkSet_congr
  intro k _
  cases hb : d.2.testBit k with
  | false => rfl
  | true => rw [Bool.true_and, Bool.true_and]; exact hfg _ (bit_mem h hb)
theorem keepD_all {f : Int → Bool} {d : DomB} (h : mayB d.1 d.2 = true) (hf : ∀ v ∈ listB d.1 d.2, f v = true) : keepD f d = d := by
  have hl : d.2 < 2 ^ 64 := Nat.lt_of_lt_of_le (mayB_lt h) (Nat.pow_le_pow_right (by decide) (mayB_len h))
  have : keepD f d = keepD (fun _ => true) d := keepD_congr h hf
  rw [this]
  refine Prod.ext rfl ?_
  show keepL _ d = d.2
  unfold keepL
  simp only [Bool.and_true]
  have e : (fun k => d.2.testBit k) = d.2.testBit := rfl
  rw [e, mkSet_testBit hl]
theorem keepD_keepD (f g : Int → Bool) (d : DomB) : keepD f (keepD g d) = keepD (fun x => g x && f x) d := by
  refine Prod.ext rfl ?_
  show keepL f (d.1, keepL g d) = keepL _ d
  unfold keepL
  apply mkSet_congr
  intro k hk
  rw [testBit_mkSet]
  simp [hk, Bool.and_assoc]

/-- The list of domains, of each of which some is kept. -/
def stepB (kp : Nat → Int → Bool) (ds : List DomB) : List DomB := (List.range ds.length).map fun i => keepD (kp i) (ds.getD i ([], 0))
theorem stepB_length (kp : Nat → Int → Bool) (ds : List DomB) : (stepB kp ds).length = ds.length := by simp [stepB]
theorem stepB_getD (kp : Nat → Int → Bool) (ds : List DomB) {i : Nat} (hi : i < ds.length) : (stepB kp ds).getD i ([], 0) = keepD (kp i) (ds.getD i ([], 0)) := by
  unfold stepB
  rw [List.getD_eq_getElem?_getD, List.getElem?_map, List.getElem?_range hi]
  rfl

/-- May each domain be? -/
def allMay (ds : List DomB) : Bool := ds.all fun d => mayB d.1 d.2
theorem allMay_at {ds : List DomB} (h : allMay ds = true) {i : Nat} (hi : i < ds.length) : mayB (ds.getD i ([], 0)).1 (ds.getD i ([], 0)).2 = true := by
  unfold allMay at h
  rw [List.all_eq_true] at h
  have : ds.getD i ([], 0) ∈ ds := by
    rw [List.getD_eq_getElem?_getD, List.getElem?_eq_getElem hi]
    exact List.getElem_mem hi
  exact h _ this

theorem ext_getD {us bs : List DomB} (hl : us.length = bs.length) (h : ∀ i, i < us.length → us.getD i ([], 0) = bs.getD i ([], 0)) : us = bs := by
  apply List.ext_getElem hl
  intro i h1 h2
  have := h i h1
  rw [List.getD_eq_getElem?_getD, List.getD_eq_getElem?_getD, List.getElem?_eq_getElem h1, List.getElem?_eq_getElem h2] at this
  simpa using this

/-- One domain of the list turned. -/
theorem getD_set (ds : List DomB) (p i : Nat) (d : DomB) (hp : p < ds.length) : (ds.set p d).getD i ([], 0) = if i = p then d else ds.getD i ([], 0) := by
  simp only [List.getD_eq_getElem?_getD, List.getElem?_set]
  by_cases h : p = i
  · subst h; simp [hp]
  · have : ¬ i = p := fun e => h e.symm
    simp [h, this]

/-- The list of what is left, turned into what is kept. -/
theorem stepB_congr {kp kq : Nat → Int → Bool} {ds : List DomB} (h : allMay ds = true) (hk : ∀ i, i < ds.length → ∀ v ∈ listB (ds.getD i ([], 0)).1 (ds.getD i ([], 0)).2, kp i v = kq i v) : stepB kp ds = stepB kq ds := by
  unfold stepB
  apply List.map_congr_left
  intro i hi
  have hi := List.mem_range.1 hi
  exact keepD_congr (allMay_at h hi) (hk i hi)

end Pl
end Go.Proofs.YtjmegicopdbkdaaDoor

namespace Go.Proofs.YtjmegicopdbkdaaDoor
namespace Pl

structure ConB where
  kind : Int
  vars : List Int
  coefs : List Int
  rel : Int
  const : Int
  nums : List Int

/-- Are all numbers from -m to m? -/
def withinB (l : List Int) (m : Int) : Bool := l.all fun x => decide (-m ≤ x) && decide (x ≤ m)
theorem within_take {l : List Int} {k : Nat} {x m : Int} (hk : k < l.length) (hx : l.getD k 0 = x) (h : withinB (l.take k) m = true) : withinB (l.take (k + 1)) m = (decide (-m ≤ x) && decide (x ≤ m)) := by
  have e : l.take (k + 1) = l.take k ++ [x] := by
    rw [List.take_succ_eq_append_getElem hk]
    rw [List.getD_eq_getElem?_getD, List.getElem?_eq_getElem hk] at hx
    simp only [Option.getD_some] at hx
    rw [hx]
  rw [e]
  unfold withinB at *
  rw [List.all_append, h]
  simp
theorem within_bad {l : List Int} {k : Nat} {m : Int} (h : withinB (l.take k) m = false) : withinB l m = false := by
  cases e : withinB l m with
  | false => rfl
  | true =>
    unfold withinB at *
    rw [List.all_eq_true] at e
    have : (l.take k).all (fun x => decide (-m ≤ x) && decide (x ≤ m)) = true := List.all_eq_true.2 fun d hd => e d (List.mem_of_mem_take hd)
    rw [h] at this
    cases this
theorem withinB_mem {l : List Int} {m x : Int} (h : withinB l m = true) (hx : x ∈ l) : -m ≤ x ∧ x ≤ m := by
  unfold withinB at h
  rw [List.all_eq_true] at h
  simpa using h x hx

/-- Is the variable at a place right, behind those ahead of it? -/
def vOk (vs : List Int) (V : Int) (i : Nat) : Bool := decide (0 ≤ vs.getD i 0) && decide (vs.getD i 0 < V) && !((vs.take i).contains (vs.getD i 0))
def vUpto (vs : List Int) (V : Int) (k : Nat) : Bool := (List.range k).all (vOk vs V)
def varsOk (vs : List Int) (V : Int) : Bool := vUpto vs V vs.length
theorem vUpto_zero (vs : List Int) (V : Int) : vUpto vs V 0 = true := rfl
theorem vUpto_succ (vs : List Int) (V : Int) (k : Nat) : vUpto vs V (k + 1) = (vUpto vs V k && vOk vs V k) := by
  unfold vUpto
  rw [List.range_succ, List.all_append]
  simp
theorem vUpto_bad {vs : List Int} {V : Int} {m n : Nat} (h : vOk vs V m = false) (hm : m < n) : vUpto vs V n = false := by
  cases e : vUpto vs V n with
  | false => rfl
  | true =>
    unfold vUpto at e
    rw [List.all_eq_true] at e
    have := e m (List.mem_range.2 hm)
    rw [h] at this
    cases this
theorem vUpto_at {vs : List Int} {V : Int} {n k : Nat} (h : vUpto vs V n = true) (hk : k < n) : vOk vs V k = true := by
  unfold vUpto at h
  rw [List.all_eq_true] at h
  exact h k (List.mem_range.2 hk)
theorem vOk_named {vs : List Int} {V x : Int} {i : Nat} (hx : vs.getD i 0 = x) : vOk vs V i = (decide (0 ≤ x) && decide (x < V) && !((vs.take i).contains x)) := by
  unfold vOk; rw [hx]
theorem varsOk_rng {vs : List Int} {V : Int} (h : varsOk vs V = true) {i : Nat} (hi : i < vs.length) : 0 ≤ vs.getD i 0 ∧ vs.getD i 0 < V := by
  have := vUpto_at h hi
  unfold vOk at this
  simp only [Bool.and_eq_true, decide_eq_true_eq] at this
  exact this.1
theorem varsOk_ne {vs : List Int} {V : Int} (h : varsOk vs V = true) {i k : Nat} (hi : i < vs.length) (hk : k < i) : vs.getD k 0 ≠ vs.getD i 0 := by
  have := vUpto_at h hi
  unfold vOk at this
  simp only [Bool.and_eq_true, Bool.not_eq_true', List.contains_eq_mem, decide_eq_false_iff_not] at this
  intro e
  apply this.2
  rw [← e]
  rw [List.getD_eq_getElem?_getD, List.getElem?_eq_getElem (by omega)]
  simp only [Option.getD_some]
  exact List.mem_take_iff_getElem.2 ⟨k, by omega, rfl⟩

/-- There is no sum, and there are from so many to so many numbers. -/
def bareB (C : ConB) (least most : Int) : Bool :=
  decide (C.coefs.length = 0) && decide (C.rel = 0) && decide (C.const = 0) && decide (least ≤ C.nums.length) && decide ((C.nums.length : Int) ≤ most) && withinB C.nums 1048576
def variablesB (C : ConB) (V least most : Int) : Bool := decide (least ≤ C.vars.length) && decide ((C.vars.length : Int) ≤ most) && varsOk C.vars V
def elemB (C : ConB) (V : Int) : Bool := variablesB C V 2 2 && bareB C 1 96
def tabB (C : ConB) (V : Int) : Bool := variablesB C V 1 8 && bareB C 0 96 && decide ((C.nums.length : Int) % C.vars.length = 0)

end Pl
end Go.Proofs.YtjmegicopdbkdaaDoor

set_option maxHeartbeats 1000000
set_option maxRecDepth 10000
namespace Go.Proofs.YtjmegicopdbkdaaDoor
open Go Go.RowKit Pl

theorem box2_0 (w : World) (v0 v1 : Value) (t : TypeId) : (w.alloc (.cells #[v0, v1] t)).cell? ⟨w.heap.size, 0, none⟩ = some v0 := by simp [go_sem]
theorem box2_1 (w : World) (v0 v1 : Value) (t : TypeId) : (w.alloc (.cells #[v0, v1] t)).cell? ⟨w.heap.size, 1, none⟩ = some v1 := by simp [go_sem]

theorem may_bad {xs : List Int} {L k n : Nat} (hlen : xs.length = n) (hk : k < n) (h : okAt xs k = false) : false = mayB xs L := by
  simp [mayB, hlen, okUpto_bad h hk]
theorem okAt_named {xs : List Int} {k : Nat} {x y : Int} (hx : xs.getD k 0 = x) (hy : xs.getD (k - 1) 0 = y) :
    okAt xs k = (decide (-1048576 ≤ x) && decide (x ≤ 1048576) && (decide (k = 0) || decide (y < x))) := by
  unfold okAt; rw [hx, hy]

theorem may_any (A : Option Addr) (n c : Nat) (L : Nat) (xs : List Int) (w : World) (hS : Ints w A n xs) (hL : L < 2 ^ 64) :
    Calls Tryd.prog 28 #[.agg #[.slice A n c, .int .u64 L]] w fun e w' => e = .returned (.bool (mayB xs L)) ∧ Kept w w' := by
  have Hlen := Lib.hid hS.len
  have hsm := hS.small
  by_cases hn : n ≤ 64
  · have hd : decide ((64 : Int) < n) = false := by simp; omega
    by_cases hLn : L < 2 ^ n
    · have hb : (bits BinOp.andNot IntKind.u64 (L : Int) ((fst n : Nat) : Int) != 0) = false := by rw [andNot_ne hL hn]; simp [hLn]
      have HL := Lib.hid hLn
      clear hLn
      go_enter Tryd.func28, Tryd.ntmps28
      go_wp2
      refine wp_region_quiet_below (by kernel_rfl) (by kernel_rfl) ?_
      repeat (any_goals (first | go_big_quiet_step (((go_at_call 59; exact Calls.regrown_of (first_any _ _)))) | quiet_step (((go_at_call 59; exact Calls.regrown_of (first_any _ _)))) | (refine wpQuiet_step (fun K hK => ?_); go_simp; split <;> (refine hK _ ?_; clear hK K))))
      all_goals (refine wpQuiet_nil ?_; intro w1 hw'; replace hw' := Kept.regrown hw')
      have hb0 := hw'.cellAt (box2_0 w (.slice A n c) (.int .u64 L) _)
      have Hw1 := Lib.hid hw'
      have Hk := Lib.hid ((Kept.newBlock (Below.refl _ _) _).then hw')
      clear hw'
      go_wp2
      go_loopw [22] (fun v wr => ∃ k : Nat, k ≤ n ∧ v = .int .i64 k ∧ Kept w1 wr ∧ Hid (okUpto xs k = true)) (fun v _ => n - (intOf v).toNat)
      case atStart => exact ⟨0, Nat.zero_le _, rfl, Below.refl _ _, rfl⟩
      case round =>
        obtain ⟨k, hk, rfl, hkw, hok⟩ := hrel
        by_cases hlt : k < n
        · have hSr := hS.kept (Hk.out.then hkw)
          clear hb0
          have hb0 := (Hw1.out.then hkw).cellAt (box2_0 w (.slice A n c) (.int .u64 L) _)
          obtain ⟨a, rfl, hblk⟩ := hSr.addr (by omega)
          obtain ⟨x, Hx, hck, _⟩ := hSr.named k hlt
          obtain ⟨y, Hy, hck1, _⟩ := hSr.named (k - 1) (by omega)
          have Hkw := Lib.hid hkw
          clear hkw hS hSr
          go_wp2
          all_goals first
            | (go_ret; exact ⟨ret_bool (may_bad Hlen.out hlt (by rw [okAt_named Hx.out Hy.out]; simp; omega)), Hk.out.then Hkw.out⟩)
            | (go_roundw
               case rel => (repeat apply Exists.intro); exact ⟨⟨k + 1, by omega, by go_num, Hkw.out, by show okUpto xs (k + 1) = true; rw [okUpto_succ, hok.out, okAt_named Hx.out Hy.out]; simp; omega⟩, rfl⟩
               case measure => simp [intOf]; omega)
        · go_wp2
          go_ret
          refine ⟨ret_bool ?_, Hk.out.then hkw⟩
          have e : k = n := by omega
          rw [e] at hok
          simp [mayB, Hlen.out, hok.out, HL.out]
          omega
    · have hb : (bits BinOp.andNot IntKind.u64 (L : Int) ((fst n : Nat) : Int) != 0) = true := by rw [andNot_ne hL hn]; simp [hLn]
      go_enter Tryd.func28, Tryd.ntmps28
      go_wp2
      refine wp_region_quiet_below (by kernel_rfl) (by kernel_rfl) ?_
      repeat (any_goals (first | go_big_quiet_step (((go_at_call 59; exact Calls.regrown_of (first_any _ _)))) | quiet_step (((go_at_call 59; exact Calls.regrown_of (first_any _ _)))) | (refine wpQuiet_step (fun K hK => ?_); go_simp; split <;> (refine hK _ ?_; clear hK K))))
      all_goals (refine wpQuiet_nil ?_; intro w1 hw'; replace hw' := Kept.regrown hw')
      have Hk := Lib.hid ((Kept.newBlock (Below.refl _ _) _).then hw')
      clear hw'
      go_wp2
      go_ret
      exact ⟨ret_bool (by simp [mayB, Hlen.out, hLn]), Hk.out⟩
  · have hd : decide ((64 : Int) < n) = true := by simp; omega
    go_enter Tryd.func28, Tryd.ntmps28
    go_wp2
    refine wp_region_quiet_below (by kernel_rfl) (by kernel_rfl) ?_
    repeat (any_goals (first | go_big_quiet_step ((fail)) | quiet_step ((fail)) | (refine wpQuiet_step (fun K hK => ?_); go_simp; split <;> (refine hK _ ?_; clear hK K))))
    all_goals (refine wpQuiet_nil ?_; intro w1 hw'; replace hw' := Kept.regrown hw')
    have Hk := Lib.hid ((Kept.newBlock (Below.refl _ _) _).then hw')
    clear hw'
    go_wp2
    go_ret
    exact ⟨ret_bool (by simp [mayB, Hlen.out, hn]), Hk.out⟩
end Go.Proofs.YtjmegicopdbkdaaDoor

namespace Go.Proofs.YtjmegicopdbkdaaDoor
open Go Go.RowKit

variable {F : Fence} {n : Nat} {P : Program}

/-- What is asked of the iterator, called with the loop's yield: whatever J says between two rounds, as long as it abides new blocks, turns of blocks that are no cells, and stores into the iterator's own box. -/
def SeqBox (F : Fence) (n : Nat) (P : Program) (gf : Nat) (lb : Array Value) (B : Nat) (Kp : World → World → Prop) (xs : List Int) (w : World) : Prop :=
  ∀ (l : Nat) (J : List Int → World → Prop) (W : World), Below w.heap.size w W →
    (∀ s A v, J s A → J s (A.setCell ⟨B, 0, none⟩ v)) →
    (∀ pre x W1, J pre W1 → (∃ r, xs = pre ++ x :: r) → YieldAt F (n - 1) P l #[.int .i64 x] W1 fun e W' => e = .returned (.bool true) ∧ J (pre ++ [x]) W' ∧ Kp W1 W') →
    J [] W →
    CallsIn F n P gf (#[.func (.yield l) #[] #[]] ++ lb) W fun e W' => (∃ v, e = .returned v) ∧ J xs W'

/-- How a round's body ends: off its end. -/
def bodyBox (B : Nat) (Kp : World → World → Prop) (I : List Int → World → Prop) (xs : List Int) (W : World) : Exit → Act → World → Prop
  | .normal, _, W' => KeepsFrom B W W' ∧ Kp W W' ∧ I xs W'
  | _, _, _ => False

theorem heap_setCell_loop {W : World} {k B : Nat} {o : Obj} (v : Value) (h : W.heap[k]? = some o) (ho : o.isCells = false) : (W.setCell ⟨B, 0, none⟩ v).heap[k]? = some o := by
  by_cases e : k = B
  · subst e
    simp only [World.setCell, Array.getElem?_modify, if_true, h]
    cases o <;> simp_all [Obj.isCells]
  · rw [Below.heap_setCell W ⟨B, 0, none⟩ v k e]; exact h

theorem wpIn_range_box {g : Operand} {p : Tmp} {assign body : Code} {Q : Exit → Act → World → Prop} {a : Act} {w : World}
    (hro : F.round = none) (h1 : 1 ≤ n) {gf : Nat} {lb : Array Value} (hg : a.eval g = .func (.func gf) #[] lb) (hFg : F.fn gf) (eg : ∀ args w, (callFunc gf args).run P w = .ok (.enter gf args) w)
    {B : Nat} {Kp : World → World → Prop} {xs : List Int} (hseq : SeqBox F (n - 1) P gf lb B Kp xs w)
    (hKt : ∀ {A B C : World}, Kp A B → Kp B C → Kp A C) (hKb : ∀ (W : World) (l : Nat) (o o' : Obj), w.heap.size ≤ l → W.heap[l]? = some o → o.isCells = false → Kp W (W.putObj l o'))
    (I : List Int → World → Prop) (hI : OwnFrom w.heap.size I) (hIs : ∀ s A v, I s A → I s (A.setCell ⟨B, 0, none⟩ v)) (h0 : I [] w) (a₁ : Int → Act)
    (hassign : ∀ (l : Nat) (x : Int) (W : World) (K : Act → World → Prop), K (a₁ x) W →
      assign.wpIn (F.inRound l) (n - 1 - 1) P (Exit.then K (fun _ _ _ => False)) { tmps := (#[p].zip #[Value.int .i64 x]).foldl (fun t (p, v) => t.setIfInBounds p v) a.tmps, defers := [] } W)
    (hbody : ∀ (l : Nat) (pre : List Int) (x : Int) (W : World), I pre W → (∃ r, xs = pre ++ x :: r) → body.wpIn (F.inRound l) (n - 1 - 1) P (bodyBox w.heap.size Kp I (pre ++ [x]) W) (a₁ x) W)
    (hdone : ∀ (D : Nat) (W : World), w.heap.size ≤ D → I xs W → W.heap[D]? = some (.deferred (some [])) → Q .normal { a with defers := { target := .collected D, args := #[] } :: a.defers } W) :
    (Code.rangeFunc g #[p] assign body).wpIn F n P Q a w := by
  refine wpIn_rangeFunc ?_
  intro fn hfn
  rw [hro]
  obtain ⟨rec, hrec⟩ : ∃ rec : LoopState → Option Code → Loop, rec = fun st pe => { state := st, pending := pe, fn, tmps := a.tmps, params := #[p], assign, body, defers := w.heap.size } := ⟨_, rfl⟩
  obtain ⟨W1, hW1⟩ : ∃ W1, (w.alloc (.deferred (some []))).alloc (.loop (rec .ready none)) = W1 := ⟨_, rfl⟩
  have hL1 : W1.heap[w.heap.size + 1]? = some (.loop (rec .ready none)) := by
    rw [← hW1]; have := World.alloc_heap_new (w.alloc (.deferred (some []))) (.loop (rec .ready none)); rwa [World.size_alloc] at this
  have hK1 : W1.heap[w.heap.size]? = some (.deferred (some [])) := by
    rw [← hW1]; exact (Below.heap_alloc _ _ _ (by simp)).trans (World.alloc_heap_new w _)
  have hI1 : I [] W1 := by rw [← hW1]; exact hI.alloc _ (hI.alloc _ h0)
  have hb1 : Below w.heap.size w W1 := by
    rw [← hW1]; exact ((Below.refl _ w).alloc (Nat.le_refl _) _).alloc (by simp) _
  refine ⟨w.heap.size + 1, [{ target := .collected w.heap.size, args := #[] }], W1, { target := .fn (.func gf) lb, args := #[.func (.yield (w.heap.size + 1)) #[] #[]] }, W1, gf,
    #[.func (.yield (w.heap.size + 1)) #[] #[]] ++ lb, W1, ?_, ?_, ?_, ?_, fun _ => h1, ?_⟩
  · rw [← hW1, hrec]; exact run_enterLoop_outer _ _ _ _ _
  · simp only [resolve, hg]
    simp [go_sem]
  · intro f' hf'; simp [Target.leads] at hf'; subst hf'; exact hFg
  · simp [invoke, go_sem, eg]
  · refine (hseq (w.heap.size + 1)
      (fun pre W => I pre W ∧ W.heap[w.heap.size + 1]? = some (.loop (rec .ready none)) ∧ W.heap[w.heap.size]? = some (.deferred (some [])))
      W1 hb1
      (fun s A v hs => ⟨hIs s A v hs.1, heap_setCell_loop v hs.2.1 rfl, heap_setCell_loop v hs.2.2 rfl⟩)
      ?_ ⟨hI1, hL1, hK1⟩).mono ?_
    · rintro pre x W ⟨hi, hl, hk⟩ hlen
      have hlt : w.heap.size + 1 < W.heap.size := (Array.getElem?_eq_some_iff.1 hl).1
      have hy := run_yield (P := P) (args := #[.int .i64 x]) hl (by rw [hrec]; rfl)
      rw [hrec] at hy
      have hl2 : (W.putObj (w.heap.size + 1) (.loop { rec .ready none with state := .busy })).heap[w.heap.size + 1]? = some (.loop { rec .ready none with state := .busy }) := World.putObj_heap_same hlt
      have hk2 : (W.putObj (w.heap.size + 1) (.loop { rec .ready none with state := .busy })).heap[w.heap.size]? = some (.deferred (some [])) := (World.putObj_heap_other (by omega)).trans hk
      have hw2 : Kp W (W.putObj (w.heap.size + 1) (.loop { rec .ready none with state := .busy })) := hKb _ _ _ _ (by omega) hl rfl
      refine ⟨fn, _, assign, body, hy, roundIn_of_wpIn hfn (hassign _ x W _ ⟨_, run_beginRound hl (by rw [hrec]), ?_⟩)⟩
      refine wpIn_mono (hbody _ pre x _ (hI.putObj _ hi (by omega) hl rfl) hlen) ?_
      rintro e a3 W3 hp
      cases e with
      | normal =>
        obtain ⟨hk3, hkp3, hi3⟩ := hp
        have hl3 := hk3.same _ _ (by omega) hl2 rfl
        have hr := run_endRound (P := P) none hl3
        rw [hrec] at hr hl3
        refine ⟨_, _, hr, rfl, ⟨hI.putObj _ hi3 (by omega) hl3 rfl, ?_, ?_⟩, hKt (hKt hw2 hkp3) (hKb _ _ _ _ (by omega) hl3 rfl)⟩
        · rw [hrec]; exact World.putObj_heap_same (Array.getElem?_eq_some_iff.1 hl3).1
        · exact (World.putObj_heap_other (by omega)).trans (hk3.same _ _ (Nat.le_refl _) hk2 rfl)
      | ret => exact hp.elim
      | exit id => exact hp.elim
      | goto t => exact hp.elim
      | panic ch => exact hp.elim
      | outgrown => exact hp.elim
    · rintro e W2 ⟨⟨v, rfl⟩, hi, hl, hk⟩
      refine ⟨none, _, by have := run_endLoop (P := P) hl (by rw [hrec]; simp); rw [hrec] at this; exact this, ?_⟩
      exact hdone _ _ (Nat.le_refl _) (hI.putObj _ hi (by omega) hl rfl) ((World.putObj_heap_other (by omega)).trans hk)
end Go.Proofs.YtjmegicopdbkdaaDoor

set_option maxHeartbeats 1000000
set_option maxRecDepth 100000
namespace Go.Proofs.YtjmegicopdbkdaaDoor
open Go Go.RowKit Pl Go.Shelf
attribute [local go_sem] Oper.semAt_some

/-- Below n₀, and at the iterator's box, all lies as it lay. -/
def KeptBox (n₀ B : Nat) (W W' : World) : Prop := ∀ k, k < n₀ ∨ k = B → W'.heap[k]? = W.heap[k]?
theorem KeptBox.trans {n₀ B : Nat} {X Y Z : World} (h : KeptBox n₀ B X Y) (k : KeptBox n₀ B Y Z) : KeptBox n₀ B X Z := fun i hi => (k i hi).trans (h i hi)

/-- The number in the box. -/
def boxNat (W : World) (B : Nat) : Nat := match W.cell? ⟨B, 0, none⟩ with | some (.int _ b) => b.toNat | _ => 0
theorem boxNat_of {W : World} {B : Nat} {t : TypeId} {b : Nat} (h : Boxed W B t (.int .u64 b)) : boxNat W B = b := by
  unfold boxNat
  rw [h.cell]
  simp

theorem Tab.of_blocks {w w' : World} (h : Tab w) (hb : w'.heap[0]? = w.heap[0]?) : Tab w' := fun j hj =>
  (World.cell?_of_block (w := w) (a := ⟨0, j, none⟩) hb).trans (h j hj)

theorem drop_bits {b : Nat} (h0 : b ≠ 0) (h : b < 2 ^ 64) : bits BinOp.and IntKind.u64 (b : Int) ((b : Int) - 1) = ((b &&& (b - 1) : Nat) : Int) := by
  have e : (b : Int) - 1 = ((b - 1 : Nat) : Int) := by omega
  rw [e]
  exact u64_and_nat b (b - 1) h (by omega)

theorem all1_in (n : Nat) (hn : 3 ≤ n) (l B n₀ b0 : Nat) (hb0 : b0 < 2 ^ 64) (hn0 : 0 < n₀) (J : List Int → World → Prop) (hJs : ∀ s A v, J s A → J s (A.setCell ⟨B, 0, none⟩ v))
    (hY : ∀ pre x W, J pre W → (∃ r, elemsI b0 = pre ++ x :: r) → YieldAt Fence.wide (n - 1) Tryd.prog l #[.int .i64 x] W fun e W' => e = .returned (.bool true) ∧ J (pre ++ [x]) W' ∧ KeptBox n₀ B W W')
    (W : World) (hB : n₀ ≤ B) (hBx : Boxed W B 45 (.int .u64 b0)) (hT : Tab W) (h0 : J [] W) :
    CallsIn Fence.wide n Tryd.prog 91 #[.func (.yield l) #[] #[], .pointer (some ⟨B, 0, none⟩)] W fun e W' => (∃ v, e = .returned v) ∧ J (elemsI b0) W' := by
  refine callsIn_of_wp Tryd.func91 rfl trivial ?_ rfl
  simp only [Tryd.ntmps91, List.size_toArray, List.length_cons, List.length_nil, Nat.reduceAdd, Nat.reduceSub, Array.replicate_succ, Array.replicate_zero, List.push_toArray, List.append_toArray, List.nil_append, List.cons_append]
  gi_wp2
  gi_loopw [3] (fun _ wr => ∃ (pre : List Int) (b : Nat), Boxed wr B 45 (.int .u64 b) ∧ b < 2 ^ 64 ∧ Hid (elemsI b0 = pre ++ elemsI b) ∧ J pre wr ∧ Hid (Tab wr)) (fun _ wr => (elemsI (boxNat wr B)).length)
  case atStart => exact ⟨[], b0, hBx, hb0, rfl, h0, hT⟩
  case round =>
    obtain ⟨pre, b, hbx, hb, hx, hJ, hTr⟩ := hrel
    have hc := hbx.cell
    by_cases hz : b = 0
    · subst hz
      gi_wp2
      go_end0
      have e := hx.out
      rw [elemsI_zero, List.append_nil] at e
      exact ⟨⟨_, rfl⟩, by rw [e]; exact hJ⟩
    · have hne : ((b : Int) != 0) = true := by simp; omega
      have hcons := elemsI_cons hz hb
      have hdrop := drop_bits hz hb
      have hdl := drop_lt hb
      have hleast : Hid (∀ W, Tab W → Calls Tryd.prog 87 #[.int .u64 b] W fun e w' => e = .returned (.int .i64 ((Lib.ctz 64 b : Nat) : Int)) ∧ W = w') := fun W hW => by
        have := least_any b W hb hW
        rw [show lo b = ((Lib.ctz 64 b : Nat) : Int) from if_neg hz] at this
        exact this
      generalize ((Lib.ctz 64 b : Nat) : Int) = x at *
      generalize b &&& (b - 1) = d at *
      have Hcons := Lib.hid hcons
      have Hdl := Lib.hid hdl
      clear hcons hdl
      have hlt := hbx.lt
      obtain ⟨fn, tmps, assign, body, hy, hR⟩ := hY pre x wr hJ ⟨elemsI d, by rw [hx.out, Hcons.out]⟩
      have hn1 : 1 ≤ n := by omega
      gi_wp2_with (refine ⟨trivial, ?_⟩; gi_at_call 87; refine (callsIn_wide.2 (hleast.out _ hTr.out)).mono ?_; rintro e w' ⟨rfl, rfl⟩)
      refine hR.mono ?_
      rintro e W3 ⟨rfl, hJ3, hk3⟩
      have hbx3 : Boxed W3 B 45 (.int .u64 b) := (hk3 B (.inr rfl)).trans hbx
      have hc3 := hbx3.cell
      have hf3 := hbx3.frozen
      have hT3 : Hid (Tab W3) := hTr.out.of_blocks (hk3 0 (.inl hn0))
      gi_wp2
      refine ⟨⟨pre ++ [x], d, ?_, Hdl.out, ?_, hJs _ _ _ hJ3, ?_⟩, ?_⟩
      · exact hbx3.set _
      · show elemsI b0 = _
        rw [hx.out, Hcons.out]; simp
      · refine hT3.out.of_blocks ?_
        rw [Below.heap_setCell _ _ _ _ (by show 0 ≠ B; omega)]
      · have e1 := boxNat_of hbx
        have e2 : boxNat (W3.setCell ⟨B, 0, none⟩ (.int .u64 (d : Int))) B = d := boxNat_of (hbx3.set _)
        rw [e1, e2, Hcons.out]
        simp

theorem all_in (n : Nat) (b : Int) (w : World) :
    CallsIn Fence.wide n Tryd.prog 78 #[.int .u64 b] w fun e w' => e = .returned (.func (.func 91) #[] #[.pointer (some ⟨w.heap.size, 0, none⟩)]) ∧ w' = w.alloc (.cells #[.int .u64 b] 45) := by
  refine callsIn_of_wp Tryd.func78 rfl trivial ?_ rfl
  simp only [Tryd.ntmps78, List.size_toArray, List.length_cons, List.length_nil, Nat.reduceAdd, Nat.reduceSub, Array.replicate_succ, Array.replicate_zero, List.push_toArray, List.append_toArray, List.nil_append, List.cons_append]
  gi_wp2
  go_ret
  exact ⟨rfl, rfl⟩

theorem info_int : (Tryd.prog.info? 3).map (fun i => (i.zero, i.size, i.bytes)) = some (some (.int .i64 0), 1, 8) := by kernel_rfl

theorem elemsI_rng {b : Nat} : ∀ x ∈ elemsI b, 0 ≤ x ∧ x ≤ 63 := by
  intro x hx
  unfold elemsI at hx
  rw [List.mem_map] at hx
  obtain ⟨k, hk, rfl⟩ := hx
  have := (mem_elems.1 hk).1
  have e : Int.ofNat k = (k : Int) := rfl
  omega

theorem list_in (b : Nat) (w : World) (hb : b < 2 ^ 64) (hT : Tab w) :
    CallsIn Fence.wide 6 Tryd.prog 63 #[.int .u64 b] w (ListPost (elemsI b) w) := by
  have h1 : 1 ≤ 6 := by omega
  obtain ⟨i0, hi, hz0, hz1, hz2⟩ := info_parts info_int
  have h0s : 0 < w.heap.size := World.block_lt_of_cell? w ⟨0, 0, none⟩ (hT 0 (by decide))
  have hlen := elemsI_length_le b
  refine callsIn_of_wp_marks Tryd.func63 rfl trivial ?_ rfl
  simp only [Tryd.ntmps63, List.size_toArray, List.length_cons, List.length_nil, Nat.reduceAdd, Nat.reduceSub, Array.replicate_succ, Array.replicate_zero, List.push_toArray, List.append_toArray, List.nil_append, List.cons_append]
  gi_wp2_with (refine ⟨trivial, ?_⟩; gi_at_call 78; refine (all_in _ _ _).mono ?_; rintro e w' ⟨rfl, rfl⟩)
  have bO := Boxed.new w 22 (.slice none 0 0)
  have bN := Boxed.new (w.alloc (.cells #[.slice none 0 0] 22)) 45 (.int .u64 b)
  rw [World.size_alloc] at bN
  have hB0 : Below w.heap.size w ((w.alloc (.cells #[.slice none 0 0] 22)).alloc (.cells #[.int .u64 b] 45)) := ((Below.refl _ w).alloc (Nat.le_refl _) _).alloc (by simp) _
  have hB1 : (w.heap.size + 1) < ((w.alloc (.cells #[.slice none 0 0] 22)).alloc (.cells #[.int .u64 b] 45)).heap.size := by simp
  refine wpIn_range_box rfl h1 (gf := 91) (lb := #[.pointer (some ⟨w.heap.size + 1, 0, none⟩)]) rfl trivial (enters_of Tryd.func91 (by kernel_rfl) rfl)
    (B := w.heap.size + 1) (Kp := KeptBox w.heap.size (w.heap.size + 1)) (xs := elemsI b)
    (fun l J W hW hJs hY hJ0 => all1_in (6 - 1) (by omega) l (w.heap.size + 1) w.heap.size b hb h0s J hJs hY W (by omega) ((hW.block _ hB1).trans bN) (hT.of_blocks ((hW.block 0 (by simp)).trans (hB0.block 0 h0s))) hJ0)
    (fun h k => h.trans k)
    (fun W l o o' hl hl2 _ k hk => World.putObj_heap_other (by simp at hl; omega))
    (fun pre W => (∃ v, Boxed W w.heap.size 22 v ∧ W.ownsRow w.heap.size 3 1 v pre.length (pre.map (Value.int .i64)) ∧ True) ∧ (∃ u, Boxed W (w.heap.size + 1) 45 u) ∧ Below w.heap.size w W)
    ?own ?set ?init
    (fun x => { tmps := #[.int .u64 b, undef, .slice none 0 0, .pointer (some ⟨w.heap.size, 0, none⟩), .int .i64 x, .int .u64 b, .func (.func 91) #[] #[.pointer (some ⟨w.heap.size + 1, 0, none⟩)], .int .i64 x, undef, undef, undef, undef, undef], defers := [] }) ?assign ?body ?done
  case own =>
    refine OwnFrom.and (Own.from (holdsRow_own w.heap.size w.heap.size 22 3 1 (fun pre : List Int => pre.length) (fun pre => pre.map (Value.int .i64)) (fun _ _ => True)) _) (OwnFrom.and (Own.from ?_ _) (ownFrom_below (Nat.le_refl _) (by simp; omega)))
    rintro s X Y row ⟨u, hu⟩ hg hrow
    refine ⟨u, hu.kept hg (fun e' => ?_)⟩
    obtain ⟨o, ho, hc⟩ := hrow _ e'.symm
    rw [show X.heap[w.heap.size + 1]? = _ from hu] at ho
    cases ho
    cases hc
  case set =>
    rintro s A u ⟨⟨v, hv, hr, _⟩, ⟨u', hu⟩, hB⟩
    exact ⟨⟨v, hv.other (by omega) u, hr.kept (grownBy_setCell' A (w.heap.size + 1) u) (.inr (hu.not_row (by decide) hr).symm), trivial⟩, ⟨u, hu.set u⟩, hB.setCell (p := ⟨w.heap.size + 1, 0, none⟩) (by show w.heap.size ≤ w.heap.size + 1; omega) u⟩
  case init => exact ⟨⟨_, bO.alloc _, World.ownsRow_nil _ _ _ _, trivial⟩, ⟨_, bN⟩, hB0⟩
  case assign =>
    intro l x W K hK
    gi_wp2
    exact hK
  case body =>
    rintro l pre x W ⟨⟨v, hv, hrow, _⟩, ⟨u, hu⟩, hB⟩ ⟨r, hr⟩
    have hc := hv.cell
    have hpl : pre.length + 1 ≤ 64 := by rw [hr] at hlen; simp at hlen; omega
    have hsz := hB.size
    gi_wp2_with (gi_at_builtin; refine wpListIn_append_own _ rfl _ _ 22 rfl w.heap.size 3 i0 (.int .i64 0) 1 8 Tryd.underlying22 hi hz0 hz1 hz2 rfl (by decide) _ _ _ rfl (hrow.alloc _) ⟨W.heap.size, 0, none⟩ 1 1 [.int .i64 x] rfl rfl (cell_one_new _ _ _) (by simp [Value.oneCell']) (by unfold maxLen; omega) (by omega) (by simp; omega) ?_; intro v' w1 hown' hgrow _; obtain ⟨g', cap', rfl⟩ := ownsRow_succ hown'; obtain ⟨hv1, hv2, hr2, hk2, hb2⟩ := hv.appended (by decide) hrow hB.size (Nat.le_refl _) hown' hgrow; have hu1 : Boxed w1 (w.heap.size + 1) 45 u := (hu.alloc _).kept hgrow (hu.not_row (by decide) hrow); have hc1 := hv1.cell; have hf1 := hv1.frozen)
    refine ⟨hk2.from _, fun k hk => ?_, ⟨_, hv2, by simpa using hr2, trivial⟩, ⟨u, hu1.other (by omega) _⟩, hB.trans hb2⟩
    rcases hk with hk | rfl
    · exact hb2.block k hk
    · exact (show _ = _ from hu1.other (by omega) _).trans (show W.heap[w.heap.size + 1]? = _ from hu).symm
  case done =>
    rintro D W hD ⟨⟨v, hv, hrow, _⟩, _, hB⟩ hK
    have hc := hv.cell
    gi_wp2
    refine ⟨by simp, .inl ⟨_, _, rfl, run_takeDeferred hK, ?_⟩⟩
    obtain ⟨A, c, rfl, hI, hfr⟩ := Ints.of_own (ownsRow_putObj hrow (.deferred none) hK rfl) (fun x hx => by have := elemsI_rng x hx; omega)
    exact ⟨_, results_tmp rfl _ _ _, A, c, rfl, hI, hB.trans (belowK_b (w := w) (Nat.le_refl _) W D _ _ (by simp at hD; omega) hK rfl rfl), hfr⟩

/-- **The list of a set.** -/
theorem list_any (b : Nat) (w : World) (hb : b < 2 ^ 64) (hT : Tab w) : Calls Tryd.prog 63 #[.int .u64 b] w (ListPost (elemsI b) w) :=
  callsIn_wide.1 (list_in b w hb hT)
end Go.Proofs.YtjmegicopdbkdaaDoor

set_option maxHeartbeats 1000000
set_option maxRecDepth 10000
namespace Go.Proofs.YtjmegicopdbkdaaDoor
open Go Go.RowKit Pl

theorem list1_any (A : Option Addr) (n c L : Nat) (xs : List Int) (w : World) (hS : Ints w A n xs) (hL : L < 2 ^ 64) (hT : Tab w) (hm : mayB xs L = true) :
    Calls Tryd.prog 62 #[.agg #[.slice A n c, .int .u64 L]] w (ListPost (valsOf xs L) w) := by
  obtain ⟨i0, hi, hz0, hz1, hz2⟩ := info_parts info_int
  have HS := Lib.hid hS
  have HL := Lib.hid hL
  have HT := Lib.hid hT
  have Hm := Lib.hid hm
  have Hlen := Lib.hid hS.len
  have hmem : Hid (∀ x, x ∈ elemsI L → 0 ≤ x ∧ x < xs.length) := fun x hx => elemsI_lt hm hx
  have hel := elemsI_length_le L
  have Hrng := Lib.hid (valsOf_rng hm)
  have hnn : n ≤ 64 := by have := mayB_len hm; have := hS.len; omega
  clear hS hL hT hm
  go_enter Tryd.func62, Tryd.ntmps62
  go_wp2_with fail
  refine (list_any L _ HL.out (HT.out.kept (Kept.box _ _))).mono ?_
  rintro e w1 ⟨B, cb, rfl, hIb, hk1, _⟩
  have Hb0 := Lib.hid (hk1.cellAt (box2_0 w (.slice A n c) (.int .u64 L) _))
  have HIb := Lib.hid hIb
  have Hk1 := Lib.hid ((Kept.box _ _).then hk1)
  have hsz := hk1.size
  simp only [World.size_alloc] at hsz
  clear hIb hk1
  generalize hm : (elemsI L).length = m at *
  have Hmm := Lib.hid hm
  clear hm
  go_wp2_with fail
  go_loopw [3, 10] (fun u v wr => ∃ k : Nat, k ≤ m ∧ v = .int .i64 k ∧ wr.ownsRow w1.heap.size 3 1 u k (((valsOf xs L).take k).map (Value.int .i64)) ∧ Hid (Kept w1 wr)) (fun _ v _ => m - (intOf v).toNat)
  case atStart => exact ⟨0, Nat.zero_le _, rfl, World.ownsRow_nil _ _ _ _, Below.refl _ _⟩
  case round =>
    obtain ⟨k, hk, rfl, hown, Hkw⟩ := hrel
    by_cases hlt : k < m
    · have hbs := HIb.out.kept Hkw.out
      obtain ⟨b, rfl, hbb⟩ := hbs.addr (by omega)
      obtain ⟨q, Hq, hcq, _, _⟩ := hbs.named k hlt
      have hqm : q ∈ elemsI L := by
        have := Hq.out
        rw [List.getD_eq_getElem?_getD, List.getElem?_eq_getElem (by have := Hmm.out; omega)] at this
        simp at this
        rw [← this]
        exact List.getElem_mem _
      obtain ⟨hq0, hq1⟩ := hmem.out _ hqm
      obtain ⟨j, rfl⟩ := Int.eq_ofNat_of_zero_le hq0
      have hjn : j < n := by have := Hlen.out; omega
      have hxs := HS.out.kept (Hk1.out.then Hkw.out)
      obtain ⟨a, rfl, hba⟩ := hxs.addr (by omega)
      obtain ⟨x, Hx, hcx, hx1, hx2⟩ := hxs.named j hjn
      have hb0 := Hkw.out.cellAt Hb0.out
      have Htake : Hid (((valsOf xs L).take (k + 1)).map (Value.int .i64) = ((valsOf xs L).take k).map (Value.int .i64) ++ [.int .i64 x]) := by
        show _ = _
        have hl : k < (valsOf xs L).length := by rw [valsOf_length, Hmm.out]; exact hlt
        rw [take_succ_getD (x := x) hl ?_]
        · simp
        · unfold valsOf
          rw [List.getD_eq_getElem?_getD, List.getElem?_map, ← Hx.out]
          have h2 := Hq.out
          rw [List.getD_eq_getElem?_getD] at h2
          rw [List.getElem?_eq_getElem (by have := Hmm.out; omega)] at h2 ⊢
          simp at h2 ⊢
          rw [h2]
          simp
      clear hqm hbs hxs
      have hszr := Hkw.out.size
      go_wp2_with (at_builtin; refine wpList_append_own _ rfl _ _ 22 rfl w1.heap.size 3 i0 (.int .i64 0) 1 8 Tryd.underlying22 hi hz0 hz1 hz2 rfl (by decide) _ _ _ rfl (hown.alloc _) ⟨wr.heap.size, 0, none⟩ 1 1 [.int .i64 x] rfl rfl (cell_one_new _ _ _) (by simp [Value.oneCell']) (by unfold maxLen; omega) (by omega) (by simp; omega) ?_; intro v' w2 hown' hgrow _; clear hcq hcx hb0)
      go_roundw
      case rel => exact ⟨k + 1, by omega, by go_num, by rw [Htake.out]; exact hown', Hkw.out.appended hown (Nat.le_refl _) hgrow⟩
      case measure => simp [intOf]; omega
    · have e : k = (valsOf xs L).length := by rw [valsOf_length, Hmm.out]; omega
      rw [e, List.take_length] at hown
      obtain ⟨A', c', rfl, hI, hfr⟩ := Ints.of_own hown (fun x hx => by have := Hrng.out x hx; omega)
      have HI := Lib.hid hI
      have Hfr : Hid (Fresh w A') := Fresh.mono (w' := w1) hfr (by omega)
      clear hfr
      have He := Lib.hid e
      clear hI e hown
      go_wp2
      go_ret
      exact ⟨A', c', rfl, HI.out, Hk1.out.then Hkw.out, Hfr.out⟩

theorem dlist_any (A : Option Addr) (n c L : Nat) (xs : List Int) (w : World) (hS : Ints w A n xs) (hL : L < 2 ^ 64) (hT : Tab w) :
    Calls Tryd.prog 31 #[.agg #[.slice A n c, .int .u64 L]] w (ListPost (listB xs L) w) := by
  have HS := Lib.hid hS
  have HL := Lib.hid hL
  have HT := Lib.hid hT
  clear hS hL hT
  by_cases hm : mayB xs L = true
  · have hl : listB xs L = valsOf xs L := if_pos hm
    rw [hl]
    have Hm := Lib.hid hm
    have hmay : Hid (∀ W, Ints W A n xs → Calls Tryd.prog 28 #[.agg #[.slice A n c, .int .u64 L]] W fun e w' => e = .returned (.bool true) ∧ Kept W w') := fun W hW => by
      have := may_any A n c L xs W hW HL.out
      rwa [hm] at this
    clear hm hl
    go_enter Tryd.func31, Tryd.ntmps31
    go_wp2_with (first
      | (go_at_call 28; refine (hmay.out _ (HS.out.kept ((Kept.box _ _).then (Kept.box _ _)))).mono ?_; rintro e w1 ⟨rfl, hk⟩; have hb1 := hk.cellAt (box2_0 (w.alloc _) (.slice A n c) (.int .u64 L) _); have hb2 := hk.cellAt (box2_1 (w.alloc _) (.slice A n c) (.int .u64 L) _); simp only [World.size_alloc] at hb1 hb2; have Hk := Lib.hid (((Kept.box _ _).then (Kept.box _ _)).then hk); clear hk)
      | (go_at_call 62; refine (list1_any A n c L xs _ (HS.out.kept Hk.out) HL.out (HT.out.kept Hk.out) Hm.out).mono ?_; rintro e w2 ⟨A', c', rfl, hI, hk2, hfr⟩; have HI := Lib.hid hI; have Hfr : Hid (Fresh w A') := Fresh.mono hfr Hk.out.size; clear hfr; have Hk2 := Lib.hid (Hk.out.then hk2); clear hI hk2)
      | go_in)
    go_ret
    exact ⟨A', c', rfl, HI.out, Hk2.out, Hfr.out⟩
  · have hl : listB xs L = [] := if_neg hm
    rw [hl]
    have hmay : Hid (∀ W, Ints W A n xs → Calls Tryd.prog 28 #[.agg #[.slice A n c, .int .u64 L]] W fun e w' => e = .returned (.bool false) ∧ Kept W w') := fun W hW => by
      have := may_any A n c L xs W hW HL.out
      rwa [Bool.eq_false_iff.2 hm] at this
    clear hm hl
    go_enter Tryd.func31, Tryd.ntmps31
    go_wp2_with (first
      | (go_at_call 28; refine (hmay.out _ (HS.out.kept ((Kept.box _ _).then (Kept.box _ _)))).mono ?_; rintro e w1 ⟨rfl, hk⟩; have Hk := Lib.hid (((Kept.box _ _).then (Kept.box _ _)).then hk); clear hk)
      | go_in)
    go_ret
    exact ⟨Option.none, 0, rfl, Ints.none _, Hk.out, Fresh.none _⟩

/-- An address at which something lies is plain. -/
theorem plain_of_cell {w : World} {a : Addr} {v : Value} (h : w.cell? a = some v) : a = ⟨a.block, a.off, Option.none⟩ := by
  unfold World.cell? at h
  cases a with
  | mk b o s =>
    cases s with
    | none => rfl
    | some s =>
      split at h
      · simp at h
      · simp at h
theorem add_plain (b off j : Nat) : (⟨b, off, Option.none⟩ : Addr).add j = ⟨b, off + j, Option.none⟩ := by
  unfold Addr.add
  split <;> simp_all

theorem Ints.plain {w : World} {A : Option Addr} {n : Nat} {xs : List Int} (h : Ints w A n xs) (hn : 0 < n) : ∃ b off, A = some ⟨b, off, Option.none⟩ ∧ ∀ j, j < xs.length → w.cell? ⟨b, off + j, Option.none⟩ = some (.int .i64 (xs.getD j 0)) := by
  obtain ⟨a, rfl, hc⟩ := h.cell hn
  have h0 := hc 0 hn
  have e0 : a.add 0 = a := by unfold Addr.add; simp
  rw [e0] at h0
  have hp := plain_of_cell h0
  refine ⟨a.block, a.off, by rw [← hp], fun j hj => ?_⟩
  have := hc j (by have := h.len; omega)
  rw [hp, add_plain] at this
  exact this

theorem contains_any (A : Option Addr) (n c : Nat) (xs : List Int) (x : Int) (w : World) (hS : Ints w A n xs) :
    Calls Tryd.prog 88 #[.slice A n c, .int .i64 x] w fun e w' => e = .returned (.bool (xs.contains x)) ∧ w = w' := by
  by_cases hn : 0 < n
  · obtain ⟨b, off, rfl, hc⟩ := hS.plain hn
    refine (Tryd.slices_Contains_int b off n c xs x w (by have := hS.len; omega) hS.small hc).mono fun e w' ⟨he, hw⟩ => ⟨?_, hw.symm⟩
    rw [he, ← hS.len, List.take_length]
  · have h0 : n = 0 := by omega
    subst h0
    have hx : xs = [] := List.eq_nil_of_length_eq_zero hS.len
    subst hx
    exact (Tryd.slices_Contains_int_empty A c x w).mono fun e w' ⟨he, hw⟩ => ⟨he, hw.symm⟩

end Go.Proofs.YtjmegicopdbkdaaDoor

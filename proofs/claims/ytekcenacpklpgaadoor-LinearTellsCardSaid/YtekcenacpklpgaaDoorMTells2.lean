/-
  Contracts and plain laws that the card rests on, part 2.
-/
import Derived.Test.YtekcenacpklpgaaDoorMTells1
import Derived.RangeFuncBox
import Derived.RangeFuncLeaves
import Derived.RangeFuncCalls
import Derived.RangeFuncWrites
import Derived.RangeFuncNested
import Derived.RangeFuncBound
import Derived.Shelf.Abstract
import Derived.Shelf.RegionOpen
import Derived.OwnWalkIn
import Derived.TacticsInMore
import Derived.LoopNIn
import Derived.LoopIn
import Derived.Deep.AppendLies
import Derived.Maps.AppendAt
import Derived.Deep.RegionHeld3
set_option maxHeartbeats 1000000
set_option maxRecDepth 10000
namespace Go.Proofs.YtekcenacpklpgaaDoor
open Go Go.RowKit Pl

theorem box2_0 (w : World) (v0 v1 : Value) (t : TypeId) : (w.alloc (.cells #[v0, v1] t)).cell? ⟨w.heap.size, 0, none⟩ = some v0 := by simp [go_sem]
theorem box2_1 (w : World) (v0 v1 : Value) (t : TypeId) : (w.alloc (.cells #[v0, v1] t)).cell? ⟨w.heap.size, 1, none⟩ = some v1 := by simp [go_sem]

theorem may_bad {xs : List Int} {L k n : Nat} (hlen : xs.length = n) (hk : k < n) (h : okAt xs k = false) : false = mayB xs L := by
  simp [mayB, hlen, okUpto_bad h hk]
theorem okAt_named {xs : List Int} {k : Nat} {x y : Int} (hx : xs.getD k 0 = x) (hy : xs.getD (k - 1) 0 = y) :
    okAt xs k = (decide (-1048576 ≤ x) && decide (x ≤ 1048576) && (decide (k = 0) || decide (y < x))) := by
  unfold okAt; rw [hx, hy]

theorem may_any (A : Option Addr) (n c : Nat) (L : Nat) (xs : List Int) (w : World) (hS : Ints w A n xs) (hL : L < 2 ^ 64) :
    Calls Tryd.prog 23 #[.agg #[.slice A n c, .int .u64 L]] w fun e w' => e = .returned (.bool (mayB xs L)) ∧ Kept w w' := by
  have Hlen := Lib.hid hS.len
  have hsm := hS.small
  by_cases hn : n ≤ 64
  · have hd : decide ((64 : Int) < n) = false := by simp; omega
    by_cases hLn : L < 2 ^ n
    · have hb : (bits BinOp.andNot IntKind.u64 (L : Int) ((fst n : Nat) : Int) != 0) = false := by rw [andNot_ne hL hn]; simp [hLn]
      have HL := Lib.hid hLn
      clear hLn
      go_enter Tryd.func23, Tryd.ntmps23
      go_wp2
      refine wp_region_quiet_below (by kernel_rfl) (by kernel_rfl) ?_
      repeat (any_goals (first | go_big_quiet_step (((go_at_call 52; exact Calls.regrown_of (first_any _ _)))) | quiet_step (((go_at_call 52; exact Calls.regrown_of (first_any _ _)))) | (refine wpQuiet_step (fun K hK => ?_); go_simp; split <;> (refine hK _ ?_; clear hK K))))
      all_goals (refine wpQuiet_nil ?_; intro w1 hw'; replace hw' := Kept.regrown hw')
      have hb0 := hw'.cellAt (box2_0 w (.slice A n c) (.int .u64 L) _)
      have Hw1 := Lib.hid hw'
      have Hk := Lib.hid ((Kept.newBlock (Below.refl _ _) _).then hw')
      clear hw'
      go_wp2
      go_loopw [22] (fun v wr => ∃ k : Nat, k ≤ n ∧ v = .int .i64 k ∧ Kept w1 wr ∧ Hid (okUpto xs k = true)) (fun v _ => n - (intOf v).toNat)
      case atStart => exact ⟨0, Nat.zero_le _, rfl, Below.refl _ _, rfl⟩
      case round =>
        obtain ⟨k, hk, rfl, hkw, hok⟩ := hrel
        by_cases hlt : k < n
        · have hSr := hS.kept (Hk.out.then hkw)
          clear hb0
          have hb0 := (Hw1.out.then hkw).cellAt (box2_0 w (.slice A n c) (.int .u64 L) _)
          obtain ⟨a, rfl, hblk⟩ := hSr.addr (by omega)
          obtain ⟨x, Hx, hck, _⟩ := hSr.named k hlt
          obtain ⟨y, Hy, hck1, _⟩ := hSr.named (k - 1) (by omega)
          have Hkw := Lib.hid hkw
          clear hkw hS hSr
          go_wp2
          all_goals first
            | (go_ret; exact ⟨ret_bool (may_bad Hlen.out hlt (by rw [okAt_named Hx.out Hy.out]; simp; omega)), Hk.out.then Hkw.out⟩)
            | (go_roundw
               case rel => (repeat apply Exists.intro); exact ⟨⟨k + 1, by omega, by go_num, Hkw.out, by show okUpto xs (k + 1) = true; rw [okUpto_succ, hok.out, okAt_named Hx.out Hy.out]; simp; omega⟩, rfl⟩
               case measure => simp [intOf]; omega)
        · go_wp2
          go_ret
          refine ⟨ret_bool ?_, Hk.out.then hkw⟩
          have e : k = n := by omega
          rw [e] at hok
          simp [mayB, Hlen.out, hok.out, HL.out]
          omega
    · have hb : (bits BinOp.andNot IntKind.u64 (L : Int) ((fst n : Nat) : Int) != 0) = true := by rw [andNot_ne hL hn]; simp [hLn]
      go_enter Tryd.func23, Tryd.ntmps23
      go_wp2
      refine wp_region_quiet_below (by kernel_rfl) (by kernel_rfl) ?_
      repeat (any_goals (first | go_big_quiet_step (((go_at_call 52; exact Calls.regrown_of (first_any _ _)))) | quiet_step (((go_at_call 52; exact Calls.regrown_of (first_any _ _)))) | (refine wpQuiet_step (fun K hK => ?_); go_simp; split <;> (refine hK _ ?_; clear hK K))))
      all_goals (refine wpQuiet_nil ?_; intro w1 hw'; replace hw' := Kept.regrown hw')
      have Hk := Lib.hid ((Kept.newBlock (Below.refl _ _) _).then hw')
      clear hw'
      go_wp2
      go_ret
      exact ⟨ret_bool (by simp [mayB, Hlen.out, hLn]), Hk.out⟩
  · have hd : decide ((64 : Int) < n) = true := by simp; omega
    go_enter Tryd.func23, Tryd.ntmps23
    go_wp2
    refine wp_region_quiet_below (by kernel_rfl) (by kernel_rfl) ?_
    repeat (any_goals (first | go_big_quiet_step ((fail)) | quiet_step ((fail)) | (refine wpQuiet_step (fun K hK => ?_); go_simp; split <;> (refine hK _ ?_; clear hK K))))
    all_goals (refine wpQuiet_nil ?_; intro w1 hw'; replace hw' := Kept.regrown hw')
    have Hk := Lib.hid ((Kept.newBlock (Below.refl _ _) _).then hw')
    clear hw'
    go_wp2
    go_ret
    exact ⟨ret_bool (by simp [mayB, Hlen.out, hn]), Hk.out⟩
end Go.Proofs.YtekcenacpklpgaaDoor

namespace Go.Proofs.YtekcenacpklpgaaDoor
open Go Go.RowKit

variable {F : Fence} {n : Nat} {P : Program}

/-- What is asked of the iterator, called with the loop's yield: whatever J says between two rounds, as long as it abides new blocks, turns of blocks that are no cells, and stores into the iterator's own box. -/
def SeqBox (F : Fence) (n : Nat) (P : Program) (gf : Nat) (lb : Array Value) (B : Nat) (Kp : World → World → Prop) (xs : List Int) (w : World) : Prop :=
  ∀ (l : Nat) (J : List Int → World → Prop) (W : World), Below w.heap.size w W →
    (∀ s A v, J s A → J s (A.setCell ⟨B, 0, none⟩ v)) →
    (∀ pre x W1, J pre W1 → (∃ r, xs = pre ++ x :: r) → YieldAt F (n - 1) P l #[.int .i64 x] W1 fun e W' => e = .returned (.bool true) ∧ J (pre ++ [x]) W' ∧ Kp W1 W') →
    J [] W →
    CallsIn F n P gf (#[.func (.yield l) #[] #[]] ++ lb) W fun e W' => (∃ v, e = .returned v) ∧ J xs W'

/-- How a round's body ends: off its end. -/
def bodyBox (B : Nat) (Kp : World → World → Prop) (I : List Int → World → Prop) (xs : List Int) (W : World) : Exit → Act → World → Prop
  | .normal, _, W' => KeepsFrom B W W' ∧ Kp W W' ∧ I xs W'
  | _, _, _ => False

theorem heap_setCell_loop {W : World} {k B : Nat} {o : Obj} (v : Value) (h : W.heap[k]? = some o) (ho : o.isCells = false) : (W.setCell ⟨B, 0, none⟩ v).heap[k]? = some o := by
  by_cases e : k = B
  · subst e
    simp only [World.setCell, Array.getElem?_modify, if_true, h]
    cases o <;> simp_all [Obj.isCells]
  · rw [Below.heap_setCell W ⟨B, 0, none⟩ v k e]; exact h

theorem wpIn_range_box {g : Operand} {p : Tmp} {assign body : Code} {Q : Exit → Act → World → Prop} {a : Act} {w : World}
    (hro : F.round = none) (h1 : 1 ≤ n) {gf : Nat} {lb : Array Value} (hg : a.eval g = .func (.func gf) #[] lb) (hFg : F.fn gf) (eg : ∀ args w, (callFunc gf args).run P w = .ok (.enter gf args) w)
    {B : Nat} {Kp : World → World → Prop} {xs : List Int} (hseq : SeqBox F (n - 1) P gf lb B Kp xs w)
    (hKt : ∀ {A B C : World}, Kp A B → Kp B C → Kp A C) (hKb : ∀ (W : World) (l : Nat) (o o' : Obj), w.heap.size ≤ l → W.heap[l]? = some o → o.isCells = false → Kp W (W.putObj l o'))
    (I : List Int → World → Prop) (hI : OwnFrom w.heap.size I) (hIs : ∀ s A v, I s A → I s (A.setCell ⟨B, 0, none⟩ v)) (h0 : I [] w) (a₁ : Int → Act)
    (hassign : ∀ (l : Nat) (x : Int) (W : World) (K : Act → World → Prop), K (a₁ x) W →
      assign.wpIn (F.inRound l) (n - 1 - 1) P (Exit.then K (fun _ _ _ => False)) { tmps := (#[p].zip #[Value.int .i64 x]).foldl (fun t (p, v) => t.setIfInBounds p v) a.tmps, defers := [] } W)
    (hbody : ∀ (l : Nat) (pre : List Int) (x : Int) (W : World), I pre W → (∃ r, xs = pre ++ x :: r) → body.wpIn (F.inRound l) (n - 1 - 1) P (bodyBox w.heap.size Kp I (pre ++ [x]) W) (a₁ x) W)
    (hdone : ∀ (D : Nat) (W : World), w.heap.size ≤ D → I xs W → W.heap[D]? = some (.deferred (some [])) → Q .normal { a with defers := { target := .collected D, args := #[] } :: a.defers } W) :
    (Code.rangeFunc g #[p] assign body).wpIn F n P Q a w := by
  refine wpIn_rangeFunc ?_
  intro fn hfn
  rw [hro]
  obtain ⟨rec, hrec⟩ : ∃ rec : LoopState → Option Code → Loop, rec = fun st pe => { state := st, pending := pe, fn, tmps := a.tmps, params := #[p], assign, body, defers := w.heap.size } := ⟨_, rfl⟩
  obtain ⟨W1, hW1⟩ : ∃ W1, (w.alloc (.deferred (some []))).alloc (.loop (rec .ready none)) = W1 := ⟨_, rfl⟩
  have hL1 : W1.heap[w.heap.size + 1]? = some (.loop (rec .ready none)) := by
    rw [← hW1]; have := World.alloc_heap_new (w.alloc (.deferred (some []))) (.loop (rec .ready none)); rwa [World.size_alloc] at this
  have hK1 : W1.heap[w.heap.size]? = some (.deferred (some [])) := by
    rw [← hW1]; exact (Below.heap_alloc _ _ _ (by simp)).trans (World.alloc_heap_new w _)
  have hI1 : I [] W1 := by rw [← hW1]; exact hI.alloc _ (hI.alloc _ h0)
  have hb1 : Below w.heap.size w W1 := by
    rw [← hW1]; exact ((Below.refl _ w).alloc (Nat.le_refl _) _).alloc (by simp) _
  refine ⟨w.heap.size + 1, [{ target := .collected w.heap.size, args := #[] }], W1, { target := .fn (.func gf) lb, args := #[.func (.yield (w.heap.size + 1)) #[] #[]] }, W1, gf,
    #[.func (.yield (w.heap.size + 1)) #[] #[]] ++ lb, W1, ?_, ?_, ?_, ?_, fun _ => h1, ?_⟩
  · rw [← hW1, hrec]; exact run_enterLoop_outer _ _ _ _ _
  · simp only [resolve, hg]
    simp [go_sem]
  · intro f' hf'; simp [Target.leads] at hf'; subst hf'; exact hFg
  · simp [invoke, go_sem, eg]
  · refine (hseq (w.heap.size + 1)
      (fun pre W => I pre W ∧ W.heap[w.heap.size + 1]? = some (.loop (rec .ready none)) ∧ W.heap[w.heap.size]? = some (.deferred (some [])))
      W1 hb1
      (fun s A v hs => ⟨hIs s A v hs.1, heap_setCell_loop v hs.2.1 rfl, heap_setCell_loop v hs.2.2 rfl⟩)
      ?_ ⟨hI1, hL1, hK1⟩).mono ?_
    · rintro pre x W ⟨hi, hl, hk⟩ hlen
      have hlt : w.heap.size + 1 < W.heap.size := (Array.getElem?_eq_some_iff.1 hl).1
      have hy := run_yield (P := P) (args := #[.int .i64 x]) hl (by rw [hrec]; rfl)
      rw [hrec] at hy
      have hl2 : (W.putObj (w.heap.size + 1) (.loop { rec .ready none with state := .busy })).heap[w.heap.size + 1]? = some (.loop { rec .ready none with state := .busy }) := World.putObj_heap_same hlt
      have hk2 : (W.putObj (w.heap.size + 1) (.loop { rec .ready none with state := .busy })).heap[w.heap.size]? = some (.deferred (some [])) := (World.putObj_heap_other (by omega)).trans hk
      have hw2 : Kp W (W.putObj (w.heap.size + 1) (.loop { rec .ready none with state := .busy })) := hKb _ _ _ _ (by omega) hl rfl
      refine ⟨fn, _, assign, body, hy, roundIn_of_wpIn hfn (hassign _ x W _ ⟨_, run_beginRound hl (by rw [hrec]), ?_⟩)⟩
      refine wpIn_mono (hbody _ pre x _ (hI.putObj _ hi (by omega) hl rfl) hlen) ?_
      rintro e a3 W3 hp
      cases e with
      | normal =>
        obtain ⟨hk3, hkp3, hi3⟩ := hp
        have hl3 := hk3.same _ _ (by omega) hl2 rfl
        have hr := run_endRound (P := P) none hl3
        rw [hrec] at hr hl3
        refine ⟨_, _, hr, rfl, ⟨hI.putObj _ hi3 (by omega) hl3 rfl, ?_, ?_⟩, hKt (hKt hw2 hkp3) (hKb _ _ _ _ (by omega) hl3 rfl)⟩
        · rw [hrec]; exact World.putObj_heap_same (Array.getElem?_eq_some_iff.1 hl3).1
        · exact (World.putObj_heap_other (by omega)).trans (hk3.same _ _ (Nat.le_refl _) hk2 rfl)
      | ret => exact hp.elim
      | exit id => exact hp.elim
      | goto t => exact hp.elim
      | panic ch => exact hp.elim
      | outgrown => exact hp.elim
    · rintro e W2 ⟨⟨v, rfl⟩, hi, hl, hk⟩
      refine ⟨none, _, by have := run_endLoop (P := P) hl (by rw [hrec]; simp); rw [hrec] at this; exact this, ?_⟩
      exact hdone _ _ (Nat.le_refl _) (hI.putObj _ hi (by omega) hl rfl) ((World.putObj_heap_other (by omega)).trans hk)
end Go.Proofs.YtekcenacpklpgaaDoor

set_option maxHeartbeats 1000000
set_option maxRecDepth 100000
namespace Go.Proofs.YtekcenacpklpgaaDoor
open Go Go.RowKit Pl Go.Shelf
attribute [local go_sem] Oper.semAt_some

/-- Below n₀, and at the iterator's box, all lies as it lay. -/
def KeptBox (n₀ B : Nat) (W W' : World) : Prop := ∀ k, k < n₀ ∨ k = B → W'.heap[k]? = W.heap[k]?
theorem KeptBox.trans {n₀ B : Nat} {X Y Z : World} (h : KeptBox n₀ B X Y) (k : KeptBox n₀ B Y Z) : KeptBox n₀ B X Z := fun i hi => (k i hi).trans (h i hi)

/-- The number in the box. -/
def boxNat (W : World) (B : Nat) : Nat := match W.cell? ⟨B, 0, none⟩ with | some (.int _ b) => b.toNat | _ => 0
theorem boxNat_of {W : World} {B : Nat} {t : TypeId} {b : Nat} (h : Boxed W B t (.int .u64 b)) : boxNat W B = b := by
  unfold boxNat
  rw [h.cell]
  simp

theorem Tab.of_blocks {w w' : World} (h : Tab w) (hb : w'.heap[0]? = w.heap[0]?) : Tab w' := fun j hj =>
  (World.cell?_of_block (w := w) (a := ⟨0, j, none⟩) hb).trans (h j hj)

theorem drop_bits {b : Nat} (h0 : b ≠ 0) (h : b < 2 ^ 64) : bits BinOp.and IntKind.u64 (b : Int) ((b : Int) - 1) = ((b &&& (b - 1) : Nat) : Int) := by
  have e : (b : Int) - 1 = ((b - 1 : Nat) : Int) := by omega
  rw [e]
  exact u64_and_nat b (b - 1) h (by omega)

theorem all1_in (n : Nat) (hn : 3 ≤ n) (l B n₀ b0 : Nat) (hb0 : b0 < 2 ^ 64) (hn0 : 0 < n₀) (J : List Int → World → Prop) (hJs : ∀ s A v, J s A → J s (A.setCell ⟨B, 0, none⟩ v))
    (hY : ∀ pre x W, J pre W → (∃ r, elemsI b0 = pre ++ x :: r) → YieldAt Fence.wide (n - 1) Tryd.prog l #[.int .i64 x] W fun e W' => e = .returned (.bool true) ∧ J (pre ++ [x]) W' ∧ KeptBox n₀ B W W')
    (W : World) (hB : n₀ ≤ B) (hBx : Boxed W B 45 (.int .u64 b0)) (hT : Tab W) (h0 : J [] W) :
    CallsIn Fence.wide n Tryd.prog 98 #[.func (.yield l) #[] #[], .pointer (some ⟨B, 0, none⟩)] W fun e W' => (∃ v, e = .returned v) ∧ J (elemsI b0) W' := by
  refine callsIn_of_wp Tryd.func98 rfl trivial ?_ rfl
  simp only [Tryd.ntmps98, List.size_toArray, List.length_cons, List.length_nil, Nat.reduceAdd, Nat.reduceSub, Array.replicate_succ, Array.replicate_zero, List.push_toArray, List.append_toArray, List.nil_append, List.cons_append]
  gi_wp2
  gi_loopw [3] (fun _ wr => ∃ (pre : List Int) (b : Nat), Boxed wr B 45 (.int .u64 b) ∧ b < 2 ^ 64 ∧ Hid (elemsI b0 = pre ++ elemsI b) ∧ J pre wr ∧ Hid (Tab wr)) (fun _ wr => (elemsI (boxNat wr B)).length)
  case atStart => exact ⟨[], b0, hBx, hb0, rfl, h0, hT⟩
  case round =>
    obtain ⟨pre, b, hbx, hb, hx, hJ, hTr⟩ := hrel
    have hc := hbx.cell
    by_cases hz : b = 0
    · subst hz
      gi_wp2
      go_end0
      have e := hx.out
      rw [elemsI_zero, List.append_nil] at e
      exact ⟨⟨_, rfl⟩, by rw [e]; exact hJ⟩
    · have hne : ((b : Int) != 0) = true := by simp; omega
      have hcons := elemsI_cons hz hb
      have hdrop := drop_bits hz hb
      have hdl := drop_lt hb
      have hleast : Hid (∀ W, Tab W → Calls Tryd.prog 88 #[.int .u64 b] W fun e w' => e = .returned (.int .i64 ((Lib.ctz 64 b : Nat) : Int)) ∧ W = w') := fun W hW => by
        have := least_any b W hb hW
        rw [show lo b = ((Lib.ctz 64 b : Nat) : Int) from if_neg hz] at this
        exact this
      generalize ((Lib.ctz 64 b : Nat) : Int) = x at *
      generalize b &&& (b - 1) = d at *
      have Hcons := Lib.hid hcons
      have Hdl := Lib.hid hdl
      clear hcons hdl
      have hlt := hbx.lt
      obtain ⟨fn, tmps, assign, body, hy, hR⟩ := hY pre x wr hJ ⟨elemsI d, by rw [hx.out, Hcons.out]⟩
      have hn1 : 1 ≤ n := by omega
      gi_wp2_with (refine ⟨trivial, ?_⟩; gi_at_call 88; refine (callsIn_wide.2 (hleast.out _ hTr.out)).mono ?_; rintro e w' ⟨rfl, rfl⟩)
      refine hR.mono ?_
      rintro e W3 ⟨rfl, hJ3, hk3⟩
      have hbx3 : Boxed W3 B 45 (.int .u64 b) := (hk3 B (.inr rfl)).trans hbx
      have hc3 := hbx3.cell
      have hf3 := hbx3.frozen
      have hT3 : Hid (Tab W3) := hTr.out.of_blocks (hk3 0 (.inl hn0))
      gi_wp2
      refine ⟨⟨pre ++ [x], d, ?_, Hdl.out, ?_, hJs _ _ _ hJ3, ?_⟩, ?_⟩
      · exact hbx3.set _
      · show elemsI b0 = _
        rw [hx.out, Hcons.out]; simp
      · refine hT3.out.of_blocks ?_
        rw [Below.heap_setCell _ _ _ _ (by show 0 ≠ B; omega)]
      · have e1 := boxNat_of hbx
        have e2 : boxNat (W3.setCell ⟨B, 0, none⟩ (.int .u64 (d : Int))) B = d := boxNat_of (hbx3.set _)
        rw [e1, e2, Hcons.out]
        simp

theorem all_in (n : Nat) (b : Int) (w : World) :
    CallsIn Fence.wide n Tryd.prog 92 #[.int .u64 b] w fun e w' => e = .returned (.func (.func 98) #[] #[.pointer (some ⟨w.heap.size, 0, none⟩)]) ∧ w' = w.alloc (.cells #[.int .u64 b] 45) := by
  refine callsIn_of_wp Tryd.func92 rfl trivial ?_ rfl
  simp only [Tryd.ntmps92, List.size_toArray, List.length_cons, List.length_nil, Nat.reduceAdd, Nat.reduceSub, Array.replicate_succ, Array.replicate_zero, List.push_toArray, List.append_toArray, List.nil_append, List.cons_append]
  gi_wp2
  go_ret
  exact ⟨rfl, rfl⟩

theorem info_int : (Tryd.prog.info? 3).map (fun i => (i.zero, i.size, i.bytes)) = some (some (.int .i64 0), 1, 8) := by kernel_rfl

theorem elemsI_rng {b : Nat} : ∀ x ∈ elemsI b, 0 ≤ x ∧ x ≤ 63 := by
  intro x hx
  unfold elemsI at hx
  rw [List.mem_map] at hx
  obtain ⟨k, hk, rfl⟩ := hx
  have := (mem_elems.1 hk).1
  have e : Int.ofNat k = (k : Int) := rfl
  omega

theorem list_in (b : Nat) (w : World) (hb : b < 2 ^ 64) (hT : Tab w) :
    CallsIn Fence.wide 6 Tryd.prog 84 #[.int .u64 b] w (ListPost (elemsI b) w) := by
  have h1 : 1 ≤ 6 := by omega
  obtain ⟨i0, hi, hz0, hz1, hz2⟩ := info_parts info_int
  have h0s : 0 < w.heap.size := World.block_lt_of_cell? w ⟨0, 0, none⟩ (hT 0 (by decide))
  have hlen := elemsI_length_le b
  refine callsIn_of_wp_marks Tryd.func84 rfl trivial ?_ rfl
  simp only [Tryd.ntmps84, List.size_toArray, List.length_cons, List.length_nil, Nat.reduceAdd, Nat.reduceSub, Array.replicate_succ, Array.replicate_zero, List.push_toArray, List.append_toArray, List.nil_append, List.cons_append]
  gi_wp2_with (refine ⟨trivial, ?_⟩; gi_at_call 92; refine (all_in _ _ _).mono ?_; rintro e w' ⟨rfl, rfl⟩)
  have bO := Boxed.new w 22 (.slice none 0 0)
  have bN := Boxed.new (w.alloc (.cells #[.slice none 0 0] 22)) 45 (.int .u64 b)
  rw [World.size_alloc] at bN
  have hB0 : Below w.heap.size w ((w.alloc (.cells #[.slice none 0 0] 22)).alloc (.cells #[.int .u64 b] 45)) := ((Below.refl _ w).alloc (Nat.le_refl _) _).alloc (by simp) _
  have hB1 : (w.heap.size + 1) < ((w.alloc (.cells #[.slice none 0 0] 22)).alloc (.cells #[.int .u64 b] 45)).heap.size := by simp
  refine wpIn_range_box rfl h1 (gf := 98) (lb := #[.pointer (some ⟨w.heap.size + 1, 0, none⟩)]) rfl trivial (enters_of Tryd.func98 (by kernel_rfl) rfl)
    (B := w.heap.size + 1) (Kp := KeptBox w.heap.size (w.heap.size + 1)) (xs := elemsI b)
    (fun l J W hW hJs hY hJ0 => all1_in (6 - 1) (by omega) l (w.heap.size + 1) w.heap.size b hb h0s J hJs hY W (by omega) ((hW.block _ hB1).trans bN) (hT.of_blocks ((hW.block 0 (by simp)).trans (hB0.block 0 h0s))) hJ0)
    (fun h k => h.trans k)
    (fun W l o o' hl hl2 _ k hk => World.putObj_heap_other (by simp at hl; omega))
    (fun pre W => (∃ v, Boxed W w.heap.size 22 v ∧ W.ownsRow w.heap.size 3 1 v pre.length (pre.map (Value.int .i64)) ∧ True) ∧ (∃ u, Boxed W (w.heap.size + 1) 45 u) ∧ Below w.heap.size w W)
    ?own ?set ?init
    (fun x => { tmps := #[.int .u64 b, undef, .slice none 0 0, .pointer (some ⟨w.heap.size, 0, none⟩), .int .i64 x, .int .u64 b, .func (.func 98) #[] #[.pointer (some ⟨w.heap.size + 1, 0, none⟩)], .int .i64 x, undef, undef, undef, undef, undef], defers := [] }) ?assign ?body ?done
  case own =>
    refine OwnFrom.and (Own.from (holdsRow_own w.heap.size w.heap.size 22 3 1 (fun pre : List Int => pre.length) (fun pre => pre.map (Value.int .i64)) (fun _ _ => True)) _) (OwnFrom.and (Own.from ?_ _) (ownFrom_below (Nat.le_refl _) (by simp; omega)))
    rintro s X Y row ⟨u, hu⟩ hg hrow
    refine ⟨u, hu.kept hg (fun e' => ?_)⟩
    obtain ⟨o, ho, hc⟩ := hrow _ e'.symm
    rw [show X.heap[w.heap.size + 1]? = _ from hu] at ho
    cases ho
    cases hc
  case set =>
    rintro s A u ⟨⟨v, hv, hr, _⟩, ⟨u', hu⟩, hB⟩
    exact ⟨⟨v, hv.other (by omega) u, hr.kept (grownBy_setCell' A (w.heap.size + 1) u) (.inr (hu.not_row (by decide) hr).symm), trivial⟩, ⟨u, hu.set u⟩, hB.setCell (p := ⟨w.heap.size + 1, 0, none⟩) (by show w.heap.size ≤ w.heap.size + 1; omega) u⟩
  case init => exact ⟨⟨_, bO.alloc _, World.ownsRow_nil _ _ _ _, trivial⟩, ⟨_, bN⟩, hB0⟩
  case assign =>
    intro l x W K hK
    gi_wp2
    exact hK
  case body =>
    rintro l pre x W ⟨⟨v, hv, hrow, _⟩, ⟨u, hu⟩, hB⟩ ⟨r, hr⟩
    have hc := hv.cell
    have hpl : pre.length + 1 ≤ 64 := by rw [hr] at hlen; simp at hlen; omega
    have hsz := hB.size
    gi_wp2_with (gi_at_builtin; refine wpListIn_append_own _ rfl _ _ 22 rfl w.heap.size 3 i0 (.int .i64 0) 1 8 Tryd.underlying22 hi hz0 hz1 hz2 rfl (by decide) _ _ _ rfl (hrow.alloc _) ⟨W.heap.size, 0, none⟩ 1 1 [.int .i64 x] rfl rfl (cell_one_new _ _ _) (by simp [Value.oneCell']) (by unfold maxLen; omega) (by omega) (by simp; omega) ?_; intro v' w1 hown' hgrow _; obtain ⟨g', cap', rfl⟩ := ownsRow_succ hown'; obtain ⟨hv1, hv2, hr2, hk2, hb2⟩ := hv.appended (by decide) hrow hB.size (Nat.le_refl _) hown' hgrow; have hu1 : Boxed w1 (w.heap.size + 1) 45 u := (hu.alloc _).kept hgrow (hu.not_row (by decide) hrow); have hc1 := hv1.cell; have hf1 := hv1.frozen)
    refine ⟨hk2.from _, fun k hk => ?_, ⟨_, hv2, by simpa using hr2, trivial⟩, ⟨u, hu1.other (by omega) _⟩, hB.trans hb2⟩
    rcases hk with hk | rfl
    · exact hb2.block k hk
    · exact (show _ = _ from hu1.other (by omega) _).trans (show W.heap[w.heap.size + 1]? = _ from hu).symm
  case done =>
    rintro D W hD ⟨⟨v, hv, hrow, _⟩, _, hB⟩ hK
    have hc := hv.cell
    gi_wp2
    refine ⟨by simp, .inl ⟨_, _, rfl, run_takeDeferred hK, ?_⟩⟩
    obtain ⟨A, c, rfl, hI, hfr⟩ := Ints.of_own (ownsRow_putObj hrow (.deferred none) hK rfl) (fun x hx => by have := elemsI_rng x hx; omega)
    exact ⟨_, results_tmp rfl _ _ _, A, c, rfl, hI, hB.trans (belowK_b (w := w) (Nat.le_refl _) W D _ _ (by simp at hD; omega) hK rfl rfl), hfr⟩

/-- **The list of a set.** -/
theorem list_any (b : Nat) (w : World) (hb : b < 2 ^ 64) (hT : Tab w) : Calls Tryd.prog 84 #[.int .u64 b] w (ListPost (elemsI b) w) :=
  callsIn_wide.1 (list_in b w hb hT)
end Go.Proofs.YtekcenacpklpgaaDoor

set_option maxHeartbeats 1000000
set_option maxRecDepth 10000
namespace Go.Proofs.YtekcenacpklpgaaDoor
open Go Go.RowKit Pl

theorem list1_any (A : Option Addr) (n c L : Nat) (xs : List Int) (w : World) (hS : Ints w A n xs) (hL : L < 2 ^ 64) (hT : Tab w) (hm : mayB xs L = true) :
    Calls Tryd.prog 83 #[.agg #[.slice A n c, .int .u64 L]] w (ListPost (valsOf xs L) w) := by
  obtain ⟨i0, hi, hz0, hz1, hz2⟩ := info_parts info_int
  have HS := Lib.hid hS
  have HL := Lib.hid hL
  have HT := Lib.hid hT
  have Hm := Lib.hid hm
  have Hlen := Lib.hid hS.len
  have hmem : Hid (∀ x, x ∈ elemsI L → 0 ≤ x ∧ x < xs.length) := fun x hx => elemsI_lt hm hx
  have hel := elemsI_length_le L
  have Hrng := Lib.hid (valsOf_rng hm)
  have hnn : n ≤ 64 := by have := mayB_len hm; have := hS.len; omega
  clear hS hL hT hm
  go_enter Tryd.func83, Tryd.ntmps83
  go_wp2_with fail
  refine (list_any L _ HL.out (HT.out.kept (Kept.box _ _))).mono ?_
  rintro e w1 ⟨B, cb, rfl, hIb, hk1, _⟩
  have Hb0 := Lib.hid (hk1.cellAt (box2_0 w (.slice A n c) (.int .u64 L) _))
  have HIb := Lib.hid hIb
  have Hk1 := Lib.hid ((Kept.box _ _).then hk1)
  have hsz := hk1.size
  simp only [World.size_alloc] at hsz
  clear hIb hk1
  generalize hm : (elemsI L).length = m at *
  have Hmm := Lib.hid hm
  clear hm
  go_wp2_with fail
  go_loopw [3, 10] (fun u v wr => ∃ k : Nat, k ≤ m ∧ v = .int .i64 k ∧ wr.ownsRow w1.heap.size 3 1 u k (((valsOf xs L).take k).map (Value.int .i64)) ∧ Hid (Kept w1 wr)) (fun _ v _ => m - (intOf v).toNat)
  case atStart => exact ⟨0, Nat.zero_le _, rfl, World.ownsRow_nil _ _ _ _, Below.refl _ _⟩
  case round =>
    obtain ⟨k, hk, rfl, hown, Hkw⟩ := hrel
    by_cases hlt : k < m
    · have hbs := HIb.out.kept Hkw.out
      obtain ⟨b, rfl, hbb⟩ := hbs.addr (by omega)
      obtain ⟨q, Hq, hcq, _, _⟩ := hbs.named k hlt
      have hqm : q ∈ elemsI L := by
        have := Hq.out
        rw [List.getD_eq_getElem?_getD, List.getElem?_eq_getElem (by have := Hmm.out; omega)] at this
        simp at this
        rw [← this]
        exact List.getElem_mem _
      obtain ⟨hq0, hq1⟩ := hmem.out _ hqm
      obtain ⟨j, rfl⟩ := Int.eq_ofNat_of_zero_le hq0
      have hjn : j < n := by have := Hlen.out; omega
      have hxs := HS.out.kept (Hk1.out.then Hkw.out)
      obtain ⟨a, rfl, hba⟩ := hxs.addr (by omega)
      obtain ⟨x, Hx, hcx, hx1, hx2⟩ := hxs.named j hjn
      have hb0 := Hkw.out.cellAt Hb0.out
      have Htake : Hid (((valsOf xs L).take (k + 1)).map (Value.int .i64) = ((valsOf xs L).take k).map (Value.int .i64) ++ [.int .i64 x]) := by
        show _ = _
        have hl : k < (valsOf xs L).length := by rw [valsOf_length, Hmm.out]; exact hlt
        rw [take_succ_getD (x := x) hl ?_]
        · simp
        · unfold valsOf
          rw [List.getD_eq_getElem?_getD, List.getElem?_map, ← Hx.out]
          have h2 := Hq.out
          rw [List.getD_eq_getElem?_getD] at h2
          rw [List.getElem?_eq_getElem (by have := Hmm.out; omega)] at h2 ⊢
          simp at h2 ⊢
          rw [h2]
          simp
      clear hqm hbs hxs
      have hszr := Hkw.out.size
      go_wp2_with (at_builtin; refine wpList_append_own _ rfl _ _ 22 rfl w1.heap.size 3 i0 (.int .i64 0) 1 8 Tryd.underlying22 hi hz0 hz1 hz2 rfl (by decide) _ _ _ rfl (hown.alloc _) ⟨wr.heap.size, 0, none⟩ 1 1 [.int .i64 x] rfl rfl (cell_one_new _ _ _) (by simp [Value.oneCell']) (by unfold maxLen; omega) (by omega) (by simp; omega) ?_; intro v' w2 hown' hgrow _; clear hcq hcx hb0)
      go_roundw
      case rel => exact ⟨k + 1, by omega, by go_num, by rw [Htake.out]; exact hown', Hkw.out.appended hown (Nat.le_refl _) hgrow⟩
      case measure => simp [intOf]; omega
    · have e : k = (valsOf xs L).length := by rw [valsOf_length, Hmm.out]; omega
      rw [e, List.take_length] at hown
      obtain ⟨A', c', rfl, hI, hfr⟩ := Ints.of_own hown (fun x hx => by have := Hrng.out x hx; omega)
      have HI := Lib.hid hI
      have Hfr : Hid (Fresh w A') := Fresh.mono (w' := w1) hfr (by omega)
      clear hfr
      have He := Lib.hid e
      clear hI e hown
      go_wp2
      go_ret
      exact ⟨A', c', rfl, HI.out, Hk1.out.then Hkw.out, Hfr.out⟩

theorem dlist_any (A : Option Addr) (n c L : Nat) (xs : List Int) (w : World) (hS : Ints w A n xs) (hL : L < 2 ^ 64) (hT : Tab w) :
    Calls Tryd.prog 73 #[.agg #[.slice A n c, .int .u64 L]] w (ListPost (listB xs L) w) := by
  have HS := Lib.hid hS
  have HL := Lib.hid hL
  have HT := Lib.hid hT
  clear hS hL hT
  by_cases hm : mayB xs L = true
  · have hl : listB xs L = valsOf xs L := if_pos hm
    rw [hl]
    have Hm := Lib.hid hm
    have hmay : Hid (∀ W, Ints W A n xs → Calls Tryd.prog 23 #[.agg #[.slice A n c, .int .u64 L]] W fun e w' => e = .returned (.bool true) ∧ Kept W w') := fun W hW => by
      have := may_any A n c L xs W hW HL.out
      rwa [hm] at this
    clear hm hl
    go_enter Tryd.func73, Tryd.ntmps73
    go_wp2_with (first
      | (go_at_call 23; refine (hmay.out _ (HS.out.kept ((Kept.box _ _).then (Kept.box _ _)))).mono ?_; rintro e w1 ⟨rfl, hk⟩; have hb1 := hk.cellAt (box2_0 (w.alloc _) (.slice A n c) (.int .u64 L) _); have hb2 := hk.cellAt (box2_1 (w.alloc _) (.slice A n c) (.int .u64 L) _); simp only [World.size_alloc] at hb1 hb2; have Hk := Lib.hid (((Kept.box _ _).then (Kept.box _ _)).then hk); clear hk)
      | (go_at_call 83; refine (list1_any A n c L xs _ (HS.out.kept Hk.out) HL.out (HT.out.kept Hk.out) Hm.out).mono ?_; rintro e w2 ⟨A', c', rfl, hI, hk2, hfr⟩; have HI := Lib.hid hI; have Hfr : Hid (Fresh w A') := Fresh.mono hfr Hk.out.size; clear hfr; have Hk2 := Lib.hid (Hk.out.then hk2); clear hI hk2)
      | go_in)
    go_ret
    exact ⟨A', c', rfl, HI.out, Hk2.out, Hfr.out⟩
  · have hl : listB xs L = [] := if_neg hm
    rw [hl]
    have hmay : Hid (∀ W, Ints W A n xs → Calls Tryd.prog 23 #[.agg #[.slice A n c, .int .u64 L]] W fun e w' => e = .returned (.bool false) ∧ Kept W w') := fun W hW => by
      have := may_any A n c L xs W hW HL.out
      rwa [Bool.eq_false_iff.2 hm] at this
    clear hm hl
    go_enter Tryd.func73, Tryd.ntmps73
    go_wp2_with (first
      | (go_at_call 23; refine (hmay.out _ (HS.out.kept ((Kept.box _ _).then (Kept.box _ _)))).mono ?_; rintro e w1 ⟨rfl, hk⟩; have Hk := Lib.hid (((Kept.box _ _).then (Kept.box _ _)).then hk); clear hk)
      | go_in)
    go_ret
    exact ⟨Option.none, 0, rfl, Ints.none _, Hk.out, Fresh.none _⟩

/-- An address at which something lies is plain. -/
theorem plain_of_cell {w : World} {a : Addr} {v : Value} (h : w.cell? a = some v) : a = ⟨a.block, a.off, Option.none⟩ := by
  unfold World.cell? at h
  cases a with
  | mk b o s =>
    cases s with
    | none => rfl
    | some s =>
      split at h
      · simp at h
      · simp at h
theorem add_plain (b off j : Nat) : (⟨b, off, Option.none⟩ : Addr).add j = ⟨b, off + j, Option.none⟩ := by
  unfold Addr.add
  split <;> simp_all

theorem Ints.plain {w : World} {A : Option Addr} {n : Nat} {xs : List Int} (h : Ints w A n xs) (hn : 0 < n) : ∃ b off, A = some ⟨b, off, Option.none⟩ ∧ ∀ j, j < xs.length → w.cell? ⟨b, off + j, Option.none⟩ = some (.int .i64 (xs.getD j 0)) := by
  obtain ⟨a, rfl, hc⟩ := h.cell hn
  have h0 := hc 0 hn
  have e0 : a.add 0 = a := by unfold Addr.add; simp
  rw [e0] at h0
  have hp := plain_of_cell h0
  refine ⟨a.block, a.off, by rw [← hp], fun j hj => ?_⟩
  have := hc j (by have := h.len; omega)
  rw [hp, add_plain] at this
  exact this

theorem contains_any (A : Option Addr) (n c : Nat) (xs : List Int) (x : Int) (w : World) (hS : Ints w A n xs) :
    Calls Tryd.prog 79 #[.slice A n c, .int .i64 x] w fun e w' => e = .returned (.bool (xs.contains x)) ∧ w = w' := by
  by_cases hn : 0 < n
  · obtain ⟨b, off, rfl, hc⟩ := hS.plain hn
    refine (Tryd.slices_Contains_int b off n c xs x w (by have := hS.len; omega) hS.small hc).mono fun e w' ⟨he, hw⟩ => ⟨?_, hw.symm⟩
    rw [he, ← hS.len, List.take_length]
  · have h0 : n = 0 := by omega
    subst h0
    have hx : xs = [] := List.eq_nil_of_length_eq_zero hS.len
    subst hx
    exact (Tryd.slices_Contains_int_empty A c x w).mono fun e w' ⟨he, hw⟩ => ⟨he, hw.symm⟩

theorem has_any (A : Option Addr) (n c L : Nat) (xs : List Int) (v : Int) (w : World) (hS : Ints w A n xs) (hL : L < 2 ^ 64) (hT : Tab w) :
    Calls Tryd.prog 63 #[.agg #[.slice A n c, .int .u64 L], .int .i64 v] w fun e w' => e = .returned (.bool ((listB xs L).contains v)) ∧ Kept w w' := by
  have HS := Lib.hid hS
  have HL := Lib.hid hL
  have HT := Lib.hid hT
  clear hS hL hT
  go_enter Tryd.func63, Tryd.ntmps63
  go_wp2_with (first
    | (go_at_call 73; refine (dlist_any A n c L xs _ (HS.out.kept (Kept.box _ _)) HL.out (HT.out.kept (Kept.box _ _))).mono ?_; rintro e w1 ⟨A', c', rfl, hI, hk, hfr⟩; have HI := Lib.hid hI; have Hk := Lib.hid ((Kept.box _ _).then hk); clear hI hk hfr)
    | (go_at_call 79; refine (contains_any _ _ _ _ _ _ HI.out).mono ?_; rintro e w2 ⟨rfl, rfl⟩))
  go_ret
  exact ⟨ret_bool (by simp), Hk.out⟩
end Go.Proofs.YtekcenacpklpgaaDoor

set_option maxHeartbeats 1000000
set_option maxRecDepth 10000
namespace Go.Proofs.YtekcenacpklpgaaDoor
open Go Go.RowKit Pl

/-- A copy, in memory of the call's own. -/
theorem clone_any (A : Option Addr) (n c : Nat) (xs : List Int) (w : World) (hS : Ints w A n xs) (hn : n ≤ 100000) :
    Calls Tryd.prog 24 #[.slice A n c] w fun e w' => ∃ B c', e = .returned (.slice B n c') ∧ Ints w' B n xs ∧ Kept w w' ∧ Fresh w B := by
  by_cases h0 : 0 < n
  · obtain ⟨b, off, rfl, hc⟩ := hS.plain h0
    refine (Tryd.slices_Clone_int b off n c xs w (by have := hS.len; omega) (by omega) hc).mono ?_
    rintro e w' ⟨v', rfl, hown, _, hk⟩
    rw [← hS.len, List.take_length, hS.len] at hown
    obtain ⟨B, c', rfl, hI, hf⟩ := Ints.of_own hown hS.rng
    exact ⟨B, c', rfl, hI, hk, hf⟩
  · have h1 : n = 0 := by omega
    subst h1
    have hx : xs = [] := List.eq_nil_of_length_eq_zero hS.len
    subst hx
    cases A with
    | none =>
      refine (Tryd.slices_Clone_int_nil 0 c w).mono ?_
      rintro e w' ⟨rfl, rfl⟩
      exact ⟨Option.none, 0, rfl, Ints.none _, Below.refl _ _, Fresh.none _⟩
    | some a =>
      refine (Tryd.slices_Clone_int_zero a c w).mono ?_
      rintro e w' ⟨v', rfl, hown, _, hk⟩
      obtain ⟨B, c', rfl, hI, hf⟩ := Ints.of_own (xs := []) (by simpa using hown) (by simp)
      exact ⟨B, c', rfl, hI, hk, hf⟩

/-- A domain is handed back; its values lie in memory of the call's own. -/
def DomPost (d : DomB) (w : World) (e : Ending) (w' : World) : Prop :=
  ∃ A c, e = .returned (.agg #[.slice A d.1.length c, .int .u64 d.2]) ∧ Ints w' A d.1.length d.1 ∧ Kept w w' ∧ Fresh w A

theorem less1_any (x v : Int) (B : Nat) (w : World) (hB : w.cell? ⟨B, 0, none⟩ = some (.int .i64 v)) :
    Calls Tryd.prog 86 #[.int .i64 x, .pointer (some ⟨B, 0, none⟩)] w fun e w' => e = .returned (.bool (x != v)) ∧ w = w' := by
  go_enter Tryd.func86, Tryd.ntmps86
  go_wp2
  go_ret
  exact ⟨ret_bool (by simp), rfl⟩

theorem less1_quiet (x v : Int) (B : Nat) (w : World) (hB : w.cell? ⟨B, 0, none⟩ = some (.int .i64 v)) :
    Calls Tryd.prog 86 #[.int .i64 x, .pointer (some ⟨B, 0, none⟩)] w fun e w' => e = .returned (.bool (x != v)) ∧ Kept w w' :=
  (less1_any x v B w hB).mono fun _ _ ⟨he, hw⟩ => ⟨he, hw ▸ Below.refl _ _⟩

theorem ofL_nil : ofL [] = 0 := by
  apply Nat.eq_of_testBit_eq
  intro i
  unfold ofL
  rw [testBit_mkSet]
  simp
attribute [local irreducible] ofL mkSet
theorem ofL_one {k : Nat} (hk : k < 64) : ofL [(k : Int)] = 2 ^ k := by
  have := ofL_snoc_in (l := []) hk
  simp only [List.nil_append] at this
  rw [this, ofL_nil]
  simp
theorem or_set {a k : Nat} (ha : a < 2 ^ 64) (hk : k < 64) : bits BinOp.or IntKind.u64 (a : Int) ((ofL [(k : Int)] : Nat) : Int) = ((a ||| 2 ^ k : Nat) : Int) := by
  rw [← or_pow ha hk, ofL_one hk]
  congr 1
  have h2 : 2 ^ k < 2 ^ 64 := Nat.pow_lt_pow_right (by decide) hk
  have e : ((2 : Int) ^ k) = ((2 ^ k : Nat) : Int) := by simp
  rw [e]
  generalize 2 ^ k = z at *
  unfold IntKind.wrap
  simp [IntKind.signed, IntKind.bits]
  omega

theorem cell_at {w : World} {O : Nat} {cs : Array Value} {t : TypeId} {fr : Nat × Nat} (h : w.heap[O]? = some (.cells cs t fr)) (i : Nat) : w.cell? ⟨O, i, none⟩ = cs[i]? := by
  unfold World.cell?; simp [h]
theorem frozen_at {w : World} {O : Nat} {cs : Array Value} {t : TypeId} (h : w.heap[O]? = some (.cells cs t (0, 0))) (i : Nat) : w.frozen? ⟨O, i, none⟩ = false := by
  unfold World.frozen?; simp [h]
theorem frozen_new {w : World} {O i : Nat} (o : Obj) (h : O < w.heap.size) (hf : w.frozen? ⟨O, i, none⟩ = false) : (w.alloc o).drew.frozen? ⟨O, i, none⟩ = false :=
  (World.frozen?_alloc_old w o ⟨O, i, none⟩ (by simp; omega)).trans hf
theorem lit1 (w : World) (x : Int) (t : TypeId) (fr : Nat × Nat) (hx : -9223372036854775808 ≤ x ∧ x ≤ 9223372036854775807) : Ints (w.alloc (.cells #[.int .i64 x] t fr)) (some ⟨w.heap.size, 0, none⟩) 1 [x] :=
  Ints.of_cells (xs := [x]) (by rw [heap_new]; rfl) (by simp) (by simpa using hx) rfl
theorem Kept.drewn (w : World) : Kept w w.drew := ⟨rfl, rfl, rfl, Nat.le_refl _, fun _ _ => rfl⟩
theorem lit1d (w : World) (x : Int) (t : TypeId) (fr : Nat × Nat) (hx : -9223372036854775808 ≤ x ∧ x ≤ 9223372036854775807) : Ints (w.alloc (.cells #[.int .i64 x] t fr)).drew (some ⟨w.heap.size, 0, none⟩) 1 [x] :=
  (lit1 w x t fr hx).kept (Kept.drewn _)
theorem two_set1 {w : World} {O : Nat} {v0 v1 : Value} {t : TypeId} (h : w.heap[O]? = some (.cells #[v0, v1] t (0, 0))) (v : Value) : (w.setCell ⟨O, 1, none⟩ v).heap[O]? = some (.cells #[v0, v] t (0, 0)) := by
  rw [heap_setCell_same w O 1 _ t v h]; rfl
theorem KeptBut.heapAt {B : Nat} {w w' : World} (h : KeptBut B w w') {O : Nat} {o : Obj} (hO : w.heap[O]? = some o) (hB : O ≠ B) : w'.heap[O]? = some o := (h.block O (Array.getElem?_eq_some_iff.1 hO).1 hB).trans hO
theorem lt_at {w : World} {O : Nat} {o : Obj} (h : w.heap[O]? = some o) : O < w.heap.size := (Array.getElem?_eq_some_iff.1 h).1
theorem Kept.heapAt {w w' : World} (h : Kept w w') {O : Nat} {o : Obj} (hO : w.heap[O]? = some o) : w'.heap[O]? = some o := (h.block O (lt_at hO)).trans hO

theorem two_step {w : World} {O : Nat} {v0 v1 : Value} {t : TypeId} (h : w.heap[O]? = some (.cells #[v0, v1] t (0, 0))) (v : Value) (o : Obj) : ((w.setCell ⟨O, 1, none⟩ v).alloc o).drew.heap[O]? = some (.cells #[v0, v] t (0, 0)) :=
  Kept.heapAt ((Kept.box _ o).then (Kept.drewn _)) (two_set1 h v)
theorem but_step (w : World) (O : Nat) (v : Value) (o : Obj) : KeptBut O w ((w.setCell ⟨O, 1, none⟩ v).alloc o).drew :=
  (KeptBut.set w (a := ⟨O, 1, none⟩) (B := O) rfl v).then (KeptBut.of ((Kept.box _ o).then (Kept.drewn _)) O)

theorem heap_new2 (w : World) (o o' : Obj) : ((w.alloc o).alloc o').heap[w.heap.size + 1]? = some o' := by
  have := heap_new (w.alloc o) o'
  rwa [World.size_alloc] at this

theorem Ints.keptBut0 {B : Nat} {w w' : World} {A : Option Addr} {n : Nat} {xs : List Int} (h : Ints w A n xs) (hk : KeptBut B w w') (hB : 0 < n → ∀ a, A = some a → a.block ≠ B) : Ints w' A n xs :=
  ⟨h.len, h.small, h.rng, fun hn => by
    obtain ⟨a, e, hc⟩ := h.cell hn
    exact ⟨a, e, fun j hj => hk.cellAt (hc j hj) (by rw [add_block']; exact hB hn a e)⟩⟩

theorem filter_in {p : Int → Bool} {l : List Int} {x : Int} (h : p x = true) : (l ++ [x]).filter p = l.filter p ++ [x] := by
  rw [List.filter_append]; simp [h]
theorem filter_out {p : Int → Bool} {l : List Int} {x : Int} (h : p x = false) : (l ++ [x]).filter p = l.filter p := by
  rw [List.filter_append]; simp [h]

theorem Kept.cellBut {O : Nat} {w w' : World} (h : KeptBut O w w') {a : Addr} {v : Value} (hc : w.cell? a = some v) (hO : w.heap.size ≤ O) : w'.cell? a = some v :=
  h.cellAt hc (by have := World.block_lt_of_cell? w a hc; omega)

theorem ofL_filter {xs : List Int} {L : Nat} (f : Int → Bool) : ofL ((elemsI L).filter fun i => f (xs.getD i.toNat 0)) = (keepD f (xs, L)).2 := by
  apply Nat.eq_of_testBit_eq
  intro i
  rw [testBit_keepD]
  unfold ofL
  rw [testBit_mkSet]
  by_cases hi : i < 64
  · simp only [hi, decide_true, Bool.true_and]
    rw [Bool.eq_iff_iff, List.contains_iff_mem, List.mem_filter, mem_elemsI, Bool.and_eq_true]
    constructor
    · rintro ⟨⟨k, hk, _, hb⟩, hf⟩
      have e : k = i := by omega
      subst e
      exact ⟨hb, hf⟩
    · rintro ⟨hb, hf⟩
      exact ⟨⟨i, rfl, hi, hb⟩, hf⟩
  · simp [hi]

theorem kept1_any (A : Option Addr) (n c L : Nat) (xs : List Int) (v : Int) (Bf Bv : Nat) (w : World) (hS : Ints w A n xs) (hL : L < 2 ^ 64) (hT : Tab w) (hm : mayB xs L = true)
    (hf : w.cell? ⟨Bf, 0, none⟩ = some (.func (.func 86) #[] #[.pointer (some ⟨Bv, 0, none⟩)])) (hv : w.cell? ⟨Bv, 0, none⟩ = some (.int .i64 v)) :
    Calls Tryd.prog 94 #[.agg #[.slice A n c, .int .u64 L], .pointer (some ⟨Bf, 0, none⟩)] w (DomPost (keepD (fun x => x != v) (xs, L)) w) := by
  have HS := Lib.hid hS
  have HL := Lib.hid hL
  have HT := Lib.hid hT
  have Hm := Lib.hid hm
  have Hlen := Lib.hid hS.len
  have Hf := Lib.hid hf
  have Hv := Lib.hid hv
  clear hS hL hT hm hf hv
  go_enter Tryd.func94, Tryd.ntmps94
  go_wp2_with fail
  refine (clone_any A n c xs _ (HS.out.kept ((Kept.box _ _).newBlock _)) (by have := mayB_len Hm.out; have := Hlen.out; omega)).mono ?_
  rintro e wc ⟨B, cb, rfl, hIb, hk1, hfb⟩
  have Hb0 := Lib.hid (hk1.cellAt ((Kept.box _ _).cellAt (box2_0 w (.slice A n c) (.int .u64 L) _)))
  have hb1 := hk1.cellAt ((Kept.box _ _).cellAt (box2_1 w (.slice A n c) (.int .u64 L) _))
  have HR := Lib.hid (hk1.heapAt (heap_new2 _ _ _))
  have HIb := Lib.hid hIb
  have Hk1 := Lib.hid (((Kept.box _ _).newBlock _).then hk1)
  have hsz := hk1.size
  simp only [World.size_alloc] at hsz
  clear hIb hk1
  have hlt : w.heap.size < wc.heap.size := by omega
  go_wp2_with fail
  refine (list_any L _ HL.out (HT.out.kept (Hk1.out.newBlock _))).mono ?_
  rintro e w2 ⟨Bl, cl, rfl, hIl, hk2, hfl⟩
  have HO : Hid (w2.heap[wc.heap.size]? = some (.cells #[.slice B n cb, .int .u64 0] 47 (0, 0))) := Kept.heapAt hk2 (heap_new _ _)
  have HIl := Lib.hid hIl
  have Hfl := Lib.hid hfl
  have Hfb := Lib.hid hfb
  have Hk2 := Lib.hid ((Kept.box _ _).then hk2)
  have hsz2 := hk2.size
  simp only [World.size_alloc] at hsz2
  clear hIl hk2 hfl hfb
  have hel := elemsI_length_le L
  generalize hm : (elemsI L).length = m at *
  have Hmm := Lib.hid hm
  clear hm
  go_wp2_with fail
  go_loopw [15] (fun u wr => ∃ k : Nat, k ≤ m ∧ u = .int .i64 k ∧ Hid (KeptBut wc.heap.size w2 wr) ∧ Hid (wr.heap[wc.heap.size]? = some (.cells #[.slice B n cb, .int .u64 (ofL (((elemsI L).take k).filter fun i => xs.getD i.toNat 0 != v) : Nat)] 47 (0, 0)))) (fun u _ => m - (intOf u).toNat)
  case atStart => exact ⟨0, Nat.zero_le _, rfl, KeptBut.refl _ _, by rw [List.take_zero, List.filter_nil, ofL_nil]; exact HO⟩
  case round =>
    obtain ⟨k, hk, rfl, Hkw, HOr⟩ := hrel
    by_cases hlt : k < m
    · have hbs := HIl.out.keptBut Hkw.out (fun a ha => by have := Hfl.out a ha; simp only [World.size_alloc] at this; omega)
      obtain ⟨b, rfl, hbb⟩ := hbs.addr (by omega)
      obtain ⟨q, Hq, hcq, _, _⟩ := hbs.named k hlt
      have hqm : q ∈ elemsI L := by
        have := Hq.out
        rw [List.getD_eq_getElem?_getD, List.getElem?_eq_getElem (by have := Hmm.out; omega)] at this
        simp at this
        rw [← this]
        exact List.getElem_mem _
      obtain ⟨hq0, hq1⟩ := elemsI_lt Hm.out hqm
      obtain ⟨hqa, hqb⟩ := elemsI_rng _ hqm
      have hqi : -9223372036854775808 ≤ q ∧ q ≤ 9223372036854775807 := by omega
      obtain ⟨j, rfl⟩ := Int.eq_ofNat_of_zero_le hq0
      have hjn : j < n := by have := Hlen.out; omega
      have hxs2 := HS.out.kept (Hk1.out.then Hk2.out)
      have hxs := hxs2.keptBut Hkw.out (fun a ha => by subst ha; have := HS.out.block (by omega); omega)
      obtain ⟨a, rfl, hba⟩ := hxs.addr (by omega)
      obtain ⟨x, Hx, hcx, hx1, hx2⟩ := hxs.named j hjn
      have hb0 := Hkw.out.cellAt (Hk2.out.cellAt Hb0.out) (by simp; omega)
      have hf := Hkw.out.cellAt ((Hk1.out.then Hk2.out).cellAt Hf.out) (by have := World.block_lt_of_cell? w _ Hf.out; simp at this ⊢; omega)
      have hv := Hkw.out.cellAt ((Hk1.out.then Hk2.out).cellAt Hv.out) (by have := World.block_lt_of_cell? w _ Hv.out; simp at this ⊢; omega)
      clear hqm hbs hxs hxs2
      have hszr := Hkw.out.size
      have Htake : Hid ((elemsI L).take (k + 1) = (elemsI L).take k ++ [(j : Int)]) := take_succ_getD (by have := Hmm.out; omega) Hq.out
      have hsame : Hid (x = v → ((elemsI L).take (k + 1)).filter (fun i => xs.getD i.toNat 0 != v) = ((elemsI L).take k).filter (fun i => xs.getD i.toNat 0 != v)) := by
        intro hxv
        rw [Htake.out]
        exact filter_out (by rw [Int.toNat_natCast, Hx.out]; simp [hxv])
      have hmore : Hid (x ≠ v → ((elemsI L).take (k + 1)).filter (fun i => xs.getD i.toNat 0 != v) = ((elemsI L).take k).filter (fun i => xs.getD i.toNat 0 != v) ++ [(j : Int)]) := by
        intro hxv
        rw [Htake.out]
        exact filter_in (by rw [Int.toNat_natCast, Hx.out]; simp [hxv])
      have hlf : Bf < wr.heap.size := World.block_lt_of_cell? wr _ hf
      have hlv : Bv < wr.heap.size := World.block_lt_of_cell? wr _ hv
      have hlb : w.heap.size < wr.heap.size := World.block_lt_of_cell? wr _ hb0
      by_cases hxv : x = v
      · have hd : (x != v) = false := by simp [hxv]
        go_wp2
        refine wp_region_quiet_below (by kernel_rfl) (by kernel_rfl) ?_
        repeat (any_goals (first | go_big_quiet_step (((go_at_call 86; exact Calls.regrown_of (less1_quiet _ _ _ _ (cell_regrown hv _ _))))) | quiet_step (((go_at_call 86; exact Calls.regrown_of (less1_quiet _ _ _ _ (cell_regrown hv _ _))))) | (refine wpQuiet_step (fun K hK => ?_); go_simp; split <;> (refine hK _ ?_; clear hK K))))
        all_goals (refine wpQuiet_nil ?_; intro w1 hw'; replace hw' := Kept.regrown hw')
        have HK := Lib.hid (KeptBut.of hw' wc.heap.size)
        have HO' := Lib.hid (hw'.heapAt HOr.out)
        clear hw' HOr hb0 hf hv hcq hcx
        go_wp2
        go_roundw
        case rel => exact ⟨k + 1, by omega, by go_num, Hkw.out.then HK.out, by rw [hsame.out hxv]; exact HO'⟩
        case measure => simp [intOf]; omega
      · have hd : (x != v) = true := by simp [hxv]
        go_wp2
        refine wp_region_quiet_below (by kernel_rfl) (by kernel_rfl) ?_
        repeat (any_goals (first | go_big_quiet_step (((go_at_call 86; exact Calls.regrown_of (less1_quiet _ _ _ _ (cell_regrown hv _ _))))) | quiet_step (((go_at_call 86; exact Calls.regrown_of (less1_quiet _ _ _ _ (cell_regrown hv _ _))))) | (refine wpQuiet_step (fun K hK => ?_); go_simp; split <;> (refine hK _ ?_; clear hK K))))
        all_goals (refine wpQuiet_nil ?_; intro w1 hw'; replace hw' := Kept.regrown hw')
        have HK := Lib.hid (KeptBut.of hw' wc.heap.size)
        have HO' := Lib.hid (hw'.heapAt HOr.out)
        have hGl := ofL_lt (((elemsI L).take k).filter fun i => xs.getD i.toNat 0 != v)
        have HG : Hid (ofL (((elemsI L).take (k + 1)).filter fun i => xs.getD i.toNat 0 != v) = ofL (((elemsI L).take k).filter fun i => xs.getD i.toNat 0 != v) ||| 2 ^ j) := by
          rw [hmore.out hxv]; exact ofL_snoc_in (by omega)
        generalize ofL (((elemsI L).take k).filter fun i => xs.getD i.toNat 0 != v) = G at HO' hGl HG
        have hO1' := cell_at HO'.out 1
        have hfr := frozen_at HO'.out 1
        have hlo : wc.heap.size < w1.heap.size := lt_at HO'.out
        have hne := World.new_ne w1 _ hO1'
        clear hw' HOr hb0 hf hv hcq hcx
        go_wp2
        go_region_with (first | (go_at_call 95; refine (of_any _ _ _ [(j : Int)] _ ?_).mono ?_; exact lit1d _ _ _ _ hqi; rintro e W ⟨rfl, rfl⟩))
        all_goals go_wp2
        all_goals go_roundw
        case rel | rel | rel => exact ⟨k + 1, by omega, by go_num, (Hkw.out.then HK.out).then (but_step _ _ _ _), by rw [HG.out, ← or_set hGl (by omega)]; exact two_step HO'.out _ _⟩
        all_goals (simp [intOf]; omega)
    · have hO0 := cell_at HOr.out 0
      have hO1 := cell_at HOr.out 1
      have HRr := Lib.hid (Hkw.out.heapAt (Hk2.out.heapAt HR.out) (by omega))
      have hR0 := cell_at HRr.out 0
      have hR1 := cell_at HRr.out 1
      have hf0 := frozen_at HRr.out 0
      have hf1 := frozen_at HRr.out 1
      simp only [List.getElem?_toArray, List.getElem?_cons_zero, List.getElem?_cons_succ] at hO0 hO1 hR0 hR1
      have HG : Hid (ofL (((elemsI L).take k).filter fun i => xs.getD i.toNat 0 != v) = (keepD (fun x => x != v) (xs, L)).2) := by
        rw [List.take_of_length_le (by have := Hmm.out; omega)]
        exact ofL_filter (fun x => x != v)
      clear HOr
      generalize ofL (((elemsI L).take k).filter fun i => xs.getD i.toNat 0 != v) = G at hO1 HG
      go_wp2
      have hkR : Kept w ((wr.setCell ⟨w.heap.size + 1, 0, none⟩ (.slice B n cb)).setCell ⟨w.heap.size + 1, 1, none⟩ (.int .u64 G)) :=
        (((KeptBut.of (((KeptBut.of (Hk1.out.then Hk2.out) wc.heap.size).then Hkw.out).kept (by omega)) (w.heap.size + 1)).then (KeptBut.set _ (a := ⟨w.heap.size + 1, 0, none⟩) (B := w.heap.size + 1) rfl _)).then (KeptBut.set _ (a := ⟨w.heap.size + 1, 1, none⟩) (B := w.heap.size + 1) rfl _)).kept (by omega)
      have hIr : Ints ((wr.setCell ⟨w.heap.size + 1, 0, none⟩ (.slice B n cb)).setCell ⟨w.heap.size + 1, 1, none⟩ (.int .u64 G)) B n xs := by
        refine Ints.keptBut0 (B := w.heap.size + 1) (Ints.keptBut0 (HIb.out.kept Hk2.out) Hkw.out ?_) ((KeptBut.set _ (a := ⟨w.heap.size + 1, 0, none⟩) rfl _).then (KeptBut.set _ (a := ⟨w.heap.size + 1, 1, none⟩) rfl _)) ?_
        · intro hn a ha
          subst ha
          have := HIb.out.block hn
          omega
        · intro hn a ha
          have := Hfb.out a ha
          simp only [World.size_alloc] at this
          omega
      refine bodyPost_ret (v := .agg #[.slice B n cb, .int .u64 G]) (by simp [results, Tryd.results94, go_sem, hR0, hR1]) rfl ?_
      refine ⟨B, cb, ?_, ?_, hkR, Fresh.mono Hfb.out (by simp; omega)⟩
      · rw [← HG.out]
        show _ = Ending.returned (.agg #[.slice B xs.length cb, _])
        rw [Hlen.out]
      · show Ints _ B xs.length xs
        rw [Hlen.out]
        exact hIr
end Go.Proofs.YtekcenacpklpgaaDoor

set_option maxHeartbeats 1000000
set_option maxRecDepth 10000
namespace Go.Proofs.YtekcenacpklpgaaDoor
open Go Go.RowKit Pl

theorem two_set01 {w : World} {O : Nat} {v0 v1 : Value} {t : TypeId} (h : w.heap[O]? = some (.cells #[v0, v1] t (0, 0))) (x0 x1 : Value) : ((w.setCell ⟨O, 0, none⟩ x0).setCell ⟨O, 1, none⟩ x1).heap[O]? = some (.cells #[x0, x1] t (0, 0)) := by
  have h0 : (w.setCell ⟨O, 0, none⟩ x0).heap[O]? = some (.cells #[x0, v1] t (0, 0)) := by rw [heap_setCell_same w O 0 _ t x0 h]; rfl
  exact two_set1 h0 x1
theorem heap_new3 (w : World) (o o' o'' : Obj) : (((w.alloc o).alloc o').alloc o'').heap[w.heap.size + 1 + 1]? = some o'' := by
  have := heap_new ((w.alloc o).alloc o') o''
  rwa [World.size_alloc, World.size_alloc] at this
/-- A domain is stored into a variable of the call's own. -/
theorem dom_out {w wr : World} {R n : Nat} {B : Option Addr} {xs : List Int} (hk : Kept w wr) (hR : w.heap.size ≤ R) (hI : Ints wr B n xs) (hB : ∀ a, B = some a → R < a.block) (x0 x1 : Value) :
    Kept w ((wr.setCell ⟨R, 0, none⟩ x0).setCell ⟨R, 1, none⟩ x1) ∧ Ints ((wr.setCell ⟨R, 0, none⟩ x0).setCell ⟨R, 1, none⟩ x1) B n xs := by
  have h2 : KeptBut R wr ((wr.setCell ⟨R, 0, none⟩ x0).setCell ⟨R, 1, none⟩ x1) := (KeptBut.set _ (a := ⟨R, 0, none⟩) rfl _).then (KeptBut.set _ (a := ⟨R, 1, none⟩) rfl _)
  exact ⟨((KeptBut.of hk R).then h2).kept hR, hI.keptBut h2 (fun a ha => by have := hB a ha; omega)⟩

theorem askedDom_any (A : Option Addr) (n c L : Nat) (xs : List Int) (v : Int) (Bf Bv : Nat) (w : World) (hS : Ints w A n xs) (hL : L < 2 ^ 64) (hT : Tab w) (hm : mayB xs L = true)
    (hf : w.cell? ⟨Bf, 0, none⟩ = some (.func (.func 86) #[] #[.pointer (some ⟨Bv, 0, none⟩)])) (hv : w.cell? ⟨Bv, 0, none⟩ = some (.int .i64 v)) :
    Calls Tryd.prog 93 #[.agg #[.slice A n c, .int .u64 L], .func (.func 94) #[] #[.pointer (some ⟨Bf, 0, none⟩)]] w (DomPost (keepD (fun x => x != v) (xs, L)) w) := by
  have HS := Lib.hid hS
  have HL := Lib.hid hL
  have HT := Lib.hid hT
  have Hm := Lib.hid hm
  have Hf := Lib.hid hf
  have Hv := Lib.hid hv
  have hmay : Hid (∀ W, Ints W A n xs → Calls Tryd.prog 23 #[.agg #[.slice A n c, .int .u64 L]] W fun e w' => e = .returned (.bool true) ∧ Kept W w') := fun W hW => by
    have := may_any A n c L xs W hW HL.out
    rwa [hm] at this
  clear hS hL hT hm hf hv
  go_enter Tryd.func93, Tryd.ntmps93
  go_wp2_with fail
  refine (hmay.out _ (HS.out.kept (((Kept.box _ _).newBlock _).newBlock _))).mono ?_
  rintro e w1 ⟨rfl, hk⟩
  have hb0 := hk.cellAt ((Kept.box _ _).cellAt ((Kept.box _ _).cellAt (box2_0 w (.slice A n c) (.int .u64 L) _)))
  have hb1 := hk.cellAt ((Kept.box _ _).cellAt ((Kept.box _ _).cellAt (box2_1 w (.slice A n c) (.int .u64 L) _)))
  have HR := Lib.hid (hk.heapAt ((Kept.box _ _).heapAt (heap_new2 _ _ _)))
  have Hk := Lib.hid ((((Kept.box _ _).newBlock _).newBlock _).then hk)
  have hsz := hk.size
  simp only [World.size_alloc] at hsz
  clear hmay hk
  go_wp2_with fail
  refine (kept1_any A n c L xs v Bf Bv _ (HS.out.kept Hk.out) HL.out (HT.out.kept Hk.out) Hm.out (Hk.out.cellAt Hf.out) (Hk.out.cellAt Hv.out)).mono ?_
  rintro e w2 ⟨B, cb, rfl, hI, hk2, hfr⟩
  generalize hd : keepD (fun x => x != v) (xs, L) = d at *
  have hR := hk2.heapAt HR.out
  have hR0 := cell_at hR 0
  have hR1 := cell_at hR 1
  have hf0 := frozen_at hR 0
  have hf1 := frozen_at hR 1
  simp only [List.getElem?_toArray, List.getElem?_cons_zero, List.getElem?_cons_succ] at hR0 hR1
  obtain ⟨hkR, hIr⟩ := dom_out (R := w.heap.size + 1) (Hk.out.then hk2) (by omega) hI (fun a ha => by have := hfr a ha; omega) (.slice B d.1.length cb) (.int .u64 d.2)
  have HkR := Lib.hid hkR
  have HIr := Lib.hid hIr
  have Hfr : Hid (Fresh w B) := Fresh.mono hfr (by omega)
  clear hI hk2 hR hkR hIr hfr
  go_wp2
  refine bodyPost_ret (v := .agg #[.slice B d.1.length cb, .int .u64 d.2]) (by simp [results, Tryd.results93, go_sem, hR0, hR1]) rfl ?_
  subst hd
  exact ⟨B, cb, rfl, HIr.out, HkR.out, Hfr.out⟩

/-- A domain that may be, of which all is kept but one value. -/
theorem domkept_any (A : Option Addr) (n c L : Nat) (xs : List Int) (v : Int) (Bv : Nat) (w : World) (hS : Ints w A n xs) (hL : L < 2 ^ 64) (hT : Tab w) (hm : mayB xs L = true)
    (hv : w.cell? ⟨Bv, 0, none⟩ = some (.int .i64 v)) :
    Calls Tryd.prog 85 #[.agg #[.slice A n c, .int .u64 L], .func (.func 86) #[] #[.pointer (some ⟨Bv, 0, none⟩)]] w (DomPost (keepD (fun x => x != v) (xs, L)) w) := by
  have HS := Lib.hid hS
  have HL := Lib.hid hL
  have HT := Lib.hid hT
  have Hm := Lib.hid hm
  have Hv := Lib.hid hv
  clear hS hL hT hm hv
  go_enter Tryd.func85, Tryd.ntmps85
  go_wp2_with fail
  refine (askedDom_any A n c L xs v (w.heap.size + 1) Bv _ (HS.out.kept (((Kept.box _ _).newBlock _).newBlock _)) HL.out (HT.out.kept (((Kept.box _ _).newBlock _).newBlock _)) Hm.out ?_ ((((Kept.box _ _).newBlock _).newBlock _).cellAt Hv.out)).mono ?_
  · exact (Kept.box _ _).cellAt (by rw [cell_at (heap_new2 _ _ _) 0]; rfl)
  rintro e w2 ⟨B, cb, rfl, hI, hk2, hfr⟩
  generalize hd : keepD (fun x => x != v) (xs, L) = d at *
  have hR := hk2.heapAt (heap_new3 _ _ _ _)
  have hR0 := cell_at hR 0
  have hR1 := cell_at hR 1
  have hf0 := frozen_at hR 0
  have hf1 := frozen_at hR 1
  simp only [List.getElem?_toArray, List.getElem?_cons_zero, List.getElem?_cons_succ] at hR0 hR1
  obtain ⟨hkR, hIr⟩ := dom_out (R := w.heap.size + 1 + 1) ((((Kept.box _ _).newBlock _).newBlock _).then hk2) (by omega) hI (fun a ha => by have := hfr a ha; simp only [World.size_alloc] at this; omega) (.slice B d.1.length cb) (.int .u64 d.2)
  have HkR := Lib.hid hkR
  have HIr := Lib.hid hIr
  have Hfr : Hid (Fresh w B) := Fresh.mono hfr (by simp only [World.size_alloc]; omega)
  clear hI hk2 hR hkR hIr hfr
  go_wp2
  refine bodyPost_ret (v := .agg #[.slice B d.1.length cb, .int .u64 d.2]) (by simp [results, Tryd.results85, go_sem, hR0, hR1]) rfl ?_
  subst hd
  exact ⟨B, cb, rfl, HIr.out, HkR.out, Hfr.out⟩

theorem domless_any (A : Option Addr) (n c L : Nat) (xs : List Int) (v : Int) (w : World) (hS : Ints w A n xs) (hL : L < 2 ^ 64) (hT : Tab w) (hm : mayB xs L = true) :
    Calls Tryd.prog 74 #[.agg #[.slice A n c, .int .u64 L], .int .i64 v] w (DomPost (keepD (fun x => x != v) (xs, L)) w) := by
  have HS := Lib.hid hS
  have HL := Lib.hid hL
  have HT := Lib.hid hT
  have Hm := Lib.hid hm
  clear hS hL hT hm
  go_enter Tryd.func74, Tryd.ntmps74
  go_wp2_with fail
  refine (domkept_any A n c L xs v (w.heap.size + 1) _ (HS.out.kept (((Kept.box _ _).newBlock _).newBlock _)) HL.out (HT.out.kept (((Kept.box _ _).newBlock _).newBlock _)) Hm.out ?_).mono ?_
  · exact (Kept.box _ _).cellAt (by rw [cell_at (heap_new2 _ _ _) 0]; rfl)
  rintro e w2 ⟨B, cb, rfl, hI, hk2, hfr⟩
  generalize hd : keepD (fun x => x != v) (xs, L) = d at *
  have hR := hk2.heapAt (heap_new3 _ _ _ _)
  have hR0 := cell_at hR 0
  have hR1 := cell_at hR 1
  have hf0 := frozen_at hR 0
  have hf1 := frozen_at hR 1
  simp only [List.getElem?_toArray, List.getElem?_cons_zero, List.getElem?_cons_succ] at hR0 hR1
  obtain ⟨hkR, hIr⟩ := dom_out (R := w.heap.size + 1 + 1) ((((Kept.box _ _).newBlock _).newBlock _).then hk2) (by omega) hI (fun a ha => by have := hfr a ha; simp only [World.size_alloc] at this; omega) (.slice B d.1.length cb) (.int .u64 d.2)
  have HkR := Lib.hid hkR
  have HIr := Lib.hid hIr
  have Hfr : Hid (Fresh w B) := Fresh.mono hfr (by simp only [World.size_alloc]; omega)
  clear hI hk2 hR hkR hIr hfr
  go_wp2
  refine bodyPost_ret (v := .agg #[.slice B d.1.length cb, .int .u64 d.2]) (by simp [results, Tryd.results74, go_sem, hR0, hR1]) rfl ?_
  subst hd
  exact ⟨B, cb, rfl, HIr.out, HkR.out, Hfr.out⟩
end Go.Proofs.YtekcenacpklpgaaDoor

set_option maxHeartbeats 1000000
set_option maxRecDepth 10000
namespace Go.Proofs.YtekcenacpklpgaaDoor
open Go Go.RowKit Pl

theorem mwithin1_any (x m : Int) (B : Nat) (w : World) (hB : w.cell? ⟨B, 0, none⟩ = some (.int .i64 m)) (hm : 0 ≤ m ∧ m ≤ 4611686018427387904) :
    Calls Tryd.prog 91 #[.int .i64 x, .pointer (some ⟨B, 0, none⟩)] w fun e w' => e = .returned (.bool (!(decide (-m ≤ x) && decide (x ≤ m)))) ∧ w = w' := by
  by_cases h1 : x < -m
  · have hd : decide (x < -m) = true := by simp [h1]
    go_enter Tryd.func91, Tryd.ntmps91
    go_wp2
    go_ret
    exact ⟨ret_bool (by simp; omega), rfl⟩
  · by_cases h2 : m < x
    · have hd : decide (x < -m) = false := by simp; omega
      have hd2 : decide (m < x) = true := by simp [h2]
      go_enter Tryd.func91, Tryd.ntmps91
      go_wp2
      go_ret
      exact ⟨ret_bool (by simp; omega), rfl⟩
    · have hd : decide (x < -m) = false := by simp; omega
      have hd2 : decide (m < x) = false := by simp; omega
      go_enter Tryd.func91, Tryd.ntmps91
      go_wp2
      go_ret
      exact ⟨ret_bool (by simp <;> omega), rfl⟩

theorem mindex_any (A : Option Addr) (n c : Nat) (l : List Int) (m : Int) (Bv : Nat) (w : World) (hS : Ints w A n l) (hv : w.cell? ⟨Bv, 0, none⟩ = some (.int .i64 m)) (hm : 0 ≤ m ∧ m ≤ 4611686018427387904) :
    Calls Tryd.prog 53 #[.slice A n c, .func (.func 91) #[] #[.pointer (some ⟨Bv, 0, none⟩)]] w fun e w' => ∃ i : Int, e = .returned (.int .i64 i) ∧ (decide (0 ≤ i) = !withinB l m) ∧ Kept w w' := by
  have HS := Lib.hid hS
  have Hv := Lib.hid hv
  have hsm := hS.small
  have Hlen := Lib.hid hS.len
  have Hm := Lib.hid hm
  clear hS hv hm
  go_enter Tryd.func53, Tryd.ntmps53
  go_wp2_with fail
  go_loopw [8] (fun v wr => ∃ k : Nat, k ≤ n ∧ v = .int .i64 k ∧ Hid (Kept w wr) ∧ Hid (withinB (l.take k) m = true)) (fun v _ => n - (intOf v).toNat)
  case atStart => exact ⟨0, Nat.zero_le _, rfl, Below.refl _ _, rfl⟩
  case round =>
    obtain ⟨k, hk, rfl, Hkw, Hok⟩ := hrel
    by_cases hlt : k < n
    · have hSr := HS.out.kept Hkw.out
      obtain ⟨a, rfl, hblk⟩ := hSr.addr (by omega)
      obtain ⟨x, Hx, hcx, hx1, hx2⟩ := hSr.named k hlt
      have Hnext : Hid (withinB (l.take (k + 1)) m = (decide (-m ≤ x) && decide (x ≤ m))) := within_take (by have := Hlen.out; omega) Hx.out Hok.out
      have HQ := Lib.hid (mwithin1_any x m Bv wr (Hkw.out.cellAt Hv.out) Hm.out)
      clear hSr
      generalize hb : (decide (-m ≤ x) && decide (x ≤ m)) = b at HQ Hnext
      clear hb
      go_wp2_with fail
      refine HQ.out.mono ?_
      rintro e w1 ⟨rfl, rfl⟩
      clear HQ
      cases b with
      | true =>
        simp only [Bool.not_true]
        go_wp2
        go_roundw
        case rel => exact ⟨k + 1, by omega, by go_num, Hkw.out, Hnext.out⟩
        case measure => simp [intOf]; omega
      | false =>
        simp only [Bool.not_false]
        go_wp2
        go_ret
        refine ⟨k, rfl, ?_, Hkw.out⟩
        rw [within_bad Hnext.out]
        simp
    · have e : k = n := by omega
      subst e
      have h2 : withinB l m = true := by have := Hok.out; rwa [List.take_of_length_le (by have := Hlen.out; omega)] at this
      go_wp2
      go_ret
      exact ⟨-1, rfl, by rw [h2]; decide, Hkw.out⟩

theorem mcontains_any (A : Option Addr) (n c : Nat) (l : List Int) (m : Int) (Bv : Nat) (w : World) (hS : Ints w A n l) (hv : w.cell? ⟨Bv, 0, none⟩ = some (.int .i64 m)) (hm : 0 ≤ m ∧ m ≤ 4611686018427387904) :
    Calls Tryd.prog 25 #[.slice A n c, .func (.func 91) #[] #[.pointer (some ⟨Bv, 0, none⟩)]] w fun e w' => e = .returned (.bool (!withinB l m)) ∧ Kept w w' := by
  have HS := Lib.hid hS
  have Hv := Lib.hid hv
  have Hm := Lib.hid hm
  clear hS hv hm
  go_enter Tryd.func25, Tryd.ntmps25
  go_wp2_with fail
  refine (mindex_any A n c l m Bv _ HS.out Hv.out Hm.out).mono ?_
  rintro e w1 ⟨i, rfl, hi, hk⟩
  have Hi := Lib.hid hi
  clear hi
  go_wp2
  go_ret
  exact ⟨ret_bool Hi.out, hk⟩

theorem mwithin_any (A : Option Addr) (n c : Nat) (l : List Int) (m : Int) (w : World) (hS : Ints w A n l) (hm : 0 ≤ m ∧ m ≤ 4611686018427387904) :
    Calls Tryd.prog 81 #[.slice A n c, .int .i64 m] w fun e w' => e = .returned (.bool (withinB l m)) ∧ Kept w w' := by
  have HS := Lib.hid hS
  have Hm := Lib.hid hm
  clear hS hm
  go_enter Tryd.func81, Tryd.ntmps81
  go_wp2_with fail
  refine (mcontains_any A n c l m w.heap.size _ (HS.out.kept (Kept.box _ _)) (by rw [cell_at (heap_new _ _) 0]; rfl) Hm.out).mono ?_
  rintro e w1 ⟨rfl, hk⟩
  generalize hb : withinB l m = b
  have Hk := Lib.hid ((Kept.box _ _).then hk)
  clear hk
  go_wp2
  go_ret
  subst hb
  exact ⟨ret_bool (by simp), Hk.out⟩
end Go.Proofs.YtekcenacpklpgaaDoor

/-
  Contracts of the package bits: the list of a set: a range over a function whose iterator keeps the set in a variable of its own.
-/
import Derived.Test.YtjmegicopdbkdaaDoorBits2
import Derived.Test.YtjmegicopdbkdaaDoorRange
import Derived.RangeFuncNested
import Derived.RangeFuncBound
import Derived.Shelf.Abstract
import Derived.Shelf.RegionOpen
import Derived.OwnWalkIn
import Derived.TacticsInMore
import Derived.LoopNIn
import Derived.LoopIn
import Derived.Deep.AppendLies
import Derived.Maps.AppendAt
set_option maxHeartbeats 1000000
set_option maxRecDepth 100000
namespace Go.Proofs.YtjmegicopdbkdaaDoor
open Go Go.RowKit Pl Go.Shelf
attribute [local go_sem] Oper.semAt_some

/-- Below n₀, and at the iterator's box, all lies as it lay. -/
def KeptBox (n₀ B : Nat) (W W' : World) : Prop := ∀ k, k < n₀ ∨ k = B → W'.heap[k]? = W.heap[k]?
theorem KeptBox.trans {n₀ B : Nat} {X Y Z : World} (h : KeptBox n₀ B X Y) (k : KeptBox n₀ B Y Z) : KeptBox n₀ B X Z := fun i hi => (k i hi).trans (h i hi)

/-- The number in the box. -/
def boxNat (W : World) (B : Nat) : Nat := match W.cell? ⟨B, 0, none⟩ with | some (.int _ b) => b.toNat | _ => 0
theorem boxNat_of {W : World} {B : Nat} {t : TypeId} {b : Nat} (h : Boxed W B t (.int .u64 b)) : boxNat W B = b := by
  unfold boxNat
  rw [h.cell]
  simp

theorem Tab.of_blocks {w w' : World} (h : Tab w) (hb : w'.heap[0]? = w.heap[0]?) : Tab w' := fun j hj =>
  (World.cell?_of_block (w := w) (a := ⟨0, j, none⟩) hb).trans (h j hj)

theorem drop_bits {b : Nat} (h0 : b ≠ 0) (h : b < 2 ^ 64) : bits BinOp.and IntKind.u64 (b : Int) ((b : Int) - 1) = ((b &&& (b - 1) : Nat) : Int) := by
  have e : (b : Int) - 1 = ((b - 1 : Nat) : Int) := by omega
  rw [e]
  exact u64_and_nat b (b - 1) h (by omega)

theorem all1_in (n : Nat) (hn : 3 ≤ n) (l B n₀ b0 : Nat) (hb0 : b0 < 2 ^ 64) (hn0 : 0 < n₀) (J : List Int → World → Prop) (hJs : ∀ s A v, J s A → J s (A.setCell ⟨B, 0, none⟩ v))
    (hY : ∀ pre x W, J pre W → (∃ r, elemsI b0 = pre ++ x :: r) → YieldAt Fence.wide (n - 1) Tryd.prog l #[.int .i64 x] W fun e W' => e = .returned (.bool true) ∧ J (pre ++ [x]) W' ∧ KeptBox n₀ B W W')
    (W : World) (hB : n₀ ≤ B) (hBx : Boxed W B 45 (.int .u64 b0)) (hT : Tab W) (h0 : J [] W) :
    CallsIn Fence.wide n Tryd.prog 91 #[.func (.yield l) #[] #[], .pointer (some ⟨B, 0, none⟩)] W fun e W' => (∃ v, e = .returned v) ∧ J (elemsI b0) W' := by
  refine callsIn_of_wp Tryd.func91 rfl trivial ?_ rfl
  simp only [Tryd.ntmps91, List.size_toArray, List.length_cons, List.length_nil, Nat.reduceAdd, Nat.reduceSub, Array.replicate_succ, Array.replicate_zero, List.push_toArray, List.append_toArray, List.nil_append, List.cons_append]
  gi_wp2
  gi_loopw [3] (fun _ wr => ∃ (pre : List Int) (b : Nat), Boxed wr B 45 (.int .u64 b) ∧ b < 2 ^ 64 ∧ Hid (elemsI b0 = pre ++ elemsI b) ∧ J pre wr ∧ Hid (Tab wr)) (fun _ wr => (elemsI (boxNat wr B)).length)
  case atStart => exact ⟨[], b0, hBx, hb0, rfl, h0, hT⟩
  case round =>
    obtain ⟨pre, b, hbx, hb, hx, hJ, hTr⟩ := hrel
    have hc := hbx.cell
    by_cases hz : b = 0
    · subst hz
      gi_wp2
      go_end0
      have e := hx.out
      rw [elemsI_zero, List.append_nil] at e
      exact ⟨⟨_, rfl⟩, by rw [e]; exact hJ⟩
    · have hne : ((b : Int) != 0) = true := by simp; omega
      have hcons := elemsI_cons hz hb
      have hdrop := drop_bits hz hb
      have hdl := drop_lt hb
      have hleast : Hid (∀ W, Tab W → Calls Tryd.prog 87 #[.int .u64 b] W fun e w' => e = .returned (.int .i64 ((Lib.ctz 64 b : Nat) : Int)) ∧ W = w') := fun W hW => by
        have := least_any b W hb hW
        rw [show lo b = ((Lib.ctz 64 b : Nat) : Int) from if_neg hz] at this
        exact this
      generalize ((Lib.ctz 64 b : Nat) : Int) = x at *
      generalize b &&& (b - 1) = d at *
      have Hcons := Lib.hid hcons
      have Hdl := Lib.hid hdl
      clear hcons hdl
      have hlt := hbx.lt
      obtain ⟨fn, tmps, assign, body, hy, hR⟩ := hY pre x wr hJ ⟨elemsI d, by rw [hx.out, Hcons.out]⟩
      have hn1 : 1 ≤ n := by omega
      gi_wp2_with (refine ⟨trivial, ?_⟩; gi_at_call 87; refine (callsIn_wide.2 (hleast.out _ hTr.out)).mono ?_; rintro e w' ⟨rfl, rfl⟩)
      refine hR.mono ?_
      rintro e W3 ⟨rfl, hJ3, hk3⟩
      have hbx3 : Boxed W3 B 45 (.int .u64 b) := (hk3 B (.inr rfl)).trans hbx
      have hc3 := hbx3.cell
      have hf3 := hbx3.frozen
      have hT3 : Hid (Tab W3) := hTr.out.of_blocks (hk3 0 (.inl hn0))
      gi_wp2
      refine ⟨⟨pre ++ [x], d, ?_, Hdl.out, ?_, hJs _ _ _ hJ3, ?_⟩, ?_⟩
      · exact hbx3.set _
      · show elemsI b0 = _
        rw [hx.out, Hcons.out]; simp
      · refine hT3.out.of_blocks ?_
        rw [Below.heap_setCell _ _ _ _ (by show 0 ≠ B; omega)]
      · have e1 := boxNat_of hbx
        have e2 : boxNat (W3.setCell ⟨B, 0, none⟩ (.int .u64 (d : Int))) B = d := boxNat_of (hbx3.set _)
        rw [e1, e2, Hcons.out]
        simp

theorem all_in (n : Nat) (b : Int) (w : World) :
    CallsIn Fence.wide n Tryd.prog 78 #[.int .u64 b] w fun e w' => e = .returned (.func (.func 91) #[] #[.pointer (some ⟨w.heap.size, 0, none⟩)]) ∧ w' = w.alloc (.cells #[.int .u64 b] 45) := by
  refine callsIn_of_wp Tryd.func78 rfl trivial ?_ rfl
  simp only [Tryd.ntmps78, List.size_toArray, List.length_cons, List.length_nil, Nat.reduceAdd, Nat.reduceSub, Array.replicate_succ, Array.replicate_zero, List.push_toArray, List.append_toArray, List.nil_append, List.cons_append]
  gi_wp2
  go_ret
  exact ⟨rfl, rfl⟩

theorem info_int : (Tryd.prog.info? 3).map (fun i => (i.zero, i.size, i.bytes)) = some (some (.int .i64 0), 1, 8) := by kernel_rfl

theorem elemsI_rng {b : Nat} : ∀ x ∈ elemsI b, 0 ≤ x ∧ x ≤ 63 := by
  intro x hx
  unfold elemsI at hx
  rw [List.mem_map] at hx
  obtain ⟨k, hk, rfl⟩ := hx
  have := (mem_elems.1 hk).1
  have e : Int.ofNat k = (k : Int) := rfl
  omega

theorem list_in (b : Nat) (w : World) (hb : b < 2 ^ 64) (hT : Tab w) :
    CallsIn Fence.wide 6 Tryd.prog 63 #[.int .u64 b] w (ListPost (elemsI b) w) := by
  have h1 : 1 ≤ 6 := by omega
  obtain ⟨i0, hi, hz0, hz1, hz2⟩ := info_parts info_int
  have h0s : 0 < w.heap.size := World.block_lt_of_cell? w ⟨0, 0, none⟩ (hT 0 (by decide))
  have hlen := elemsI_length_le b
  refine callsIn_of_wp_marks Tryd.func63 rfl trivial ?_ rfl
  simp only [Tryd.ntmps63, List.size_toArray, List.length_cons, List.length_nil, Nat.reduceAdd, Nat.reduceSub, Array.replicate_succ, Array.replicate_zero, List.push_toArray, List.append_toArray, List.nil_append, List.cons_append]
  gi_wp2_with (refine ⟨trivial, ?_⟩; gi_at_call 78; refine (all_in _ _ _).mono ?_; rintro e w' ⟨rfl, rfl⟩)
  have bO := Boxed.new w 22 (.slice none 0 0)
  have bN := Boxed.new (w.alloc (.cells #[.slice none 0 0] 22)) 45 (.int .u64 b)
  rw [World.size_alloc] at bN
  have hB0 : Below w.heap.size w ((w.alloc (.cells #[.slice none 0 0] 22)).alloc (.cells #[.int .u64 b] 45)) := ((Below.refl _ w).alloc (Nat.le_refl _) _).alloc (by simp) _
  have hB1 : (w.heap.size + 1) < ((w.alloc (.cells #[.slice none 0 0] 22)).alloc (.cells #[.int .u64 b] 45)).heap.size := by simp
  refine wpIn_range_box rfl h1 (gf := 91) (lb := #[.pointer (some ⟨w.heap.size + 1, 0, none⟩)]) rfl trivial (enters_of Tryd.func91 (by kernel_rfl) rfl)
    (B := w.heap.size + 1) (Kp := KeptBox w.heap.size (w.heap.size + 1)) (xs := elemsI b)
    (fun l J W hW hJs hY hJ0 => all1_in (6 - 1) (by omega) l (w.heap.size + 1) w.heap.size b hb h0s J hJs hY W (by omega) ((hW.block _ hB1).trans bN) (hT.of_blocks ((hW.block 0 (by simp)).trans (hB0.block 0 h0s))) hJ0)
    (fun h k => h.trans k)
    (fun W l o o' hl hl2 _ k hk => World.putObj_heap_other (by simp at hl; omega))
    (fun pre W => (∃ v, Boxed W w.heap.size 22 v ∧ W.ownsRow w.heap.size 3 1 v pre.length (pre.map (Value.int .i64)) ∧ True) ∧ (∃ u, Boxed W (w.heap.size + 1) 45 u) ∧ Below w.heap.size w W)
    ?own ?set ?init
    (fun x => { tmps := #[.int .u64 b, undef, .slice none 0 0, .pointer (some ⟨w.heap.size, 0, none⟩), .int .i64 x, .int .u64 b, .func (.func 91) #[] #[.pointer (some ⟨w.heap.size + 1, 0, none⟩)], .int .i64 x, undef, undef, undef, undef, undef], defers := [] }) ?assign ?body ?done
  case own =>
    refine OwnFrom.and (Own.from (holdsRow_own w.heap.size w.heap.size 22 3 1 (fun pre : List Int => pre.length) (fun pre => pre.map (Value.int .i64)) (fun _ _ => True)) _) (OwnFrom.and (Own.from ?_ _) (ownFrom_below (Nat.le_refl _) (by simp; omega)))
    rintro s X Y row ⟨u, hu⟩ hg hrow
    refine ⟨u, hu.kept hg (fun e' => ?_)⟩
    obtain ⟨o, ho, hc⟩ := hrow _ e'.symm
    rw [show X.heap[w.heap.size + 1]? = _ from hu] at ho
    cases ho
    cases hc
  case set =>
    rintro s A u ⟨⟨v, hv, hr, _⟩, ⟨u', hu⟩, hB⟩
    exact ⟨⟨v, hv.other (by omega) u, hr.kept (grownBy_setCell' A (w.heap.size + 1) u) (.inr (hu.not_row (by decide) hr).symm), trivial⟩, ⟨u, hu.set u⟩, hB.setCell (p := ⟨w.heap.size + 1, 0, none⟩) (by show w.heap.size ≤ w.heap.size + 1; omega) u⟩
  case init => exact ⟨⟨_, bO.alloc _, World.ownsRow_nil _ _ _ _, trivial⟩, ⟨_, bN⟩, hB0⟩
  case assign =>
    intro l x W K hK
    gi_wp2
    exact hK
  case body =>
    rintro l pre x W ⟨⟨v, hv, hrow, _⟩, ⟨u, hu⟩, hB⟩ ⟨r, hr⟩
    have hc := hv.cell
    have hpl : pre.length + 1 ≤ 64 := by rw [hr] at hlen; simp at hlen; omega
    have hsz := hB.size
    gi_wp2_with (gi_at_builtin; refine wpListIn_append_own _ rfl _ _ 22 rfl w.heap.size 3 i0 (.int .i64 0) 1 8 Tryd.underlying22 hi hz0 hz1 hz2 rfl (by decide) _ _ _ rfl (hrow.alloc _) ⟨W.heap.size, 0, none⟩ 1 1 [.int .i64 x] rfl rfl (cell_one_new _ _ _) (by simp [Value.oneCell']) (by unfold maxLen; omega) (by omega) (by simp; omega) ?_; intro v' w1 hown' hgrow _; obtain ⟨g', cap', rfl⟩ := ownsRow_succ hown'; obtain ⟨hv1, hv2, hr2, hk2, hb2⟩ := hv.appended (by decide) hrow hB.size (Nat.le_refl _) hown' hgrow; have hu1 : Boxed w1 (w.heap.size + 1) 45 u := (hu.alloc _).kept hgrow (hu.not_row (by decide) hrow); have hc1 := hv1.cell; have hf1 := hv1.frozen)
    refine ⟨hk2.from _, fun k hk => ?_, ⟨_, hv2, by simpa using hr2, trivial⟩, ⟨u, hu1.other (by omega) _⟩, hB.trans hb2⟩
    rcases hk with hk | rfl
    · exact hb2.block k hk
    · exact (show _ = _ from hu1.other (by omega) _).trans (show W.heap[w.heap.size + 1]? = _ from hu).symm
  case done =>
    rintro D W hD ⟨⟨v, hv, hrow, _⟩, _, hB⟩ hK
    have hc := hv.cell
    gi_wp2
    refine ⟨by simp, .inl ⟨_, _, rfl, run_takeDeferred hK, ?_⟩⟩
    obtain ⟨A, c, rfl, hI, hfr⟩ := Ints.of_own (ownsRow_putObj hrow (.deferred none) hK rfl) (fun x hx => by have := elemsI_rng x hx; omega)
    exact ⟨_, results_tmp rfl _ _ _, A, c, rfl, hI, hB.trans (belowK_b (w := w) (Nat.le_refl _) W D _ _ (by simp at hD; omega) hK rfl rfl), hfr⟩

/-- **The list of a set.** -/
theorem list_any (b : Nat) (w : World) (hb : b < 2 ^ 64) (hT : Tab w) : Calls Tryd.prog 63 #[.int .u64 b] w (ListPost (elemsI b) w) :=
  callsIn_wide.1 (list_in b w hb hT)
end Go.Proofs.YtjmegicopdbkdaaDoor

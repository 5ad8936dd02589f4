/-
  Contracts of the package element: the two questions of Step, which count in a map.
-/
import Derived.Test.YthddanjmnifloaaDoorElemA
import Derived.Test.YthddanjmnifloaaDoorModel3
import Derived.Maps.OwnOps
import Derived.StillTailTactics
set_option maxHeartbeats 1000000
set_option maxRecDepth 10000
namespace Go.Proofs.YthddanjmnifloaaDoor
open Go Go.RowKit Go.Maps Pl

theorem lawInt : Keyed Tryd.prog 3 := int_keyed Tryd.underlying3
theorem zeroInt (w : World) : (zeroValue 3).run Tryd.prog w = .ok (.int .i64 0) w := by kernel_rfl

/-- Whether a place's number may stand. -/
def isE (nums vals : List Int) (i : Int) : Bool := decide (0 ≤ i) && decide (i < nums.length) && vals.contains (nums.getD i.toNat 0)
/-- How often a number has been counted. -/
def cntE (nums vals l : List Int) (x : Int) : Nat := (l.filter fun i => isE nums vals i && (nums.getD i.toNat 0 == x)).length
/-- A map of counts. -/
def Counts (w : World) (M n : Nat) (f : Int → Nat) : Prop :=
  ∃ D : DataW Unit, w.ownsMap Tryd.prog 3 (plainElem Tryd.prog 3) M n D ∧ ∀ x, D.atKey (.int .i64 x) (.lit (.int .i64 0)) = .lit (.int .i64 (f x : Nat))

theorem Counts.made (w : World) : Counts (w.alloc (.map #[] 0)) w.heap.size 0 (fun _ => 0) := ⟨_, World.ownsMap_made _ _ _ _, fun _ => rfl⟩

theorem elem3_any (x : Int) (Bm M n : Nat) (f : Int → Nat) (w : World) (hm : w.cell? ⟨Bm, 0, none⟩ = some (.map (some M))) (hC : Counts w M n f) (hx : -9223372036854775808 ≤ x ∧ x ≤ 9223372036854775807) :
    Calls Tryd.prog 56 #[.int .i64 x, .pointer (some ⟨Bm, 0, none⟩)] w fun e w' => e = .returned (.bool (decide (0 < f x))) ∧ w = w' := by
  obtain ⟨D, hown, hD⟩ := hC
  have hwf : (Lit.int .i64 x).wf = true := WalkArith.wf_i64 (by omega)
  have hkey : keyOf Tryd.prog 3 (.int .i64 x) = some (.int .i64 x) := keyOf_int_mk Tryd.underlying3 hwf
  have HD := Lib.hid (hD x)
  clear hD hwf
  go_enter Tryd.func56, Tryd.ntmps56
  go_wp2_with (first
    | (at_lookup; refine wpList_lookup_own_int _ rfl _ _ 69 rfl 3 3 .i64 lawInt Tryd.underlying69 Tryd.underlying3 (zeroInt _) M n _ rfl hown _ _ rfl hkey ?_; intro c hat hwc; have Hat := Lib.hid hat; clear hat)
    | go_in)
  go_ret
  refine ⟨ret_bool ?_, rfl⟩
  have := Hat.out.symm.trans HD.out
  simp at this
  subst this
  simp

/-- What Step's first question reads. -/
structure ElemBox (w : World) (Bc Bl Bv Bm M : Nat) (Al : Option Addr) (nl cl : Nat) (A3 : Option Addr) (n3 c3 : Nat) (nums : List Int) (ds : List DomB) (pv : Nat) : Prop where
  con : w.cell? ⟨Bc, 5, none⟩ = some (.slice A3 n3 c3)
  nums : Ints w A3 n3 nums
  lst : w.cell? ⟨Bl, 0, none⟩ = some (.slice Al nl cl)
  doms : Doms w Al nl ds
  val : w.cell? ⟨Bv, 0, none⟩ = some (.int .i64 (pv : Nat))
  lt : pv < nl
  map : w.cell? ⟨Bm, 0, none⟩ = some (.map (some M))
  may : mayB (ds.getD pv nilD).1 (ds.getD pv nilD).2 = true

theorem Counts.kept {w w' : World} {M n : Nat} {f : Int → Nat} (h : Counts w M n f) (hk : Kept w w') : Counts w' M n f := by
  obtain ⟨D, ⟨es, clock, hb, F, hs, hD⟩, hx⟩ := h
  exact ⟨D, ⟨es, clock, hk.heapAt hb, F, hs, hD⟩, hx⟩
theorem KeptBut.grown {M : Nat} {w w' : World} (h : w.grownBy w' (some M)) : KeptBut M w w' :=
  ⟨h.os, h.tape, h.output, h.size, fun k hk hB => h.block k hk (by simpa using hB)⟩
theorem isMap_of {w : World} {P : Program} {k : TypeId} {R : Value → Option (DataW Unit × List MemPlace)} {b n : Nat} {D : DataW Unit} (h : w.ownsMap P k R b n D) : IsMap D := by
  obtain ⟨es, clock, _, _, _, hD⟩ := h
  exact ⟨_, hD⟩
theorem Counts.same {w : World} {M n : Nat} {f : Int → Nat} (h : Counts w M n f) {b : Bool} (p : Int → Bool) (hb : b = false) : Counts w M (n + 1) (fun v => f v + if b && p v then 1 else 0) := by
  obtain ⟨D, hown, hx⟩ := h
  subst hb
  exact ⟨D, hown.mono (Nat.le_succ _), by simpa using hx⟩

theorem elem2_any (x : Int) (Bc Bl Bv Bm M n : Nat) (Al : Option Addr) (nl cl : Nat) (A3 : Option Addr) (n3 c3 : Nat) (nums : List Int) (ds : List DomB) (pv : Nat) (f : Int → Nat) (w : World)
    (hE : ElemBox w Bc Bl Bv Bm M Al nl cl A3 n3 c3 nums ds pv) (hT : Tab w) (hC : Counts w M n f) (hf : ∀ x, f x ≤ n) (hn : n < 1000) (hx : -9223372036854775808 ≤ x ∧ x ≤ 9223372036854775807) :
    Calls Tryd.prog 54 #[.int .i64 x, .pointer (some ⟨Bc, 0, none⟩), .pointer (some ⟨Bl, 0, none⟩), .pointer (some ⟨Bv, 0, none⟩), .pointer (some ⟨Bm, 0, none⟩)] w
      fun e w' => e = .returned (.bool (isE nums (listB (ds.getD pv nilD).1 (ds.getD pv nilD).2) x)) ∧ Counts w' M (n + 1) (fun v => f v + if isE nums (listB (ds.getD pv nilD).1 (ds.getD pv nilD).2) x && (nums.getD x.toNat 0 == v) then 1 else 0) ∧ KeptBut M w w' := by
  have HT := Lib.hid hT
  have HC := Lib.hid hC
  have Hf := Lib.hid hf
  have hl3 := hE.nums.len
  have hs3 := hE.nums.small
  have hcon := hE.con
  have hlst := hE.lst
  have hval := hE.val
  have hmap := hE.map
  have hpv := hE.lt
  have HE := Lib.hid hE
  obtain ⟨al, rfl, hbl⟩ := hE.doms.addr (by omega)
  obtain ⟨xs, L, B, m, cB, Hd, hc1, hc2, HI, hL⟩ := hE.doms.named pv hpv
  rw [Hd.out]
  clear hE hT hC hf
  generalize hvals : listB (xs, L).1 (xs, L).2 = vals
  have Hvals : Hid (listB xs L = vals) := hvals
  clear hvals
  have hlc : Bc < w.heap.size := World.block_lt_of_cell? w _ hcon
  have hll : Bl < w.heap.size := World.block_lt_of_cell? w _ hlst
  have hlv : Bv < w.heap.size := World.block_lt_of_cell? w _ hval
  have hlm : Bm < w.heap.size := World.block_lt_of_cell? w _ hmap
  by_cases g1 : x < 0
  · have hd : decide (0 ≤ x) = false := by simp; omega
    have He : isE nums vals x = false := by unfold isE; simp; omega
    rw [He]
    go_enter Tryd.func54, Tryd.ntmps54
    go_wp2_with fail
    refine wp_region_quiet_below (by kernel_rfl) (by kernel_rfl) ?_
    repeat (any_goals (first | go_big_quiet_step ((fail)) | quiet_step ((fail)) | (refine wpQuiet_step (fun K hK => ?_); go_simp; split <;> (refine hK _ ?_; clear hK K))))
    all_goals (refine wpQuiet_nil ?_; intro w1 hw'; replace hw' := Kept.regrown hw')
    go_wp2_with fail
    go_ret
    exact ⟨rfl, (HC.out.kept hw').same _ rfl, KeptBut.of hw' M⟩
  have hd : decide (0 ≤ x) = true := by simp; omega
  by_cases g2 : (n3 : Int) ≤ x
  · have hd2 : decide (x < (n3 : Int)) = false := by simp; omega
    have He : isE nums vals x = false := by unfold isE; rw [hl3]; simp; omega
    rw [He]
    go_enter Tryd.func54, Tryd.ntmps54
    go_wp2_with fail
    refine wp_region_quiet_below (by kernel_rfl) (by kernel_rfl) ?_
    repeat (any_goals (first | go_big_quiet_step ((fail)) | quiet_step ((fail)) | (refine wpQuiet_step (fun K hK => ?_); go_simp; split <;> (refine hK _ ?_; clear hK K))))
    all_goals (refine wpQuiet_nil ?_; intro w1 hw'; replace hw' := Kept.regrown hw')
    go_wp2_with fail
    go_ret
    exact ⟨rfl, (HC.out.kept hw').same _ rfl, KeptBut.of hw' M⟩
  have hd2 : decide (x < (n3 : Int)) = true := by simp; omega
  obtain ⟨j, rfl⟩ := Int.eq_ofNat_of_zero_le (show 0 ≤ x by omega)
  have hj : j < n3 := by omega
  obtain ⟨a3, rfl, hb3⟩ := HE.out.nums.addr (by omega)
  obtain ⟨y, Hy, hcy, hy1, hy2⟩ := HE.out.nums.named j hj
  have HQ : Hid (∀ W, Kept w W → Calls Tryd.prog 55 #[.agg #[.slice B m cB, .int .u64 L], .int .i64 y] W fun e w' => e = .returned (.bool (vals.contains y)) ∧ Kept W w') := fun W hW => by
    have := has_any B m cB L xs y W (HI.out.kept hW) hL (HT.out.kept hW)
    rwa [Hvals.out] at this
  have He : Hid (isE nums vals (j : Int) = vals.contains y) := by
    show _ = _
    unfold isE
    rw [hl3, Int.toNat_natCast, Hy.out, hd, hd2]; simp
  rw [He.out]
  have Hyy : Hid (nums.getD (Int.toNat (j : Int)) 0 = y) := by show _ = _; rw [Int.toNat_natCast]; exact Hy.out
  rw [Hyy.out]
  clear He
  generalize vals.contains y = b at *
  cases b with
  | false =>
    go_enter Tryd.func54, Tryd.ntmps54
    go_wp2_with fail
    refine wp_region_quiet_below (by kernel_rfl) (by kernel_rfl) ?_
    repeat (any_goals (first | go_big_quiet_step (((go_at_call 55; exact Calls.regrown_of (HQ.out _ (below_regrown _ _ _))))) | quiet_step (((go_at_call 55; exact Calls.regrown_of (HQ.out _ (below_regrown _ _ _))))) | (refine wpQuiet_step (fun K hK => ?_); go_simp; split <;> (refine hK _ ?_; clear hK K))))
    all_goals (refine wpQuiet_nil ?_; intro w1 hw'; replace hw' := Kept.regrown hw')
    go_wp2_with fail
    go_ret
    exact ⟨rfl, (HC.out.kept hw').same _ rfl, KeptBut.of hw' M⟩
  | true =>
    go_enter Tryd.func54, Tryd.ntmps54
    go_wp2_with fail
    refine wp_region_quiet_below (by kernel_rfl) (by kernel_rfl) ?_
    repeat (any_goals (first | go_big_quiet_step (((go_at_call 55; exact Calls.regrown_of (HQ.out _ (below_regrown _ _ _))))) | quiet_step (((go_at_call 55; exact Calls.regrown_of (HQ.out _ (below_regrown _ _ _))))) | (refine wpQuiet_step (fun K hK => ?_); go_simp; split <;> (refine hK _ ?_; clear hK K))))
    all_goals (refine wpQuiet_nil ?_; intro w1 hw'; replace hw' := Kept.regrown hw')
    go_wp2_with fail
    have hmap1 := hw'.cellAt hmap
    have hcon1 := hw'.cellAt hcon
    have hcy1 := hw'.cellAt hcy
    have hwf : (Lit.int .i64 y).wf = true := WalkArith.wf_i64 (by omega)
    have hkey : keyOf Tryd.prog 3 (.int .i64 y) = some (.int .i64 y) := keyOf_int_mk Tryd.underlying3 hwf
    obtain ⟨D, hown, hD⟩ := HC.out.kept hw'
    have HD := Lib.hid hD
    have hown1 := hown.drew
    obtain ⟨c, hrun, hat, hwc⟩ := hown1.lookup_int lawInt Tryd.underlying69 Tryd.underlying3 (zeroInt _) hkey
    have hcf := hat.symm.trans (hD y)
    simp at hcf
    subst hcf
    clear hD hown hat hwc hmap hcon hcy HQ
    have hfy := Hf.out y
    have hw : IntKind.i64.wrap ((f y : Int) + 1) = (f y : Int) + 1 := by
      unfold IntKind.wrap
      simp [IntKind.signed, IntKind.bits]
      omega
    go_still_tail 8, (by kernel_rfl)
    change wpList _ _ _ _ _ w1.drew
    clear hrun
    refine wpList_mapUpdate_own _ rfl _ _ _ 69 rfl 3 3 lawInt Tryd.underlying69 (plainElem Tryd.prog 3) M n D rfl hown1 (by unfold maxLen; omega) (.int .i64 y) _ _ rfl rfl hkey _ [] (plainElem_int Tryd.underlying3 (WalkArith.wf_i64 (by omega))) ?_
    intro w2 hown2 hgrow2
    go_wp2_with fail
    go_ret
    refine ⟨rfl, ⟨_, hown2, fun v => ?_⟩, (KeptBut.of (hw'.then (Kept.drewn _)) M).then (KeptBut.grown hgrow2)⟩
    by_cases hv : y = v
    · subst hv
      rw [atKey_put_same (isMap_of hown1) (lawInt.key hkey)]
      simp
    · rw [atKey_put_other (by intro e; cases e; exact hv rfl), HD.out v]
      simp [hv]
end Go.Proofs.YthddanjmnifloaaDoor

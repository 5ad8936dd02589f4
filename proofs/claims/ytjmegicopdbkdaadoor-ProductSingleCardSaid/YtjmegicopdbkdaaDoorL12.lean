/-
  Contracts of what the laws of the steps share: Large, Within; Same of the document's answer for domains.
-/
import Derived.Test.YtjmegicopdbkdaaDoorModel2
import Derived.Test.YtjmegicopdbkdaaDoorDoms
import Derived.Test.YtjmegicopdbkdaaDoorRef02
import Derived.Deep.RegionHeld3
set_option maxHeartbeats 1000000
set_option maxRecDepth 10000
namespace Go.Proofs.YtjmegicopdbkdaaDoor
open Go Go.RowKit Pl

theorem andNot_gen {L M : Nat} (hL : L < 2 ^ 64) (hM : M < 2 ^ 64) : bits BinOp.andNot IntKind.u64 (L : Int) (M : Int) = ((less L M : Nat) : Int) :=
  u64_andNot_nat L M hL hM

theorem rdsame_any (A B : Option Addr) (n m c d L M : Nat) (xs ys : List Int) (w : World) (hA : Ints w A n xs) (hB : Ints w B m ys) :
    Calls Tryd.prog 38 #[.agg #[.slice A n c, .int .u64 L], .agg #[.slice B m d, .int .u64 M]] w fun e w' => e = .returned (.bool (decide (L = M) && decide (xs = ys))) ∧ Kept w w' := by
  have HA := Lib.hid hA
  have HB := Lib.hid hB
  clear hA hB
  by_cases h : (L : Int) = M
  · have hd : ((L : Int) == M) = true := by simp [h]
    have e : L = M := by omega
    subst e
    go_enter Tryd.func38, Tryd.ntmps38
    go_wp2_with fail
    refine (rsame_any A B n m c d xs ys _ (HA.out.kept ((Kept.box _ _).newBlock _)) (HB.out.kept ((Kept.box _ _).newBlock _))).mono ?_
    rintro e w1 ⟨rfl, hk⟩
    have Hk := Lib.hid (((Kept.box _ _).newBlock _).then hk)
    generalize hb : decide (xs = ys) = bb
    clear hk
    go_wp2_with fail
    go_ret
    subst hb
    exact ⟨ret_bool (by simp), Hk.out⟩
  · have hd : ((L : Int) == M) = false := by simp; omega
    go_enter Tryd.func38, Tryd.ntmps38
    go_wp2_with fail
    go_ret
    exact ⟨ret_bool (by simp; omega), (Kept.box _ _).newBlock _⟩

/-- Some answer; where it is no, there are few. -/
def LargePost (n : Nat) (w : World) (e : Ending) (w' : World) : Prop := ∃ b : Bool, e = .returned (.bool b) ∧ (b = false → n ≤ 20) ∧ Kept w w'

theorem large_any (K R Ct : Int) (A1 A2 A3 : Option Addr) (n1 c1 n2 c2 n3 c3 : Nat) (C : ConB) (A : Option Addr) (n c : Nat) (ds : List DomB) (w : World) (hC : ConIn w K R Ct A1 A2 A3 n1 c1 n2 c2 n3 c3 C) (hS : Doms w A n ds) :
    Calls Tryd.prog 12 #[.agg #[.int .i64 K, .slice A1 n1 c1, .slice A2 n2 c2, .int .i64 R, .int .i64 Ct, .slice A3 n3 c3], .slice A n c] w (LargePost n w) := by
  have HS := Lib.hid hS
  have hsm := hS.small
  have hs1 := hC.vars.small
  have hs2 := hC.coefs.small
  have hs3 := hC.nums.small
  clear hC hS
  by_cases g1 : (20 : Int) < n
  · have hd : decide ((20 : Int) < n) = true := by simp; omega
    go_enter Tryd.func12, Tryd.ntmps12
    go_wp2_with fail
    go_ret
    exact ⟨true, rfl, by simp, Kept.box _ _⟩
  have hn : n ≤ 20 := by omega
  have hd1 : decide ((20 : Int) < n) = false := by simp; omega
  by_cases g2 : (150 : Int) < n1
  · have hd : decide ((150 : Int) < n1) = true := by simp; omega
    go_enter Tryd.func12, Tryd.ntmps12
    go_wp2_with fail
    go_ret
    exact ⟨true, rfl, by simp, Kept.box _ _⟩
  have hd2 : decide ((150 : Int) < n1) = false := by simp; omega
  by_cases g3 : (150 : Int) < n2
  · have hd : decide ((150 : Int) < n2) = true := by simp; omega
    go_enter Tryd.func12, Tryd.ntmps12
    go_wp2_with fail
    go_ret
    exact ⟨true, rfl, by simp, Kept.box _ _⟩
  have hd3 : decide ((150 : Int) < n2) = false := by simp; omega
  by_cases g4 : (150 : Int) < n3
  · have hd : decide ((150 : Int) < n3) = true := by simp; omega
    go_enter Tryd.func12, Tryd.ntmps12
    go_wp2_with fail
    go_ret
    exact ⟨true, rfl, by simp, Kept.box _ _⟩
  have hd4 : decide ((150 : Int) < n3) = false := by simp; omega
  go_enter Tryd.func12, Tryd.ntmps12
  go_wp2_with fail
  go_loopw [30] (fun v wr => ∃ k : Nat, k ≤ n ∧ v = .int .i64 k ∧ Hid (Kept w wr)) (fun v _ => n - (intOf v).toNat)
  case atStart => exact ⟨0, Nat.zero_le _, rfl, Kept.box _ _⟩
  case round =>
    obtain ⟨k, hk, rfl, Hkw⟩ := hrel
    by_cases hlt : k < n
    · have hSr := HS.out.kept Hkw.out
      obtain ⟨a, rfl, hblk⟩ := hSr.addr (by omega)
      obtain ⟨xs, L, B, m, cB, Hd, hc1, hc2, HI, hL⟩ := hSr.named k hlt
      have hm := HI.out.small
      clear hSr
      by_cases g5 : (150 : Int) < m
      · have hd5 : decide ((150 : Int) < m) = true := by simp; omega
        go_wp2_with fail
        go_ret
        exact ⟨true, rfl, by simp, Hkw.out.newBlock _⟩
      · have hd5 : decide ((150 : Int) < m) = false := by simp; omega
        go_wp2_with fail
        go_roundw
        case rel => exact ⟨k + 1, by omega, by go_num, Hkw.out.newBlock _⟩
        case measure => simp [intOf]; omega
    · go_wp2_with fail
      go_ret
      exact ⟨false, rfl, fun _ => hn, Hkw.out⟩

/-- Is all that is left of the one left of the other, of the same values? -/
def withinD (a b : DomB) : Bool := decide (a.1 = b.1) && decide (less a.2 b.2 = 0)
def withinUpto (us bs : List DomB) (k : Nat) : Bool := (List.range k).all fun i => withinD (us.getD i nilD) (bs.getD i nilD)
theorem withinUpto_succ (us bs : List DomB) (k : Nat) : withinUpto us bs (k + 1) = (withinUpto us bs k && withinD (us.getD k nilD) (bs.getD k nilD)) := by
  unfold withinUpto
  rw [List.range_succ, List.all_append]
  simp
theorem withinUpto_bad {us bs : List DomB} {m n : Nat} (h : withinUpto us bs m = false) (hm : m ≤ n) : withinUpto us bs n = false := by
  cases e : withinUpto us bs n with
  | false => rfl
  | true =>
    unfold withinUpto at *
    rw [List.all_eq_true] at e
    have : (List.range m).all (fun i => withinD (us.getD i nilD) (bs.getD i nilD)) = true := List.all_eq_true.2 fun i hi => e i (List.mem_range.2 (by have := List.mem_range.1 hi; omega))
    rw [h] at this
    cases this
def withinL (us bs : List DomB) : Bool := decide (us.length = bs.length) && withinUpto us bs us.length

theorem within_any (A B : Option Addr) (n m c d : Nat) (us bs : List DomB) (w : World) (hA : Doms w A n us) (hB : Doms w B m bs) :
    Calls Tryd.prog 17 #[.slice A n c, .slice B m d] w fun e w' => e = .returned (.bool (withinL us bs)) ∧ Kept w w' := by
  have HA := Lib.hid hA
  have HB := Lib.hid hB
  have hsm := hA.small
  have hsm2 := hB.small
  have hla := hA.len
  have hlb := hB.len
  have Hla := Lib.hid hla
  by_cases g1 : ¬ (n : Int) = m
  · have hd : ((n : Int) != m) = true := by simpa using g1
    have hw : withinL us bs = false := by unfold withinL; rw [hla, hlb]; simp; omega
    rw [hw]
    clear hA hB hla hlb
    go_enter Tryd.func17, Tryd.ntmps17
    go_wp2_with fail
    go_ret
    exact ⟨rfl, Kept.same _⟩
  have e : n = m := by omega
  subst e
  have hw : Hid (withinL us bs = withinUpto us bs n) := by show _ = _; unfold withinL; rw [hla, hlb]; simp
  clear hA hB hla hlb g1
  go_enter Tryd.func17, Tryd.ntmps17
  go_wp2_with fail
  go_loopw [15] (fun v wr => ∃ k : Nat, k ≤ n ∧ v = .int .i64 k ∧ Hid (Kept w wr) ∧ Hid (withinUpto us bs k = true)) (fun v _ => n - (intOf v).toNat)
  case atStart => exact ⟨0, Nat.zero_le _, rfl, Kept.same _, rfl⟩
  case round =>
    obtain ⟨k, hk, rfl, Hkw, Hok⟩ := hrel
    by_cases hlt : k < n
    · have hSr := HA.out.kept Hkw.out
      have hSb := HB.out.kept Hkw.out
      obtain ⟨a, rfl, hblk⟩ := hSr.addr (by omega)
      obtain ⟨b, rfl, hblk2⟩ := hSb.addr (by omega)
      obtain ⟨xs, L, Bx, mx, cx, Hdx, hc1, hc2, HIx, hLx⟩ := hSr.named k hlt
      obtain ⟨ys, M, By, my, cy, Hdy, hc3, hc4, HIy, hLy⟩ := hSb.named k hlt
      have hn1 := World.new_ne wr _ hc1
      have hn2 := World.new_ne wr _ hc2
      have hn3 := World.new_ne wr _ hc3
      have hn4 := World.new_ne wr _ hc4
      have HQ : Hid (∀ W, Kept wr W → Calls Tryd.prog 38 #[.agg #[.slice Bx mx cx, .int .u64 0], .agg #[.slice By my cy, .int .u64 0]] W fun e w' => e = .returned (.bool (decide (xs = ys))) ∧ Kept W w') := fun W hW => by
        have := rdsame_any Bx By mx my cx cy 0 0 xs ys W (HIx.out.kept hW) (HIy.out.kept hW)
        simpa using this
      have Hnext : Hid (withinUpto us bs (k + 1) = (decide (xs = ys) && decide (less L M = 0))) := by
        show _ = _
        rw [withinUpto_succ, Hok.out, Hdx.out, Hdy.out]
        rfl
      have hbit : (bits BinOp.andNot IntKind.u64 (L : Int) (M : Int) != 0) = !decide (less L M = 0) := by
        rw [andNot_gen hLx hLy]
        generalize less L M = z
        by_cases h : z = 0
        · subst h; rfl
        · rw [decide_eq_false h]
          have h2 : (z : Int) ≠ 0 := by omega
          simpa using h
      generalize hb1 : decide (xs = ys) = b1 at HQ Hnext
      generalize hb2 : decide (less L M = 0) = b2 at hbit Hnext
      have hl1 := World.block_lt_of_cell? wr _ hc1
      have hl2 := World.block_lt_of_cell? wr _ hc2
      have hl3 := World.block_lt_of_cell? wr _ hc3
      have hl4 := World.block_lt_of_cell? wr _ hc4
      clear hSr hSb hb1 hb2
      go_wp2_with fail
      go_region_held3 (fun W => W.cell? (a.add (k * 2)) = some (.slice Bx mx cx) ∧ W.cell? ⟨a.block, (a.add (k * 2)).off + 1, Option.none⟩ = some (.int .u64 L) ∧ W.cell? (b.add (k * 2)) = some (.slice By my cy) ∧ W.cell? ⟨b.block, (b.add (k * 2)).off + 1, Option.none⟩ = some (.int .u64 M)) (go_keep) (fail)
      · go_wp2_with fail
        have HkW : Hid (Kept wr ((wr.alloc (.cells #[.slice Bx mx cx, .int .u64 0] 47)).alloc (.cells #[.slice By my cy, .int .u64 0] 47)).drew) := ((Kept.box _ _).newBlock _).then (Kept.drewn _)
        have hA := Kept.heapAt (Kept.drewn _) ((Kept.box _ (.cells #[.slice By my cy, .int .u64 0] 47)).heapAt (heap_new wr (.cells #[.slice Bx mx cx, .int .u64 0] 47)))
        have hB := Kept.heapAt (Kept.drewn _) (heap_new2 wr (.cells #[.slice Bx mx cx, .int .u64 0] 47) (.cells #[.slice By my cy, .int .u64 0] 47))
        generalize ((wr.alloc (.cells #[.slice Bx mx cx, .int .u64 0] 47)).alloc (.cells #[.slice By my cy, .int .u64 0] 47)).drew = W8 at *
        have e1 := cell_at hA 0
        have e2 := cell_at hA 1
        have e3 := cell_at hB 0
        have e4 := cell_at hB 1
        simp only [List.getElem?_toArray, List.getElem?_cons_zero, List.getElem?_cons_succ] at e1 e2 e3 e4
        have l1 : wr.heap.size < W8.heap.size := lt_at hA
        have l2 : wr.heap.size + 1 < W8.heap.size := lt_at hB
        have f1 := HkW.out.cellAt hc1
        have f2 := HkW.out.cellAt hc2
        have f3 := HkW.out.cellAt hc3
        have f4 := HkW.out.cellAt hc4
        have m1 := World.block_lt_of_cell? W8 _ f1
        have m2 := World.block_lt_of_cell? W8 _ f2
        have m3 := World.block_lt_of_cell? W8 _ f3
        have m4 := World.block_lt_of_cell? W8 _ f4
        clear hA hB hc1 hc2 hc3 hc4 hl1 hl2 hl3 hl4 hn1 hn2 hn3 hn4
        cases b1 with
        | false =>
          refine wp_region_quiet_below (by kernel_rfl) (by kernel_rfl) ?_
          repeat (any_goals (first | go_big_quiet_step (((go_at_call 38; exact Calls.regrown_of (HQ.out _ (HkW.out.then (below_regrown _ _ _)))))) | quiet_step (((go_at_call 38; exact Calls.regrown_of (HQ.out _ (HkW.out.then (below_regrown _ _ _)))))) | (refine wpQuiet_step (fun K hK => ?_); go_simp; split <;> (refine hK _ ?_; clear hK K))))
          all_goals (refine wpQuiet_nil ?_; intro w1 hw'; replace hw' := Kept.regrown hw')
          have Hk9 := Lib.hid (Hkw.out.then (HkW.out.then hw'))
          clear hw'
          go_wp2_with fail
          go_ret
          exact ⟨ret_bool (by rw [hw.out, withinUpto_bad (m := k + 1) (by rw [Hnext.out]; simp) hlt]), Hk9.out⟩
        | true =>
          cases b2 with
          | false =>
            refine wp_region_quiet_below (by kernel_rfl) (by kernel_rfl) ?_
            repeat (any_goals (first | go_big_quiet_step (((go_at_call 38; exact Calls.regrown_of (HQ.out _ (HkW.out.then (below_regrown _ _ _)))))) | quiet_step (((go_at_call 38; exact Calls.regrown_of (HQ.out _ (HkW.out.then (below_regrown _ _ _)))))) | (refine wpQuiet_step (fun K hK => ?_); go_simp; split <;> (refine hK _ ?_; clear hK K))))
            all_goals (refine wpQuiet_nil ?_; intro w1 hw'; replace hw' := Kept.regrown hw')
            have Hk9 := Lib.hid (Hkw.out.then (HkW.out.then hw'))
            clear hw'
            go_wp2_with fail
            go_ret
            exact ⟨ret_bool (by rw [hw.out, withinUpto_bad (m := k + 1) (by rw [Hnext.out]; simp) hlt]), Hk9.out⟩
          | true =>
            refine wp_region_quiet_below (by kernel_rfl) (by kernel_rfl) ?_
            repeat (any_goals (first | go_big_quiet_step (((go_at_call 38; exact Calls.regrown_of (HQ.out _ (HkW.out.then (below_regrown _ _ _)))))) | quiet_step (((go_at_call 38; exact Calls.regrown_of (HQ.out _ (HkW.out.then (below_regrown _ _ _)))))) | (refine wpQuiet_step (fun K hK => ?_); go_simp; split <;> (refine hK _ ?_; clear hK K))))
            all_goals (refine wpQuiet_nil ?_; intro w1 hw'; replace hw' := Kept.regrown hw')
            have Hk9 := Lib.hid (Hkw.out.then (HkW.out.then hw'))
            clear hw'
            go_wp2_with fail
            go_roundw
            case rel => exact ⟨k + 1, by omega, by go_num, Hk9.out, by show _ = _; rw [Hnext.out]; rfl⟩
            case measure => simp [intOf]; omega
      · go_wp2_with fail
        have HkW : Hid (Kept wr ((wr.alloc (.cells #[.slice By my cy, .int .u64 0] 47)).alloc (.cells #[.slice Bx mx cx, .int .u64 0] 47)).drew) := ((Kept.box _ _).newBlock _).then (Kept.drewn _)
        have hA := Kept.heapAt (Kept.drewn _) ((Kept.box _ (.cells #[.slice Bx mx cx, .int .u64 0] 47)).heapAt (heap_new wr (.cells #[.slice By my cy, .int .u64 0] 47)))
        have hB := Kept.heapAt (Kept.drewn _) (heap_new2 wr (.cells #[.slice By my cy, .int .u64 0] 47) (.cells #[.slice Bx mx cx, .int .u64 0] 47))
        generalize ((wr.alloc (.cells #[.slice By my cy, .int .u64 0] 47)).alloc (.cells #[.slice Bx mx cx, .int .u64 0] 47)).drew = W8 at *
        have e1 := cell_at hA 0
        have e2 := cell_at hA 1
        have e3 := cell_at hB 0
        have e4 := cell_at hB 1
        simp only [List.getElem?_toArray, List.getElem?_cons_zero, List.getElem?_cons_succ] at e1 e2 e3 e4
        have l1 : wr.heap.size < W8.heap.size := lt_at hA
        have l2 : wr.heap.size + 1 < W8.heap.size := lt_at hB
        have f1 := HkW.out.cellAt hc1
        have f2 := HkW.out.cellAt hc2
        have f3 := HkW.out.cellAt hc3
        have f4 := HkW.out.cellAt hc4
        have m1 := World.block_lt_of_cell? W8 _ f1
        have m2 := World.block_lt_of_cell? W8 _ f2
        have m3 := World.block_lt_of_cell? W8 _ f3
        have m4 := World.block_lt_of_cell? W8 _ f4
        clear hA hB hc1 hc2 hc3 hc4 hl1 hl2 hl3 hl4 hn1 hn2 hn3 hn4
        cases b1 with
        | false =>
          refine wp_region_quiet_below (by kernel_rfl) (by kernel_rfl) ?_
          repeat (any_goals (first | go_big_quiet_step (((go_at_call 38; exact Calls.regrown_of (HQ.out _ (HkW.out.then (below_regrown _ _ _)))))) | quiet_step (((go_at_call 38; exact Calls.regrown_of (HQ.out _ (HkW.out.then (below_regrown _ _ _)))))) | (refine wpQuiet_step (fun K hK => ?_); go_simp; split <;> (refine hK _ ?_; clear hK K))))
          all_goals (refine wpQuiet_nil ?_; intro w1 hw'; replace hw' := Kept.regrown hw')
          have Hk9 := Lib.hid (Hkw.out.then (HkW.out.then hw'))
          clear hw'
          go_wp2_with fail
          go_ret
          exact ⟨ret_bool (by rw [hw.out, withinUpto_bad (m := k + 1) (by rw [Hnext.out]; simp) hlt]), Hk9.out⟩
        | true =>
          cases b2 with
          | false =>
            refine wp_region_quiet_below (by kernel_rfl) (by kernel_rfl) ?_
            repeat (any_goals (first | go_big_quiet_step (((go_at_call 38; exact Calls.regrown_of (HQ.out _ (HkW.out.then (below_regrown _ _ _)))))) | quiet_step (((go_at_call 38; exact Calls.regrown_of (HQ.out _ (HkW.out.then (below_regrown _ _ _)))))) | (refine wpQuiet_step (fun K hK => ?_); go_simp; split <;> (refine hK _ ?_; clear hK K))))
            all_goals (refine wpQuiet_nil ?_; intro w1 hw'; replace hw' := Kept.regrown hw')
            have Hk9 := Lib.hid (Hkw.out.then (HkW.out.then hw'))
            clear hw'
            go_wp2_with fail
            go_ret
            exact ⟨ret_bool (by rw [hw.out, withinUpto_bad (m := k + 1) (by rw [Hnext.out]; simp) hlt]), Hk9.out⟩
          | true =>
            refine wp_region_quiet_below (by kernel_rfl) (by kernel_rfl) ?_
            repeat (any_goals (first | go_big_quiet_step (((go_at_call 38; exact Calls.regrown_of (HQ.out _ (HkW.out.then (below_regrown _ _ _)))))) | quiet_step (((go_at_call 38; exact Calls.regrown_of (HQ.out _ (HkW.out.then (below_regrown _ _ _)))))) | (refine wpQuiet_step (fun K hK => ?_); go_simp; split <;> (refine hK _ ?_; clear hK K))))
            all_goals (refine wpQuiet_nil ?_; intro w1 hw'; replace hw' := Kept.regrown hw')
            have Hk9 := Lib.hid (Hkw.out.then (HkW.out.then hw'))
            clear hw'
            go_wp2_with fail
            go_roundw
            case rel => exact ⟨k + 1, by omega, by go_num, Hk9.out, by show _ = _; rw [Hnext.out]; rfl⟩
            case measure => simp [intOf]; omega
    · have e : k = n := by omega
      subst e
      go_wp2_with fail
      go_ret
      exact ⟨ret_bool (by rw [hw.out, Hok.out]), Hkw.out⟩
end Go.Proofs.YtjmegicopdbkdaaDoor

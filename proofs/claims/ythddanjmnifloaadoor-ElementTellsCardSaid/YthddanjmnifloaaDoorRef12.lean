/-
  Contracts of the document's answer for steps: Right (of one kind), Same.
-/
import Derived.Test.YthddanjmnifloaaDoorRef08
import Derived.Test.YthddanjmnifloaaDoorRef04
set_option maxHeartbeats 1000000
set_option maxRecDepth 10000
namespace Go.Proofs.YthddanjmnifloaaDoor
open Go Go.RowKit Pl

theorem doms_nil (w : World) : Doms w Option.none 0 [] := ⟨rfl, by decide, fun j hj => absurd hj (Nat.not_lt_zero _), fun h => absurd h (Nat.lt_irrefl _)⟩
theorem beq_decide (a b : Int) : (a == b) = decide (b = a) := by
  rw [Bool.eq_iff_iff, beq_iff_eq, decide_eq_true_eq]; exact eq_comm

theorem rsames_any (A B : Option Addr) (n c d : Nat) (ds : List DomB) (w : World) (hA : Doms w A n ds) (hB : Doms w B n ds) :
    Calls Tryd.prog 33 #[.slice A n c, .slice B n d] w fun e w' => e = .returned (.bool true) ∧ Kept w w' := by
  have HA := Lib.hid hA
  have HB := Lib.hid hB
  have hsm := hA.small
  clear hA hB
  go_enter Tryd.func33, Tryd.ntmps33
  go_wp2_with fail
  go_loopw [5] (fun v wr => ∃ k : Nat, k ≤ n ∧ v = .int .i64 k ∧ Hid (Kept w wr)) (fun v _ => n - (intOf v).toNat)
  case atStart => exact ⟨0, Nat.zero_le _, rfl, Kept.same _⟩
  case round =>
    obtain ⟨k, hk, rfl, Hkw⟩ := hrel
    by_cases hlt : k < n
    · have hSr := HA.out.kept Hkw.out
      have hSb := HB.out.kept Hkw.out
      obtain ⟨a, rfl, hblk⟩ := hSr.addr (by omega)
      obtain ⟨b, rfl, hblk2⟩ := hSb.addr (by omega)
      obtain ⟨xs, L, Bx, mx, cx, Hdx, hc1, hc2, HIx, hLx⟩ := hSr.named k hlt
      obtain ⟨ys, M, By, my, cy, Hdy, hc3, hc4, HIy, hLy⟩ := hSb.named k hlt
      have e := Hdx.out.symm.trans Hdy.out
      simp only [Prod.mk.injEq] at e
      obtain ⟨rfl, rfl⟩ := e
      have HQ : Hid (∀ W, Kept wr W → Calls Tryd.prog 61 #[.agg #[.slice Bx mx cx, .int .u64 L], .agg #[.slice By my cy, .int .u64 L]] W fun e w' => e = .returned (.bool true) ∧ Kept W w') := fun W hW => by
        have := rdsame_any Bx By mx my cx cy L L xs xs W (HIx.out.kept hW) (HIy.out.kept hW)
        simpa using this
      have hl1 := World.block_lt_of_cell? wr _ hc1
      have hl2 := World.block_lt_of_cell? wr _ hc2
      have hl3 := World.block_lt_of_cell? wr _ hc3
      have hl4 := World.block_lt_of_cell? wr _ hc4
      clear hSr hSb
      go_wp2_with fail
      refine wp_region_quiet_below (by kernel_rfl) (by kernel_rfl) ?_
      repeat (any_goals (first | go_big_quiet_step (((go_at_call 61; exact Calls.regrown_of (HQ.out _ (below_regrown _ _ _))))) | quiet_step (((go_at_call 61; exact Calls.regrown_of (HQ.out _ (below_regrown _ _ _))))) | (refine wpQuiet_step (fun K hK => ?_); go_simp; split <;> (refine hK _ ?_; clear hK K))))
      all_goals (refine wpQuiet_nil ?_; intro w1 hw'; replace hw' := Kept.regrown hw')
      have Hk9 := Lib.hid (Hkw.out.then hw')
      clear hw'
      go_wp2_with fail
      go_roundw
      case rel => exact ⟨k + 1, by omega, by go_num, Hk9.out⟩
      case measure => simp [intOf]; omega
    · have e : k = n := by omega
      subst e
      go_wp2_with fail
      go_ret
      exact ⟨rfl, Hkw.out⟩

theorem rright12_any (K R Ct : Int) (A1 A2 A3 : Option Addr) (n1 c1 n2 c2 n3 c3 : Nat) (C : ConB) (q : Int) (O : Nat) (A : Option Addr) (n c : Nat) (ds : List DomB) (w : World) (hC : ConIn w K R Ct A1 A2 A3 n1 c1 n2 c2 n3 c3 C) (hS : Doms w A n ds) (hO : w.heap[O]? = some (.cells #[.int .i64 q] 3)) :
    Calls Tryd.prog 57 #[.agg #[.int .i64 K, .slice A1 n1 c1, .slice A2 n2 c2, .int .i64 R, .int .i64 Ct, .slice A3 n3 c3], .slice A n c, .slice (some ⟨O, 0, Option.none⟩) 1 1] w fun e w' => e = .returned (.bool (decide (C.kind = q) && allMay ds && rightB C n)) ∧ Kept w w' := by
  have HC := Lib.hid hC
  have HS := Lib.hid hS
  have HO := Lib.hid hO
  have Hlen := Lib.hid hS.len
  have hsm := hS.small
  have Hkind := Lib.hid hC.kind
  clear hC hS hO
  have HB : Hid (∀ wr, Kept (w.alloc (.cells #[.int .i64 K, .slice A1 n1 c1, .slice A2 n2 c2, .int .i64 R, .int .i64 Ct, .slice A3 n3 c3] 37)) wr → wr.heap[w.heap.size]? = some (.cells #[.int .i64 K, .slice A1 n1 c1, .slice A2 n2 c2, .int .i64 R, .int .i64 Ct, .slice A3 n3 c3] 37)) := fun wr h => h.heapAt (heap_new _ _)
  go_enter Tryd.func57, Tryd.ntmps57
  go_wp2_with fail
  go_loopw [7, 8] (fun u v wr => ∃ k : Nat, k ≤ 1 ∧ v = .int .i64 k ∧ u = .bool (decide (k = 1) && decide (K = q)) ∧ Hid (Kept (w.alloc (.cells #[.int .i64 K, .slice A1 n1 c1, .slice A2 n2 c2, .int .i64 R, .int .i64 Ct, .slice A3 n3 c3] 37)) wr)) (fun _ v _ => 1 - (intOf v).toNat)
  case atStart => exact ⟨0, Nat.zero_le _, rfl, rfl, Kept.same _⟩
  case round =>
    obtain ⟨k, hk, rfl, rfl, Hkw⟩ := hrel
    have hb := HB.out wr Hkw.out
    have b0 := cell_at hb 0
    have b1 := cell_at hb 1
    have b2 := cell_at hb 2
    have b3 := cell_at hb 3
    have b4 := cell_at hb 4
    have b5 := cell_at hb 5
    simp only [List.getElem?_toArray, List.getElem?_cons_zero, List.getElem?_cons_succ] at b0 b1 b2 b3 b4 b5
    clear hb
    have hlb : w.heap.size < wr.heap.size := World.block_lt_of_cell? wr _ b0
    have hq := cell_at (((Kept.box _ _).then Hkw.out).heapAt HO.out) 0
    simp only [List.getElem?_toArray, List.getElem?_cons_zero] at hq
    have hlO : O < wr.heap.size := World.block_lt_of_cell? wr _ hq
    by_cases hk1 : k = 1
    · subst hk1
      have eK : (decide (1 = 1) && decide (K = q)) = decide (K = q) := by simp
      rw [eK]
      have Hb : Hid (decide (C.kind = q) = decide (K = q)) := by show _ = _; rw [Hkind.out]
      clear eK hq
      generalize decide (K = q) = b at *
      go_wp2_with fail
      clear b0 b1 b2 b3 b4 b5
      have Hkw0 := Lib.hid Hkw.out
      go_loopw [7, 9] (fun u v wq => ∃ j : Nat, j ≤ n ∧ v = .int .i64 j ∧ u = .bool (b && allMay (ds.take j)) ∧ Hid (Kept wr wq)) (fun _ v _ => n - (intOf v).toNat)
      case atStart => exact ⟨0, Nat.zero_le _, rfl, by simp [allMay], Kept.same _⟩
      case round =>
        obtain ⟨j, hj, rfl, rfl, Hkq⟩ := hrel
        have Hk2 := Lib.hid (Hkw0.out.then Hkq.out)
        have hb := HB.out wr Hk2.out
        have b0 := cell_at hb 0
        have b1 := cell_at hb 1
        have b2 := cell_at hb 2
        have b3 := cell_at hb 3
        have b4 := cell_at hb 4
        have b5 := cell_at hb 5
        simp only [List.getElem?_toArray, List.getElem?_cons_zero, List.getElem?_cons_succ] at b0 b1 b2 b3 b4 b5
        clear hb
        by_cases hlt : j < n
        · have hSr := HS.out.kept ((Kept.box _ _).then Hk2.out)
          obtain ⟨a, rfl, hblk⟩ := hSr.addr (by omega)
          obtain ⟨xs, L, Bx, mx, cx, Hdx, hc1, hc2, HIx, hLx⟩ := hSr.named j hlt
          have Hs : Hid (allMay (ds.take (j + 1)) = (allMay (ds.take j) && mayB xs L)) := by
            show _ = _
            rw [take_dom (by have := Hlen.out; omega) Hdx.out]
            unfold allMay
            rw [List.all_append]
            simp
          have HQ := Lib.hid (rmay_any Bx mx cx L xs wr HIx.out hLx)
          clear hSr
          generalize mayB xs L = m1 at HQ Hs
          generalize hq1 : (b && allMay (ds.take j)) = q1
          have Hq1 := Lib.hid hq1
          clear hq1
          cases q1 with
          | false =>
            go_wp2_with fail
            go_roundw
            case rel => exact ⟨j + 1, by omega, by go_num, by rw [Hs.out, ← Bool.and_assoc, Hq1.out]; rfl, Hkq.out⟩
            case measure => simp [intOf]; omega
          | true =>
            go_wp2_with fail
            refine HQ.out.mono ?_
            rintro e w1 ⟨rfl, hk1⟩
            have Hk1 := Lib.hid (Hkq.out.then hk1)
            clear hk1 b0 b1 b2 b3 b4 b5
            go_wp2_with fail
            go_roundw
            case rel => (repeat apply Exists.intro); exact ⟨⟨j + 1, by omega, by go_num, by rw [Hs.out, ← Bool.and_assoc, Hq1.out]; simp, Hk1.out⟩, rfl⟩
            case measure => simp [intOf]; omega
        · have e : j = n := by omega
          subst e
          rw [List.take_of_length_le (by have := Hlen.out; omega)]
          generalize hq1 : (b && allMay ds) = q1
          have Hq2 : Hid ((decide (C.kind = q) && allMay ds && rightB C j) = (q1 && rightB C j)) := by show _ = _; rw [Hb.out, hq1]
          clear hq1
          have HQ := Lib.hid (rright_any K R Ct A1 A2 A3 n1 c1 n2 c2 n3 c3 C j wr (HC.out.kept ((Kept.box _ _).then Hk2.out)))
          have HK2 := Lib.hid ((Kept.box _ _).then Hk2.out)
          cases q1 with
          | false =>
            go_wp2_with fail
            go_ret
            exact ⟨ret_bool (by rw [Hq2.out]; rfl), HK2.out⟩
          | true =>
            generalize hr : rightB C j = r at HQ
            have Hr := Lib.hid hr
            clear hr
            go_wp2_with fail
            refine HQ.out.mono ?_
            rintro e w1 ⟨rfl, hk1⟩
            have HK3 := Lib.hid (HK2.out.then hk1)
            clear hk1 b0 b1 b2 b3 b4 b5
            go_wp2_with fail
            go_ret
            exact ⟨ret_bool (by rw [Hq2.out, Hr.out]; simp), HK3.out⟩
    · have e : k = 0 := by omega
      subst e
      go_wp2_with fail
      refine wp_region_quiet_below (by kernel_rfl) (by kernel_rfl) ?_
      repeat (any_goals (first | go_big_quiet_step ((fail)) | quiet_step ((fail)) | (refine wpQuiet_step (fun K hK => ?_); go_simp; split <;> (refine hK _ ?_; clear hK K))))
      all_goals (refine wpQuiet_nil ?_; intro w1 hw'; replace hw' := Kept.regrown hw')
      all_goals try (exfalso; omega)
      have Hk9 := Lib.hid (Hkw.out.then hw')
      clear hw' b0 b1 b2 b3 b4 b5 hq
      go_wp2_with fail
      go_roundw
      case rel => exact ⟨1, by omega, by go_num, by first | rfl | (simp; exact beq_decide _ _), Hk9.out⟩
      case measure => simp [intOf]
end Go.Proofs.YthddanjmnifloaaDoor

/-
  Contracts and plain laws that the card rests on, part 8.
-/
import Derived.Test.YtekcenacpklpgaaDoorMTells7
import Derived.Test.YtekcenacpklpgaaDoorMTells2
import Derived.Test.YtekcenacpklpgaaDoorMTells3
import Derived.Deep.RegionHeld3
import Derived.Test.YtekcenacpklpgaaDoorMTells6
import Derived.Lib.MinMax
import Derived.Test.YtekcenacpklpgaaDoorMTells5
set_option maxHeartbeats 2000000
set_option maxRecDepth 10000
namespace Go.Proofs.YtekcenacpklpgaaDoor
open Go Go.RowKit Pl

theorem rright12b_any (K R Ct : Int) (A1 A2 A3 : Option Addr) (n1 c1 n2 c2 n3 c3 : Nat) (C : ConB) (O : Nat) (A : Option Addr) (n c : Nat) (ds : List DomB) (w : World) (hC : ConIn w K R Ct A1 A2 A3 n1 c1 n2 c2 n3 c3 C) (hS : Doms w A n ds) (hO : w.heap[O]? = some (.cells #[.int .i64 1, .int .i64 3] 3)) :
    Calls Tryd.prog 31 #[.agg #[.int .i64 K, .slice A1 n1 c1, .slice A2 n2 c2, .int .i64 R, .int .i64 Ct, .slice A3 n3 c3], .slice A n c, .slice (some ⟨O, 0, Option.none⟩) 2 2] w fun e w' => e = .returned (.bool ((decide (C.kind = 1) || decide (C.kind = 3)) && allMay ds && rightB C n)) ∧ Kept w w' := by
  have HC := Lib.hid hC
  have HS := Lib.hid hS
  have HO := Lib.hid hO
  have Hlen := Lib.hid hS.len
  have hsm := hS.small
  have Hkind := Lib.hid hC.kind
  clear hC hS hO
  have HB : Hid (∀ wr, Kept (w.alloc (.cells #[.int .i64 K, .slice A1 n1 c1, .slice A2 n2 c2, .int .i64 R, .int .i64 Ct, .slice A3 n3 c3] 24)) wr → wr.heap[w.heap.size]? = some (.cells #[.int .i64 K, .slice A1 n1 c1, .slice A2 n2 c2, .int .i64 R, .int .i64 Ct, .slice A3 n3 c3] 24)) := fun wr h => h.heapAt (heap_new _ _)
  obtain ⟨k1, hk1⟩ : ∃ k1, ((1 : Int) == K) = k1 := ⟨_, rfl⟩
  obtain ⟨k3, hk3⟩ : ∃ k3, ((3 : Int) == K) = k3 := ⟨_, rfl⟩
  have Hb0 : Hid ((decide (C.kind = 1) || decide (C.kind = 3)) = (k1 || k3)) := by
    show _ = _
    rw [Hkind.out, ← hk1, ← hk3, beq_decide, beq_decide]
  go_enter Tryd.func31, Tryd.ntmps31
  go_wp2_with fail
  go_loopw [7, 8] (fun u v wr => ∃ k : Nat, k ≤ 2 ∧ v = .int .i64 k ∧ u = .bool ((decide (1 ≤ k) && k1) || (decide (2 ≤ k) && k3)) ∧ Hid (Kept (w.alloc (.cells #[.int .i64 K, .slice A1 n1 c1, .slice A2 n2 c2, .int .i64 R, .int .i64 Ct, .slice A3 n3 c3] 24)) wr)) (fun _ v _ => 2 - (intOf v).toNat)
  case atStart => exact ⟨0, Nat.zero_le _, rfl, rfl, Kept.same _⟩
  case round =>
    obtain ⟨k, hk, rfl, rfl, Hkw⟩ := hrel
    have hb := HB.out wr Hkw.out
    have b0 := cell_at hb 0
    have b1 := cell_at hb 1
    have b2 := cell_at hb 2
    have b3 := cell_at hb 3
    have b4 := cell_at hb 4
    have b5 := cell_at hb 5
    simp only [List.getElem?_toArray, List.getElem?_cons_zero, List.getElem?_cons_succ] at b0 b1 b2 b3 b4 b5
    clear hb
    have hlb : w.heap.size < wr.heap.size := World.block_lt_of_cell? wr _ b0
    have hq := cell_at (((Kept.box _ _).then Hkw.out).heapAt HO.out) 0
    have hq3 := cell_at (((Kept.box _ _).then Hkw.out).heapAt HO.out) 1
    simp only [List.getElem?_toArray, List.getElem?_cons_zero, List.getElem?_cons_succ] at hq hq3
    have hlO : O < wr.heap.size := World.block_lt_of_cell? wr _ hq
    by_cases hk2 : k = 2
    · subst hk2
      have eK : ((decide (1 ≤ 2) && k1) || (decide (2 ≤ 2) && k3)) = (k1 || k3) := by simp
      rw [eK]
      have Hb : Hid ((decide (C.kind = 1) || decide (C.kind = 3)) = (k1 || k3)) := Hb0.out
      clear eK hq hq3 hk1 hk3 Hb0
      generalize (k1 || k3) = b at *
      go_wp2_with fail
      clear b0 b1 b2 b3 b4 b5
      have Hkw0 := Lib.hid Hkw.out
      go_loopw [7, 9] (fun u v wq => ∃ j : Nat, j ≤ n ∧ v = .int .i64 j ∧ u = .bool (b && allMay (ds.take j)) ∧ Hid (Kept wr wq)) (fun _ v _ => n - (intOf v).toNat)
      case atStart => exact ⟨0, Nat.zero_le _, rfl, by simp [allMay], Kept.same _⟩
      case round =>
        obtain ⟨j, hj, rfl, rfl, Hkq⟩ := hrel
        have Hk2 := Lib.hid (Hkw0.out.then Hkq.out)
        have hb := HB.out wr Hk2.out
        have b0 := cell_at hb 0
        have b1 := cell_at hb 1
        have b2 := cell_at hb 2
        have b3 := cell_at hb 3
        have b4 := cell_at hb 4
        have b5 := cell_at hb 5
        simp only [List.getElem?_toArray, List.getElem?_cons_zero, List.getElem?_cons_succ] at b0 b1 b2 b3 b4 b5
        clear hb
        by_cases hlt : j < n
        · have hSr := HS.out.kept ((Kept.box _ _).then Hk2.out)
          obtain ⟨a, rfl, hblk⟩ := hSr.addr (by omega)
          obtain ⟨xs, L, Bx, mx, cx, Hdx, hc1, hc2, HIx, hLx⟩ := hSr.named j hlt
          have Hs : Hid (allMay (ds.take (j + 1)) = (allMay (ds.take j) && mayB xs L)) := by
            show _ = _
            rw [take_dom (by have := Hlen.out; omega) Hdx.out]
            unfold allMay
            rw [List.all_append]
            simp
          have HQ := Lib.hid (rmay_any Bx mx cx L xs wr HIx.out hLx)
          clear hSr
          generalize mayB xs L = m1 at HQ Hs
          generalize hq1 : (b && allMay (ds.take j)) = q1
          have Hq1 := Lib.hid hq1
          clear hq1
          cases q1 with
          | false =>
            go_wp2_with fail
            go_roundw
            case rel => exact ⟨j + 1, by omega, by go_num, by rw [Hs.out, ← Bool.and_assoc, Hq1.out]; rfl, Hkq.out⟩
            case measure => simp [intOf]; omega
          | true =>
            go_wp2_with fail
            refine HQ.out.mono ?_
            rintro e w1 ⟨rfl, hk1⟩
            have Hk1 := Lib.hid (Hkq.out.then hk1)
            clear hk1 b0 b1 b2 b3 b4 b5
            go_wp2_with fail
            go_roundw
            case rel => (repeat apply Exists.intro); exact ⟨⟨j + 1, by omega, by go_num, by rw [Hs.out, ← Bool.and_assoc, Hq1.out]; simp, Hk1.out⟩, rfl⟩
            case measure => simp [intOf]; omega
        · have e : j = n := by omega
          subst e
          rw [List.take_of_length_le (by have := Hlen.out; omega)]
          generalize hq1 : (b && allMay ds) = q1
          have Hq2 : Hid (((decide (C.kind = 1) || decide (C.kind = 3)) && allMay ds && rightB C j) = (q1 && rightB C j)) := by show _ = _; rw [Hb.out, hq1]
          clear hq1
          have HQ := Lib.hid (rright_any K R Ct A1 A2 A3 n1 c1 n2 c2 n3 c3 C j wr (HC.out.kept ((Kept.box _ _).then Hk2.out)))
          have HK2 := Lib.hid ((Kept.box _ _).then Hk2.out)
          cases q1 with
          | false =>
            go_wp2_with fail
            go_ret
            exact ⟨ret_bool (by rw [Hq2.out]; rfl), HK2.out⟩
          | true =>
            generalize hr : rightB C j = r at HQ
            have Hr := Lib.hid hr
            clear hr
            go_wp2_with fail
            refine HQ.out.mono ?_
            rintro e w1 ⟨rfl, hk1⟩
            have HK3 := Lib.hid (HK2.out.then hk1)
            clear hk1 b0 b1 b2 b3 b4 b5
            go_wp2_with fail
            go_ret
            exact ⟨ret_bool (by rw [Hq2.out, Hr.out]; simp), HK3.out⟩
    · by_cases hk0 : k = 0
      · subst hk0
        have eK : ((decide (1 ≤ 0) && k1) || (decide (2 ≤ 0) && k3)) = false := by simp
        rw [eK]
        go_wp2_with fail
        refine wp_region_quiet_below (by kernel_rfl) (by kernel_rfl) ?_
        repeat (any_goals (first | go_big_quiet_step ((fail)) | quiet_step ((fail)) | (refine wpQuiet_step (fun K hK => ?_); go_simp; split <;> (refine hK _ ?_; clear hK K))))
        all_goals (refine wpQuiet_nil ?_; intro w1 hw'; replace hw' := Kept.regrown hw')
        all_goals try (exfalso; omega)
        have Hk9 := Lib.hid (Hkw.out.then hw')
        clear hw' b0 b1 b2 b3 b4 b5 hq hq3
        go_wp2_with fail
        go_roundw
        case rel => exact ⟨1, by omega, by go_num, by simp, Hk9.out⟩
        case measure => simp [intOf]
      · have e : k = 1 := by omega
        subst e
        have eK : ((decide (1 ≤ 1) && k1) || (decide (2 ≤ 1) && k3)) = k1 := by simp
        rw [eK]
        have Hk1 := Lib.hid hk1
        clear hk1
        cases k1 with
        | true =>
          go_wp2_with fail
          refine wp_region_quiet_below (by kernel_rfl) (by kernel_rfl) ?_
          repeat (any_goals (first | go_big_quiet_step ((fail)) | quiet_step ((fail)) | (refine wpQuiet_step (fun K hK => ?_); go_simp; split <;> (refine hK _ ?_; clear hK K))))
          all_goals (refine wpQuiet_nil ?_; intro w1 hw'; replace hw' := Kept.regrown hw')
          all_goals try (exfalso; omega)
          have Hk9 := Lib.hid (Hkw.out.then hw')
          clear hw' b0 b1 b2 b3 b4 b5 hq hq3
          go_wp2_with fail
          go_roundw
          case rel => exact ⟨2, by omega, by go_num, by simp, Hk9.out⟩
          case measure => simp [intOf]
        | false =>
          go_wp2_with fail
          refine wp_region_quiet_below (by kernel_rfl) (by kernel_rfl) ?_
          repeat (any_goals (first | go_big_quiet_step ((fail)) | quiet_step ((fail)) | (refine wpQuiet_step (fun K hK => ?_); go_simp; split <;> (refine hK _ ?_; clear hK K))))
          all_goals (refine wpQuiet_nil ?_; intro w1 hw'; replace hw' := Kept.regrown hw')
          all_goals try (exfalso; omega)
          have Hk9 := Lib.hid (Hkw.out.then hw')
          clear hw' b0 b1 b2 b3 b4 b5 hq hq3
          go_wp2_with fail
          go_roundw
          case rel => exact ⟨2, by omega, by go_num, by simp, Hk9.out⟩
          case measure => simp [intOf]
end Go.Proofs.YtekcenacpklpgaaDoor

set_option maxHeartbeats 1000000
set_option maxRecDepth 10000
namespace Go.Proofs.YtekcenacpklpgaaDoor
open Go Go.RowKit Pl

theorem listB_len {xs : List Int} {L : Nat} (h : mayB xs L = true) : (listB xs L).length = (elems L).length := by
  rw [show listB xs L = valsOf xs L from if_pos h, valsOf_length]; unfold elemsI; rw [List.length_map]
theorem listB_none {xs : List Int} {L : Nat} (h : mayB xs L = false) : listB xs L = [] := if_neg (by rw [h]; simp)

theorem size1_any (A : Option Addr) (n c L : Nat) (w : World) (hL : L < 2 ^ 64) :
    Calls Tryd.prog 55 #[.agg #[.slice A n c, .int .u64 L]] w fun e w' => e = .returned (.int .i64 ((elems L).length : Nat)) ∧ Kept w w' := by
  have HL := Lib.hid hL
  clear hL
  go_enter Tryd.func55, Tryd.ntmps55
  go_wp2_with (go_at_call 56; refine (count_any L _ HL.out).mono ?_; rintro e w' ⟨rfl, rfl⟩)
  go_ret
  exact ⟨rfl, Kept.box _ _⟩

theorem size_any (A : Option Addr) (n c L : Nat) (xs : List Int) (w : World) (hS : Ints w A n xs) (hL : L < 2 ^ 64) :
    Calls Tryd.prog 27 #[.agg #[.slice A n c, .int .u64 L]] w fun e w' => e = .returned (.int .i64 ((listB xs L).length : Nat)) ∧ Kept w w' := by
  have HS := Lib.hid hS
  have HL := Lib.hid hL
  clear hS hL
  have hmay : Hid (∀ W, Ints W A n xs → Calls Tryd.prog 23 #[.agg #[.slice A n c, .int .u64 L]] W fun e w' => e = .returned (.bool (mayB xs L)) ∧ Kept W w') := fun W hW => may_any A n c L xs W hW HL.out
  obtain ⟨q, hq⟩ : ∃ q, q = (listB xs L).length := ⟨_, rfl⟩
  rw [← hq]
  cases hm : mayB xs L with
  | true =>
    rw [listB_len hm] at hq
    rw [hm] at hmay
    have Hq := Lib.hid hq
    clear hm hq
    go_enter Tryd.func27, Tryd.ntmps27
    go_wp2_with (first
      | (go_at_call 23; refine (hmay.out _ (HS.out.kept ((Kept.box _ _).then (Kept.box _ _)))).mono ?_; rintro e w1 ⟨rfl, hk⟩; have hb1 := hk.cellAt (box2_0 (w.alloc _) (.slice A n c) (.int .u64 L) _); have hb2 := hk.cellAt (box2_1 (w.alloc _) (.slice A n c) (.int .u64 L) _); simp only [World.size_alloc] at hb1 hb2; have Hk := Lib.hid (((Kept.box _ _).then (Kept.box _ _)).then hk); clear hk)
      | (go_at_call 55; refine (size1_any A n c L _ HL.out).mono ?_; rintro e w2 ⟨rfl, hk2⟩; have Hk2 := Lib.hid (Hk.out.then hk2); clear hk2)
      | go_in)
    go_ret
    exact ⟨by rw [Hq.out]; rfl, Hk2.out⟩
  | false =>
    rw [listB_none hm] at hq
    rw [hm] at hmay
    subst hq
    clear hm
    go_enter Tryd.func27, Tryd.ntmps27
    go_wp2_with (first
      | (go_at_call 23; refine (hmay.out _ (HS.out.kept ((Kept.box _ _).then (Kept.box _ _)))).mono ?_; rintro e w1 ⟨rfl, hk⟩; have Hk := Lib.hid (((Kept.box _ _).then (Kept.box _ _)).then hk); clear hk)
      | go_in)
    go_ret
    exact ⟨rfl, Hk.out⟩

theorem at_any (a : Addr) (n c L k : Nat) (xs : List Int) (w : World) (hS : Ints w (some a) n xs) (hk : k < n) :
    Calls Tryd.prog 87 #[.agg #[.slice (some a) n c, .int .u64 L], .int .i64 k] w fun e w' => e = .returned (.tuple #[.int .i64 (xs.getD k 0), .bool true]) ∧ Kept w w' := by
  obtain ⟨x, Hx, hcx, hx1, hx2⟩ := (hS.kept (Kept.box w (.cells #[.slice (some a) n c, .int .u64 L] 47))).named k hk
  obtain ⟨a', ha', hab⟩ := (hS.kept (Kept.box w (.cells #[.slice (some a) n c, .int .u64 L] 47))).addr (by omega)
  cases ha'
  clear hS
  rw [Hx.out]
  go_enter Tryd.func87, Tryd.ntmps87
  go_wp2_with fail
  go_ret2
  exact ⟨rfl, Kept.box _ _⟩
theorem elems_one {L : Nat} (hL : L < 2 ^ 64) (h : (elems L).length = 1) : L ≠ 0 ∧ elems L = [Lib.ctz 64 L] := by
  have h0 : L ≠ 0 := fun e => by rw [e, elems_zero] at h; simp at h
  refine ⟨h0, ?_⟩
  rw [elems_cons h0 hL] at h ⊢
  rw [List.length_cons] at h
  rw [List.eq_nil_of_length_eq_zero (by omega : (elems (L &&& (L - 1))).length = 0)]

end Go.Proofs.YtekcenacpklpgaaDoor

set_option maxHeartbeats 1000000
set_option maxRecDepth 10000
namespace Go.Proofs.YtekcenacpklpgaaDoor
open Go Go.RowKit Pl

theorem bitLenAux_spec : ∀ (f x : Nat), x < 2 ^ f → x ≠ 0 → ∃ k, Lib.bitLenAux f x = k + 1 ∧ x.testBit k = true ∧ x < 2 ^ (k + 1) := by
  intro f
  induction f with
  | zero => intro x h h0; simp at h; omega
  | succ f ih =>
    intro x h h0
    simp only [Lib.bitLenAux]
    by_cases h1 : x / 2 = 0
    · have : x = 1 := by omega
      subst this
      refine ⟨0, ?_, by decide, by decide⟩
      have e : Lib.bitLenAux f (1 / 2) = 0 := by
        cases f with
        | zero => rfl
        | succ f => simp [Lib.bitLenAux]
      rw [if_neg (by decide), e]
    · obtain ⟨k, hk, hb, hl⟩ := ih (x / 2) (by rw [Nat.pow_succ] at h; omega) h1
      refine ⟨k + 1, ?_, ?_, ?_⟩
      · rw [if_neg h0, hk]; omega
      · rw [Nat.testBit_succ]; exact hb
      · rw [Nat.pow_succ]; omega
theorem bitLen_spec {b : Nat} (hb : b < 2 ^ 64) (h0 : b ≠ 0) : ∃ k, Lib.bitLen b = k + 1 ∧ b.testBit k = true ∧ b < 2 ^ (k + 1) := bitLenAux_spec 64 b hb h0

theorem elems_first {L : Nat} (hL : L < 2 ^ 64) (h0 : L ≠ 0) : (elems L).getD 0 0 = Lib.ctz 64 L := by rw [elems_cons h0 hL]; rfl
theorem elems_last {L k : Nat} (hb : L.testBit k = true) (hl : L < 2 ^ (k + 1)) (hk : k < 64) : (elems L).getD ((elems L).length - 1) 0 = k ∧ 0 < (elems L).length := by
  have e : elems L = upto L k ++ [k] := by
    rw [elems_of_lt hl (by omega), upto_succ, hb]; rfl
  rw [e]
  simp [List.getD_eq_getElem?_getD]
theorem listB_getD {xs : List Int} {L j : Nat} (hm : mayB xs L = true) (hj : j < (elems L).length) : (listB xs L).getD j 0 = xs.getD ((elems L).getD j 0) 0 := by
  rw [show listB xs L = valsOf xs L from if_pos hm]
  unfold valsOf elemsI
  rw [List.map_map, List.getD_eq_getElem?_getD, List.getElem?_map, List.getElem?_eq_getElem hj, List.getD_eq_getElem?_getD (l := elems L), List.getElem?_eq_getElem hj]
  simp
theorem live_pos {xs : List Int} {L : Nat} (hm : mayB xs L = true) (h : 0 < (listB xs L).length) : L ≠ 0 := by
  intro e
  rw [listB_len hm, e, elems_zero] at h
  simp at h

theorem least_dom (a : Addr) (n c L : Nat) (xs : List Int) (w : World) (hS : Ints w (some a) n xs) (hL : L < 2 ^ 64) (hT : Tab w) (hm : mayB xs L = true) (h0 : 0 < (listB xs L).length) :
    Calls Tryd.prog 75 #[.agg #[.slice (some a) n c, .int .u64 L]] w fun e w' => e = .returned (.tuple #[.int .i64 ((listB xs L).getD 0 0), .bool true]) ∧ Kept w w' := by
  have hLn := live_pos hm h0
  have hlo : lo L = (Lib.ctz 64 L : Nat) := if_neg hLn
  have hk : Lib.ctz 64 L < n := by
    have h2 := (ctz_testBit hLn hL).2.1
    have h3 := mayB_lt hm
    rw [hS.len] at h3
    refine Nat.lt_of_not_le fun hle => ?_
    rw [Nat.testBit_lt_two_pow (Nat.lt_of_lt_of_le h3 (Nat.pow_le_pow_right (by omega) hle))] at h2
    cases h2
  have hv : (listB xs L).getD 0 0 = xs.getD (Lib.ctz 64 L) 0 := by
    rw [listB_getD hm (by rw [listB_len hm] at h0; exact h0), elems_first hL hLn]
  rw [hv]
  have HW := Lib.hid hS
  have HTW := Lib.hid hT
  have hmay : Hid (∀ W, Ints W (some a) n xs → Calls Tryd.prog 23 #[.agg #[.slice (some a) n c, .int .u64 L]] W fun e w' => e = .returned (.bool true) ∧ Kept W w') := fun W hW => by
    have := may_any (some a) n c L xs W hW hL
    rwa [hm] at this
  have HQL : Hid (∀ W, Tab W → Calls Tryd.prog 88 #[.int .u64 L] W fun e w' => e = .returned (.int .i64 (Lib.ctz 64 L : Nat)) ∧ Kept W w') := fun W hW => by rw [← hlo]; exact (least_any L W hL hW).mono fun _ _ ⟨h1, h2⟩ => ⟨h1, h2 ▸ Kept.same _⟩
  clear hS hT hv hm h0 hLn hlo
  generalize Lib.ctz 64 L = k at *
  have HA : Hid (∀ W, Ints W (some a) n xs → Calls Tryd.prog 87 #[.agg #[.slice (some a) n c, .int .u64 L], .int .i64 k] W fun e w' => e = .returned (.tuple #[.int .i64 (xs.getD k 0), .bool true]) ∧ Kept W w') := fun W hW => at_any a n c L k xs W hW hk
  generalize xs.getD k 0 = x at *
  go_enter Tryd.func75, Tryd.ntmps75
  go_wp2_with (first
    | (go_at_call 23; refine (hmay.out _ (HW.out.kept (Kept.box _ _))).mono ?_; rintro e w1 ⟨rfl, hk⟩; have hb1 := hk.cellAt (box2_0 w (.slice (some a) n c) (.int .u64 L) _); have hb2 := hk.cellAt (box2_1 w (.slice (some a) n c) (.int .u64 L) _); have Hk := Lib.hid ((Kept.box _ _).then hk); clear hk))
  go_region_held3 (fun V => V.cell? ⟨w.heap.size, 0, Option.none⟩ = some (.slice (some a) n c) ∧ V.cell? ⟨w.heap.size, 1, Option.none⟩ = some (.int .u64 L)) (first | go_keep | exact ⟨((Kept.drewn _).then hk4).cellAt hb1, ((Kept.drewn _).then hk4).cellAt hb2⟩ | exact ⟨(((Kept.drewn _).then hk4).then hk5).cellAt hb1, (((Kept.drewn _).then hk4).then hk5).cellAt hb2⟩)
      (first
      | (go_at_call 88; refine (HQL.out _ ((HTW.out.kept Hk.out).kept (Kept.drewn _))).mono ?_; rintro e W4 ⟨rfl, hk4⟩)
      | (go_at_call 87; refine (HA.out _ ((HW.out.kept Hk.out).kept ((Kept.drewn _).then hk4))).mono ?_; rintro e W5 ⟨rfl, hk5⟩))
  have Hk2 := Lib.hid (Hk.out.then (((Kept.drewn _).then hk4).then hk5))
  clear hk4 hk5
  go_wp2_with fail
  go_ret2
  exact ⟨rfl, Hk2.out⟩

theorem greatest_dom (a : Addr) (n c L : Nat) (xs : List Int) (w : World) (hS : Ints w (some a) n xs) (hL : L < 2 ^ 64) (hm : mayB xs L = true) (h0 : 0 < (listB xs L).length) :
    Calls Tryd.prog 76 #[.agg #[.slice (some a) n c, .int .u64 L]] w fun e w' => e = .returned (.tuple #[.int .i64 ((listB xs L).getD ((listB xs L).length - 1) 0), .bool true]) ∧ Kept w w' := by
  have hLn := live_pos hm h0
  obtain ⟨k, hkk, hb, hl⟩ := bitLen_spec hL hLn
  have hk : k < n := by
    have h3 := mayB_lt hm
    rw [hS.len] at h3
    refine Nat.lt_of_not_le fun hle => ?_
    rw [Nat.testBit_lt_two_pow (Nat.lt_of_lt_of_le h3 (Nat.pow_le_pow_right (by omega) hle))] at hb
    cases hb
  have hk64 : k < 64 := by have := mayB_len hm; have := hS.len; omega
  have hv : (listB xs L).getD ((listB xs L).length - 1) 0 = xs.getD k 0 := by
    obtain ⟨h1, h2⟩ := elems_last hb hl hk64
    rw [listB_len hm, listB_getD hm (by omega), h1]
  rw [hv]
  have HW := Lib.hid hS
  have hmay : Hid (∀ W, Ints W (some a) n xs → Calls Tryd.prog 23 #[.agg #[.slice (some a) n c, .int .u64 L]] W fun e w' => e = .returned (.bool true) ∧ Kept W w') := fun W hW => by
    have := may_any (some a) n c L xs W hW hL
    rwa [hm] at this
  have HQL : Hid (∀ W, Calls Tryd.prog 89 #[.int .u64 L] W fun e w' => e = .returned (.int .i64 (k : Nat)) ∧ Kept W w') := fun W => (greatest_any L W hL).mono fun _ _ ⟨h1, h2⟩ => ⟨by rw [h1, hkk]; simp, h2 ▸ Kept.same _⟩
  clear hS hv hm h0 hLn hkk hb hl
  have HA : Hid (∀ W, Ints W (some a) n xs → Calls Tryd.prog 87 #[.agg #[.slice (some a) n c, .int .u64 L], .int .i64 k] W fun e w' => e = .returned (.tuple #[.int .i64 (xs.getD k 0), .bool true]) ∧ Kept W w') := fun W hW => at_any a n c L k xs W hW hk
  generalize xs.getD k 0 = x at *
  go_enter Tryd.func76, Tryd.ntmps76
  go_wp2_with (first
    | (go_at_call 23; refine (hmay.out _ (HW.out.kept (Kept.box _ _))).mono ?_; rintro e w1 ⟨rfl, hk⟩; have hb1 := hk.cellAt (box2_0 w (.slice (some a) n c) (.int .u64 L) _); have hb2 := hk.cellAt (box2_1 w (.slice (some a) n c) (.int .u64 L) _); have Hk := Lib.hid ((Kept.box _ _).then hk); clear hk))
  go_region_held3 (fun V => V.cell? ⟨w.heap.size, 0, Option.none⟩ = some (.slice (some a) n c) ∧ V.cell? ⟨w.heap.size, 1, Option.none⟩ = some (.int .u64 L)) (first | go_keep | exact ⟨((Kept.drewn _).then hk4).cellAt hb1, ((Kept.drewn _).then hk4).cellAt hb2⟩ | exact ⟨(((Kept.drewn _).then hk4).then hk5).cellAt hb1, (((Kept.drewn _).then hk4).then hk5).cellAt hb2⟩)
      (first
      | (go_at_call 89; refine (HQL.out _).mono ?_; rintro e W4 ⟨rfl, hk4⟩)
      | (go_at_call 87; refine (HA.out _ ((HW.out.kept Hk.out).kept ((Kept.drewn _).then hk4))).mono ?_; rintro e W5 ⟨rfl, hk5⟩))
  have Hk2 := Lib.hid (Hk.out.then (((Kept.drewn _).then hk4).then hk5))
  clear hk4 hk5
  go_wp2_with fail
  go_ret2
  exact ⟨rfl, Hk2.out⟩
end Go.Proofs.YtekcenacpklpgaaDoor

set_option maxHeartbeats 1000000
set_option maxRecDepth 10000
namespace Go.Proofs.YtekcenacpklpgaaDoor
open Go Go.RowKit Pl

theorem lincontrary_any (rel : Int) (w : World) : Calls Tryd.prog 19 #[.int .i64 rel] w fun e w' => e = .returned (.int .i64 (contraB rel)) ∧ w = w' := by
  go_enter Tryd.func19, Tryd.ntmps19
  go_wp2
  all_goals
    go_ret
    refine ⟨ret_i64 ?_, rfl⟩
    simp only [beq_iff_eq, beq_eq_false_iff_ne] at *
    unfold contraB
    repeat (first | rw [if_pos (by assumption)] | rw [if_neg (by assumption)])
    try omega

theorem sumsholds_any (a rel b : Int) (w : World) (h0 : 0 ≤ rel) (h5 : rel ≤ 5) :
    Calls Tryd.prog 78 #[.int .i64 a, .int .i64 rel, .int .i64 b] w fun e w' => e = .returned (.bool (relB a rel b)) ∧ w = w' := by
  have hr : rel = 0 ∨ rel = 1 ∨ rel = 2 ∨ rel = 3 ∨ rel = 4 ∨ rel = 5 := by omega
  rcases hr with rfl | rfl | rfl | rfl | rfl | rfl
  all_goals
    go_enter Tryd.func78, Tryd.ntmps78
    go_wp2
    go_ret
    refine ⟨ret_bool ?_, rfl⟩
    unfold relB
    rw [Bool.eq_iff_iff]
    simp

theorem endsmay1_any (n rel c : Int) (Br Bc : Nat) (w : World) (h0 : 0 ≤ rel) (h5 : rel ≤ 5) (hr : w.cell? ⟨Br, 0, Option.none⟩ = some (.int .i64 rel)) (hc : w.cell? ⟨Bc, 0, Option.none⟩ = some (.int .i64 c)) :
    Calls Tryd.prog 77 #[.int .i64 n, .pointer (some ⟨Br, 0, Option.none⟩), .pointer (some ⟨Bc, 0, Option.none⟩)] w fun e w' => e = .returned (.bool (relB n rel c)) ∧ w = w' := by
  go_enter Tryd.func77, Tryd.ntmps77
  go_wp2_with (go_at_call 78; refine (sumsholds_any _ _ _ _ h0 h5).mono ?_; rintro e w' ⟨rfl, rfl⟩)
  go_ret
  exact ⟨rfl, rfl⟩

theorem mayL_ne (lo hi c : Int) : mayL lo hi 1 c = (relB lo 1 c || relB hi 1 c) := by unfold mayL relB; simp
theorem mayL_hi (lo hi rel c : Int) (h : rel = 4 ∨ rel = 5) : mayL lo hi rel c = relB hi rel c := by
  rcases h with rfl | rfl <;> (unfold mayL relB; simp)
theorem mayL_lo (lo hi rel c : Int) (h : rel = 2 ∨ rel = 3) : mayL lo hi rel c = relB lo rel c := by
  rcases h with rfl | rfl <;> (unfold mayL relB; simp)
theorem mayL_eq (lo hi c : Int) : mayL lo hi 0 c = (decide (lo ≤ c) && decide (c ≤ hi)) := by unfold mayL; simp

theorem endsmay_any (lo hi rel c : Int) (w : World) (h0 : 0 ≤ rel) (h5 : rel ≤ 5) :
    Calls Tryd.prog 62 #[.agg #[.int .i64 lo, .int .i64 hi], .int .i64 rel, .int .i64 c] w fun e w' => e = .returned (.bool (mayL lo hi rel c)) ∧ Kept w w' := by
  have HK : Hid (Kept w (((w.alloc (.cells #[.int .i64 lo, .int .i64 hi] 86)).alloc (.cells #[.int .i64 rel] 3)).alloc (.cells #[.int .i64 c] 3))) := ((Kept.box _ _).newBlock _).newBlock _
  have HQ : Hid (∀ n, Calls Tryd.prog 77 #[.int .i64 n, .pointer (some ⟨w.heap.size + 1, 0, Option.none⟩), .pointer (some ⟨w.heap.size + 1 + 1, 0, Option.none⟩)] (((w.alloc (.cells #[.int .i64 lo, .int .i64 hi] 86)).alloc (.cells #[.int .i64 rel] 3)).alloc (.cells #[.int .i64 c] 3)) fun e w' => e = .returned (.bool (relB n rel c)) ∧ (((w.alloc (.cells #[.int .i64 lo, .int .i64 hi] 86)).alloc (.cells #[.int .i64 rel] 3)).alloc (.cells #[.int .i64 c] 3)) = w') := fun n =>
    endsmay1_any n rel c _ _ _ h0 h5 ((Kept.box _ _).cellAt (by rw [cell_at (heap_new2 _ _ _) 0]; rfl)) (by rw [cell_at (heap_new3 _ _ _ _) 0]; rfl)
  have hr : rel = 0 ∨ rel = 1 ∨ (rel = 2 ∨ rel = 3) ∨ (rel = 4 ∨ rel = 5) := by omega
  rcases hr with rfl | rfl | hr | hr
  · rw [mayL_eq]
    by_cases g1 : lo ≤ c
    · have hd : decide (lo ≤ c) = true := by simp [g1]
      go_enter Tryd.func62, Tryd.ntmps62
      go_wp2_with fail
      go_ret
      exact ⟨ret_bool (by rw [hd]; rfl), HK.out⟩
    · have hd : decide (lo ≤ c) = false := by simp; omega
      go_enter Tryd.func62, Tryd.ntmps62
      go_wp2_with fail
      go_ret
      exact ⟨ret_bool (by first | rfl | (rw [hd]; rfl)), HK.out⟩
  · rw [mayL_ne]
    have HQl := Lib.hid (HQ.out lo)
    have HQh := Lib.hid (HQ.out hi)
    clear HQ
    generalize relB lo 1 c = b1 at *
    generalize relB hi 1 c = b2 at *
    cases b1 with
    | true =>
      go_enter Tryd.func62, Tryd.ntmps62
      go_wp2_with (go_at_call 77; refine HQl.out.mono ?_; rintro e w' ⟨rfl, rfl⟩)
      go_ret
      exact ⟨rfl, HK.out⟩
    | false =>
      have tok : True := trivial
      go_enter Tryd.func62, Tryd.ntmps62
      go_wp2_with (go_at_call 77; first | (have _t := tok; refine HQl.out.mono ?_; rintro e w' ⟨rfl, rfl⟩; clear tok) | (refine HQh.out.mono ?_; rintro e w' ⟨rfl, rfl⟩))
      go_ret
      exact ⟨rfl, HK.out⟩
  · rw [mayL_lo _ _ _ _ hr]
    rcases hr with rfl | rfl
    all_goals
      go_enter Tryd.func62, Tryd.ntmps62
      go_wp2_with (go_at_call 77; refine (HQ.out lo).mono ?_; rintro e w' ⟨rfl, rfl⟩)
      go_ret
      exact ⟨rfl, HK.out⟩
  · rw [mayL_hi _ _ _ _ hr]
    rcases hr with rfl | rfl
    all_goals
      go_enter Tryd.func62, Tryd.ntmps62
      go_wp2_with (go_at_call 77; refine (HQ.out hi).mono ?_; rintro e w' ⟨rfl, rfl⟩)
      go_ret
      exact ⟨rfl, HK.out⟩

theorem mul_small {n x : Int} (hn : -1048576 ≤ n ∧ n ≤ 1048576) (hx : -1048576 ≤ x ∧ x ≤ 1048576) : -1099511627776 ≤ n * x ∧ n * x ≤ 1099511627776 := by
  have h1 : n * x ≤ 1048576 * 1048576 ∧ -(1048576 * 1048576) ≤ n * x := by
    constructor
    · by_cases h : 0 ≤ n
      · have a := Int.mul_le_mul_of_nonneg_left hx.2 h
        have b := Int.mul_le_mul_of_nonneg_right hn.2 (show (0 : Int) ≤ 1048576 by decide)
        omega
      · have a := Int.mul_le_mul_of_nonpos_left (a := n) (by omega) hx.1
        have b : n * -1048576 ≤ 1048576 * 1048576 := by omega
        omega
    · by_cases h : 0 ≤ n
      · have a := Int.mul_le_mul_of_nonneg_left hx.1 h
        have b : -(1048576 * 1048576) ≤ n * -1048576 := by omega
        omega
      · have a := Int.mul_le_mul_of_nonpos_left (a := n) (by omega) hx.2
        have b : -(1048576 * 1048576) ≤ n * 1048576 := by omega
        omega
  omega
theorem mn_rng {n : Int} {l : List Int} (hn : -1048576 ≤ n ∧ n ≤ 1048576) (hl : ∀ x ∈ l, -1048576 ≤ x ∧ x ≤ 1048576) (h0 : 0 < l.length) : -1099511627776 ≤ mnB n l ∧ mxB n l ≤ 1099511627776 := by
  obtain ⟨a1, a2⟩ := head_mem h0
  have b1 := mul_small hn (hl _ a1)
  have b2 := mul_small hn (hl _ a2)
  unfold mnB mxB
  omega

theorem endsplus_any (lo hi n sg : Int) (a : Addr) (m c L : Nat) (xs : List Int) (w : World) (hS : Ints w (some a) m xs) (hL : L < 2 ^ 64) (hT : Tab w) (hm : mayB xs L = true) (h0 : 0 < (listB xs L).length)
    (hn : -1048576 ≤ n ∧ n ≤ 1048576) (hlo : -35184372088832 ≤ lo ∧ lo ≤ 35184372088832) (hhi : -35184372088832 ≤ hi ∧ hi ≤ 35184372088832) (hsg : sg = 1 ∨ sg = -1) :
    Calls Tryd.prog 60 #[.agg #[.int .i64 lo, .int .i64 hi], .int .i64 n, .agg #[.slice (some a) m c, .int .u64 L], .int .i64 sg] w
      fun e w' => e = .returned (.agg #[.int .i64 (lo + sg * mnB n (listB xs L)), .int .i64 (hi + sg * mxB n (listB xs L))]) ∧ Kept w w' := by
  have HLe : Hid (∀ W, Kept w W → Calls Tryd.prog 75 #[.agg #[.slice (some a) m c, .int .u64 L]] W fun e w' => e = .returned (.tuple #[.int .i64 ((listB xs L).getD 0 0), .bool true]) ∧ Kept W w') := fun W hW => least_dom a m c L xs W (hS.kept hW) hL (hT.kept hW) hm h0
  have HGr : Hid (∀ W, Kept w W → Calls Tryd.prog 76 #[.agg #[.slice (some a) m c, .int .u64 L]] W fun e w' => e = .returned (.tuple #[.int .i64 ((listB xs L).getD ((listB xs L).length - 1) 0), .bool true]) ∧ Kept W w') := fun W hW => greatest_dom a m c L xs W (hS.kept hW) hL hm h0
  have hrx := listB_rng xs L
  obtain ⟨a1, a2⟩ := head_mem h0
  have r1 := hrx _ a1
  have r2 := hrx _ a2
  unfold mnB mxB
  generalize (listB xs L).getD 0 0 = x at *
  generalize (listB xs L).getD ((listB xs L).length - 1) 0 = y at *
  have b1 := mul_small hn r1
  have b2 := mul_small hn r2
  obtain ⟨p, hp⟩ : ∃ p, p = n * x := ⟨_, rfl⟩
  obtain ⟨q, hq⟩ : ∃ q, q = n * y := ⟨_, rfl⟩
  rw [← hp] at b1
  rw [← hq] at b2
  have e1 : IntKind.i64.wrap (n * x) = p := by rw [← hp]; exact IntWalk.i64_in _ (by omega)
  have e2 : IntKind.i64.wrap (n * y) = q := by rw [← hq]; exact IntWalk.i64_in _ (by omega)
  obtain ⟨s, hs⟩ : ∃ s, s = sg * min p q := ⟨_, rfl⟩
  obtain ⟨t, ht⟩ : ∃ t, t = sg * max p q := ⟨_, rfl⟩
  have hsm : -1099511627776 ≤ s ∧ s ≤ 1099511627776 := by rw [hs]; rcases hsg with rfl | rfl <;> omega
  have hsx : -1099511627776 ≤ t ∧ t ≤ 1099511627776 := by rw [ht]; rcases hsg with rfl | rfl <;> omega
  have e3 : IntKind.i64.wrap (sg * min p q) = s := by rw [← hs]; exact IntWalk.i64_in _ (by omega)
  have e4 : IntKind.i64.wrap (sg * max p q) = t := by rw [← ht]; exact IntWalk.i64_in _ (by omega)
  have hlo1 := hlo.1
  have hlo2 := hlo.2
  have hhi1 := hhi.1
  have hhi2 := hhi.2
  have hs1 := hsm.1
  have hs2 := hsm.2
  have ht1 := hsx.1
  have ht2 := hsx.2
  rw [← hp, ← hq, ← hs, ← ht]
  clear hp hq hs ht b1 b2 hsm hsx hlo hhi
  clear hS hT hm h0 hrx a1 a2 r1 r2 hsg hn
  go_enter Tryd.func60, Tryd.ntmps60
  go_wp2_with fail
  refine (HLe.out _ (((Kept.box _ _).newBlock _).newBlock _)).mono ?_
  rintro e w1 ⟨rfl, hk⟩
  have HE1 := Lib.hid (hk.heapAt ((Kept.box _ _).heapAt ((Kept.box _ _).heapAt (heap_new w (.cells #[.int .i64 lo, .int .i64 hi] 86)))))
  have HD1 := Lib.hid (hk.heapAt ((Kept.box _ _).heapAt (heap_new2 w (.cells #[.int .i64 lo, .int .i64 hi] 86) (.cells #[.slice (some a) m c, .int .u64 L] 47))))
  have HR1 := Lib.hid (hk.heapAt (heap_new3 w (.cells #[.int .i64 lo, .int .i64 hi] 86) (.cells #[.slice (some a) m c, .int .u64 L] 47) (.cells #[.int .i64 0, .int .i64 0] 86)))
  have Hk1 := Lib.hid ((((Kept.box _ _).newBlock _).newBlock _).then hk)
  have d0 := cell_at HD1.out 0
  have d1 := cell_at HD1.out 1
  simp only [List.getElem?_toArray, List.getElem?_cons_zero, List.getElem?_cons_succ] at d0 d1
  have hl1 : w.heap.size + 1 < w1.heap.size := lt_at HD1.out
  clear hk HLe
  go_wp2_with fail
  refine (HGr.out _ Hk1.out).mono ?_
  rintro e w2 ⟨rfl, hk⟩
  have HE2 := Lib.hid (hk.heapAt HE1.out)
  have HR2 := Lib.hid (hk.heapAt HR1.out)
  have Hk2 := Lib.hid (Hk1.out.then hk)
  have c0 := cell_at HE2.out 0
  have c1 := cell_at HE2.out 1
  have r0 := cell_at HR2.out 0
  have r1 := cell_at HR2.out 1
  have f0 := frozen_at HR2.out 0
  have f1 := frozen_at HR2.out 1
  simp only [List.getElem?_toArray, List.getElem?_cons_zero, List.getElem?_cons_succ] at c0 c1 r0 r1
  have hl2 : w.heap.size < w2.heap.size := lt_at HE2.out
  clear hk HGr d0 d1 hl1
  go_wp2_with fail
  refine bodyPost_ret (v := .agg #[.int .i64 (lo + s), .int .i64 (hi + t)]) (by simp [results, Tryd.results60, go_sem, r0, r1]) rfl ?_
  refine ⟨rfl, ?_⟩
  have h2 : KeptBut (w.heap.size + 1 + 1) w2 ((w2.setCell ⟨w.heap.size + 1 + 1, 0, none⟩ (.int .i64 (lo + s))).setCell ⟨w.heap.size + 1 + 1, 1, none⟩ (.int .i64 (hi + t))) := (KeptBut.set _ (a := ⟨w.heap.size + 1 + 1, 0, none⟩) rfl _).then (KeptBut.set _ (a := ⟨w.heap.size + 1 + 1, 1, none⟩) rfl _)
  exact ((KeptBut.of Hk2.out (w.heap.size + 1 + 1)).then h2).kept (by omega)
end Go.Proofs.YtekcenacpklpgaaDoor

set_option maxHeartbeats 1000000
set_option maxRecDepth 10000
namespace Go.Proofs.YtekcenacpklpgaaDoor
open Go Go.RowKit Pl

theorem ends_bnd {cs : List Int} {ls : Nat → List Int} {but : Int} {m : Nat} (hc : ∀ i, -1048576 ≤ cs.getD i 0 ∧ cs.getD i 0 ≤ 1048576) (hl : ∀ i, i < m → 0 < (ls i).length ∧ ∀ x ∈ ls i, -1048576 ≤ x ∧ x ≤ 1048576) :
    ∀ j, j ≤ m → -(1099511627776 * (j : Int)) ≤ lowBut cs ls but j ∧ highBut cs ls but j ≤ 1099511627776 * (j : Int) := by
  intro j
  induction j with
  | zero => intro _; simp [lowBut, highBut]
  | succ j ih =>
    intro hj
    have h1 := ih (by omega)
    have h2 := mn_rng (hc j) (hl j (by omega)).2 (hl j (by omega)).1
    simp only [lowBut, highBut]
    have e : ((j + 1 : Nat) : Int) = (j : Int) + 1 := by omega
    rw [e]
    split <;> omega
theorem ends_all {cs : List Int} {ls : Nat → List Int} {but : Int} {m : Nat} (hc : ∀ i, -1048576 ≤ cs.getD i 0 ∧ cs.getD i 0 ≤ 1048576) (hl : ∀ i, i < m → 0 < (ls i).length ∧ ∀ x ∈ ls i, -1048576 ≤ x ∧ x ≤ 1048576) (h8 : m ≤ 8) {j : Nat} (hj : j ≤ m) :
    (-8796093022208 ≤ lowBut cs ls but j ∧ lowBut cs ls but j ≤ 8796093022208) ∧ (-8796093022208 ≤ highBut cs ls but j ∧ highBut cs ls but j ≤ 8796093022208) := by
  have h1 := ends_bnd (but := but) hc hl j hj
  have h2 := ends_le cs ls but j
  omega
theorem xs_pos {xs : List Int} {L : Nat} (hm : mayB xs L = true) (h : 0 < (listB xs L).length) : 0 < xs.length := by
  have h1 := live_pos hm h
  have h2 := mayB_lt hm
  refine Nat.pos_of_ne_zero fun e => ?_
  rw [e] at h2
  simp at h2
  exact h1 h2

theorem total_any (K R Ct : Int) (A1 A2 A3 : Option Addr) (n1 c1 n2 c2 n3 c3 : Nat) (C : ConB) (B : Option Addr) (m d : Nat) (vs : List Int) (A : Option Addr) (n c : Nat) (ds : List DomB) (w : World) (hC : ConIn w K R Ct A1 A2 A3 n1 c1 n2 c2 n3 c3 C) (hV : Ints w B m vs) (hS : Doms w A n ds) (hT : Tab w) (hm : allMay ds = true)
    (hl : n2 = m) (h8 : m ≤ 8) (hb : ∀ i, -1048576 ≤ C.coefs.getD i 0 ∧ C.coefs.getD i 0 ≤ 1048576) (hv : ∀ i, i < m → 0 ≤ vs.getD i 0 ∧ vs.getD i 0 < n) (h0 : ∀ i, i < m → 0 < (lsV vs ds i).length) :
    Calls Tryd.prog 59 #[.agg #[.int .i64 K, .slice A1 n1 c1, .slice A2 n2 c2, .int .i64 R, .int .i64 Ct, .slice A3 n3 c3], .slice B m d, .slice A n c] w fun e w' => e = .returned (.agg #[.int .i64 (lowBut C.coefs (lsV vs ds) (-1) m), .int .i64 (highBut C.coefs (lsV vs ds) (-1) m)]) ∧ Kept w w' := by
  subst hl
  have HC := Lib.hid hC
  have HV := Lib.hid hV
  have HS := Lib.hid hS
  have HT := Lib.hid hT
  have Hm := Lib.hid hm
  have Hb := Lib.hid hb
  have Hv := Lib.hid hv
  have H0 := Lib.hid h0
  have Hlen := Lib.hid hS.len
  have Hrng : Hid (∀ j, j ≤ n2 → (-8796093022208 ≤ lowBut C.coefs (lsV vs ds) (-1) j ∧ lowBut C.coefs (lsV vs ds) (-1) j ≤ 8796093022208) ∧ (-8796093022208 ≤ highBut C.coefs (lsV vs ds) (-1) j ∧ highBut C.coefs (lsV vs ds) (-1) j ≤ 8796093022208)) := fun j hj =>
    ends_all hb (fun i hi => ⟨h0 i hi, listB_rng _ _⟩) h8 hj
  clear hC hV hS hT hm hb hv h0
  go_enter Tryd.func59, Tryd.ntmps59
  go_wp2_with fail
  have HK0 : Hid (Kept w (((w.alloc (.cells #[.int .i64 K, .slice A1 n1 c1, .slice A2 n2 c2, .int .i64 R, .int .i64 Ct, .slice A3 n3 c3] 24)).alloc (.cells #[.int .i64 0, .int .i64 0] 86)).alloc (.cells #[.int .i64 0, .int .i64 0] 86))) := ((Kept.box _ _).newBlock _).newBlock _
  have HBc : Hid ((((w.alloc (.cells #[.int .i64 K, .slice A1 n1 c1, .slice A2 n2 c2, .int .i64 R, .int .i64 Ct, .slice A3 n3 c3] 24)).alloc (.cells #[.int .i64 0, .int .i64 0] 86)).alloc (.cells #[.int .i64 0, .int .i64 0] 86)).heap[w.heap.size]? = some (.cells #[.int .i64 K, .slice A1 n1 c1, .slice A2 n2 c2, .int .i64 R, .int .i64 Ct, .slice A3 n3 c3] 24)) := (Kept.box _ _).heapAt ((Kept.box _ _).heapAt (heap_new w _))
  have HBr : Hid ((((w.alloc (.cells #[.int .i64 K, .slice A1 n1 c1, .slice A2 n2 c2, .int .i64 R, .int .i64 Ct, .slice A3 n3 c3] 24)).alloc (.cells #[.int .i64 0, .int .i64 0] 86)).alloc (.cells #[.int .i64 0, .int .i64 0] 86)).heap[w.heap.size + 1]? = some (.cells #[.int .i64 0, .int .i64 0] 86 (0, 0))) := (Kept.box _ _).heapAt (heap_new2 w _ _)
  have HBe : Hid ((((w.alloc (.cells #[.int .i64 K, .slice A1 n1 c1, .slice A2 n2 c2, .int .i64 R, .int .i64 Ct, .slice A3 n3 c3] 24)).alloc (.cells #[.int .i64 0, .int .i64 0] 86)).alloc (.cells #[.int .i64 0, .int .i64 0] 86)).heap[w.heap.size + 1 + 1]? = some (.cells #[.int .i64 0, .int .i64 0] 86 (0, 0))) := heap_new3 w _ _ _
  generalize ((w.alloc (.cells #[.int .i64 K, .slice A1 n1 c1, .slice A2 n2 c2, .int .i64 R, .int .i64 Ct, .slice A3 n3 c3] 24)).alloc (.cells #[.int .i64 0, .int .i64 0] 86)).alloc (.cells #[.int .i64 0, .int .i64 0] 86) = W0 at *
  go_loopw [12] (fun u wr => ∃ k : Nat, k ≤ n2 ∧ u = .int .i64 k ∧ Hid (KeptBut (w.heap.size + 1 + 1) W0 wr) ∧ Hid (wr.heap[w.heap.size + 1 + 1]? = some (.cells #[.int .i64 (lowBut C.coefs (lsV vs ds) (-1) k), .int .i64 (highBut C.coefs (lsV vs ds) (-1) k)] 86 (0, 0)))) (fun u _ => n2 - (intOf u).toNat)
  case atStart => exact ⟨0, Nat.zero_le _, rfl, KeptBut.refl _ _, HBe.out⟩
  case round =>
    obtain ⟨k, hk, rfl, Hkw, HE⟩ := hrel
    have HK := Lib.hid (((KeptBut.of HK0.out (w.heap.size + 1 + 1)).then Hkw.out).kept (by omega))
    by_cases hlt : k < n2
    · obtain ⟨av, hav, hbv⟩ := (HV.out.kept HK.out).addr (by omega)
      subst hav
      obtain ⟨v, Hv1, hcv, _, _⟩ := (HV.out.kept HK.out).named k hlt
      obtain ⟨hv0, hv1⟩ := Hv.out k hlt
      rw [Hv1.out] at hv0 hv1
      obtain ⟨p, rfl⟩ := Int.eq_ofNat_of_zero_le hv0
      have hpn : p < n := by omega
      obtain ⟨aq, haq, hbq⟩ := (HC.out.coefs.kept HK.out).addr (by omega)
      subst haq
      obtain ⟨q, Hq1, hcq, _, _⟩ := (HC.out.coefs.kept HK.out).named k hlt
      obtain ⟨al, hal, hbal⟩ := (HS.out.kept HK.out).addr (by omega)
      subst hal
      obtain ⟨xs, L, Bx, mx, cx, Hd, hc1, hc2, HI, hL⟩ := (HS.out.kept HK.out).named p hpn
      have Hls : Hid (lsV vs ds k = listB xs L) := by show _ = _; unfold lsV; rw [Hv1.out, Int.toNat_natCast, Hd.out]
      have hmay : mayB xs L = true := by
        have := allMay_at Hm.out (show p < ds.length by have := Hlen.out; omega)
        have h2 := Hd.out
        unfold nilD at h2
        rw [h2] at this
        exact this
      have hpos : 0 < (listB xs L).length := by have := H0.out k hlt; rwa [Hls.out] at this
      obtain ⟨ax, hax, _⟩ := HI.out.addr (by have := xs_pos hmay hpos; have := HI.out.len; omega)
      subst hax
      have hqr := Hb.out k
      rw [Hq1.out] at hqr
      obtain ⟨hlo, hhi⟩ := Hrng.out k (by omega)
      have Hnl : Hid (lowBut C.coefs (lsV vs ds) (-1) (k + 1) = lowBut C.coefs (lsV vs ds) (-1) k + 1 * mnB q (listB xs L)) := by
        show _ = _
        simp only [lowBut]
        rw [if_neg (by omega), Hq1.out, Hls.out]; omega
      have Hnh : Hid (highBut C.coefs (lsV vs ds) (-1) (k + 1) = highBut C.coefs (lsV vs ds) (-1) k + 1 * mxB q (listB xs L)) := by
        show _ = _
        simp only [highBut]
        rw [if_neg (by omega), Hq1.out, Hls.out]; omega
      have HQ : Hid (∀ W, Kept wr W → Calls Tryd.prog 60 #[.agg #[.int .i64 (lowBut C.coefs (lsV vs ds) (-1) k), .int .i64 (highBut C.coefs (lsV vs ds) (-1) k)], .int .i64 q, .agg #[.slice (some ax) mx cx, .int .u64 L], .int .i64 1] W
          fun e w' => e = .returned (.agg #[.int .i64 (lowBut C.coefs (lsV vs ds) (-1) (k + 1)), .int .i64 (highBut C.coefs (lsV vs ds) (-1) (k + 1))]) ∧ Kept W w') := fun W hW => by
        rw [Hnl.out, Hnh.out]
        exact endsplus_any _ _ q 1 ax mx cx L xs W (HI.out.kept hW) hL (HT.out.kept (HK.out.then hW)) hmay hpos hqr (by omega) (by omega) (.inl rfl)
      have Hlow : Hid (lowBut C.coefs (lsV vs ds) (-1) (k + 1) = lowBut C.coefs (lsV vs ds) (-1) (k + 1)) := rfl
      generalize hlo' : lowBut C.coefs (lsV vs ds) (-1) (k + 1) = lo' at *
      generalize hhi' : highBut C.coefs (lsV vs ds) (-1) (k + 1) = hi' at *
      generalize lowBut C.coefs (lsV vs ds) (-1) k = lo at *
      generalize highBut C.coefs (lsV vs ds) (-1) k = hi at *
      have Hlo' := Lib.hid hlo'
      have Hhi' := Lib.hid hhi'
      have hb2 := cell_at (Hkw.out.heapAt HBc.out (by omega)) 2
      have e0 := cell_at HE.out 0
      have e1 := cell_at HE.out 1
      simp only [List.getElem?_toArray, List.getElem?_cons_zero, List.getElem?_cons_succ] at hb2 e0 e1
      have hlE : w.heap.size + 1 + 1 < wr.heap.size := lt_at HE.out
      have HF : Hid (∀ (W : World), Kept wr W → KeptBut (w.heap.size + 1 + 1) W0 ((W.setCell ⟨w.heap.size + 1 + 1, 0, none⟩ (.int .i64 lo')).setCell ⟨w.heap.size + 1 + 1, 1, none⟩ (.int .i64 hi')) ∧ ((W.setCell ⟨w.heap.size + 1 + 1, 0, none⟩ (.int .i64 lo')).setCell ⟨w.heap.size + 1 + 1, 1, none⟩ (.int .i64 hi')).heap[w.heap.size + 1 + 1]? = some (.cells #[.int .i64 lo', .int .i64 hi'] 86 (0, 0))) := fun W hW =>
        ⟨(Hkw.out.then (KeptBut.of hW _)).then ((KeptBut.set _ (a := ⟨w.heap.size + 1 + 1, 0, none⟩) rfl _).then (KeptBut.set _ (a := ⟨w.heap.size + 1 + 1, 1, none⟩) rfl _)), two_set01 (hW.heapAt HE.out) _ _⟩
      clear hlo' hhi' hlo hhi hqr hpos hmay Hnl Hnh Hlow hL
      go_wp2_with fail
      go_region_with (first
        | (go_at_call 60
           refine (HQ.out _ (Kept.drewn _)).mono ?_
           rintro e W7 ⟨rfl, hk7⟩
           have HK7 := Lib.hid ((Kept.drewn _).then hk7)
           have g0 := cell_at (HK7.out.heapAt HE.out) 0
           have g1 := cell_at (HK7.out.heapAt HE.out) 1
           have f0 := frozen_at (HK7.out.heapAt HE.out) 0
           have f1 := frozen_at (HK7.out.heapAt HE.out) 1
           simp only [List.getElem?_toArray, List.getElem?_cons_zero, List.getElem?_cons_succ] at g0 g1
           clear hk7))
      all_goals go_wp2_with fail
      all_goals (
        go_roundw
        case rel =>
          obtain ⟨h1, h2⟩ := HF.out _ HK7.out
          exact ⟨k + 1, by omega, by go_num, h1, by rw [Hlo'.out, Hhi'.out]; exact h2⟩
        case measure => simp [intOf]; omega)
    · have e : k = n2 := by omega
      subst e
      generalize hlo : lowBut C.coefs (lsV vs ds) (-1) k = lo at *
      generalize hhi : highBut C.coefs (lsV vs ds) (-1) k = hi at *
      have Hlo := Lib.hid hlo
      have Hhi := Lib.hid hhi
      clear hlo hhi
      have HR := Lib.hid (Hkw.out.heapAt HBr.out (by omega))
      have e0 := cell_at HE.out 0
      have e1 := cell_at HE.out 1
      have g0 := cell_at HR.out 0
      have g1 := cell_at HR.out 1
      have f0 := frozen_at HR.out 0
      have f1 := frozen_at HR.out 1
      simp only [List.getElem?_toArray, List.getElem?_cons_zero, List.getElem?_cons_succ] at e0 e1 g0 g1
      have hlE : w.heap.size + 1 + 1 < wr.heap.size := lt_at HE.out
      go_wp2_with fail
      refine bodyPost_ret (v := .agg #[.int .i64 lo, .int .i64 hi]) (by simp [results, Tryd.results59, go_sem, g0, g1]) rfl ?_
      refine ⟨by rw [Hlo.out, Hhi.out], ?_⟩
      have h2 : KeptBut (w.heap.size + 1) wr ((wr.setCell ⟨w.heap.size + 1, 0, none⟩ (.int .i64 lo)).setCell ⟨w.heap.size + 1, 1, none⟩ (.int .i64 hi)) := (KeptBut.set _ (a := ⟨w.heap.size + 1, 0, none⟩) rfl _).then (KeptBut.set _ (a := ⟨w.heap.size + 1, 1, none⟩) rfl _)
      exact ((KeptBut.of HK.out (w.heap.size + 1)).then h2).kept (by omega)

/-- What a sum's question reads. -/
structure SumBox (W : World) (Bc Bi Be Br : Nat) (A2 : Option Addr) (n2 c2 : Nat) (cs : List Int) (Ct i lo hi rel : Int) : Prop where
  c2 : W.cell? ⟨Bc, 2, Option.none⟩ = some (.slice A2 n2 c2)
  c4 : W.cell? ⟨Bc, 4, Option.none⟩ = some (.int .i64 Ct)
  ci : W.cell? ⟨Bi, 0, Option.none⟩ = some (.int .i64 i)
  e0 : W.cell? ⟨Be, 0, Option.none⟩ = some (.int .i64 lo)
  e1 : W.cell? ⟨Be, 1, Option.none⟩ = some (.int .i64 hi)
  r : W.cell? ⟨Br, 0, Option.none⟩ = some (.int .i64 rel)
  ints : Ints W A2 n2 cs

theorem linsum1_any (x : Int) (Bc Bi Be Br : Nat) (A2 : Option Addr) (n2 c2 : Nat) (cs : List Int) (Ct lo hi rel : Int) (i : Nat) (w : World) (hB : SumBox w Bc Bi Be Br A2 n2 c2 cs Ct i lo hi rel) (hi2 : i < n2) (h0 : 0 ≤ rel) (h5 : rel ≤ 5)
    (hx : -1048576 ≤ x ∧ x ≤ 1048576) (hc : -1048576 ≤ cs.getD i 0 ∧ cs.getD i 0 ≤ 1048576) (hlo : -8796093022208 ≤ lo ∧ lo ≤ 8796093022208) (hhi : -8796093022208 ≤ hi ∧ hi ≤ 8796093022208) :
    Calls Tryd.prog 61 #[.int .i64 x, .pointer (some ⟨Bc, 0, Option.none⟩), .pointer (some ⟨Bi, 0, Option.none⟩), .pointer (some ⟨Be, 0, Option.none⟩), .pointer (some ⟨Br, 0, Option.none⟩)] w
      fun e w' => e = .returned (.bool (mayL (lo + cs.getD i 0 * x) (hi + cs.getD i 0 * x) rel Ct)) ∧ Kept w w' := by
  obtain ⟨b2, b4, bi, be0, be1, br, hI⟩ := hB
  obtain ⟨aq, haq, hbq⟩ := hI.addr (by omega)
  subst haq
  obtain ⟨q, Hq1, hcq, _, _⟩ := hI.named i hi2
  rw [Hq1.out] at hc ⊢
  have hm := mul_small hc hx
  obtain ⟨p, hp⟩ : ∃ p, p = q * x := ⟨_, rfl⟩
  rw [← hp] at hm ⊢
  have hmw : IntKind.i64.wrap (q * x) = p := by rw [← hp]; exact IntWalk.i64_in _ (by omega)
  obtain ⟨h1, h2⟩ := hm
  obtain ⟨h3, h4⟩ := hlo
  obtain ⟨h6, h7⟩ := hhi
  have hi0 : (0 : Int) ≤ (i : Int) := by omega
  have hi3 : (i : Int) < (n2 : Int) := by omega
  have HQ : Hid (∀ W, Calls Tryd.prog 62 #[.agg #[.int .i64 (lo + p), .int .i64 (hi + p)], .int .i64 rel, .int .i64 Ct] W fun e w' => e = .returned (.bool (mayL (lo + p) (hi + p) rel Ct)) ∧ Kept W w') := fun W => endsmay_any _ _ _ _ W h0 h5
  have lb2 := World.block_lt_of_cell? w _ b2
  have lbi := World.block_lt_of_cell? w _ bi
  have lbe := World.block_lt_of_cell? w _ be0
  have lbr := World.block_lt_of_cell? w _ br
  clear hI hp hc hx
  go_enter Tryd.func61, Tryd.ntmps61
  go_wp2_with (go_at_call 62; refine (HQ.out _).mono ?_; rintro e w' ⟨rfl, hk⟩; have Hk := Lib.hid hk; clear hk)
  go_ret
  exact ⟨rfl, Hk.out⟩
end Go.Proofs.YtekcenacpklpgaaDoor

set_option maxHeartbeats 1000000
set_option maxRecDepth 10000
namespace Go.Proofs.YtekcenacpklpgaaDoor
open Go Go.RowKit Pl

theorem LL.row {w : World} {a : Addr} {n : Nat} {ls : List (List Int)} (h : LL w (some a) n ls) (hn : 0 < n) :
    ∃ vs : List Value, vs.length = n * 1 ∧ (∀ j u, vs[j]? = some u → w.cell? (a.add j) = some u) ∧ (∀ u ∈ vs, u.oneCell' = true) ∧
      ∀ j, j < n → ∃ B m c, vs[j]? = some (.slice B m c) ∧ Ints w B m (ls.getD j []) := by
  obtain ⟨b, e, hc⟩ := h.cell hn
  cases e
  refine ⟨(List.range n).map fun i => (w.cell? (a.add i)).getD undef, by simp, ?_, ?_, ?_⟩
  · intro j u hu
    rw [List.getElem?_map] at hu
    by_cases hj : j < n
    · rw [List.getElem?_range hj] at hu
      simp only [Option.map_some, Option.some.injEq] at hu
      obtain ⟨B, m, c, h1, _⟩ := hc j hj
      rw [h1] at hu ⊢; simpa using hu
    · rw [List.getElem?_eq_none (by simp; omega)] at hu
      simp at hu
  · intro u hu
    rw [List.mem_map] at hu
    obtain ⟨j, hj, rfl⟩ := hu
    obtain ⟨B, m, c, h1, _⟩ := hc j (List.mem_range.1 hj)
    rw [h1]; rfl
  · intro j hj
    obtain ⟨B, m, c, h1, h3⟩ := hc j hj
    exact ⟨B, m, c, by rw [List.getElem?_map, List.getElem?_range hj]; simp [h1], h3⟩

theorem any_snoc (f : Int → Bool) (l : List Int) (v : Int) : (l ++ [v]).any f = (l.any f || f v) := by rw [List.any_append]; simp

theorem keptBut_grown {B : Nat} {w0 w w2 : World} (h : KeptBut B w0 w) (o : Obj) {r : Option Nat} (hg : (w.alloc o).grownBy w2 r) (hr : ∀ i, r = some i → i = B ∨ w0.heap.size ≤ i) : KeptBut B w0 w2 := by
  have h1 := h.then (KeptBut.of (Kept.box w o) B)
  exact ⟨hg.os.trans h1.os, hg.tape.trans h1.tape, hg.output.trans h1.output, Nat.le_trans h1.size hg.size, fun k hk hB =>
    (hg.block k (Nat.lt_of_lt_of_le hk h1.size) (fun e => by rcases hr k e.symm with h | h <;> omega)).trans (h1.block k hk hB)⟩

end Go.Proofs.YtekcenacpklpgaaDoor

set_option maxHeartbeats 2000000
set_option maxRecDepth 10000
namespace Go.Proofs.YtekcenacpklpgaaDoor
open Go Go.RowKit Pl

theorem rmay_any12 (lo hi rel c : Int) (w : World) (h0 : 0 ≤ rel) (h5 : rel ≤ 5) :
    Calls Tryd.prog 40 #[.int .i64 lo, .int .i64 hi, .int .i64 rel, .int .i64 c] w fun e w' => e = .returned (.bool (mayL lo hi rel c)) ∧ w = w' := by
  have hr : rel = 0 ∨ rel = 1 ∨ rel = 2 ∨ rel = 3 ∨ rel = 4 ∨ rel = 5 := by omega
  rcases hr with rfl | rfl | rfl | rfl | rfl | rfl
  · by_cases g1 : lo ≤ c
    · have hd : decide (lo ≤ c) = true := by simp [g1]
      go_enter Tryd.func40, Tryd.ntmps40
      go_wp2_with fail
      go_ret
      exact ⟨ret_bool (by unfold mayL; simp [g1]), rfl⟩
    · have hd : decide (lo ≤ c) = false := by simp; omega
      go_enter Tryd.func40, Tryd.ntmps40
      go_wp2_with fail
      go_ret
      exact ⟨ret_bool (by unfold mayL; simp; omega), rfl⟩
  · by_cases g1 : lo = c
    · have hd : (lo != c) = false := by simp [g1]
      have H1 := Lib.hid g1
      clear g1
      go_enter Tryd.func40, Tryd.ntmps40
      go_wp2_with fail
      go_ret
      exact ⟨ret_bool (by unfold mayL; rw [H1.out, Bool.eq_iff_iff]; simp), rfl⟩
    · have hd : (lo != c) = true := by simp [g1]
      go_enter Tryd.func40, Tryd.ntmps40
      go_wp2_with fail
      go_ret
      exact ⟨ret_bool (by unfold mayL; simp [g1]), rfl⟩
  all_goals
    go_enter Tryd.func40, Tryd.ntmps40
    go_wp2_with fail
    go_ret
    exact ⟨ret_bool (by unfold mayL; simp), rfl⟩

theorem rcontrary_any (rel : Int) (w : World) (h0 : 0 ≤ rel) (h5 : rel ≤ 5) : Calls Tryd.prog 38 #[.int .i64 rel] w fun e w' => e = .returned (.int .i64 (contraB rel)) ∧ Kept w w' := by
  have hr : rel = 0 ∨ rel = 1 ∨ rel = 2 ∨ rel = 3 ∨ rel = 4 ∨ rel = 5 := by omega
  rcases hr with rfl | rfl | rfl | rfl | rfl | rfl
  all_goals
    go_enter Tryd.func38, Tryd.ntmps38
    go_wp2_with fail
    go_ret
    exact ⟨ret_i64 (by decide), Kept.box _ _⟩

theorem rlhas_any (A : Option Addr) (n c : Nat) (l : List Int) (v : Int) (w : World) (hS : Ints w A n l) :
    Calls Tryd.prog 36 #[.slice A n c, .int .i64 v] w fun e w' => e = .returned (.bool (l.contains v)) ∧ w = w' := by
  have HS := Lib.hid hS
  have Hlen := Lib.hid hS.len
  have hsm := hS.small
  clear hS
  go_enter Tryd.func36, Tryd.ntmps36
  go_wp2_with fail
  go_loop [5] (fun u => ∃ k : Nat, k ≤ n ∧ u = .int .i64 k ∧ Hid ((l.take k).contains v = false)) (fun u => n - (intOf u).toNat)
  case atStart => exact ⟨0, Nat.zero_le _, rfl, rfl⟩
  case round =>
    obtain ⟨k, hk, rfl, Hno⟩ := hrel
    by_cases hlt : k < n
    · obtain ⟨a, rfl, hblk⟩ := HS.out.addr (by omega)
      obtain ⟨x, Hx, hcx, _, _⟩ := HS.out.named k hlt
      have hkl : k < l.length := by have := Hlen.out; omega
      by_cases g : x = v
      · have hd : (x == v) = true := by simp [g]
        have Hres : Hid (l.contains v = true) := by
          show _ = _
          rw [List.contains_iff_mem, ← g, ← Hx.out, List.getD_eq_getElem?_getD, List.getElem?_eq_getElem hkl]
          exact List.getElem_mem _
        clear g
        go_wp2_with fail
        go_ret
        exact ⟨ret_bool (by have h := Hres.out; rw [List.contains_eq_mem] at h; exact h.symm), rfl⟩
      · have hd : (x == v) = false := by simp [g]
        have Hnx : Hid ((l.take (k + 1)).contains v = false) := by
          show _ = _
          rw [take_one hkl Hx.out, Bool.eq_false_iff]
          intro h
          rw [List.contains_iff_mem, List.mem_append, List.mem_singleton] at h
          rcases h with h | h
          · have h2 := Hno.out
            rw [List.contains_iff_mem.2 h] at h2
            cases h2
          · exact g h.symm
        clear g
        go_wp2_with fail
        go_round
        case rel => exact ⟨k + 1, by omega, by go_num, Hnx.out⟩
        case measure => simp [intOf]; omega
    · have e : k = n := by omega
      have Hres : Hid (l.contains v = false) := by
        have h := Hno.out
        rwa [List.take_of_length_le (by have := Hlen.out; omega)] at h
      clear e
      go_wp2_with fail
      go_ret
      exact ⟨ret_bool (by have h := Hres.out; rw [List.contains_eq_mem] at h; exact h.symm), rfl⟩

theorem rends_any (B : Option Addr) (m d : Nat) (vs : List Int) (Q : Option Addr) (dq : Nat) (cs : List Int) (A : Option Addr) (n c : Nat) (ls : List (List Int)) (but : Int) (w : World) (hV : Ints w B m vs) (hQ : Ints w Q m cs) (hL : LL w A n ls)
    (h8 : m ≤ 8) (hb : ∀ i, -1048576 ≤ cs.getD i 0 ∧ cs.getD i 0 ≤ 1048576) (hv : ∀ i, i < m → 0 ≤ vs.getD i 0 ∧ vs.getD i 0 < n) (h0 : ∀ i, i < m → 0 < (lsAt vs ls i).length ∧ ∀ x ∈ lsAt vs ls i, -1048576 ≤ x ∧ x ≤ 1048576) :
    Calls Tryd.prog 39 #[.slice B m d, .slice Q m dq, .slice A n c, .int .i64 but] w
      fun e w' => e = .returned (.tuple #[.int .i64 (lowBut cs (lsAt vs ls) but m), .int .i64 (highBut cs (lsAt vs ls) but m)]) ∧ Kept w w' := by
  have HV := Lib.hid hV
  have HQ := Lib.hid hQ
  have HL := Lib.hid hL
  have Hb := Lib.hid hb
  have Hv := Lib.hid hv
  have H0 := Lib.hid h0
  have Hrng : Hid (∀ j, j ≤ m → (-8796093022208 ≤ lowBut cs (lsAt vs ls) but j ∧ lowBut cs (lsAt vs ls) but j ≤ 8796093022208) ∧ (-8796093022208 ≤ highBut cs (lsAt vs ls) but j ∧ highBut cs (lsAt vs ls) but j ≤ 8796093022208)) := fun j hj => ends_all hb h0 h8 hj
  clear hV hQ hL hb hv h0
  go_enter Tryd.func39, Tryd.ntmps39
  go_wp2_with fail
  go_loopw [10, 11, 12] (fun u u' v wr => ∃ k : Nat, k ≤ m ∧ v = .int .i64 k ∧ u = .int .i64 (lowBut cs (lsAt vs ls) but k) ∧ u' = .int .i64 (highBut cs (lsAt vs ls) but k) ∧ Hid (Kept w wr)) (fun _ _ v _ => m - (intOf v).toNat)
  case atStart => exact ⟨0, Nat.zero_le _, rfl, rfl, rfl, Kept.same _⟩
  case round =>
    obtain ⟨k, hk, rfl, rfl, rfl, Hkw⟩ := hrel
    obtain ⟨wv, hwv⟩ : ∃ wv : World, wv = wr := ⟨_, rfl⟩
    subst hwv
    obtain ⟨hlo, hhi⟩ := Hrng.out k hk
    by_cases hlt : k < m
    · by_cases hbut : (k : Int) = but
      · have hd : ((k : Int) == but) = true := by simp [hbut]
        have Hl : Hid (lowBut cs (lsAt vs ls) but (k + 1) = lowBut cs (lsAt vs ls) but k) := by show _ = _; simp only [lowBut]; rw [if_pos hbut]; omega
        have Hh : Hid (highBut cs (lsAt vs ls) but (k + 1) = highBut cs (lsAt vs ls) but k) := by show _ = _; simp only [highBut]; rw [if_pos hbut]; omega
        clear hbut
        go_wp2_with fail
        go_roundw
        case rel => exact ⟨k + 1, by omega, by go_num, by rw [Hl.out], by rw [Hh.out], Hkw.out⟩
        case measure => simp [intOf]; omega
      · have hd : ((k : Int) == but) = false := by simp [hbut]
        obtain ⟨av, hav, hbv⟩ := (HV.out.kept Hkw.out).addr (by omega)
        subst hav
        obtain ⟨v, Hv1, hcv, _, _⟩ := (HV.out.kept Hkw.out).named k hlt
        obtain ⟨hv0, hv1⟩ := Hv.out k hlt
        rw [Hv1.out] at hv0 hv1
        obtain ⟨p, rfl⟩ := Int.eq_ofNat_of_zero_le hv0
        have hpn : p < n := by omega
        obtain ⟨aq, haq, hbq⟩ := (HQ.out.kept Hkw.out).addr (by omega)
        subst haq
        obtain ⟨q, Hq1, hcq, _, _⟩ := (HQ.out.kept Hkw.out).named k hlt
        obtain ⟨al, l, Bl, ml, clp, hal, hbal, Hl, hclp, HIl⟩ := (HL.out.kept Hkw.out).named p hpn
        subst hal
        have Hlm := Lib.hid HIl.out.len
        have hms := HIl.out.small
        have HlsA : Hid (lsAt vs ls k = l) := by show _ = _; unfold lsAt; rw [Hv1.out, Int.toNat_natCast, Hl.out]
        obtain ⟨hpos, hlr⟩ := H0.out k hlt
        rw [HlsA.out] at hpos hlr
        have hml : 0 < ml := by have := Hlm.out; omega
        obtain ⟨a2, ha2, hba2⟩ := HIl.out.addr hml
        subst ha2
        obtain ⟨x, Hx, hcx, _, _⟩ := HIl.out.named 0 hml
        obtain ⟨y, Hy, hcy, _, _⟩ := HIl.out.named (ml - 1) (by omega)
        rw [Addr.add_zero'] at hcx
        have hq := Hb.out k
        rw [Hq1.out] at hq
        obtain ⟨m1, m2⟩ := head_mem hpos
        have hxr := hlr _ m1
        have hyr := hlr _ m2
        rw [Hx.out] at hxr
        rw [Hlm.out, Hy.out] at hyr
        have hp1 := mul_small hq hxr
        have hp2 := mul_small hq hyr
        have Hnl : Hid (lowBut cs (lsAt vs ls) but (k + 1) = lowBut cs (lsAt vs ls) but k + min (q * x) (q * y)) := by
          show _ = _
          simp only [lowBut]
          rw [if_neg hbut, Hq1.out, HlsA.out]
          unfold mnB
          rw [Hlm.out, Hx.out, Hy.out]
        have Hnh : Hid (highBut cs (lsAt vs ls) but (k + 1) = highBut cs (lsAt vs ls) but k + max (q * x) (q * y)) := by
          show _ = _
          simp only [highBut]
          rw [if_neg hbut, Hq1.out, HlsA.out]
          unfold mxB
          rw [Hlm.out, Hx.out, Hy.out]
        obtain ⟨s, hs⟩ : ∃ s, s = q * x := ⟨_, rfl⟩
        obtain ⟨t, ht⟩ : ∃ t, t = q * y := ⟨_, rfl⟩
        rw [← hs] at hp1 Hnl Hnh
        rw [← ht] at hp2 Hnl Hnh
        have hsw : IntKind.i64.wrap (q * x) = s := by rw [← hs]; exact IntWalk.i64_in _ (by omega)
        have htw : IntKind.i64.wrap (q * y) = t := by rw [← ht]; exact IntWalk.i64_in _ (by omega)
        generalize lowBut cs (lsAt vs ls) but k = lo at *
        generalize highBut cs (lsAt vs ls) but k = hi at *
        have hsub : IntKind.i64.wrap ((ml : Int) - 1) = ((ml - 1 : Nat) : Int) := by rw [IntWalk.i64_in _ (by omega)]; omega
        have hk0 : (0 : Int) ≤ (k : Int) := by omega
        have hkm : (k : Int) < (m : Int) := by omega
        have hm0 : (0 : Int) < (ml : Int) := by omega
        have hi0 : (0 : Int) ≤ ((ml - 1 : Nat) : Int) := by omega
        have hi1 : ((ml - 1 : Nat) : Int) < (ml : Int) := by omega
        have Hcq := Lib.hid hcq
        have Hcx := Lib.hid hcx
        have Hcy := Lib.hid hcy
        obtain ⟨hp1a, hp1b⟩ := hp1
        obtain ⟨hp2a, hp2b⟩ := hp2
        obtain ⟨hloa, hlob⟩ := hlo
        obtain ⟨hhia, hhib⟩ := hhi
        clear hs ht hq hxr hyr m1 m2 hpos hlr hbut
        go_wp2_with fail
        refine wp_region_quiet_below (by kernel_rfl) (by kernel_rfl) ?_
        repeat (any_goals (first | go_big_quiet_step ((fail)) | quiet_step ((fail)) | (refine wpQuiet_step (fun K hK => ?_); go_simp; split <;> (refine hK _ ?_; clear hK K))))
        all_goals (refine wpQuiet_nil ?_; intro w1 hw'; replace hw' := Kept.regrown hw')
        all_goals try (exfalso; omega)
        have HK1 : Hid (Kept wv w1) := hw'
        obtain ⟨wx, hwx⟩ : ∃ wx : World, wx = w1 := ⟨_, rfl⟩
        subst hwx
        clear hw' hcq hcx hcy hcv hclp
        have hcq := HK1.out.cellAt Hcq.out
        have hcy := HK1.out.cellAt Hcy.out
        have hbq2 : aq.block < wx.heap.size := by have := HK1.out.size; omega
        have hba22 : a2.block < wx.heap.size := by have := HK1.out.size; omega
        go_wp2_with fail
        refine wp_region_quiet_below (by kernel_rfl) (by kernel_rfl) ?_
        repeat (any_goals (first | go_big_quiet_step ((fail)) | quiet_step ((fail)) | (refine wpQuiet_step (fun K hK => ?_); go_simp; split <;> (refine hK _ ?_; clear hK K))))
        all_goals (refine wpQuiet_nil ?_; intro w1 hw'; replace hw' := Kept.regrown hw')
        all_goals try (exfalso; omega)
        have HK2 := Lib.hid ((Hkw.out.then HK1.out).then hw')
        clear hw' hcq hcy
        by_cases hgt : t < s
        · have hdg : decide (t < s) = true := by simp [hgt]
          have Hnl2 : Hid (lowBut cs (lsAt vs ls) but (k + 1) = lo + t) := by show _ = _; rw [Hnl.out]; omega
          have Hnh2 : Hid (highBut cs (lsAt vs ls) but (k + 1) = hi + s) := by show _ = _; rw [Hnh.out]; omega
          go_wp2_with fail
          go_roundw
          case rel => first | exact ⟨k + 1, by omega, by go_num, by rw [Hnl2.out], by rw [Hnh2.out], HK2.out⟩ | ((repeat apply Exists.intro); exact ⟨⟨k + 1, by omega, by go_num, by rw [Hnl2.out], by rw [Hnh2.out], HK2.out⟩, rfl⟩)
          case measure => simp [intOf]; omega
        · have hdg : decide (t < s) = false := by simp; omega
          have Hnl2 : Hid (lowBut cs (lsAt vs ls) but (k + 1) = lo + s) := by show _ = _; rw [Hnl.out]; omega
          have Hnh2 : Hid (highBut cs (lsAt vs ls) but (k + 1) = hi + t) := by show _ = _; rw [Hnh.out]; omega
          go_wp2_with fail
          go_roundw
          case rel => first | exact ⟨k + 1, by omega, by go_num, by rw [Hnl2.out], by rw [Hnh2.out], HK2.out⟩ | ((repeat apply Exists.intro); exact ⟨⟨k + 1, by omega, by go_num, by rw [Hnl2.out], by rw [Hnh2.out], HK2.out⟩, rfl⟩)
          case measure => simp [intOf]; omega
    · have e : k = m := by omega
      subst e
      generalize hl9 : lowBut cs (lsAt vs ls) but k = lo at *
      generalize hh9 : highBut cs (lsAt vs ls) but k = hi at *
      have Hl9 := Lib.hid hl9
      have Hh9 := Lib.hid hh9
      clear hl9 hh9
      go_wp2_with fail
      go_ret2
      exact ⟨by rw [Hl9.out, Hh9.out]; rfl, Hkw.out⟩
end Go.Proofs.YtekcenacpklpgaaDoor

set_option maxHeartbeats 1000000
set_option maxRecDepth 10000
namespace Go.Proofs.YtekcenacpklpgaaDoor
open Go Go.RowKit Pl

/-- Lists are handed back, in a slice that the call owns. -/
def OwnLPost (n : Nat) (ls : List (List Int)) (w : World) (e : Ending) (w' : World) : Prop :=
  ∃ g c, e = .returned (.slice (some ⟨g, 0, Option.none⟩) n c) ∧ OwnL w' w.heap.size (.slice (some ⟨g, 0, Option.none⟩) n c) ls ∧ w.heap.size ≤ g ∧ g < w'.heap.size ∧ Kept w w'

theorem own_lower {w : World} {base base' : Nat} {e : TypeId} {size n : Nat} {v : Value} {xs : List Value} (h : w.ownsRow base e size v n xs) (hb : base' ≤ base) : w.ownsRow base' e size v n xs :=
  ⟨h.1, h.2.imp id (fun ⟨g, cap, cur, hv, hb2, r⟩ => ⟨g, cap, cur, hv, Nat.le_trans hb hb2, r⟩)⟩

theorem rnone_any (K R Ct : Int) (A1 A2 A3 : Option Addr) (n1 c1 n2 c2 n3 c3 : Nat) (C : ConB) (A : Option Addr) (n c : Nat) (ls : List (List Int)) (w : World) (hC : ConIn w K R Ct A1 A2 A3 n1 c1 n2 c2 n3 c3 C) (hL : LL w A n ls) (hv : varsOk C.vars n = true) (h0 : 0 < n) (hn : n ≤ 1000) :
    Calls Tryd.prog 37 #[.agg #[.int .i64 K, .slice A1 n1 c1, .slice A2 n2 c2, .int .i64 R, .int .i64 Ct, .slice A3 n3 c3], .slice A n c] w (OwnLPost n (noneU C.vars ls n1) w) := by
  obtain ⟨i0, hi, hz0, hz1, hz2⟩ := info_parts info_ints
  have HC := Lib.hid hC
  have HL := Lib.hid hL
  have Hv := Lib.hid hv
  have Hlen := Lib.hid hL.len
  have Hl1 := Lib.hid hC.vars.len
  have hs1 := hC.vars.small
  obtain ⟨a, _, _, _, _, rfl, hba, _, _, _⟩ := hL.named 0 h0
  obtain ⟨vs, hvl, hvc, hvo, hvd⟩ := hL.row h0
  have Hvd := Lib.hid hvd
  have Hvc := Lib.hid hvc
  clear hC hL hv hvd hvc
  have HR0 : Hid (((w.alloc (.cells #[.int .i64 K, .slice A1 n1 c1, .slice A2 n2 c2, .int .i64 R, .int .i64 Ct, .slice A3 n3 c3] 24)).alloc (.cells #[] 22)).ownsRow (w.heap.size + 1) 22 1 (.slice (some ⟨w.heap.size + 1, 0, Option.none⟩) 0 0) 0 []) := own_empty (heap_new2 _ _ _) (Nat.le_refl _)
  have HB : Hid (∀ wr, Kept (w.alloc (.cells #[.int .i64 K, .slice A1 n1 c1, .slice A2 n2 c2, .int .i64 R, .int .i64 Ct, .slice A3 n3 c3] 24)) wr → wr.heap[w.heap.size]? = some (.cells #[.int .i64 K, .slice A1 n1 c1, .slice A2 n2 c2, .int .i64 R, .int .i64 Ct, .slice A3 n3 c3] 24)) := fun wr h => h.heapAt (heap_new _ _)
  go_enter Tryd.func37, Tryd.ntmps37
  go_wp2_with (at_builtin; refine wpList_append_own _ rfl _ _ 60 rfl (w.heap.size + 1) 22 i0 (.slice Option.none 0 0) 1 24 Tryd.underlying60 hi hz0 hz1 hz2 rfl (by decide) _ _ _ rfl HR0.out a n c vs rfl hvl (fun j u hu => ((Kept.box w _).newBlock _).cellAt (Hvc.out j u hu)) hvo (by unfold maxLen; omega) (by omega) (by simp) ?_; intro v' w2 hown' hgrow _; rw [Nat.zero_add, List.nil_append] at hown'; obtain ⟨g, cap, rfl, hgb, hgl⟩ := hown'.form h0)
  have HK : Hid (Kept (w.alloc (.cells #[.int .i64 K, .slice A1 n1 c1, .slice A2 n2 c2, .int .i64 R, .int .i64 Ct, .slice A3 n3 c3] 24)) w2) := (Kept.box _ (.cells #[] 22)).grown hgrow (by simp) (fun i hi => by simp [Act.eval, Value.ownBlock] at hi; simp; omega)
  have HKw := Lib.hid ((Kept.box w _).then HK.out)
  have HO : Hid (OwnL w2 w.heap.size (.slice (some ⟨g, 0, Option.none⟩) n cap) ls) := by
    refine ⟨vs, by rw [Hlen.out]; exact own_lower hown' (Nat.le_succ _), fun j hj => ?_⟩
    rw [Hlen.out] at hj
    obtain ⟨B', m', c', e1, e3⟩ := Hvd.out j hj
    refine ⟨B', m', c', e1, e3.kept HKw.out, fun hm a' ha' e => ?_⟩
    subst ha'
    have := e3.block hm
    simp only [Value.ownBlock, Option.some.injEq] at e
    omega
  clear hown' hgrow hvo hvl
  go_wp2_with fail
  go_loopw [6] (fun u wr => ∃ j : Nat, j ≤ n1 ∧ u = .int .i64 j ∧ Hid (OwnL wr w.heap.size (.slice (some ⟨g, 0, Option.none⟩) n cap) (noneU C.vars ls j)) ∧ Hid (KeptBut g w2 wr)) (fun u _ => n1 - (intOf u).toNat)
  case atStart => exact ⟨0, Nat.zero_le _, rfl, HO.out, KeptBut.refl _ _⟩
  case round =>
    obtain ⟨j, hj, rfl, HOr, Hkr⟩ := hrel
    have HKb : Hid (Kept (w.alloc (.cells #[.int .i64 K, .slice A1 n1 c1, .slice A2 n2 c2, .int .i64 R, .int .i64 Ct, .slice A3 n3 c3] 24)) wr) := ((KeptBut.of HK.out g).then Hkr.out).kept (by simp; omega)
    have HKq := Lib.hid ((Kept.box w _).then HKb.out)
    have hb := HB.out wr HKb.out
    have b0 := cell_at hb 0
    have b1 := cell_at hb 1
    have b2 := cell_at hb 2
    have b3 := cell_at hb 3
    have b4 := cell_at hb 4
    have b5 := cell_at hb 5
    simp only [List.getElem?_toArray, List.getElem?_cons_zero, List.getElem?_cons_succ] at b0 b1 b2 b3 b4 b5
    clear hb
    have hlb : w.heap.size < wr.heap.size := World.block_lt_of_cell? wr _ b0
    have hgr : g < wr.heap.size := by have := Hkr.out.size; omega
    by_cases hlt : j < n1
    · obtain ⟨av, hav, hbv⟩ := (HC.out.vars.kept HKq.out).addr (by omega)
      subst hav
      obtain ⟨v, Hv1, hcv, _, _⟩ := (HC.out.vars.kept HKq.out).named j hlt
      obtain ⟨hv0, hv1⟩ := varsOk_rng Hv.out (i := j) (by have := Hl1.out; omega)
      rw [Hv1.out] at hv0 hv1
      obtain ⟨p, rfl⟩ := Int.eq_ofNat_of_zero_le hv0
      have hpn : p < n := by omega
      have Hln : Hid ((noneU C.vars ls j).length = n) := by show _ = _; rw [noneU_length]; exact Hlen.out
      obtain ⟨⟨vv, hcc⟩, hfz⟩ := HOr.out.at Hln.out p hpn
      have hset := HOr.out.set Hln.out hpn (B := Option.none) (m := 0) (c := 0) (l := []) (Ints.none _) (fun h => absurd h (Nat.lt_irrefl _))
      have Hnx : Hid (noneU C.vars ls (j + 1) = (noneU C.vars ls j).set p []) := by show _ = _; simp only [noneU]; rw [Hv1.out, Int.toNat_natCast]
      have HOn : Hid (OwnL (wr.setCell ⟨g, p, Option.none⟩ (.slice Option.none 0 0)) w.heap.size (.slice (some ⟨g, 0, Option.none⟩) n cap) (noneU C.vars ls (j + 1))) := by
        show OwnL _ _ _ _
        rw [Hnx.out]; exact hset
      clear hset
      go_wp2_with fail
      go_roundw
      case rel => exact ⟨j + 1, by omega, by go_num, HOn.out, Hkr.out.then (KeptBut.set _ (a := ⟨g, p, Option.none⟩) rfl _)⟩
      case measure => simp [intOf]; omega
    · have e : j = n1 := by omega
      subst e
      go_wp2_with fail
      go_ret
      exact ⟨g, cap, rfl, HOr.out, by omega, hgr, HKq.out⟩
end Go.Proofs.YtekcenacpklpgaaDoor

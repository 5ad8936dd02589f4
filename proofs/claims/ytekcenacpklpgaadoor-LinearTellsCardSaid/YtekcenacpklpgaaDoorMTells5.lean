/-
  Contracts and plain laws that the card rests on, part 5.
-/
import Derived.Test.YtekcenacpklpgaaDoorMTells3
import Derived.Deep.RegionHeld3
import Derived.Test.YtekcenacpklpgaaDoorMTells4
import Derived.Test.YtekcenacpklpgaaDoorMTells2
import Derived.Test.YtekcenacpklpgaaDoorMTells1
set_option maxHeartbeats 1000000
set_option maxRecDepth 10000
namespace Go.Proofs.YtekcenacpklpgaaDoor
open Go Go.RowKit Pl

theorem rall_any (A : Option Addr) (n c : Nat) (l : List Int) (m : Int) (w : World) (hS : Ints w A n l) (hm : 0 ≤ m ∧ m ≤ 4611686018427387904) :
    Calls Tryd.prog 68 #[.slice A n c, .int .i64 m] w fun e w' => e = .returned (.bool (withinB l m)) ∧ w = w' := by
  have HS := Lib.hid hS
  have hsm := hS.small
  have Hlen := Lib.hid hS.len
  clear hS
  have hneg : IntKind.i64.wrap (-m) = -m := by unfold IntKind.wrap; simp [IntKind.signed, IntKind.bits]; omega
  go_enter Tryd.func68, Tryd.ntmps68
  go_wp2_with fail
  go_loop [5] (fun v => ∃ k : Nat, k ≤ n ∧ v = .int .i64 k ∧ Hid (withinB (l.take k) m = true)) (fun v => n - (intOf v).toNat)
  case atStart => exact ⟨0, Nat.zero_le _, rfl, rfl⟩
  case round =>
    obtain ⟨k, hk, rfl, Hok⟩ := hrel
    by_cases hlt : k < n
    · obtain ⟨a, rfl, hblk⟩ := HS.out.addr (by omega)
      obtain ⟨x, Hx, hcx, hx1, hx2⟩ := HS.out.named k hlt
      have Hnext : Hid (withinB (l.take (k + 1)) m = (decide (-m ≤ x) && decide (x ≤ m))) := within_take (by have := Hlen.out; omega) Hx.out Hok.out
      by_cases g1 : x < -m
      · have hd : decide (x < -m) = true := by simp [g1]
        go_wp2_with fail
        go_ret
        exact ⟨ret_bool (by rw [within_bad (k := k + 1) (by rw [Hnext.out]; simp; omega)]), rfl⟩
      have hd : decide (x < -m) = false := by simp; omega
      by_cases g2 : m < x
      · have hd2 : decide (m < x) = true := by simp [g2]
        go_wp2_with fail
        go_ret
        exact ⟨ret_bool (by rw [within_bad (k := k + 1) (by rw [Hnext.out]; simp; omega)]), rfl⟩
      have hd2 : decide (m < x) = false := by simp; omega
      go_wp2_with fail
      go_round
      case rel => exact ⟨k + 1, by omega, by go_num, by show _ = _; rw [Hnext.out]; simp; omega⟩
      case measure => simp [intOf]; omega
    · have e : k = n := by omega
      subst e
      have h2 : withinB l m = true := by have := Hok.out; rwa [List.take_of_length_le (by have := Hlen.out; omega)] at this
      go_wp2_with fail
      go_ret
      exact ⟨ret_bool (by first | rfl | rw [h2]), rfl⟩

/-- May a sum be? (but: how many variables have no coefficient) -/
def sumR (C : ConB) (but : Int) : Bool :=
  !C.coefs.contains 0 && decide (1 ≤ (C.vars.length : Int) - but) && decide ((C.vars.length : Int) - but ≤ 8) && decide ((C.coefs.length : Int) = (C.vars.length : Int) - but) && withinB C.coefs 1048576 && decide (0 ≤ C.rel) && decide (C.rel ≤ 5) && withinB [C.const] 1099511627776 && decide (C.nums.length = 0)
/-- May what is no sum be? -/
def plainR (C : ConB) : Bool :=
  decide (C.coefs.length = 0) && decide (C.rel = 0) && decide (C.const = 0) && withinB C.nums 1048576 && decide ((C.nums.length : Int) ≤ 96) &&
    (if C.kind = 2 then decide (C.vars.length = 3) && decide (C.nums.length = 0)
     else if C.kind = 4 then decide (C.vars.length = 2) && decide (1 ≤ C.nums.length)
     else if C.kind = 5 then decide (2 ≤ C.vars.length) && decide (C.vars.length ≤ 8) && decide (C.nums.length = 0)
     else if C.kind = 6 then decide (1 ≤ C.vars.length) && decide (C.vars.length ≤ 8) && decide ((C.nums.length : Int) % C.vars.length = 0)
     else false)
/-- May a constraint be? -/
def rightB (C : ConB) (V : Int) : Bool := varsOk C.vars V && (if C.kind = 1 then sumR C 0 else if C.kind = 3 then sumR C 1 else plainR C)

theorem rright_any (K R Ct : Int) (A1 A2 A3 : Option Addr) (n1 c1 n2 c2 n3 c3 : Nat) (C : ConB) (V : Int) (w : World) (hC : ConIn w K R Ct A1 A2 A3 n1 c1 n2 c2 n3 c3 C) :
    Calls Tryd.prog 43 #[.agg #[.int .i64 K, .slice A1 n1 c1, .slice A2 n2 c2, .int .i64 R, .int .i64 Ct, .slice A3 n3 c3], .int .i64 V] w fun e w' => e = .returned (.bool (rightB C V)) ∧ Kept w w' := by
  have HC := Lib.hid hC
  have hl1 := hC.vars.len
  have Hl1 := Lib.hid hl1
  have Hl2 := Lib.hid hC.coefs.len
  have Hl3 := Lib.hid hC.nums.len
  have hkind := hC.kind
  have hs1 := hC.vars.small
  have hs2 := hC.coefs.small
  have hs3 := hC.nums.small
  clear hC
  have HB : Hid (∀ wr, Kept (w.alloc (.cells #[.int .i64 K, .slice A1 n1 c1, .slice A2 n2 c2, .int .i64 R, .int .i64 Ct, .slice A3 n3 c3] 24)) wr → wr.heap[w.heap.size]? = some (.cells #[.int .i64 K, .slice A1 n1 c1, .slice A2 n2 c2, .int .i64 R, .int .i64 Ct, .slice A3 n3 c3] 24)) := fun wr h => h.heapAt (heap_new _ _)
  go_enter Tryd.func43, Tryd.ntmps43
  go_wp2_with fail
  go_loopw [6] (fun v wr => ∃ k : Nat, k ≤ n1 ∧ v = .int .i64 k ∧ Hid (Kept (w.alloc (.cells #[.int .i64 K, .slice A1 n1 c1, .slice A2 n2 c2, .int .i64 R, .int .i64 Ct, .slice A3 n3 c3] 24)) wr) ∧ Hid (vUpto C.vars V k = true)) (fun v _ => n1 - (intOf v).toNat)
  case atStart => exact ⟨0, Nat.zero_le _, rfl, Below.refl _ _, rfl⟩
  case round =>
    obtain ⟨k, hk, rfl, Hkw, Hok⟩ := hrel
    by_cases hlt : k < n1
    · have hSr := HC.out.vars.kept ((Kept.box _ _).then Hkw.out)
      obtain ⟨a, rfl, hblk⟩ := hSr.addr (by omega)
      obtain ⟨x, Hx, hcx, hx1, hx2⟩ := hSr.named k hlt
      have Hnext : Hid (vUpto C.vars V (k + 1) = (decide (0 ≤ x) && decide (x < V) && !((C.vars.take k).contains x))) := by
        show _ = _
        rw [vUpto_succ, Hok.out, vOk_named Hx.out, Bool.true_and]
      have Hbad : Hid (vUpto C.vars V (k + 1) = false → rightB C V = false) := fun h => by
        have h2 : varsOk C.vars V = false := by
          unfold varsOk
          rw [vUpto_succ, Hok.out, Bool.true_and] at h
          exact vUpto_bad h (by have := Hl1.out; omega)
        unfold rightB; rw [h2]; rfl
      clear hSr
      have hb := HB.out wr Hkw.out
      have b0 := cell_at hb 0
      have b1 := cell_at hb 1
      have b2 := cell_at hb 2
      have b3 := cell_at hb 3
      have b4 := cell_at hb 4
      have b5 := cell_at hb 5
      simp only [List.getElem?_toArray, List.getElem?_cons_zero, List.getElem?_cons_succ] at b0 b1 b2 b3 b4 b5
      clear hb
      by_cases h3 : x < 0
      · have hd3 : decide (x < 0) = true := by simp [h3]
        go_wp2_with fail
        go_ret
        exact ⟨ret_bool (by rw [Hbad.out (by rw [Hnext.out]; simp; omega)]), (Kept.box _ _).then Hkw.out⟩
      have hd3 : decide (x < 0) = false := by simp; omega
      by_cases h4 : V ≤ x
      · have hd4 : decide (V ≤ x) = true := by simp [h4]
        go_wp2_with fail
        go_ret
        exact ⟨ret_bool (by rw [Hbad.out (by rw [Hnext.out]; simp; omega)]), (Kept.box _ _).then Hkw.out⟩
      have hd4 : decide (V ≤ x) = false := by simp; omega
      go_wp2_with fail
      go_loopw [7] (fun v wq => ∃ j : Nat, j ≤ k ∧ v = .int .i64 j ∧ Hid (Kept wr wq) ∧ Hid ((C.vars.take j).contains x = false)) (fun v _ => k - (intOf v).toNat)
      case atStart => exact ⟨0, Nat.zero_le _, rfl, Below.refl _ _, by show _ = _; simp⟩
      case round =>
        clear b0 b1 b2 b3 b4 b5
        obtain ⟨j, hj, rfl, Hkq, Hno⟩ := hrel
        have Hk2 := Lib.hid (Hkw.out.then Hkq.out)
        have hb := HB.out wr Hk2.out
        have b0 := cell_at hb 0
        have b1 := cell_at hb 1
        have b2 := cell_at hb 2
        have b3 := cell_at hb 3
        have b4 := cell_at hb 4
        have b5 := cell_at hb 5
        simp only [List.getElem?_toArray, List.getElem?_cons_zero, List.getElem?_cons_succ] at b0 b1 b2 b3 b4 b5
        clear hb
        have hlb : w.heap.size < wr.heap.size := World.block_lt_of_cell? wr _ b0
        by_cases hlt2 : j < k
        · have hSq := HC.out.vars.kept ((Kept.box _ _).then Hk2.out)
          obtain ⟨y, Hy, hcy, _, _⟩ := hSq.named j (by omega)
          obtain ⟨x', Hx', hcx', _, _⟩ := hSq.named k hlt
          have ex : x' = x := Hx'.out.symm.trans Hx.out
          subst ex
          have hblk2 : a.block < wr.heap.size := hSq.block (by omega)
          have Hs : Hid ((C.vars.take (j + 1)).contains x' = decide (y = x')) := by
            show _ = _
            have e := take_succ_getD (l := C.vars) (k := j) (x := y) (by have := Hl1.out; omega) Hy.out
            rw [e, contains_snoc, Hno.out, Bool.false_or]
          clear hSq hcx
          by_cases hyx : y = x'
          · have hd5 : (y == x') = true := by simp [hyx]
            have Hin : Hid ((C.vars.take k).contains x' = true) := by
              show _ = _
              rw [List.contains_iff_mem]
              have := Hs.out
              rw [decide_eq_true hyx, List.contains_iff_mem] at this
              exact List.mem_of_mem_take (i := j + 1) (by rwa [List.take_take, Nat.min_eq_left (by omega)])
            clear hyx
            go_wp2_with fail
            refine wp_region_quiet_below (by kernel_rfl) (by kernel_rfl) ?_
            repeat (any_goals (first | go_big_quiet_step ((fail)) | quiet_step ((fail)) | (refine wpQuiet_step (fun K hK => ?_); go_simp; split <;> (refine hK _ ?_; clear hK K))))
            all_goals (refine wpQuiet_nil ?_; intro w1 hw'; replace hw' := Kept.regrown hw')
            have Hk9 := Lib.hid ((Kept.box _ _).then (Hk2.out.then hw'))
            clear hw'
            go_wp2_with fail
            go_ret
            exact ⟨ret_bool (by rw [Hbad.out (by rw [Hnext.out, Hin.out]; simp)]), Hk9.out⟩
          · have hd5 : (y == x') = false := by simp [hyx]
            have Hs2 : Hid ((C.vars.take (j + 1)).contains x' = false) := by show _ = _; rw [Hs.out]; simp [hyx]
            go_wp2_with fail
            refine wp_region_quiet_below (by kernel_rfl) (by kernel_rfl) ?_
            repeat (any_goals (first | go_big_quiet_step ((fail)) | quiet_step ((fail)) | (refine wpQuiet_step (fun K hK => ?_); go_simp; split <;> (refine hK _ ?_; clear hK K))))
            all_goals (refine wpQuiet_nil ?_; intro w1 hw'; replace hw' := Kept.regrown hw')
            have Hk9 := Lib.hid (Hkq.out.then hw')
            clear hw'
            go_wp2_with fail
            go_roundw
            case rel => exact ⟨j + 1, by omega, by go_num, Hk9.out, Hs2.out⟩
            case measure => simp [intOf]; omega
        · have e : j = k := by omega
          subst e
          go_wp2_with fail
          go_roundw
          case rel => exact ⟨j + 1, by omega, by go_num, Hk2.out, by show _ = _; rw [Hnext.out, Hno.out]; simp; omega⟩
          case measure => simp [intOf]; omega
    · have e : k = n1 := by omega
      subst e
      have Hvo : Hid (varsOk C.vars V = true) := by show _ = _; have := Hok.out; rwa [← Hl1.out] at this
      have hb := HB.out wr Hkw.out
      have b0 := cell_at hb 0
      have b1 := cell_at hb 1
      have b2 := cell_at hb 2
      have b3 := cell_at hb 3
      have b4 := cell_at hb 4
      have b5 := cell_at hb 5
      simp only [List.getElem?_toArray, List.getElem?_cons_zero, List.getElem?_cons_succ] at b0 b1 b2 b3 b4 b5
      clear hb
      by_cases hK1 : K = 1
      · subst hK1
        have Hr : Hid (rightB C V = sumR C 0) := by
          show _ = _
          unfold rightB; rw [Hvo.out, hkind]; rfl
        clear hkind
        go_wp2_with fail
        clear b0 b1 b2 b3 b4 b5
        go_loopw [9] (fun v wr => ∃ j : Nat, j ≤ n2 ∧ v = .int .i64 j ∧ Hid (Kept (w.alloc (.cells #[.int .i64 1, .slice A1 k c1, .slice A2 n2 c2, .int .i64 R, .int .i64 Ct, .slice A3 n3 c3] 24)) wr) ∧ Hid ((C.coefs.take j).contains 0 = false)) (fun v _ => n2 - (intOf v).toNat)
        case atStart => exact ⟨0, Nat.zero_le _, rfl, Hkw.out, by show _ = _; simp⟩
        case round =>
          obtain ⟨j, hj, rfl, Hk2, Hno⟩ := hrel
          have hb := HB.out wr Hk2.out
          have b0 := cell_at hb 0
          have b1 := cell_at hb 1
          have b2 := cell_at hb 2
          have b3 := cell_at hb 3
          have b4 := cell_at hb 4
          have b5 := cell_at hb 5
          simp only [List.getElem?_toArray, List.getElem?_cons_zero, List.getElem?_cons_succ] at b0 b1 b2 b3 b4 b5
          clear hb
          have hlb : w.heap.size < wr.heap.size := World.block_lt_of_cell? wr _ b0
          by_cases hlt2 : j < n2
          · have hSq := HC.out.coefs.kept ((Kept.box _ _).then Hk2.out)
            obtain ⟨a2, rfl, hblk2⟩ := hSq.addr (by omega)
            obtain ⟨y, Hy, hcy, _, _⟩ := hSq.named j hlt2
            have Hs : Hid ((C.coefs.take (j + 1)).contains 0 = decide (y = 0)) := by
              show _ = _
              have e := take_succ_getD (l := C.coefs) (k := j) (x := y) (by have := Hl2.out; omega) Hy.out
              rw [e, contains_snoc, Hno.out, Bool.false_or]
            clear hSq
            by_cases hy0 : y = 0
            · have hd5 : (y == 0) = true := by simp [hy0]
              have Hin : Hid (C.coefs.contains 0 = true) := by
                show _ = _
                rw [List.contains_iff_mem]
                have := Hs.out
                rw [decide_eq_true hy0, List.contains_iff_mem] at this
                exact List.mem_of_mem_take this
              go_wp2_with fail
              go_ret
              exact ⟨ret_bool (by rw [Hr.out]; unfold sumR; rw [Hin.out]; rfl), (Kept.box _ _).then Hk2.out⟩
            · have hd5 : (y == 0) = false := by simp [hy0]
              go_wp2_with fail
              go_roundw
              case rel => exact ⟨j + 1, by omega, by go_num, Hk2.out, by show _ = _; rw [Hs.out]; simp [hy0]⟩
              case measure => simp [intOf]; omega
          · have e : j = n2 := by omega
            subst e
            have hno : C.coefs.contains 0 = false := by have := Hno.out; rwa [List.take_of_length_le (by have := Hl2.out; omega)] at this
            have Hr2 : Hid (rightB C V = (decide (1 ≤ (k : Int)) && decide ((k : Int) ≤ 8) && decide ((j : Int) = (k : Int)) && withinB C.coefs 1048576 && decide (0 ≤ R) && decide (R ≤ 5) && withinB [Ct] 1099511627776 && decide (n3 = 0))) := by
              show _ = _
              rw [Hr.out]; unfold sumR
              rw [hno, Hl1.out, Hl2.out, Hl3.out, HC.out.rel, HC.out.const]; simp
            have HQ1 : Hid (Calls Tryd.prog 68 #[.slice A2 j c2, .int .i64 1048576] wr fun e w' => e = .returned (.bool (withinB C.coefs 1048576)) ∧ wr = w') := rall_any A2 j c2 C.coefs 1048576 wr (HC.out.coefs.kept ((Kept.box _ _).then Hk2.out)) (by decide)
            have HQ2 : Hid (Calls Tryd.prog 68 #[.slice (some ⟨wr.heap.size, 0, Option.none⟩) 1 1, .int .i64 1099511627776] (wr.alloc (.cells #[.int .i64 Ct] 3)) fun e w' => e = .returned (.bool (withinB [Ct] 1099511627776)) ∧ (wr.alloc (.cells #[.int .i64 Ct] 3)) = w') := rall_any _ 1 1 [Ct] 1099511627776 _ (lit1 _ _ _ _ HC.out.rc) (by decide)
            generalize withinB C.coefs 1048576 = q1 at HQ1 Hr2
            generalize withinB [Ct] 1099511627776 = q2 at HQ2 Hr2
            by_cases t1 : ¬ (1 ≤ (k : Int))
            · have hd : (decide (1 ≤ (k : Int))) = false := by simp; omega
              go_wp2_with fail
              go_ret
              exact ⟨ret_bool (by rw [Hr2.out]; simp; omega), (Kept.box _ _).then Hk2.out⟩
            have t1 := Classical.not_not.1 t1
            have ht1 : (decide (1 ≤ (k : Int))) = true := by simp; omega
            by_cases t2 : ¬ ((k : Int) ≤ 8)
            · have hd : (decide ((k : Int) ≤ 8)) = false := by simp; omega
              go_wp2_with fail
              go_ret
              exact ⟨ret_bool (by rw [Hr2.out]; simp; omega), (Kept.box _ _).then Hk2.out⟩
            have t2 := Classical.not_not.1 t2
            have ht2 : (decide ((k : Int) ≤ 8)) = true := by simp; omega
            by_cases t3 : ¬ ((j : Int) = (k : Int))
            · have hd : ((j : Int) == (k : Int)) = false := by simp; omega
              go_wp2_with fail
              go_ret
              exact ⟨ret_bool (by rw [Hr2.out]; simp; omega), (Kept.box _ _).then Hk2.out⟩
            have t3 := Classical.not_not.1 t3
            have ht3 : ((j : Int) == (k : Int)) = true := by simp; omega
            cases q1 with
            | false =>
              go_wp2_with fail
              refine HQ1.out.mono ?_
              rintro e w1 ⟨rfl, rfl⟩
              go_wp2_with fail
              go_ret
              exact ⟨ret_bool (by rw [Hr2.out]; simp), (Kept.box _ _).then Hk2.out⟩
            | true =>
              by_cases t5 : ¬ (0 ≤ R)
              · have hd : (decide (0 ≤ R)) = false := by simp; omega
                go_wp2_with fail
                refine HQ1.out.mono ?_
                rintro e w1 ⟨rfl, rfl⟩
                go_wp2_with fail
                go_ret
                exact ⟨ret_bool (by rw [Hr2.out]; simp; omega), (Kept.box _ _).then Hk2.out⟩
              have t5 := Classical.not_not.1 t5
              have ht5 : (decide (0 ≤ R)) = true := by simp; omega
              by_cases t6 : ¬ (R ≤ 5)
              · have hd : (decide (R ≤ 5)) = false := by simp; omega
                go_wp2_with fail
                refine HQ1.out.mono ?_
                rintro e w1 ⟨rfl, rfl⟩
                go_wp2_with fail
                go_ret
                exact ⟨ret_bool (by rw [Hr2.out]; simp; omega), (Kept.box _ _).then Hk2.out⟩
              have t6 := Classical.not_not.1 t6
              have ht6 : (decide (R ≤ 5)) = true := by simp; omega
              cases q2 with
              | false =>
                go_wp2_with fail
                refine HQ1.out.mono ?_
                rintro e w1 ⟨rfl, rfl⟩
                go_wp2_with fail
                refine HQ2.out.mono ?_
                rintro e w1 ⟨rfl, rfl⟩
                go_wp2_with fail
                go_ret
                exact ⟨ret_bool (by rw [Hr2.out]; simp), ((Kept.box _ _).then Hk2.out).newBlock _⟩
              | true =>
                by_cases t8 : (n3 : Int) = 0
                · have hd : ((n3 : Int) == 0) = true := by simp; omega
                  go_wp2_with fail
                  refine HQ1.out.mono ?_
                  rintro e w1 ⟨rfl, rfl⟩
                  go_wp2_with fail
                  refine HQ2.out.mono ?_
                  rintro e w1 ⟨rfl, rfl⟩
                  go_wp2_with fail
                  go_ret
                  exact ⟨ret_bool (by rw [Hr2.out]; simp; omega), ((Kept.box _ _).then Hk2.out).newBlock _⟩
                · have hd : ((n3 : Int) == 0) = false := by simp; omega
                  go_wp2_with fail
                  refine HQ1.out.mono ?_
                  rintro e w1 ⟨rfl, rfl⟩
                  go_wp2_with fail
                  refine HQ2.out.mono ?_
                  rintro e w1 ⟨rfl, rfl⟩
                  go_wp2_with fail
                  go_ret
                  exact ⟨ret_bool (by rw [Hr2.out]; simp; omega), ((Kept.box _ _).then Hk2.out).newBlock _⟩
      by_cases hK3 : K = 3
      · subst hK3
        have Hr : Hid (rightB C V = sumR C 1) := by
          show _ = _
          unfold rightB; rw [Hvo.out, hkind]; rfl
        clear hkind
        go_wp2_with fail
        clear b0 b1 b2 b3 b4 b5
        go_loopw [9] (fun v wr => ∃ j : Nat, j ≤ n2 ∧ v = .int .i64 j ∧ Hid (Kept (w.alloc (.cells #[.int .i64 3, .slice A1 k c1, .slice A2 n2 c2, .int .i64 R, .int .i64 Ct, .slice A3 n3 c3] 24)) wr) ∧ Hid ((C.coefs.take j).contains 0 = false)) (fun v _ => n2 - (intOf v).toNat)
        case atStart => exact ⟨0, Nat.zero_le _, rfl, Hkw.out, by show _ = _; simp⟩
        case round =>
          obtain ⟨j, hj, rfl, Hk2, Hno⟩ := hrel
          have hb := HB.out wr Hk2.out
          have b0 := cell_at hb 0
          have b1 := cell_at hb 1
          have b2 := cell_at hb 2
          have b3 := cell_at hb 3
          have b4 := cell_at hb 4
          have b5 := cell_at hb 5
          simp only [List.getElem?_toArray, List.getElem?_cons_zero, List.getElem?_cons_succ] at b0 b1 b2 b3 b4 b5
          clear hb
          have hlb : w.heap.size < wr.heap.size := World.block_lt_of_cell? wr _ b0
          by_cases hlt2 : j < n2
          · have hSq := HC.out.coefs.kept ((Kept.box _ _).then Hk2.out)
            obtain ⟨a2, rfl, hblk2⟩ := hSq.addr (by omega)
            obtain ⟨y, Hy, hcy, _, _⟩ := hSq.named j hlt2
            have Hs : Hid ((C.coefs.take (j + 1)).contains 0 = decide (y = 0)) := by
              show _ = _
              have e := take_succ_getD (l := C.coefs) (k := j) (x := y) (by have := Hl2.out; omega) Hy.out
              rw [e, contains_snoc, Hno.out, Bool.false_or]
            clear hSq
            by_cases hy0 : y = 0
            · have hd5 : (y == 0) = true := by simp [hy0]
              have Hin : Hid (C.coefs.contains 0 = true) := by
                show _ = _
                rw [List.contains_iff_mem]
                have := Hs.out
                rw [decide_eq_true hy0, List.contains_iff_mem] at this
                exact List.mem_of_mem_take this
              go_wp2_with fail
              go_ret
              exact ⟨ret_bool (by rw [Hr.out]; unfold sumR; rw [Hin.out]; rfl), (Kept.box _ _).then Hk2.out⟩
            · have hd5 : (y == 0) = false := by simp [hy0]
              go_wp2_with fail
              go_roundw
              case rel => exact ⟨j + 1, by omega, by go_num, Hk2.out, by show _ = _; rw [Hs.out]; simp [hy0]⟩
              case measure => simp [intOf]; omega
          · have e : j = n2 := by omega
            subst e
            have hno : C.coefs.contains 0 = false := by have := Hno.out; rwa [List.take_of_length_le (by have := Hl2.out; omega)] at this
            have Hr2 : Hid (rightB C V = (decide (1 ≤ ((k : Int) - 1)) && decide (((k : Int) - 1) ≤ 8) && decide ((j : Int) = ((k : Int) - 1)) && withinB C.coefs 1048576 && decide (0 ≤ R) && decide (R ≤ 5) && withinB [Ct] 1099511627776 && decide (n3 = 0))) := by
              show _ = _
              rw [Hr.out]; unfold sumR
              rw [hno, Hl1.out, Hl2.out, Hl3.out, HC.out.rel, HC.out.const]; simp
            have HQ1 : Hid (Calls Tryd.prog 68 #[.slice A2 j c2, .int .i64 1048576] wr fun e w' => e = .returned (.bool (withinB C.coefs 1048576)) ∧ wr = w') := rall_any A2 j c2 C.coefs 1048576 wr (HC.out.coefs.kept ((Kept.box _ _).then Hk2.out)) (by decide)
            have HQ2 : Hid (Calls Tryd.prog 68 #[.slice (some ⟨wr.heap.size, 0, Option.none⟩) 1 1, .int .i64 1099511627776] (wr.alloc (.cells #[.int .i64 Ct] 3)) fun e w' => e = .returned (.bool (withinB [Ct] 1099511627776)) ∧ (wr.alloc (.cells #[.int .i64 Ct] 3)) = w') := rall_any _ 1 1 [Ct] 1099511627776 _ (lit1 _ _ _ _ HC.out.rc) (by decide)
            generalize withinB C.coefs 1048576 = q1 at HQ1 Hr2
            generalize withinB [Ct] 1099511627776 = q2 at HQ2 Hr2
            by_cases t1 : ¬ (1 ≤ ((k : Int) - 1))
            · have hd : (decide (1 ≤ ((k : Int) - 1))) = false := by simp; omega
              go_wp2_with fail
              go_ret
              exact ⟨ret_bool (by rw [Hr2.out]; simp; omega), (Kept.box _ _).then Hk2.out⟩
            have t1 := Classical.not_not.1 t1
            have ht1 : (decide (1 ≤ ((k : Int) - 1))) = true := by simp; omega
            by_cases t2 : ¬ (((k : Int) - 1) ≤ 8)
            · have hd : (decide (((k : Int) - 1) ≤ 8)) = false := by simp; omega
              go_wp2_with fail
              go_ret
              exact ⟨ret_bool (by rw [Hr2.out]; simp; omega), (Kept.box _ _).then Hk2.out⟩
            have t2 := Classical.not_not.1 t2
            have ht2 : (decide (((k : Int) - 1) ≤ 8)) = true := by simp; omega
            by_cases t3 : ¬ ((j : Int) = ((k : Int) - 1))
            · have hd : ((j : Int) == ((k : Int) - 1)) = false := by simp; omega
              go_wp2_with fail
              go_ret
              exact ⟨ret_bool (by rw [Hr2.out]; simp; omega), (Kept.box _ _).then Hk2.out⟩
            have t3 := Classical.not_not.1 t3
            have ht3 : ((j : Int) == ((k : Int) - 1)) = true := by simp; omega
            cases q1 with
            | false =>
              go_wp2_with fail
              refine HQ1.out.mono ?_
              rintro e w1 ⟨rfl, rfl⟩
              go_wp2_with fail
              go_ret
              exact ⟨ret_bool (by rw [Hr2.out]; simp), (Kept.box _ _).then Hk2.out⟩
            | true =>
              by_cases t5 : ¬ (0 ≤ R)
              · have hd : (decide (0 ≤ R)) = false := by simp; omega
                go_wp2_with fail
                refine HQ1.out.mono ?_
                rintro e w1 ⟨rfl, rfl⟩
                go_wp2_with fail
                go_ret
                exact ⟨ret_bool (by rw [Hr2.out]; simp; omega), (Kept.box _ _).then Hk2.out⟩
              have t5 := Classical.not_not.1 t5
              have ht5 : (decide (0 ≤ R)) = true := by simp; omega
              by_cases t6 : ¬ (R ≤ 5)
              · have hd : (decide (R ≤ 5)) = false := by simp; omega
                go_wp2_with fail
                refine HQ1.out.mono ?_
                rintro e w1 ⟨rfl, rfl⟩
                go_wp2_with fail
                go_ret
                exact ⟨ret_bool (by rw [Hr2.out]; simp; omega), (Kept.box _ _).then Hk2.out⟩
              have t6 := Classical.not_not.1 t6
              have ht6 : (decide (R ≤ 5)) = true := by simp; omega
              cases q2 with
              | false =>
                go_wp2_with fail
                refine HQ1.out.mono ?_
                rintro e w1 ⟨rfl, rfl⟩
                go_wp2_with fail
                refine HQ2.out.mono ?_
                rintro e w1 ⟨rfl, rfl⟩
                go_wp2_with fail
                go_ret
                exact ⟨ret_bool (by rw [Hr2.out]; simp), ((Kept.box _ _).then Hk2.out).newBlock _⟩
              | true =>
                by_cases t8 : (n3 : Int) = 0
                · have hd : ((n3 : Int) == 0) = true := by simp; omega
                  go_wp2_with fail
                  refine HQ1.out.mono ?_
                  rintro e w1 ⟨rfl, rfl⟩
                  go_wp2_with fail
                  refine HQ2.out.mono ?_
                  rintro e w1 ⟨rfl, rfl⟩
                  go_wp2_with fail
                  go_ret
                  exact ⟨ret_bool (by rw [Hr2.out]; simp; omega), ((Kept.box _ _).then Hk2.out).newBlock _⟩
                · have hd : ((n3 : Int) == 0) = false := by simp; omega
                  go_wp2_with fail
                  refine HQ1.out.mono ?_
                  rintro e w1 ⟨rfl, rfl⟩
                  go_wp2_with fail
                  refine HQ2.out.mono ?_
                  rintro e w1 ⟨rfl, rfl⟩
                  go_wp2_with fail
                  go_ret
                  exact ⟨ret_bool (by rw [Hr2.out]; simp; omega), ((Kept.box _ _).then Hk2.out).newBlock _⟩
      have e1 : (K == 1) = false := by simp [hK1]
      have e3 : (K == 3) = false := by simp [hK3]
      have Hr : Hid (rightB C V = plainR C) := by
        show _ = _
        unfold rightB; rw [Hvo.out, hkind, if_neg hK1, if_neg hK3]; rfl
      have Hr2 : Hid (rightB C V = (decide (n2 = 0) && decide (R = 0) && decide (Ct = 0) && withinB C.nums 1048576 && decide ((n3 : Int) ≤ 96) && (if K = 2 then decide (k = 3) && decide (n3 = 0) else if K = 4 then decide (k = 2) && decide (1 ≤ n3) else if K = 5 then decide (2 ≤ k) && decide (k ≤ 8) && decide (n3 = 0) else if K = 6 then decide (1 ≤ k) && decide (k ≤ 8) && decide ((n3 : Int) % k = 0) else false))) := by
        show _ = _
        rw [Hr.out]; unfold plainR
        rw [Hl1.out, Hl2.out, Hl3.out, HC.out.rel, HC.out.const, hkind]
      have HQ : Hid (Calls Tryd.prog 68 #[.slice A3 n3 c3, .int .i64 1048576] wr fun e w' => e = .returned (.bool (withinB C.nums 1048576)) ∧ wr = w') := rall_any A3 n3 c3 C.nums 1048576 wr (HC.out.nums.kept ((Kept.box _ _).then Hkw.out)) (by decide)
      generalize withinB C.nums 1048576 = q1 at HQ Hr2
      clear hkind Hr
      by_cases t1 : ¬ (n2 = 0)
      · have hd : (decide ((0 : Int) < n2)) = true := by simp; omega
        go_wp2_with fail
        go_ret
        exact ⟨ret_bool (by rw [Hr2.out]; simp; omega), (Kept.box _ _).then Hkw.out⟩
      have t1 := Classical.not_not.1 t1
      have ht1 : (decide ((0 : Int) < n2)) = false := by simp; omega
      by_cases t2 : ¬ (R = 0)
      · have hd : (R != 0) = true := by simp; omega
        go_wp2_with fail
        go_ret
        exact ⟨ret_bool (by rw [Hr2.out]; simp; omega), (Kept.box _ _).then Hkw.out⟩
      have t2 := Classical.not_not.1 t2
      have ht2 : (R != 0) = false := by simp; omega
      by_cases t3 : ¬ (Ct = 0)
      · have hd : (Ct != 0) = true := by simp; omega
        go_wp2_with fail
        go_ret
        exact ⟨ret_bool (by rw [Hr2.out]; simp; omega), (Kept.box _ _).then Hkw.out⟩
      have t3 := Classical.not_not.1 t3
      have ht3 : (Ct != 0) = false := by simp; omega
      cases q1 with
      | false =>
        go_wp2_with fail
        refine HQ.out.mono ?_
        rintro e w1 ⟨rfl, rfl⟩
        go_wp2_with fail
        go_ret
        exact ⟨ret_bool (by rw [Hr2.out]; simp), (Kept.box _ _).then Hkw.out⟩
      | true =>
        by_cases t5 : ¬ ((n3 : Int) ≤ 96)
        · have hd : (decide ((96 : Int) < n3)) = true := by simp; omega
          go_wp2_with fail
          refine HQ.out.mono ?_
          rintro e w1 ⟨rfl, rfl⟩
          go_wp2_with fail
          go_ret
          exact ⟨ret_bool (by rw [Hr2.out]; simp; omega), (Kept.box _ _).then Hkw.out⟩
        have t5 := Classical.not_not.1 t5
        have ht5 : (decide ((96 : Int) < n3)) = false := by simp; omega
        have Hr3 : Hid (rightB C V = (if K = 2 then decide (k = 3) && decide (n3 = 0) else if K = 4 then decide (k = 2) && decide (1 ≤ n3) else if K = 5 then decide (2 ≤ k) && decide (k ≤ 8) && decide (n3 = 0) else if K = 6 then decide (1 ≤ k) && decide (k ≤ 8) && decide ((n3 : Int) % k = 0) else false)) := by
          show _ = _
          rw [Hr2.out, decide_eq_true t1, decide_eq_true t2, decide_eq_true t3, decide_eq_true t5]; rfl
        clear Hr2
        by_cases hK2 : K = 2
        · subst hK2
          have Hr4 : Hid (rightB C V = (decide (k = 3) && decide (n3 = 0))) := Hr3.out
          by_cases u1 : ¬ ((k : Int) = 3)
          · have hd : ((k : Int) == 3) = false := by simp; omega
            go_wp2_with fail
            refine HQ.out.mono ?_
            rintro e w1 ⟨rfl, rfl⟩
            go_wp2_with fail
            go_ret
            exact ⟨ret_bool (by rw [Hr4.out]; simp; omega), (Kept.box _ _).then Hkw.out⟩
          have u1 := Classical.not_not.1 u1
          have hu1 : ((k : Int) == 3) = true := by simp; omega
          by_cases u2 : ¬ ((n3 : Int) = 0)
          · have hd : ((n3 : Int) == 0) = false := by simp; omega
            go_wp2_with fail
            refine HQ.out.mono ?_
            rintro e w1 ⟨rfl, rfl⟩
            go_wp2_with fail
            go_ret
            exact ⟨ret_bool (by rw [Hr4.out]; simp; omega), (Kept.box _ _).then Hkw.out⟩
          have u2 := Classical.not_not.1 u2
          have hu2 : ((n3 : Int) == 0) = true := by simp; omega
          go_wp2_with fail
          refine HQ.out.mono ?_
          rintro e w1 ⟨rfl, rfl⟩
          go_wp2_with fail
          go_ret
          exact ⟨ret_bool (by rw [Hr4.out]; simp; omega), (Kept.box _ _).then Hkw.out⟩
        have f2 : (K == 2) = false := by simp [hK2]
        by_cases hK4 : K = 4
        · subst hK4
          have Hr4 : Hid (rightB C V = (decide (k = 2) && decide (1 ≤ n3))) := Hr3.out
          by_cases u1 : ¬ ((k : Int) = 2)
          · have hd : ((k : Int) == 2) = false := by simp; omega
            go_wp2_with fail
            refine HQ.out.mono ?_
            rintro e w1 ⟨rfl, rfl⟩
            go_wp2_with fail
            go_ret
            exact ⟨ret_bool (by rw [Hr4.out]; simp; omega), (Kept.box _ _).then Hkw.out⟩
          have u1 := Classical.not_not.1 u1
          have hu1 : ((k : Int) == 2) = true := by simp; omega
          by_cases u2 : ¬ (1 ≤ (n3 : Int))
          · have hd : (decide (1 ≤ (n3 : Int))) = false := by simp; omega
            go_wp2_with fail
            refine HQ.out.mono ?_
            rintro e w1 ⟨rfl, rfl⟩
            go_wp2_with fail
            go_ret
            exact ⟨ret_bool (by rw [Hr4.out]; simp; omega), (Kept.box _ _).then Hkw.out⟩
          have u2 := Classical.not_not.1 u2
          have hu2 : (decide (1 ≤ (n3 : Int))) = true := by simp; omega
          go_wp2_with fail
          refine HQ.out.mono ?_
          rintro e w1 ⟨rfl, rfl⟩
          go_wp2_with fail
          go_ret
          exact ⟨ret_bool (by rw [Hr4.out]; simp; omega), (Kept.box _ _).then Hkw.out⟩
        have f4 : (K == 4) = false := by simp [hK4]
        by_cases hK5 : K = 5
        · subst hK5
          have Hr4 : Hid (rightB C V = (decide (2 ≤ k) && decide (k ≤ 8) && decide (n3 = 0))) := Hr3.out
          by_cases u1 : ¬ (2 ≤ (k : Int))
          · have hd : (decide (2 ≤ (k : Int))) = false := by simp; omega
            go_wp2_with fail
            refine HQ.out.mono ?_
            rintro e w1 ⟨rfl, rfl⟩
            go_wp2_with fail
            go_ret
            exact ⟨ret_bool (by rw [Hr4.out]; simp; omega), (Kept.box _ _).then Hkw.out⟩
          have u1 := Classical.not_not.1 u1
          have hu1 : (decide (2 ≤ (k : Int))) = true := by simp; omega
          by_cases u2 : ¬ ((k : Int) ≤ 8)
          · have hd : (decide ((k : Int) ≤ 8)) = false := by simp; omega
            go_wp2_with fail
            refine HQ.out.mono ?_
            rintro e w1 ⟨rfl, rfl⟩
            go_wp2_with fail
            go_ret
            exact ⟨ret_bool (by rw [Hr4.out]; simp; omega), (Kept.box _ _).then Hkw.out⟩
          have u2 := Classical.not_not.1 u2
          have hu2 : (decide ((k : Int) ≤ 8)) = true := by simp; omega
          by_cases u3 : ¬ ((n3 : Int) = 0)
          · have hd : ((n3 : Int) == 0) = false := by simp; omega
            go_wp2_with fail
            refine HQ.out.mono ?_
            rintro e w1 ⟨rfl, rfl⟩
            go_wp2_with fail
            go_ret
            exact ⟨ret_bool (by rw [Hr4.out]; simp; omega), (Kept.box _ _).then Hkw.out⟩
          have u3 := Classical.not_not.1 u3
          have hu3 : ((n3 : Int) == 0) = true := by simp; omega
          go_wp2_with fail
          refine HQ.out.mono ?_
          rintro e w1 ⟨rfl, rfl⟩
          go_wp2_with fail
          go_ret
          exact ⟨ret_bool (by rw [Hr4.out]; simp; omega), (Kept.box _ _).then Hkw.out⟩
        have f5 : (K == 5) = false := by simp [hK5]
        by_cases hK6 : K = 6
        · subst hK6
          have Hr4 : Hid (rightB C V = (decide (1 ≤ k) && decide (k ≤ 8) && decide ((n3 : Int) % k = 0))) := Hr3.out
          by_cases u1 : ¬ (1 ≤ (k : Int))
          · have hd : (decide (1 ≤ (k : Int))) = false := by simp; omega
            go_wp2_with fail
            refine HQ.out.mono ?_
            rintro e w1 ⟨rfl, rfl⟩
            go_wp2_with fail
            go_ret
            exact ⟨ret_bool (by rw [Hr4.out]; simp; omega), (Kept.box _ _).then Hkw.out⟩
          have u1 := Classical.not_not.1 u1
          have hu1 : (decide (1 ≤ (k : Int))) = true := by simp; omega
          by_cases u2 : ¬ ((k : Int) ≤ 8)
          · have hd : (decide ((k : Int) ≤ 8)) = false := by simp; omega
            go_wp2_with fail
            refine HQ.out.mono ?_
            rintro e w1 ⟨rfl, rfl⟩
            go_wp2_with fail
            go_ret
            exact ⟨ret_bool (by rw [Hr4.out]; simp; omega), (Kept.box _ _).then Hkw.out⟩
          have u2 := Classical.not_not.1 u2
          have hu2 : (decide ((k : Int) ≤ 8)) = true := by simp; omega
          have hne : ((k : Int) == 0) = false := by simp; omega
          have hn0 : (k : Int) ≠ 0 := by omega
          have Hr5 : Hid (rightB C V = decide ((n3 : Int) % k = 0)) := by
            show _ = _
            have a1 : decide (1 ≤ k) = true := by simp; omega
            have a2 : decide (k ≤ 8) = true := by simp; omega
            rw [Hr4.out, a1, a2]; rfl
          go_wp2_with fail
          refine HQ.out.mono ?_
          rintro e w1 ⟨rfl, rfl⟩
          go_wp2_with fail
          go_ret
          exact ⟨ret_bool (by rw [Hr5.out]; rfl), (Kept.box _ _).then Hkw.out⟩
        have f6 : (K == 6) = false := by simp [hK6]
        have Hr4 : Hid (rightB C V = false) := by show _ = _; rw [Hr3.out, if_neg hK2, if_neg hK4, if_neg hK5, if_neg hK6]
        go_wp2_with fail
        refine HQ.out.mono ?_
        rintro e w1 ⟨rfl, rfl⟩
        go_wp2_with fail
        go_ret
        exact ⟨ret_bool (by rw [Hr4.out]), (Kept.box _ _).then Hkw.out⟩

end Go.Proofs.YtekcenacpklpgaaDoor

namespace Go.Proofs.YtekcenacpklpgaaDoor
namespace Pl

/-- What the questions of the first j variables keep. -/
def varsKp (vars : List Int) (g : Nat → Int → Bool) (j i : Nat) (x : Int) : Bool := (List.range j).all fun k => !decide ((vars.getD k 0).toNat = i) || g k x
theorem varsKp_iff {vars : List Int} {g : Nat → Int → Bool} {j i : Nat} {x : Int} : varsKp vars g j i x = true ↔ ∀ k, k < j → (vars.getD k 0).toNat = i → g k x = true := by
  unfold varsKp
  rw [List.all_eq_true]
  constructor
  · intro h k hk e
    have := h k (List.mem_range.2 hk)
    rw [decide_eq_true e] at this
    simpa using this
  · intro h k hk
    by_cases e : (vars.getD k 0).toNat = i
    · rw [h k (List.mem_range.1 hk) e]; simp
    · rw [decide_eq_false e]; rfl
theorem varsKp_succ (vars : List Int) (g : Nat → Int → Bool) (j i : Nat) (x : Int) : varsKp vars g (j + 1) i x = (varsKp vars g j i x && (!decide ((vars.getD j 0).toNat = i) || g j x)) := by
  unfold varsKp
  rw [List.range_succ, List.all_append]; simp

/-- What is kept behind the first ones of a list. -/
def pkV (g : Int → Bool) (l : List Int) (x : Int) : Bool := l.all fun v => x != v || g v
theorem pkV_none (g : Int → Bool) {d : DomB} (hm : mayB d.1 d.2 = true) : keepD (pkV g []) d = d := keepD_all hm (fun _ _ => rfl)
theorem pkV_yes {g : Int → Bool} {l : List Int} {v : Int} (hv : g v = true) : pkV g (l ++ [v]) = pkV g l := by
  funext x; unfold pkV; rw [List.all_append]; simp [hv]
theorem pkV_no {g : Int → Bool} {l : List Int} {v : Int} (hv : g v = false) (d : DomB) : keepD (fun x => x != v) (keepD (pkV g l) d) = keepD (pkV g (l ++ [v])) d := by
  rw [keepD_keepD]
  congr 1
  funext x; unfold pkV; rw [List.all_append]; simp [hv]

/-- The domains in the middle of a variable's round. -/
def midB (vars : List Int) (g : Nat → Int → Bool) (ds : List DomB) (j p m : Nat) : List DomB :=
  (stepB (varsKp vars g j) ds).set p (keepD (pkV (g j) ((listB (ds.getD p ([], 0)).1 (ds.getD p ([], 0)).2).take m)) ((stepB (varsKp vars g j) ds).getD p ([], 0)))

theorem set_getD_self {α : Type} (l : List α) (p : Nat) (d : α) (hp : p < l.length) : l.set p (l.getD p d) = l := by
  apply List.ext_getElem (by simp)
  intro i h1 h2
  rw [List.getElem_set]
  split
  · rename_i e; subst e
    rw [List.getD_eq_getElem?_getD, List.getElem?_eq_getElem hp]; rfl
  · rfl

theorem midB_length (vars : List Int) (g : Nat → Int → Bool) (ds : List DomB) (j p m : Nat) : (midB vars g ds j p m).length = ds.length := by
  unfold midB; rw [List.length_set, stepB_length]
theorem midB_at (vars : List Int) (g : Nat → Int → Bool) (ds : List DomB) (j p m : Nat) (hp : p < ds.length) :
    (midB vars g ds j p m).getD p ([], 0) = keepD (pkV (g j) ((listB (ds.getD p ([], 0)).1 (ds.getD p ([], 0)).2).take m)) (keepD (varsKp vars g j p) (ds.getD p ([], 0))) := by
  unfold midB
  rw [getD_set _ _ _ _ (by rw [stepB_length]; exact hp), if_pos rfl, stepB_getD _ _ hp]
theorem midB_may {vars : List Int} {g : Nat → Int → Bool} {ds : List DomB} {j p m : Nat} (hp : p < ds.length) (hm : allMay ds = true) : mayB ((midB vars g ds j p m).getD p ([], 0)).1 ((midB vars g ds j p m).getD p ([], 0)).2 = true := by
  rw [midB_at _ _ _ _ _ _ hp]
  exact keepD_may (keepD_may (allMay_at hm hp))
theorem midB_vals (vars : List Int) (g : Nat → Int → Bool) (ds : List DomB) (j p m : Nat) (hp : p < ds.length) : ((midB vars g ds j p m).getD p ([], 0)).1 = (ds.getD p ([], 0)).1 := by
  rw [midB_at _ _ _ _ _ _ hp, keepD_fst, keepD_fst]

theorem stepB_varsKp_zero {vars : List Int} {g : Nat → Int → Bool} {ds : List DomB} (hm : allMay ds = true) : stepB (varsKp vars g 0) ds = ds := by
  apply ext_getD (stepB_length _ _)
  intro i hi
  rw [stepB_length] at hi
  rw [stepB_getD _ _ hi]
  exact keepD_all (allMay_at hm hi) (fun _ _ => rfl)

theorem midB_zero {vars : List Int} {g : Nat → Int → Bool} {ds : List DomB} {j p : Nat} (hp : p < ds.length) (hm : allMay ds = true) : midB vars g ds j p 0 = stepB (varsKp vars g j) ds := by
  unfold midB
  rw [List.take_zero, stepB_getD _ _ hp, pkV_none _ (keepD_may (allMay_at hm hp)), ← stepB_getD _ _ hp]
  exact set_getD_self _ _ _ (by rw [stepB_length]; exact hp)

theorem take_one {l : List Int} {m : Nat} {v : Int} (hm : m < l.length) (hv : l.getD m 0 = v) : l.take (m + 1) = l.take m ++ [v] := by
  rw [List.take_succ_eq_append_getElem hm]
  rw [List.getD_eq_getElem?_getD, List.getElem?_eq_getElem hm] at hv
  simp only [Option.getD_some] at hv
  rw [hv]

theorem midB_yes {vars : List Int} {g : Nat → Int → Bool} {ds : List DomB} {j p m : Nat} {v : Int} (hl : m < (listB (ds.getD p ([], 0)).1 (ds.getD p ([], 0)).2).length) (hv : (listB (ds.getD p ([], 0)).1 (ds.getD p ([], 0)).2).getD m 0 = v) (hg : g j v = true) :
    midB vars g ds j p (m + 1) = midB vars g ds j p m := by
  unfold midB
  rw [take_one hl hv, pkV_yes hg]
theorem midB_no {vars : List Int} {g : Nat → Int → Bool} {ds : List DomB} {j p m : Nat} {v : Int} (hp : p < ds.length) (hl : m < (listB (ds.getD p ([], 0)).1 (ds.getD p ([], 0)).2).length) (hv : (listB (ds.getD p ([], 0)).1 (ds.getD p ([], 0)).2).getD m 0 = v) (hg : g j v = false) :
    midB vars g ds j p (m + 1) = (midB vars g ds j p m).set p (keepD (fun x => x != v) ((midB vars g ds j p m).getD p ([], 0))) := by
  rw [midB_at _ _ _ _ _ _ hp]
  unfold midB
  rw [List.set_set, take_one hl hv, stepB_getD _ _ hp, pkV_no hg]
theorem midB_end {vars : List Int} {g : Nat → Int → Bool} {ds : List DomB} {j p m : Nat} (hp : p < ds.length) (hm : allMay ds = true) (hj : vars.getD j 0 = (p : Nat)) (hl : (listB (ds.getD p ([], 0)).1 (ds.getD p ([], 0)).2).length = m) :
    midB vars g ds j p m = stepB (varsKp vars g (j + 1)) ds := by
  apply ext_getD (by rw [midB_length, stepB_length])
  intro i hi
  rw [midB_length] at hi
  rw [stepB_getD _ _ hi]
  by_cases e : i = p
  · subst e
    rw [midB_at _ _ _ _ _ _ hi, List.take_of_length_le (by omega), keepD_keepD]
    refine keepD_congr (allMay_at hm hi) fun v hv => ?_
    rw [varsKp_succ, hj, Int.toNat_natCast, decide_eq_true rfl]
    congr 1
    simp only [Bool.not_true, Bool.false_or]
    unfold pkV
    rw [Bool.eq_iff_iff, List.all_eq_true]
    constructor
    · intro h
      simpa using h v hv
    · intro h u _
      by_cases e : v = u
      · subst e; simp [h]
      · simp [e]
  · unfold midB
    rw [getD_set _ _ _ _ (by rw [stepB_length]; exact hp), if_neg e, stepB_getD _ _ hi]
    congr 1
    funext x
    rw [varsKp_succ, hj, Int.toNat_natCast, decide_eq_false (fun h => e h.symm)]
    simp

/-! ### The laws of a step that keeps so -/
theorem varsKp_mono {vars : List Int} {g h : Nat → Int → Bool} {j i : Nat} {x : Int} (hgh : ∀ k, k < j → (vars.getD k 0).toNat = i → g k x = true → h k x = true) (hx : varsKp vars g j i x = true) : varsKp vars h j i x = true :=
  varsKp_iff.2 fun k hk e => hgh k hk e (varsKp_iff.1 hx k hk e)

end Pl
end Go.Proofs.YtekcenacpklpgaaDoor

set_option maxHeartbeats 1000000
set_option maxRecDepth 10000
namespace Go.Proofs.YtekcenacpklpgaaDoor
open Go Go.RowKit Pl

/-- May a step of a constraint, of kind q, be taken? -/
def goK (q : Int) (C : ConB) (ds : List DomB) : Bool := decide (C.kind = q) && rightB C ds.length && allMay ds
theorem goK_parts {q : Int} {C : ConB} {ds : List DomB} (h : goK q C ds = true) : C.kind = q ∧ rightB C ds.length = true ∧ allMay ds = true := by
  unfold goK at h
  simp only [Bool.and_eq_true, decide_eq_true_eq] at h
  exact ⟨h.1.1, h.1.2, h.2⟩
theorem rightB_vars {C : ConB} {V : Int} (h : rightB C V = true) : varsOk C.vars V = true := by
  unfold rightB at h
  rw [Bool.and_eq_true] at h
  exact h.1
theorem rightB_len {C : ConB} {V : Int} (h : rightB C V = true) : 1 ≤ C.vars.length ∧ C.vars.length ≤ 9 := by
  unfold rightB sumR plainR at h
  rw [Bool.and_eq_true] at h
  obtain ⟨_, h⟩ := h
  split at h
  · simp at h; omega
  · split at h
    · simp at h; omega
    · simp only [Bool.and_eq_true] at h
      obtain ⟨_, h⟩ := h
      split at h
      · simp at h; omega
      · split at h
        · simp at h; omega
        · split at h
          · simp at h; omega
          · split at h
            · simp at h; omega
            · simp at h
theorem tabB_right {C : ConB} {V : Int} (hk : C.kind = 6) : tabB C V = rightB C V := by
  unfold rightB
  simp only [hk]
  unfold tabB variablesB bareB plainR
  simp only [hk]
  rw [Bool.eq_iff_iff]
  simp
  constructor
  · rintro ⟨⟨⟨⟨h1, h2⟩, h3⟩, ⟨⟨⟨⟨h4, h5⟩, h6⟩, h7⟩, h8⟩⟩, h9⟩
    exact ⟨h3, ⟨⟨⟨⟨h4, h5⟩, h6⟩, h8⟩, by omega⟩, ⟨by omega, by omega⟩, h9⟩
  · rintro ⟨h1, ⟨⟨⟨⟨h2, h3⟩, h4⟩, h5⟩, h6⟩, ⟨h7, h8⟩, h9⟩
    exact ⟨⟨⟨⟨by omega, by omega⟩, h1⟩, ⟨⟨⟨⟨h2, h3⟩, h4⟩, by omega⟩, h5⟩⟩, h9⟩
theorem right6_any (K R Ct : Int) (A1 A2 A3 : Option Addr) (n1 c1 n2 c2 n3 c3 : Nat) (C : ConB) (V : Int) (w : World) (hC : ConIn w K R Ct A1 A2 A3 n1 c1 n2 c2 n3 c3 C) (hK : K = 6) :
    Calls Tryd.prog 20 #[.agg #[.int .i64 K, .slice A1 n1 c1, .slice A2 n2 c2, .int .i64 R, .int .i64 Ct, .slice A3 n3 c3], .int .i64 V] w fun e w' => e = .returned (.bool (rightB C V)) ∧ Kept w w' := by
  have h := right_tab K R Ct A1 A2 A3 n1 c1 n2 c2 n3 c3 C V w hC hK
  rwa [tabB_right (hC.kind.trans hK)] at h
end Go.Proofs.YtekcenacpklpgaaDoor

set_option maxHeartbeats 1000000
namespace Go.Proofs.YtekcenacpklpgaaDoor
open Pl

theorem less_zero {a b : Nat} (ha : a < 2 ^ 64) (hb : b < 2 ^ 64) (h : ∀ k, a.testBit k = true → b.testBit k = true) : less a b = 0 := by
  apply Nat.eq_of_testBit_eq
  intro i
  rw [testBit_less ha hb, Nat.zero_testBit]
  cases e : a.testBit i with
  | false => rfl
  | true => rw [h i e]; rfl

theorem withinL_of {us vs : List DomB} (hl : us.length = vs.length) (h : ∀ i, i < us.length → withinD (us.getD i nilD) (vs.getD i nilD) = true) : withinL us vs = true := by
  unfold withinL withinUpto
  rw [Bool.and_eq_true, List.all_eq_true]
  exact ⟨by simpa using hl, fun i hi => h i (List.mem_range.1 hi)⟩

theorem may_live {d : DomB} (h : mayB d.1 d.2 = true) : d.2 < 2 ^ 64 := Nat.lt_of_lt_of_le (mayB_lt h) (Nat.pow_le_pow_right (by decide) (mayB_len h))

/-- What is left was left. -/
theorem step_within {kp : Nat → Int → Bool} {ds : List DomB} (hm : allMay ds = true) : withinL (stepB kp ds) ds = true := by
  refine withinL_of (stepB_length _ _) fun i hi => ?_
  rw [stepB_length] at hi
  have h1 := stepB_getD kp ds hi
  unfold withinD
  unfold nilD
  rw [h1, keepD_fst]
  have h2 := allMay_at hm hi
  rw [less_zero (keepD_lt _ _) (may_live h2) (fun k hk => by
    rw [testBit_keepD] at hk
    simp only [Bool.and_eq_true] at hk
    exact hk.2.1)]
  simp

/-- Of less. -/
structure Fewer (vs us : List DomB) : Prop where
  len : vs.length = us.length
  vals : ∀ i, i < us.length → (vs.getD i nilD).1 = (us.getD i nilD).1
  bits : ∀ i, i < us.length → ∀ k, (vs.getD i nilD).2.testBit k = true → (us.getD i nilD).2.testBit k = true

theorem few_fewer (ds : List DomB) (ms : List Nat) (k : Nat) : Fewer (fewUpto ds ms k) ds := by
  refine ⟨fewUpto_length _ _ _, fun i hi => ?_, fun i hi j hj => ?_⟩
  · rw [fewUpto_getD _ _ _ hi]
    split <;> rfl
  · rw [fewUpto_getD _ _ _ hi] at hj
    split at hj
    · rw [Nat.testBit_and, Bool.and_eq_true] at hj
      exact hj.1
    · exact hj

theorem Fewer.may {vs us : List DomB} (h : Fewer vs us) (hm : allMay us = true) : allMay vs = true := by
  unfold allMay
  rw [List.all_eq_true]
  intro d hd
  obtain ⟨i, hi, rfl⟩ := List.getElem_of_mem hd
  have hi' : i < us.length := by have := h.len; omega
  have hm2 := allMay_at hm hi'
  rw [mayB_iff] at hm2 ⊢
  have e : vs.getD i nilD = vs[i] := by rw [List.getD_eq_getElem?_getD, List.getElem?_eq_getElem hi]; rfl
  have h1 := h.vals i hi'
  have h2 := h.bits i hi'
  rw [e] at h1 h2
  unfold nilD at h1 h2
  rw [h1]
  refine ⟨hm2.1, lt_of_testBit fun k hk => ?_, hm2.2.2⟩
  cases hb : vs[i].2.testBit k with
  | false => rfl
  | true =>
    have := h2 k hb
    rw [Nat.testBit_lt_two_pow] at this
    · cases this
    · exact Nat.lt_of_lt_of_le hm2.2.1 (Nat.pow_le_pow_right (by decide) hk)

theorem Fewer.mem {vs us : List DomB} (h : Fewer vs us) (hm : allMay us = true) {i : Nat} (hi : i < us.length) {v : Int} (hv : v ∈ listB (vs.getD i nilD).1 (vs.getD i nilD).2) : v ∈ listB (us.getD i nilD).1 (us.getD i nilD).2 := by
  rw [mem_listB] at hv ⊢
  obtain ⟨_, k, hk, hb, hx⟩ := hv
  refine ⟨allMay_at hm hi, k, ?_, h.bits i hi k hb, ?_⟩
  · rw [h.vals i hi] at hk; exact hk
  · rw [h.vals i hi] at hx; exact hx

theorem step_falls {kp kq : Nat → Int → Bool} {vs us : List DomB} (h : Fewer vs us) (hm : allMay us = true) (hk : ∀ i, i < us.length → ∀ v ∈ listB (vs.getD i nilD).1 (vs.getD i nilD).2, kq i v = true → kp i v = true) :
    withinL (stepB kq vs) (stepB kp us) = true := by
  refine withinL_of (by rw [stepB_length, stepB_length]; exact h.len) fun i hi => ?_
  rw [stepB_length, h.len] at hi
  have h1 := stepB_getD kq vs (show i < vs.length by rw [h.len]; exact hi)
  have h2 := stepB_getD kp us hi
  have hv := h.vals i hi
  unfold withinD
  unfold nilD at hv ⊢
  rw [h1, h2, keepD_fst, keepD_fst, hv, less_zero (keepD_lt _ _) (keepD_lt _ _) (fun k hb => by
    rw [testBit_keepD] at hb ⊢
    simp only [Bool.and_eq_true] at hb ⊢
    refine ⟨hb.1, h.bits i hi k hb.2.1, ?_⟩
    have hmem := bit_mem (allMay_at (h.may hm) (show i < vs.length by rw [h.len]; exact hi)) hb.2.1
    have := hk i hi _ hmem hb.2.2
    rw [hv] at this
    exact this)]
  simp
end Go.Proofs.YtekcenacpklpgaaDoor

set_option maxHeartbeats 1000000
set_option maxRecDepth 10000
namespace Go.Proofs.YtekcenacpklpgaaDoor
open Go Go.RowKit Pl

theorem rr1_any (K R Ct : Int) (A1 A2 A3 : Option Addr) (n1 c1 n2 c2 n3 c3 : Nat) (C : ConB) (O : Nat) (A : Option Addr) (n c : Nat) (row : List Int) (w : World) (hO : w.heap[O]? = some (.cells #[.int .i64 K, .slice A1 n1 c1, .slice A2 n2 c2, .int .i64 R, .int .i64 Ct, .slice A3 n3 c3] 24)) (hC : ConIn w K R Ct A1 A2 A3 n1 c1 n2 c2 n3 c3 C) (hI : Ints w A n row) :
    Calls Tryd.prog 16 #[.slice (some ⟨O, 0, Option.none⟩) 1 1, .slice A n c] w fun e w' => e = .returned (.bool (withinB row 1048576 && rightB C n)) ∧ Kept w w' := by
  have HO := Lib.hid hO
  have HC := Lib.hid hC
  have HI := Lib.hid hI
  have hsm := hI.small
  have Hlen := Lib.hid hI.len
  clear hO hC hI
  go_enter Tryd.func16, Tryd.ntmps16
  go_wp2_with fail
  go_loop [5] (fun v => ∃ k : Nat, k ≤ n ∧ v = .int .i64 k ∧ Hid (withinB (row.take k) 1048576 = true)) (fun v => n - (intOf v).toNat)
  case atStart => exact ⟨0, Nat.zero_le _, rfl, rfl⟩
  case round =>
    obtain ⟨k, hk, rfl, Hok⟩ := hrel
    by_cases hlt : k < n
    · obtain ⟨a, rfl, hblk⟩ := HI.out.addr (by omega)
      obtain ⟨x, Hx, hcx, hx1, hx2⟩ := HI.out.named k hlt
      have Hnext : Hid (withinB (row.take (k + 1)) 1048576 = (decide (-1048576 ≤ x) && decide (x ≤ 1048576))) := within_take (by have := Hlen.out; omega) Hx.out Hok.out
      by_cases g1 : x < -1048576
      · have hd : decide (x < -1048576) = true := by simp [g1]
        go_wp2_with fail
        go_ret
        exact ⟨ret_bool (by rw [within_bad (k := k + 1) (by rw [Hnext.out]; simp; omega)]; rfl), Kept.same _⟩
      have hd : decide (x < -1048576) = false := by simp; omega
      by_cases g2 : 1048576 < x
      · have hd2 : decide (1048576 < x) = true := by simp [g2]
        go_wp2_with fail
        go_ret
        exact ⟨ret_bool (by rw [within_bad (k := k + 1) (by rw [Hnext.out]; simp; omega)]; rfl), Kept.same _⟩
      have hd2 : decide (1048576 < x) = false := by simp; omega
      go_wp2_with fail
      go_round
      case rel => exact ⟨k + 1, by omega, by go_num, by show _ = _; rw [Hnext.out]; simp; omega⟩
      case measure => simp [intOf]; omega
    · have e : k = n := by omega
      subst e
      have Hw : Hid (withinB row 1048576 = true) := by show _ = _; have := Hok.out; rwa [List.take_of_length_le (by have := Hlen.out; omega)] at this
      go_wp2_with fail
      go_loopw [6] (fun v wr => ∃ j : Nat, j ≤ 1 ∧ v = .int .i64 j ∧ Hid (Kept w wr) ∧ Hid (j = 1 → rightB C k = true)) (fun v _ => 1 - (intOf v).toNat)
      case atStart => exact ⟨0, Nat.zero_le _, rfl, Kept.same _, fun h => by cases h⟩
      case round =>
        obtain ⟨j, hj, rfl, Hkw, Hr⟩ := hrel
        by_cases hj1 : j = 1
        · subst hj1
          have hr := Hr.out rfl
          go_wp2_with fail
          go_ret
          exact ⟨ret_bool (by simp [Hw.out]), Hkw.out⟩
        · have e : j = 0 := by omega
          subst e
          have hb := Hkw.out.heapAt HO.out
          have b0 := cell_at hb 0
          have b1 := cell_at hb 1
          have b2 := cell_at hb 2
          have b3 := cell_at hb 3
          have b4 := cell_at hb 4
          have b5 := cell_at hb 5
          simp only [List.getElem?_toArray, List.getElem?_cons_zero, List.getElem?_cons_succ] at b0 b1 b2 b3 b4 b5
          clear hb
          have HQ := Lib.hid (rright_any K R Ct A1 A2 A3 n1 c1 n2 c2 n3 c3 C k wr (HC.out.kept Hkw.out))
          generalize hbq : rightB C k = b at HQ
          have Hbq := Lib.hid hbq
          clear hbq
          clear Hr
          cases b with
          | true =>
            go_wp2_with fail
            refine HQ.out.mono ?_
            rintro e w1 ⟨rfl, hk1⟩
            have Hk1 := Lib.hid (Hkw.out.then hk1)
            clear hk1 b0 b1 b2 b3 b4 b5 HQ
            go_wp2_with fail
            go_roundw
            case rel => exact ⟨1, by omega, by go_num, Hk1.out, by first | exact fun _ => Hbq.out | exact fun _ => trivial | trivial⟩
            case measure => simp [intOf]
          | false =>
            go_wp2_with fail
            refine HQ.out.mono ?_
            rintro e w1 ⟨rfl, hk1⟩
            have Hk1 := Lib.hid (Hkw.out.then hk1)
            clear hk1 b0 b1 b2 b3 b4 b5 HQ
            go_wp2_with fail
            go_ret
            exact ⟨ret_bool (by rw [Hbq.out]; simp), Hk1.out⟩

/-- A row's values at a constraint's variables. -/
def rowVals (C : ConB) (row : List Int) : List Int := C.vars.map fun v => row.getD v.toNat 0
/-- Does an element hold? -/
def holdsE (C : ConB) (row : List Int) : Bool :=
  decide (0 ≤ (rowVals C row).getD 0 0) && decide ((rowVals C row).getD 0 0 < C.nums.length) && decide (C.nums.getD ((rowVals C row).getD 0 0).toNat 0 = (rowVals C row).getD 1 0)

theorem holds4_any (K R Ct : Int) (A1 A2 A3 : Option Addr) (n1 c1 n2 c2 n3 c3 : Nat) (C : ConB) (A : Option Addr) (n c : Nat) (row : List Int) (w : World) (hC : ConIn w K R Ct A1 A2 A3 n1 c1 n2 c2 n3 c3 C) (hI : Ints w A n row) (hK : K = 4) (hv : varsOk C.vars n = true) (hl : C.vars.length = 2) :
    Calls Tryd.prog 17 #[.agg #[.int .i64 K, .slice A1 n1 c1, .slice A2 n2 c2, .int .i64 R, .int .i64 Ct, .slice A3 n3 c3], .slice A n c] w fun e w' => e = .returned (.bool (holdsE C row)) ∧ Kept w w' := by
  subst hK
  obtain ⟨i0, hi, hz0, hz1, hz2⟩ := info_parts info_int
  have HC := Lib.hid hC
  have HI := Lib.hid hI
  have hsm := hI.small
  have Hlen := Lib.hid hI.len
  have Hl1 := Lib.hid hC.vars.len
  have Hl3 := Lib.hid hC.nums.len
  have hs3 := hC.nums.small
  have Hv := Lib.hid hv
  have hn1 : n1 = 2 := by have := hC.vars.len; omega
  have hrl : (rowVals C row).length = 2 := by unfold rowVals; rw [List.length_map]; exact hl
  have Hrl := Lib.hid hrl
  have Hrng : Hid (∀ x ∈ rowVals C row, -9223372036854775808 ≤ x ∧ x ≤ 9223372036854775807) := fun x hx => by
    unfold rowVals at hx
    rw [List.mem_map] at hx
    obtain ⟨v, _, rfl⟩ := hx
    exact HI.out.getD_rng _
  subst hn1
  clear hC hI hv hl hrl
  have HB : Hid (∀ wr, Kept (w.alloc (.cells #[.int .i64 4, .slice A1 2 c1, .slice A2 n2 c2, .int .i64 R, .int .i64 Ct, .slice A3 n3 c3] 24)) wr → wr.heap[w.heap.size]? = some (.cells #[.int .i64 4, .slice A1 2 c1, .slice A2 n2 c2, .int .i64 R, .int .i64 Ct, .slice A3 n3 c3] 24)) := fun wr h => h.heapAt (heap_new _ _)
  go_enter Tryd.func17, Tryd.ntmps17
  go_wp2_with fail
  go_loopw [5, 6] (fun u v wr => ∃ k : Nat, k ≤ 2 ∧ v = .int .i64 k ∧ wr.ownsRow (w.heap.size + 1) 3 1 u k (((rowVals C row).take k).map (Value.int .i64)) ∧ Hid (Kept (w.alloc (.cells #[.int .i64 4, .slice A1 2 c1, .slice A2 n2 c2, .int .i64 R, .int .i64 Ct, .slice A3 n3 c3] 24)) wr)) (fun _ v _ => 2 - (intOf v).toNat)
  case atStart => exact ⟨0, Nat.zero_le _, rfl, own_empty (heap_new2 _ _ _) (Nat.le_refl _), Kept.box _ _⟩
  case round =>
    obtain ⟨k, hk, rfl, hown, Hkw⟩ := hrel
    have hb := HB.out wr Hkw.out
    have b0 := cell_at hb 0
    have b1 := cell_at hb 1
    have b2 := cell_at hb 2
    have b3 := cell_at hb 3
    have b4 := cell_at hb 4
    have b5 := cell_at hb 5
    simp only [List.getElem?_toArray, List.getElem?_cons_zero, List.getElem?_cons_succ] at b0 b1 b2 b3 b4 b5
    clear hb
    have hszr := Hkw.out.size
    simp only [World.size_alloc] at hszr
    by_cases hlt : k < 2
    · have hSr := HC.out.vars.kept ((Kept.box _ _).then Hkw.out)
      have hRr := HI.out.kept ((Kept.box _ _).then Hkw.out)
      obtain ⟨a, rfl, hblk⟩ := hSr.addr (by omega)
      obtain ⟨x, Hx, hcx, _, _⟩ := hSr.named k hlt
      obtain ⟨hx1, hx2⟩ := varsOk_rng Hv.out (show k < C.vars.length by have := Hl1.out; omega)
      rw [Hx.out] at hx1 hx2
      obtain ⟨p, rfl⟩ := Int.eq_ofNat_of_zero_le hx1
      have hpn : p < n := by omega
      obtain ⟨ar, rfl, hblk2⟩ := hRr.addr (by omega)
      obtain ⟨y, Hy, hcy, hy1, hy2⟩ := hRr.named p hpn
      have Htake : Hid (((rowVals C row).take (k + 1)).map (Value.int .i64) = ((rowVals C row).take k).map (Value.int .i64) ++ [.int .i64 y]) := by
        show _ = _
        rw [take_succ_getD (x := y) (by have := Hrl.out; omega) ?_]
        · simp
        · unfold rowVals
          rw [List.getD_eq_getElem?_getD, List.getElem?_map]
          have h2 := Hx.out
          rw [List.getD_eq_getElem?_getD, List.getElem?_eq_getElem (by have := Hl1.out; omega)] at h2
          rw [List.getElem?_eq_getElem (by have := Hl1.out; omega)]
          simp only [Option.getD_some] at h2
          simp only [Option.map_some, Option.getD_some, h2, Int.toNat_natCast]
          exact Hy.out
      clear hSr hRr
      go_wp2_with (at_builtin; refine wpList_append_own _ rfl _ _ 22 rfl (w.heap.size + 1) 3 i0 (.int .i64 0) 1 8 Tryd.underlying22 hi hz0 hz1 hz2 rfl (by decide) _ _ _ rfl (hown.alloc _) ⟨wr.heap.size, 0, none⟩ 1 1 [.int .i64 y] rfl rfl (cell_one_new _ _ _) (by simp [Value.oneCell']) (by unfold maxLen; omega) (by omega) (by simp; omega) ?_; intro v' w2 hown' hgrow _; clear b0 b1 b2 b3 b4 b5)
      go_roundw
      case rel => exact ⟨k + 1, by omega, by go_num, by rw [Htake.out]; exact hown', Hkw.out.appended hown (by simp) hgrow⟩
      case measure => simp [intOf]; omega
    · have e : k = 2 := by omega
      subst e
      rw [List.take_of_length_le (by have := Hrl.out; omega)] at hown
      obtain ⟨A', c', rfl, hI', hfr⟩ := Ints.of_own hown Hrng.out
      obtain ⟨a, rfl, hba⟩ := hI'.addr (by omega)
      obtain ⟨ba, oa, ea, hca⟩ := hI'.plain (by omega)
      cases ea
      have ca0 := hca 0 (by have := Hrl.out; omega)
      have ca1 := hca 1 (by have := Hrl.out; omega)
      obtain ⟨x0, hx0⟩ : ∃ x0, x0 = (rowVals C row).getD 0 0 := ⟨_, rfl⟩
      obtain ⟨x1, hx1⟩ : ∃ x1, x1 = (rowVals C row).getD 1 0 := ⟨_, rfl⟩
      have Hh : Hid (holdsE C row = (decide (0 ≤ x0) && decide (x0 < n3) && decide (C.nums.getD x0.toNat 0 = x1))) := by
        show _ = _
        unfold holdsE; rw [← hx0, ← hx1, Hl3.out]
      rw [← hx0] at ca0
      rw [← hx1] at ca1
      simp only [Nat.add_zero] at ca0
      have Hca0 := Lib.hid ca0
      have Hca1 := Lib.hid ca1
      clear hca hI' hfr hown hx0 hx1
      go_wp2_with fail
      clear b0 b1 b2 b3 b4 b5 ca0 ca1
      go_loopw [7] (fun v wq => ∃ j : Nat, j ≤ n3 ∧ v = .int .i64 j ∧ Hid (Kept wr wq) ∧ Hid (x0 < 0 ∨ (j : Int) ≤ x0)) (fun v _ => n3 - (intOf v).toNat)
      case atStart => exact ⟨0, Nat.zero_le _, rfl, Kept.same _, by show _ ∨ _; omega⟩
      case round =>
        obtain ⟨j, hj, rfl, Hkq, Hx0⟩ := hrel
        have Hk2 := Lib.hid (Hkw.out.then Hkq.out)
        have hb := HB.out wr Hk2.out
        have b0 := cell_at hb 0
        have b1 := cell_at hb 1
        have b2 := cell_at hb 2
        have b3 := cell_at hb 3
        have b4 := cell_at hb 4
        have b5 := cell_at hb 5
        simp only [List.getElem?_toArray, List.getElem?_cons_zero, List.getElem?_cons_succ] at b0 b1 b2 b3 b4 b5
        clear hb
        have ca0 := Hkq.out.cellAt Hca0.out
        have ca1 := Hkq.out.cellAt Hca1.out
        have hlb : w.heap.size < wr.heap.size := World.block_lt_of_cell? wr _ b0
        have hlv : ba < wr.heap.size := World.block_lt_of_cell? wr _ ca0
        by_cases hlt2 : j < n3
        · have hSq := HC.out.nums.kept ((Kept.box _ _).then Hk2.out)
          obtain ⟨a3, rfl, hb3⟩ := hSq.addr (by omega)
          obtain ⟨y, Hy, hcy, _, _⟩ := hSq.named j hlt2
          clear hSq
          by_cases he : x0 = (j : Int)
          · have hd5 : (x0 == (j : Int)) = true := by simp [he]
            have hh : holdsE C row = decide (y = x1) := by
              rw [Hh.out, he, Int.toNat_natCast, Hy.out]
              have a1 : decide ((0 : Int) ≤ j) = true := by simp
              have a2 : decide ((j : Int) < n3) = true := by simp; omega
              rw [a1, a2]; rfl
            have Hh2 := Lib.hid hh
            clear hh
            go_wp2_with fail
            refine wp_region_quiet_below (by kernel_rfl) (by kernel_rfl) ?_
            repeat (any_goals (first | go_big_quiet_step ((fail)) | quiet_step ((fail)) | (refine wpQuiet_step (fun K hK => ?_); go_simp; split <;> (refine hK _ ?_; clear hK K))))
            all_goals (refine wpQuiet_nil ?_; intro w1 hw'; replace hw' := Kept.regrown hw')
            have Hk9 := Lib.hid ((Kept.box _ _).then (Hk2.out.then hw'))
            clear hw'
            go_wp2_with fail
            go_ret
            exact ⟨ret_bool (by rw [Hh2.out]; rfl), Hk9.out⟩
          · have hd5 : (x0 == (j : Int)) = false := by simp [he]
            go_wp2_with fail
            go_roundw
            case rel => exact ⟨j + 1, by omega, by go_num, Hkq.out, by show _ ∨ _; have := Hx0.out; omega⟩
            case measure => simp [intOf]; omega
        · have e : j = n3 := by omega
          subst e
          have hh : holdsE C row = false := by
            rw [Hh.out]
            have := Hx0.out
            by_cases h0 : x0 < 0
            · have : decide (0 ≤ x0) = false := by simp; omega
              rw [this]; rfl
            · have : decide (x0 < (j : Int)) = false := by simp; omega
              rw [this]; simp
          have Hh2 := Lib.hid hh
          clear hh
          go_wp2_with fail
          go_ret
          exact ⟨ret_bool (by rw [Hh2.out]), (Kept.box _ _).then Hk2.out⟩
end Go.Proofs.YtekcenacpklpgaaDoor

/-
  Contracts of the document's answer for rows: Right, of one constraint.
-/
import Derived.Test.YtjmegicopdbkdaaDoorRef08
import Derived.Test.YtjmegicopdbkdaaDoorRef04
set_option maxHeartbeats 1000000
set_option maxRecDepth 10000
namespace Go.Proofs.YtjmegicopdbkdaaDoor
open Go Go.RowKit Pl

theorem rr1_any (K R Ct : Int) (A1 A2 A3 : Option Addr) (n1 c1 n2 c2 n3 c3 : Nat) (C : ConB) (O : Nat) (A : Option Addr) (n c : Nat) (row : List Int) (w : World) (hO : w.heap[O]? = some (.cells #[.int .i64 K, .slice A1 n1 c1, .slice A2 n2 c2, .int .i64 R, .int .i64 Ct, .slice A3 n3 c3] 24)) (hC : ConIn w K R Ct A1 A2 A3 n1 c1 n2 c2 n3 c3 C) (hI : Ints w A n row) :
    Calls Tryd.prog 19 #[.slice (some ⟨O, 0, Option.none⟩) 1 1, .slice A n c] w fun e w' => e = .returned (.bool (withinB row 1048576 && rightB C n)) ∧ Kept w w' := by
  have HO := Lib.hid hO
  have HC := Lib.hid hC
  have HI := Lib.hid hI
  have hsm := hI.small
  have Hlen := Lib.hid hI.len
  clear hO hC hI
  go_enter Tryd.func19, Tryd.ntmps19
  go_wp2_with fail
  go_loop [5] (fun v => ∃ k : Nat, k ≤ n ∧ v = .int .i64 k ∧ Hid (withinB (row.take k) 1048576 = true)) (fun v => n - (intOf v).toNat)
  case atStart => exact ⟨0, Nat.zero_le _, rfl, rfl⟩
  case round =>
    obtain ⟨k, hk, rfl, Hok⟩ := hrel
    by_cases hlt : k < n
    · obtain ⟨a, rfl, hblk⟩ := HI.out.addr (by omega)
      obtain ⟨x, Hx, hcx, hx1, hx2⟩ := HI.out.named k hlt
      have Hnext : Hid (withinB (row.take (k + 1)) 1048576 = (decide (-1048576 ≤ x) && decide (x ≤ 1048576))) := within_take (by have := Hlen.out; omega) Hx.out Hok.out
      by_cases g1 : x < -1048576
      · have hd : decide (x < -1048576) = true := by simp [g1]
        go_wp2_with fail
        go_ret
        exact ⟨ret_bool (by rw [within_bad (k := k + 1) (by rw [Hnext.out]; simp; omega)]; rfl), Kept.same _⟩
      have hd : decide (x < -1048576) = false := by simp; omega
      by_cases g2 : 1048576 < x
      · have hd2 : decide (1048576 < x) = true := by simp [g2]
        go_wp2_with fail
        go_ret
        exact ⟨ret_bool (by rw [within_bad (k := k + 1) (by rw [Hnext.out]; simp; omega)]; rfl), Kept.same _⟩
      have hd2 : decide (1048576 < x) = false := by simp; omega
      go_wp2_with fail
      go_round
      case rel => exact ⟨k + 1, by omega, by go_num, by show _ = _; rw [Hnext.out]; simp; omega⟩
      case measure => simp [intOf]; omega
    · have e : k = n := by omega
      subst e
      have Hw : Hid (withinB row 1048576 = true) := by show _ = _; have := Hok.out; rwa [List.take_of_length_le (by have := Hlen.out; omega)] at this
      go_wp2_with fail
      go_loopw [6] (fun v wr => ∃ j : Nat, j ≤ 1 ∧ v = .int .i64 j ∧ Hid (Kept w wr) ∧ Hid (j = 1 → rightB C k = true)) (fun v _ => 1 - (intOf v).toNat)
      case atStart => exact ⟨0, Nat.zero_le _, rfl, Kept.same _, fun h => by cases h⟩
      case round =>
        obtain ⟨j, hj, rfl, Hkw, Hr⟩ := hrel
        by_cases hj1 : j = 1
        · subst hj1
          have hr := Hr.out rfl
          go_wp2_with fail
          go_ret
          exact ⟨ret_bool (by simp [Hw.out]), Hkw.out⟩
        · have e : j = 0 := by omega
          subst e
          have hb := Hkw.out.heapAt HO.out
          have b0 := cell_at hb 0
          have b1 := cell_at hb 1
          have b2 := cell_at hb 2
          have b3 := cell_at hb 3
          have b4 := cell_at hb 4
          have b5 := cell_at hb 5
          simp only [List.getElem?_toArray, List.getElem?_cons_zero, List.getElem?_cons_succ] at b0 b1 b2 b3 b4 b5
          clear hb
          have HQ := Lib.hid (rright_any K R Ct A1 A2 A3 n1 c1 n2 c2 n3 c3 C k wr (HC.out.kept Hkw.out))
          generalize hbq : rightB C k = b at HQ
          have Hbq := Lib.hid hbq
          clear hbq
          clear Hr
          cases b with
          | true =>
            go_wp2_with fail
            refine HQ.out.mono ?_
            rintro e w1 ⟨rfl, hk1⟩
            have Hk1 := Lib.hid (Hkw.out.then hk1)
            clear hk1 b0 b1 b2 b3 b4 b5 HQ
            go_wp2_with fail
            go_roundw
            case rel => exact ⟨1, by omega, by go_num, Hk1.out, by first | exact fun _ => Hbq.out | exact fun _ => trivial | trivial⟩
            case measure => simp [intOf]
          | false =>
            go_wp2_with fail
            refine HQ.out.mono ?_
            rintro e w1 ⟨rfl, hk1⟩
            have Hk1 := Lib.hid (Hkw.out.then hk1)
            clear hk1 b0 b1 b2 b3 b4 b5 HQ
            go_wp2_with fail
            go_ret
            exact ⟨ret_bool (by rw [Hbq.out]; simp), Hk1.out⟩

/-- A row's values at a constraint's variables. -/
def rowVals (C : ConB) (row : List Int) : List Int := C.vars.map fun v => row.getD v.toNat 0
/-- Does an element hold? -/
def holdsE (C : ConB) (row : List Int) : Bool :=
  decide (0 ≤ (rowVals C row).getD 0 0) && decide ((rowVals C row).getD 0 0 < C.nums.length) && decide (C.nums.getD ((rowVals C row).getD 0 0).toNat 0 = (rowVals C row).getD 1 0)

theorem holds4_any (K R Ct : Int) (A1 A2 A3 : Option Addr) (n1 c1 n2 c2 n3 c3 : Nat) (C : ConB) (A : Option Addr) (n c : Nat) (row : List Int) (w : World) (hC : ConIn w K R Ct A1 A2 A3 n1 c1 n2 c2 n3 c3 C) (hI : Ints w A n row) (hK : K = 4) (hv : varsOk C.vars n = true) (hl : C.vars.length = 2) :
    Calls Tryd.prog 20 #[.agg #[.int .i64 K, .slice A1 n1 c1, .slice A2 n2 c2, .int .i64 R, .int .i64 Ct, .slice A3 n3 c3], .slice A n c] w fun e w' => e = .returned (.bool (holdsE C row)) ∧ Kept w w' := by
  subst hK
  obtain ⟨i0, hi, hz0, hz1, hz2⟩ := info_parts info_int
  have HC := Lib.hid hC
  have HI := Lib.hid hI
  have hsm := hI.small
  have Hlen := Lib.hid hI.len
  have Hl1 := Lib.hid hC.vars.len
  have Hl3 := Lib.hid hC.nums.len
  have hs3 := hC.nums.small
  have Hv := Lib.hid hv
  have hn1 : n1 = 2 := by have := hC.vars.len; omega
  have hrl : (rowVals C row).length = 2 := by unfold rowVals; rw [List.length_map]; exact hl
  have Hrl := Lib.hid hrl
  have Hrng : Hid (∀ x ∈ rowVals C row, -9223372036854775808 ≤ x ∧ x ≤ 9223372036854775807) := fun x hx => by
    unfold rowVals at hx
    rw [List.mem_map] at hx
    obtain ⟨v, _, rfl⟩ := hx
    exact HI.out.getD_rng _
  subst hn1
  clear hC hI hv hl hrl
  have HB : Hid (∀ wr, Kept (w.alloc (.cells #[.int .i64 4, .slice A1 2 c1, .slice A2 n2 c2, .int .i64 R, .int .i64 Ct, .slice A3 n3 c3] 24)) wr → wr.heap[w.heap.size]? = some (.cells #[.int .i64 4, .slice A1 2 c1, .slice A2 n2 c2, .int .i64 R, .int .i64 Ct, .slice A3 n3 c3] 24)) := fun wr h => h.heapAt (heap_new _ _)
  go_enter Tryd.func20, Tryd.ntmps20
  go_wp2_with fail
  go_loopw [5, 6] (fun u v wr => ∃ k : Nat, k ≤ 2 ∧ v = .int .i64 k ∧ wr.ownsRow (w.heap.size + 1) 3 1 u k (((rowVals C row).take k).map (Value.int .i64)) ∧ Hid (Kept (w.alloc (.cells #[.int .i64 4, .slice A1 2 c1, .slice A2 n2 c2, .int .i64 R, .int .i64 Ct, .slice A3 n3 c3] 24)) wr)) (fun _ v _ => 2 - (intOf v).toNat)
  case atStart => exact ⟨0, Nat.zero_le _, rfl, own_empty (heap_new2 _ _ _) (Nat.le_refl _), Kept.box _ _⟩
  case round =>
    obtain ⟨k, hk, rfl, hown, Hkw⟩ := hrel
    have hb := HB.out wr Hkw.out
    have b0 := cell_at hb 0
    have b1 := cell_at hb 1
    have b2 := cell_at hb 2
    have b3 := cell_at hb 3
    have b4 := cell_at hb 4
    have b5 := cell_at hb 5
    simp only [List.getElem?_toArray, List.getElem?_cons_zero, List.getElem?_cons_succ] at b0 b1 b2 b3 b4 b5
    clear hb
    have hszr := Hkw.out.size
    simp only [World.size_alloc] at hszr
    by_cases hlt : k < 2
    · have hSr := HC.out.vars.kept ((Kept.box _ _).then Hkw.out)
      have hRr := HI.out.kept ((Kept.box _ _).then Hkw.out)
      obtain ⟨a, rfl, hblk⟩ := hSr.addr (by omega)
      obtain ⟨x, Hx, hcx, _, _⟩ := hSr.named k hlt
      obtain ⟨hx1, hx2⟩ := varsOk_rng Hv.out (show k < C.vars.length by have := Hl1.out; omega)
      rw [Hx.out] at hx1 hx2
      obtain ⟨p, rfl⟩ := Int.eq_ofNat_of_zero_le hx1
      have hpn : p < n := by omega
      obtain ⟨ar, rfl, hblk2⟩ := hRr.addr (by omega)
      obtain ⟨y, Hy, hcy, hy1, hy2⟩ := hRr.named p hpn
      have Htake : Hid (((rowVals C row).take (k + 1)).map (Value.int .i64) = ((rowVals C row).take k).map (Value.int .i64) ++ [.int .i64 y]) := by
        show _ = _
        rw [take_succ_getD (x := y) (by have := Hrl.out; omega) ?_]
        · simp
        · unfold rowVals
          rw [List.getD_eq_getElem?_getD, List.getElem?_map]
          have h2 := Hx.out
          rw [List.getD_eq_getElem?_getD, List.getElem?_eq_getElem (by have := Hl1.out; omega)] at h2
          rw [List.getElem?_eq_getElem (by have := Hl1.out; omega)]
          simp only [Option.getD_some] at h2
          simp only [Option.map_some, Option.getD_some, h2, Int.toNat_natCast]
          exact Hy.out
      clear hSr hRr
      go_wp2_with (at_builtin; refine wpList_append_own _ rfl _ _ 22 rfl (w.heap.size + 1) 3 i0 (.int .i64 0) 1 8 Tryd.underlying22 hi hz0 hz1 hz2 rfl (by decide) _ _ _ rfl (hown.alloc _) ⟨wr.heap.size, 0, none⟩ 1 1 [.int .i64 y] rfl rfl (cell_one_new _ _ _) (by simp [Value.oneCell']) (by unfold maxLen; omega) (by omega) (by simp; omega) ?_; intro v' w2 hown' hgrow _; clear b0 b1 b2 b3 b4 b5)
      go_roundw
      case rel => exact ⟨k + 1, by omega, by go_num, by rw [Htake.out]; exact hown', Hkw.out.appended hown (by simp) hgrow⟩
      case measure => simp [intOf]; omega
    · have e : k = 2 := by omega
      subst e
      rw [List.take_of_length_le (by have := Hrl.out; omega)] at hown
      obtain ⟨A', c', rfl, hI', hfr⟩ := Ints.of_own hown Hrng.out
      obtain ⟨a, rfl, hba⟩ := hI'.addr (by omega)
      obtain ⟨ba, oa, ea, hca⟩ := hI'.plain (by omega)
      cases ea
      have ca0 := hca 0 (by have := Hrl.out; omega)
      have ca1 := hca 1 (by have := Hrl.out; omega)
      obtain ⟨x0, hx0⟩ : ∃ x0, x0 = (rowVals C row).getD 0 0 := ⟨_, rfl⟩
      obtain ⟨x1, hx1⟩ : ∃ x1, x1 = (rowVals C row).getD 1 0 := ⟨_, rfl⟩
      have Hh : Hid (holdsE C row = (decide (0 ≤ x0) && decide (x0 < n3) && decide (C.nums.getD x0.toNat 0 = x1))) := by
        show _ = _
        unfold holdsE; rw [← hx0, ← hx1, Hl3.out]
      rw [← hx0] at ca0
      rw [← hx1] at ca1
      simp only [Nat.add_zero] at ca0
      have Hca0 := Lib.hid ca0
      have Hca1 := Lib.hid ca1
      clear hca hI' hfr hown hx0 hx1
      go_wp2_with fail
      clear b0 b1 b2 b3 b4 b5 ca0 ca1
      go_loopw [7] (fun v wq => ∃ j : Nat, j ≤ n3 ∧ v = .int .i64 j ∧ Hid (Kept wr wq) ∧ Hid (x0 < 0 ∨ (j : Int) ≤ x0)) (fun v _ => n3 - (intOf v).toNat)
      case atStart => exact ⟨0, Nat.zero_le _, rfl, Kept.same _, by show _ ∨ _; omega⟩
      case round =>
        obtain ⟨j, hj, rfl, Hkq, Hx0⟩ := hrel
        have Hk2 := Lib.hid (Hkw.out.then Hkq.out)
        have hb := HB.out wr Hk2.out
        have b0 := cell_at hb 0
        have b1 := cell_at hb 1
        have b2 := cell_at hb 2
        have b3 := cell_at hb 3
        have b4 := cell_at hb 4
        have b5 := cell_at hb 5
        simp only [List.getElem?_toArray, List.getElem?_cons_zero, List.getElem?_cons_succ] at b0 b1 b2 b3 b4 b5
        clear hb
        have ca0 := Hkq.out.cellAt Hca0.out
        have ca1 := Hkq.out.cellAt Hca1.out
        have hlb : w.heap.size < wr.heap.size := World.block_lt_of_cell? wr _ b0
        have hlv : ba < wr.heap.size := World.block_lt_of_cell? wr _ ca0
        by_cases hlt2 : j < n3
        · have hSq := HC.out.nums.kept ((Kept.box _ _).then Hk2.out)
          obtain ⟨a3, rfl, hb3⟩ := hSq.addr (by omega)
          obtain ⟨y, Hy, hcy, _, _⟩ := hSq.named j hlt2
          clear hSq
          by_cases he : x0 = (j : Int)
          · have hd5 : (x0 == (j : Int)) = true := by simp [he]
            have hh : holdsE C row = decide (y = x1) := by
              rw [Hh.out, he, Int.toNat_natCast, Hy.out]
              have a1 : decide ((0 : Int) ≤ j) = true := by simp
              have a2 : decide ((j : Int) < n3) = true := by simp; omega
              rw [a1, a2]; rfl
            have Hh2 := Lib.hid hh
            clear hh
            go_wp2_with fail
            refine wp_region_quiet_below (by kernel_rfl) (by kernel_rfl) ?_
            repeat (any_goals (first | go_big_quiet_step ((fail)) | quiet_step ((fail)) | (refine wpQuiet_step (fun K hK => ?_); go_simp; split <;> (refine hK _ ?_; clear hK K))))
            all_goals (refine wpQuiet_nil ?_; intro w1 hw'; replace hw' := Kept.regrown hw')
            have Hk9 := Lib.hid ((Kept.box _ _).then (Hk2.out.then hw'))
            clear hw'
            go_wp2_with fail
            go_ret
            exact ⟨ret_bool (by rw [Hh2.out]; rfl), Hk9.out⟩
          · have hd5 : (x0 == (j : Int)) = false := by simp [he]
            go_wp2_with fail
            go_roundw
            case rel => exact ⟨j + 1, by omega, by go_num, Hkq.out, by show _ ∨ _; have := Hx0.out; omega⟩
            case measure => simp [intOf]; omega
        · have e : j = n3 := by omega
          subst e
          have hh : holdsE C row = false := by
            rw [Hh.out]
            have := Hx0.out
            by_cases h0 : x0 < 0
            · have : decide (0 ≤ x0) = false := by simp; omega
              rw [this]; rfl
            · have : decide (x0 < (j : Int)) = false := by simp; omega
              rw [this]; simp
          have Hh2 := Lib.hid hh
          clear hh
          go_wp2_with fail
          go_ret
          exact ⟨ret_bool (by rw [Hh2.out]), (Kept.box _ _).then Hk2.out⟩
end Go.Proofs.YtjmegicopdbkdaaDoor

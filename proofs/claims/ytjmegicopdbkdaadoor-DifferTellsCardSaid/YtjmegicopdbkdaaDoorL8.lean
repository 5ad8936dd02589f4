/-
  Contracts and plain laws that the card rests on, part 8.
-/
import Derived.Test.YtjmegicopdbkdaaDoorL7
import Derived.Test.YtjmegicopdbkdaaDoorL6
import Derived.Test.YtjmegicopdbkdaaDoorL2
set_option maxHeartbeats 1000000
set_option maxRecDepth 10000
namespace Go.Proofs.YtjmegicopdbkdaaDoor
open Go Go.RowKit Pl

theorem rr1_any (K R Ct : Int) (A1 A2 A3 : Option Addr) (n1 c1 n2 c2 n3 c3 : Nat) (C : ConB) (O : Nat) (A : Option Addr) (n c : Nat) (row : List Int) (w : World) (hO : w.heap[O]? = some (.cells #[.int .i64 K, .slice A1 n1 c1, .slice A2 n2 c2, .int .i64 R, .int .i64 Ct, .slice A3 n3 c3] 24)) (hC : ConIn w K R Ct A1 A2 A3 n1 c1 n2 c2 n3 c3 C) (hI : Ints w A n row) :
    Calls Tryd.prog 19 #[.slice (some ⟨O, 0, Option.none⟩) 1 1, .slice A n c] w fun e w' => e = .returned (.bool (withinB row 1048576 && rightB C n)) ∧ Kept w w' := by
  have HO := Lib.hid hO
  have HC := Lib.hid hC
  have HI := Lib.hid hI
  have hsm := hI.small
  have Hlen := Lib.hid hI.len
  clear hO hC hI
  go_enter Tryd.func19, Tryd.ntmps19
  go_wp2_with fail
  go_loop [5] (fun v => ∃ k : Nat, k ≤ n ∧ v = .int .i64 k ∧ Hid (withinB (row.take k) 1048576 = true)) (fun v => n - (intOf v).toNat)
  case atStart => exact ⟨0, Nat.zero_le _, rfl, rfl⟩
  case round =>
    obtain ⟨k, hk, rfl, Hok⟩ := hrel
    by_cases hlt : k < n
    · obtain ⟨a, rfl, hblk⟩ := HI.out.addr (by omega)
      obtain ⟨x, Hx, hcx, hx1, hx2⟩ := HI.out.named k hlt
      have Hnext : Hid (withinB (row.take (k + 1)) 1048576 = (decide (-1048576 ≤ x) && decide (x ≤ 1048576))) := within_take (by have := Hlen.out; omega) Hx.out Hok.out
      by_cases g1 : x < -1048576
      · have hd : decide (x < -1048576) = true := by simp [g1]
        go_wp2_with fail
        go_ret
        exact ⟨ret_bool (by rw [within_bad (k := k + 1) (by rw [Hnext.out]; simp; omega)]; rfl), Kept.same _⟩
      have hd : decide (x < -1048576) = false := by simp; omega
      by_cases g2 : 1048576 < x
      · have hd2 : decide (1048576 < x) = true := by simp [g2]
        go_wp2_with fail
        go_ret
        exact ⟨ret_bool (by rw [within_bad (k := k + 1) (by rw [Hnext.out]; simp; omega)]; rfl), Kept.same _⟩
      have hd2 : decide (1048576 < x) = false := by simp; omega
      go_wp2_with fail
      go_round
      case rel => exact ⟨k + 1, by omega, by go_num, by show _ = _; rw [Hnext.out]; simp; omega⟩
      case measure => simp [intOf]; omega
    · have e : k = n := by omega
      subst e
      have Hw : Hid (withinB row 1048576 = true) := by show _ = _; have := Hok.out; rwa [List.take_of_length_le (by have := Hlen.out; omega)] at this
      go_wp2_with fail
      go_loopw [6] (fun v wr => ∃ j : Nat, j ≤ 1 ∧ v = .int .i64 j ∧ Hid (Kept w wr) ∧ Hid (j = 1 → rightB C k = true)) (fun v _ => 1 - (intOf v).toNat)
      case atStart => exact ⟨0, Nat.zero_le _, rfl, Kept.same _, fun h => by cases h⟩
      case round =>
        obtain ⟨j, hj, rfl, Hkw, Hr⟩ := hrel
        by_cases hj1 : j = 1
        · subst hj1
          have hr := Hr.out rfl
          go_wp2_with fail
          go_ret
          exact ⟨ret_bool (by simp [Hw.out]), Hkw.out⟩
        · have e : j = 0 := by omega
          subst e
          have hb := Hkw.out.heapAt HO.out
          have b0 := cell_at hb 0
          have b1 := cell_at hb 1
          have b2 := cell_at hb 2
          have b3 := cell_at hb 3
          have b4 := cell_at hb 4
          have b5 := cell_at hb 5
          simp only [List.getElem?_toArray, List.getElem?_cons_zero, List.getElem?_cons_succ] at b0 b1 b2 b3 b4 b5
          clear hb
          have HQ := Lib.hid (rright_any K R Ct A1 A2 A3 n1 c1 n2 c2 n3 c3 C k wr (HC.out.kept Hkw.out))
          generalize hbq : rightB C k = b at HQ
          have Hbq := Lib.hid hbq
          clear hbq
          clear Hr
          cases b with
          | true =>
            go_wp2_with fail
            refine HQ.out.mono ?_
            rintro e w1 ⟨rfl, hk1⟩
            have Hk1 := Lib.hid (Hkw.out.then hk1)
            clear hk1 b0 b1 b2 b3 b4 b5 HQ
            go_wp2_with fail
            go_roundw
            case rel => exact ⟨1, by omega, by go_num, Hk1.out, by first | exact fun _ => Hbq.out | exact fun _ => trivial | trivial⟩
            case measure => simp [intOf]
          | false =>
            go_wp2_with fail
            refine HQ.out.mono ?_
            rintro e w1 ⟨rfl, hk1⟩
            have Hk1 := Lib.hid (Hkw.out.then hk1)
            clear hk1 b0 b1 b2 b3 b4 b5 HQ
            go_wp2_with fail
            go_ret
            exact ⟨ret_bool (by rw [Hbq.out]; simp), Hk1.out⟩

/-- A row's values at a constraint's variables. -/
def rowVals (C : ConB) (row : List Int) : List Int := C.vars.map fun v => row.getD v.toNat 0
/-- Does an element hold? -/
def holdsE (C : ConB) (row : List Int) : Bool :=
  decide (0 ≤ (rowVals C row).getD 0 0) && decide ((rowVals C row).getD 0 0 < C.nums.length) && decide (C.nums.getD ((rowVals C row).getD 0 0).toNat 0 = (rowVals C row).getD 1 0)

theorem holds4_any (K R Ct : Int) (A1 A2 A3 : Option Addr) (n1 c1 n2 c2 n3 c3 : Nat) (C : ConB) (A : Option Addr) (n c : Nat) (row : List Int) (w : World) (hC : ConIn w K R Ct A1 A2 A3 n1 c1 n2 c2 n3 c3 C) (hI : Ints w A n row) (hK : K = 4) (hv : varsOk C.vars n = true) (hl : C.vars.length = 2) :
    Calls Tryd.prog 20 #[.agg #[.int .i64 K, .slice A1 n1 c1, .slice A2 n2 c2, .int .i64 R, .int .i64 Ct, .slice A3 n3 c3], .slice A n c] w fun e w' => e = .returned (.bool (holdsE C row)) ∧ Kept w w' := by
  subst hK
  obtain ⟨i0, hi, hz0, hz1, hz2⟩ := info_parts info_int
  have HC := Lib.hid hC
  have HI := Lib.hid hI
  have hsm := hI.small
  have Hlen := Lib.hid hI.len
  have Hl1 := Lib.hid hC.vars.len
  have Hl3 := Lib.hid hC.nums.len
  have hs3 := hC.nums.small
  have Hv := Lib.hid hv
  have hn1 : n1 = 2 := by have := hC.vars.len; omega
  have hrl : (rowVals C row).length = 2 := by unfold rowVals; rw [List.length_map]; exact hl
  have Hrl := Lib.hid hrl
  have Hrng : Hid (∀ x ∈ rowVals C row, -9223372036854775808 ≤ x ∧ x ≤ 9223372036854775807) := fun x hx => by
    unfold rowVals at hx
    rw [List.mem_map] at hx
    obtain ⟨v, _, rfl⟩ := hx
    exact HI.out.getD_rng _
  subst hn1
  clear hC hI hv hl hrl
  have HB : Hid (∀ wr, Kept (w.alloc (.cells #[.int .i64 4, .slice A1 2 c1, .slice A2 n2 c2, .int .i64 R, .int .i64 Ct, .slice A3 n3 c3] 24)) wr → wr.heap[w.heap.size]? = some (.cells #[.int .i64 4, .slice A1 2 c1, .slice A2 n2 c2, .int .i64 R, .int .i64 Ct, .slice A3 n3 c3] 24)) := fun wr h => h.heapAt (heap_new _ _)
  go_enter Tryd.func20, Tryd.ntmps20
  go_wp2_with fail
  go_loopw [5, 6] (fun u v wr => ∃ k : Nat, k ≤ 2 ∧ v = .int .i64 k ∧ wr.ownsRow (w.heap.size + 1) 3 1 u k (((rowVals C row).take k).map (Value.int .i64)) ∧ Hid (Kept (w.alloc (.cells #[.int .i64 4, .slice A1 2 c1, .slice A2 n2 c2, .int .i64 R, .int .i64 Ct, .slice A3 n3 c3] 24)) wr)) (fun _ v _ => 2 - (intOf v).toNat)
  case atStart => exact ⟨0, Nat.zero_le _, rfl, own_empty (heap_new2 _ _ _) (Nat.le_refl _), Kept.box _ _⟩
  case round =>
    obtain ⟨k, hk, rfl, hown, Hkw⟩ := hrel
    have hb := HB.out wr Hkw.out
    have b0 := cell_at hb 0
    have b1 := cell_at hb 1
    have b2 := cell_at hb 2
    have b3 := cell_at hb 3
    have b4 := cell_at hb 4
    have b5 := cell_at hb 5
    simp only [List.getElem?_toArray, List.getElem?_cons_zero, List.getElem?_cons_succ] at b0 b1 b2 b3 b4 b5
    clear hb
    have hszr := Hkw.out.size
    simp only [World.size_alloc] at hszr
    by_cases hlt : k < 2
    · have hSr := HC.out.vars.kept ((Kept.box _ _).then Hkw.out)
      have hRr := HI.out.kept ((Kept.box _ _).then Hkw.out)
      obtain ⟨a, rfl, hblk⟩ := hSr.addr (by omega)
      obtain ⟨x, Hx, hcx, _, _⟩ := hSr.named k hlt
      obtain ⟨hx1, hx2⟩ := varsOk_rng Hv.out (show k < C.vars.length by have := Hl1.out; omega)
      rw [Hx.out] at hx1 hx2
      obtain ⟨p, rfl⟩ := Int.eq_ofNat_of_zero_le hx1
      have hpn : p < n := by omega
      obtain ⟨ar, rfl, hblk2⟩ := hRr.addr (by omega)
      obtain ⟨y, Hy, hcy, hy1, hy2⟩ := hRr.named p hpn
      have Htake : Hid (((rowVals C row).take (k + 1)).map (Value.int .i64) = ((rowVals C row).take k).map (Value.int .i64) ++ [.int .i64 y]) := by
        show _ = _
        rw [take_succ_getD (x := y) (by have := Hrl.out; omega) ?_]
        · simp
        · unfold rowVals
          rw [List.getD_eq_getElem?_getD, List.getElem?_map]
          have h2 := Hx.out
          rw [List.getD_eq_getElem?_getD, List.getElem?_eq_getElem (by have := Hl1.out; omega)] at h2
          rw [List.getElem?_eq_getElem (by have := Hl1.out; omega)]
          simp only [Option.getD_some] at h2
          simp only [Option.map_some, Option.getD_some, h2, Int.toNat_natCast]
          exact Hy.out
      clear hSr hRr
      go_wp2_with (at_builtin; refine wpList_append_own _ rfl _ _ 22 rfl (w.heap.size + 1) 3 i0 (.int .i64 0) 1 8 Tryd.underlying22 hi hz0 hz1 hz2 rfl (by decide) _ _ _ rfl (hown.alloc _) ⟨wr.heap.size, 0, none⟩ 1 1 [.int .i64 y] rfl rfl (cell_one_new _ _ _) (by simp [Value.oneCell']) (by unfold maxLen; omega) (by omega) (by simp; omega) ?_; intro v' w2 hown' hgrow _; clear b0 b1 b2 b3 b4 b5)
      go_roundw
      case rel => exact ⟨k + 1, by omega, by go_num, by rw [Htake.out]; exact hown', Hkw.out.appended hown (by simp) hgrow⟩
      case measure => simp [intOf]; omega
    · have e : k = 2 := by omega
      subst e
      rw [List.take_of_length_le (by have := Hrl.out; omega)] at hown
      obtain ⟨A', c', rfl, hI', hfr⟩ := Ints.of_own hown Hrng.out
      obtain ⟨a, rfl, hba⟩ := hI'.addr (by omega)
      obtain ⟨ba, oa, ea, hca⟩ := hI'.plain (by omega)
      cases ea
      have ca0 := hca 0 (by have := Hrl.out; omega)
      have ca1 := hca 1 (by have := Hrl.out; omega)
      obtain ⟨x0, hx0⟩ : ∃ x0, x0 = (rowVals C row).getD 0 0 := ⟨_, rfl⟩
      obtain ⟨x1, hx1⟩ : ∃ x1, x1 = (rowVals C row).getD 1 0 := ⟨_, rfl⟩
      have Hh : Hid (holdsE C row = (decide (0 ≤ x0) && decide (x0 < n3) && decide (C.nums.getD x0.toNat 0 = x1))) := by
        show _ = _
        unfold holdsE; rw [← hx0, ← hx1, Hl3.out]
      rw [← hx0] at ca0
      rw [← hx1] at ca1
      simp only [Nat.add_zero] at ca0
      have Hca0 := Lib.hid ca0
      have Hca1 := Lib.hid ca1
      clear hca hI' hfr hown hx0 hx1
      go_wp2_with fail
      clear b0 b1 b2 b3 b4 b5 ca0 ca1
      go_loopw [7] (fun v wq => ∃ j : Nat, j ≤ n3 ∧ v = .int .i64 j ∧ Hid (Kept wr wq) ∧ Hid (x0 < 0 ∨ (j : Int) ≤ x0)) (fun v _ => n3 - (intOf v).toNat)
      case atStart => exact ⟨0, Nat.zero_le _, rfl, Kept.same _, by show _ ∨ _; omega⟩
      case round =>
        obtain ⟨j, hj, rfl, Hkq, Hx0⟩ := hrel
        have Hk2 := Lib.hid (Hkw.out.then Hkq.out)
        have hb := HB.out wr Hk2.out
        have b0 := cell_at hb 0
        have b1 := cell_at hb 1
        have b2 := cell_at hb 2
        have b3 := cell_at hb 3
        have b4 := cell_at hb 4
        have b5 := cell_at hb 5
        simp only [List.getElem?_toArray, List.getElem?_cons_zero, List.getElem?_cons_succ] at b0 b1 b2 b3 b4 b5
        clear hb
        have ca0 := Hkq.out.cellAt Hca0.out
        have ca1 := Hkq.out.cellAt Hca1.out
        have hlb : w.heap.size < wr.heap.size := World.block_lt_of_cell? wr _ b0
        have hlv : ba < wr.heap.size := World.block_lt_of_cell? wr _ ca0
        by_cases hlt2 : j < n3
        · have hSq := HC.out.nums.kept ((Kept.box _ _).then Hk2.out)
          obtain ⟨a3, rfl, hb3⟩ := hSq.addr (by omega)
          obtain ⟨y, Hy, hcy, _, _⟩ := hSq.named j hlt2
          clear hSq
          by_cases he : x0 = (j : Int)
          · have hd5 : (x0 == (j : Int)) = true := by simp [he]
            have hh : holdsE C row = decide (y = x1) := by
              rw [Hh.out, he, Int.toNat_natCast, Hy.out]
              have a1 : decide ((0 : Int) ≤ j) = true := by simp
              have a2 : decide ((j : Int) < n3) = true := by simp; omega
              rw [a1, a2]; rfl
            have Hh2 := Lib.hid hh
            clear hh
            go_wp2_with fail
            refine wp_region_quiet_below (by kernel_rfl) (by kernel_rfl) ?_
            repeat (any_goals (first | go_big_quiet_step ((fail)) | quiet_step ((fail)) | (refine wpQuiet_step (fun K hK => ?_); go_simp; split <;> (refine hK _ ?_; clear hK K))))
            all_goals (refine wpQuiet_nil ?_; intro w1 hw'; replace hw' := Kept.regrown hw')
            have Hk9 := Lib.hid ((Kept.box _ _).then (Hk2.out.then hw'))
            clear hw'
            go_wp2_with fail
            go_ret
            exact ⟨ret_bool (by rw [Hh2.out]; rfl), Hk9.out⟩
          · have hd5 : (x0 == (j : Int)) = false := by simp [he]
            go_wp2_with fail
            go_roundw
            case rel => exact ⟨j + 1, by omega, by go_num, Hkq.out, by show _ ∨ _; have := Hx0.out; omega⟩
            case measure => simp [intOf]; omega
        · have e : j = n3 := by omega
          subst e
          have hh : holdsE C row = false := by
            rw [Hh.out]
            have := Hx0.out
            by_cases h0 : x0 < 0
            · have : decide (0 ≤ x0) = false := by simp; omega
              rw [this]; rfl
            · have : decide (x0 < (j : Int)) = false := by simp; omega
              rw [this]; simp
          have Hh2 := Lib.hid hh
          clear hh
          go_wp2_with fail
          go_ret
          exact ⟨ret_bool (by rw [Hh2.out]), (Kept.box _ _).then Hk2.out⟩
end Go.Proofs.YtjmegicopdbkdaaDoor

set_option maxHeartbeats 1000000
set_option maxRecDepth 10000
namespace Go.Proofs.YtjmegicopdbkdaaDoor
open Go Go.RowKit Pl

theorem box_con (w : World) (K R Ct : Int) (A1 A2 A3 : Option Addr) (n1 c1 n2 c2 n3 c3 : Nat) : (w.alloc (.cells #[.int .i64 K, .slice A1 n1 c1, .slice A2 n2 c2, .int .i64 R, .int .i64 Ct, .slice A3 n3 c3] 24)).heap[w.heap.size]? = some (.cells #[.int .i64 K, .slice A1 n1 c1, .slice A2 n2 c2, .int .i64 R, .int .i64 Ct, .slice A3 n3 c3] 24) := heap_new _ _

theorem conbox6 {W : World} {O : Nat} {v0 v1 v2 v3 v4 v5 : Value} {t : TypeId} {fr : Nat × Nat} (h : W.heap[O]? = some (.cells #[v0, v1, v2, v3, v4, v5] t fr)) : W.cell? ⟨O, 0, Option.none⟩ = some v0 ∧ W.cell? ⟨O, 1, Option.none⟩ = some v1 ∧ W.cell? ⟨O, 2, Option.none⟩ = some v2 ∧ W.cell? ⟨O, 3, Option.none⟩ = some v3 ∧ W.cell? ⟨O, 4, Option.none⟩ = some v4 ∧ W.cell? ⟨O, 5, Option.none⟩ = some v5 :=
  ⟨cell_at h 0, cell_at h 1, cell_at h 2, cell_at h 3, cell_at h 4, cell_at h 5⟩

theorem rowVals_getD (C : ConB) (row : List Int) {i : Nat} (hi : i < C.vars.length) : (rowVals C row).getD i 0 = row.getD (C.vars.getD i 0).toNat 0 := by
  unfold rowVals
  rw [List.getD_eq_getElem?_getD, List.getElem?_map, List.getD_eq_getElem?_getD (l := C.vars), List.getElem?_eq_getElem hi]
  rfl
theorem leftL_iff {row : List Int} {ds : List DomB} : leftL row ds = true ↔ row.length = ds.length ∧ ∀ i, i < ds.length → row.getD i 0 ∈ listB (ds.getD i nilD).1 (ds.getD i nilD).2 := by
  unfold leftL leftUpto
  rw [Bool.and_eq_true, List.all_eq_true, decide_eq_true_eq]
  constructor
  · rintro ⟨h1, h2⟩
    exact ⟨h1, fun i hi => List.contains_iff_mem.1 (h2 i (List.mem_range.2 hi))⟩
  · rintro ⟨h1, h2⟩
    exact ⟨h1, fun i hi => List.contains_iff_mem.2 (h2 i (List.mem_range.1 hi))⟩
/-- No value that the keeping lets by is lost. -/
theorem step_sound {kp : Nat → Int → Bool} {ds : List DomB} {row : List Int} (hm : allMay ds = true) (h : leftL row ds = true) (hk : ∀ i, i < ds.length → kp i (row.getD i 0) = true) : leftL row (stepB kp ds) = true := by
  rw [leftL_iff] at *
  rw [stepB_length]
  refine ⟨h.1, fun i hi => ?_⟩
  have e := stepB_getD kp ds hi
  unfold nilD at h ⊢
  rw [e]
  exact (mem_keepD (allMay_at hm hi)).2 ⟨h.2 i hi, hk i hi⟩

/-- Domains of single values. -/
def singles (row : List Int) : List DomB := row.map fun v => ([v], 1)
theorem singles_length (row : List Int) : (singles row).length = row.length := by simp [singles]
theorem singles_getD (row : List Int) {i : Nat} (hi : i < row.length) : (singles row).getD i nilD = ([row.getD i 0], 1) := by
  unfold singles
  rw [List.getD_eq_getElem?_getD, List.getElem?_map, List.getD_eq_getElem?_getD, List.getElem?_eq_getElem hi]
  rfl
theorem single_may {v : Int} (h : -1048576 ≤ v ∧ v ≤ 1048576) : mayB [v] 1 = true := by
  unfold mayB okUpto okAt
  simp [h.1, h.2]
theorem single_list {v : Int} (h : -1048576 ≤ v ∧ v ≤ 1048576) : listB [v] 1 = [v] := by
  unfold listB
  rw [if_pos (single_may h)]
  unfold valsOf
  have e : elemsI 1 = [0] := by decide
  rw [e]; rfl
theorem single_keep (f : Int → Bool) (v : Int) : (keepD f ([v], 1)).2 = if f v = true then 1 else 0 := by
  apply Nat.eq_of_testBit_eq
  intro i
  rw [testBit_keepD]
  by_cases hi : i = 0
  · subst hi
    cases h : f v <;> simp [h]
  · have h1 : Nat.testBit 1 i = false := by
      cases i with
      | zero => exact absurd rfl hi
      | succ n => rw [Nat.testBit_succ]; simp
    rw [h1]
    split
    · rw [h1]; simp
    · simp
theorem allMay_singles {row : List Int} (h : withinB row 1048576 = true) : allMay (singles row) = true := by
  unfold allMay singles
  rw [List.all_map, List.all_eq_true]
  intro v hv
  exact single_may (by have := withinB_mem h hv; omega)

/-- Is all left of the constraint's variables? -/
def allLive (vs : List Int) (ds : List DomB) (k : Nat) : Bool := (List.range k).all fun i => decide ((ds.getD (vs.getD i 0).toNat nilD).2 = 1)
theorem allLive_succ (vs : List Int) (ds : List DomB) (k : Nat) : allLive vs ds (k + 1) = (allLive vs ds k && decide ((ds.getD (vs.getD k 0).toNat nilD).2 = 1)) := by
  unfold allLive
  rw [List.range_succ, List.all_append]
  simp

theorem single_live {kp : Nat → Int → Bool} {row : List Int} {i : Nat} (hi : i < row.length) : ((stepB kp (singles row)).getD i nilD).2 = 1 ↔ kp i (row.getD i 0) = true := by
  have h1 := stepB_getD kp (singles row) (i := i) (by rw [singles_length]; exact hi)
  have h2 := singles_getD row hi
  unfold nilD at h2 ⊢
  rw [h1, h2, single_keep]
  cases kp i (row.getD i 0) <;> simp

end Go.Proofs.YtjmegicopdbkdaaDoor

set_option maxHeartbeats 1000000
set_option maxRecDepth 10000
namespace Go.Proofs.YtjmegicopdbkdaaDoor
open Go Go.RowKit Pl

theorem goK_less {q : Int} {C : ConB} {vs us : List DomB} (h : Fewer vs us) (hg : goK q C us = true) : goK q C vs = true := by
  obtain ⟨h1, h2, h3⟩ := goK_parts hg
  unfold goK
  rw [h.len, h2, h.may h3]
  simp [h1]
theorem goK_not {q : Int} {C : ConB} {ds : List DomB} (h : ¬ C.kind = q) : goK q C ds = false := by
  unfold goK; rw [decide_eq_false h]; rfl
theorem goK_of {q : Int} {C : ConB} {ds : List DomB} (hk : C.kind = q) (hr : rightB C ds.length = true) (hm : allMay ds = true) : goK q C ds = true := by
  unfold goK; rw [decide_eq_true hk, hr, hm]; rfl
theorem goK_right (q : Int) (C : ConB) (ds : List DomB) : (decide (C.kind = q) && allMay ds && rightB C ds.length) = goK q C ds := by
  unfold goK; cases allMay ds <;> cases rightB C ds.length <;> simp

/-- A value of a variable that is left, of a row that is left. -/
theorem left_at {C : ConB} {ds : List DomB} {row : List Int} (hv : varsOk C.vars ds.length = true) (hl : leftL row ds = true) {i : Nat} (hi : i < C.vars.length) :
    row.getD (C.vars.getD i 0).toNat 0 ∈ listB (ds.getD (C.vars.getD i 0).toNat nilD).1 (ds.getD (C.vars.getD i 0).toNat nilD).2 := by
  have h := varsOk_rng hv hi
  exact (leftL_iff.1 hl).2 _ (by omega)
/-- Of less. -/
theorem fewer_at {C : ConB} {vs us : List DomB} (h : Fewer vs us) (hv : varsOk C.vars us.length = true) (hm : allMay us = true) {i : Nat} (hi : i < C.vars.length) {x : Int}
    (hx : x ∈ listB (vs.getD (C.vars.getD i 0).toNat nilD).1 (vs.getD (C.vars.getD i 0).toNat nilD).2) : x ∈ listB (us.getD (C.vars.getD i 0).toNat nilD).1 (us.getD (C.vars.getD i 0).toNat nilD).2 := by
  have h1 := varsOk_rng hv hi
  exact h.mem hm (by omega) hx
/-- Of single values. -/
theorem singles_at {C : ConB} {row : List Int} (hv : varsOk C.vars row.length = true) (hr : withinB row 1048576 = true) {i : Nat} (hi : i < C.vars.length) :
    listB ((singles row).getD (C.vars.getD i 0).toNat nilD).1 ((singles row).getD (C.vars.getD i 0).toNat nilD).2 = [row.getD (C.vars.getD i 0).toNat 0] := by
  have h1 := varsOk_rng hv hi
  have h2 : (C.vars.getD i 0).toNat < row.length := by omega
  rw [singles_getD row h2]
  refine single_list ?_
  have := withinB_mem hr (x := row.getD (C.vars.getD i 0).toNat 0) (by rw [List.getD_eq_getElem?_getD, List.getElem?_eq_getElem h2]; exact List.getElem_mem h2)
  omega
theorem allLive_iff {vs : List Int} {ds : List DomB} {k : Nat} : allLive vs ds k = true ↔ ∀ i, i < k → (ds.getD (vs.getD i 0).toNat nilD).2 = 1 := by
  unfold allLive
  rw [List.all_eq_true]
  constructor
  · intro h i hi
    exact of_decide_eq_true (h i (List.mem_range.2 hi))
  · intro h i hi
    exact decide_eq_true (h i (List.mem_range.1 hi))
/-- All is left of single values just if each place's question says yes. -/
theorem allLive_varsKp {C : ConB} {row : List Int} {g : Nat → Int → Bool} (hv : varsOk C.vars row.length = true) :
    allLive C.vars (stepB (varsKp C.vars g C.vars.length) (singles row)) C.vars.length = true ↔ ∀ i, i < C.vars.length → ∀ k, k < C.vars.length → (C.vars.getD k 0).toNat = (C.vars.getD i 0).toNat → g k (row.getD (C.vars.getD i 0).toNat 0) = true := by
  rw [allLive_iff]
  constructor
  · intro h i hi k hk e
    have h1 := varsOk_rng hv hi
    exact varsKp_iff.1 ((single_live (by omega)).1 (h i hi)) k hk e
  · intro h i hi
    have h1 := varsOk_rng hv hi
    exact (single_live (by omega)).2 (varsKp_iff.2 fun k hk e => h i hi k hk e)
end Go.Proofs.YtjmegicopdbkdaaDoor

set_option maxHeartbeats 1000000
set_option maxRecDepth 10000
namespace Go.Proofs.YtjmegicopdbkdaaDoor
open Go Go.RowKit Pl

/-- What is left of a constraint's variable. -/
def leftOf (C : ConB) (ds : List DomB) (i : Nat) : List Int := listB (ds.getD (C.vars.getD i 0).toNat nilD).1 (ds.getD (C.vars.getD i 0).toNat nilD).2

/-- Are there values of the other two? -/
def pG0 (Y Z : List Int) (v : Int) : Bool := Y.any fun b => Z.contains (v * b)
def pG1 (X Z : List Int) (v : Int) : Bool := X.any fun a => Z.contains (a * v)
def pG2 (X Y : List Int) (v : Int) : Bool := X.any fun a => Y.any fun b => a * b == v
/-- The same, of whole lists. -/
def prodL (X Y Z : List Int) (i : Nat) (v : Int) : Bool :=
  if i = 0 then X.contains v && pG0 Y Z v else if i = 1 then Y.contains v && pG1 X Z v else Z.contains v && pG2 X Y v
def prodG (C : ConB) (ds : List DomB) (i : Nat) (v : Int) : Bool := prodL (leftOf C ds 0) (leftOf C ds 1) (leftOf C ds 2) i v

theorem prodL_iff {X Y Z : List Int} {i : Nat} {v : Int} (hi : i < 3) : prodL X Y Z i v = true ↔ ∃ a b c, a ∈ X ∧ b ∈ Y ∧ c ∈ Z ∧ a * b = c ∧ (if i = 0 then a else if i = 1 then b else c) = v := by
  unfold prodL
  have h3 : i = 0 ∨ i = 1 ∨ i = 2 := by omega
  rcases h3 with rfl | rfl | rfl
  · unfold pG0
    simp only [if_true, Bool.and_eq_true, List.contains_iff_mem, List.any_eq_true]
    constructor
    · rintro ⟨hx, b, hb, hz⟩; exact ⟨v, b, _, hx, hb, hz, rfl, rfl⟩
    · rintro ⟨a, b, c, hx, hb, hz, rfl, rfl⟩; exact ⟨hx, b, hb, hz⟩
  · unfold pG1
    simp only [if_true, if_false, Bool.and_eq_true, List.contains_iff_mem, List.any_eq_true, show ¬ (1 : Nat) = 0 by omega]
    constructor
    · rintro ⟨hy, a, ha, hz⟩; exact ⟨a, v, _, ha, hy, hz, rfl, rfl⟩
    · rintro ⟨a, b, c, ha, hb, hz, rfl, rfl⟩; exact ⟨hb, a, ha, hz⟩
  · unfold pG2
    simp only [if_false, Bool.and_eq_true, List.contains_iff_mem, List.any_eq_true, show ¬ (2 : Nat) = 0 by omega, show ¬ (2 : Nat) = 1 by omega, beq_iff_eq]
    constructor
    · rintro ⟨hz, a, ha, b, hb, e⟩; exact ⟨a, b, v, ha, hb, hz, e, rfl⟩
    · rintro ⟨a, b, c, ha, hb, hz, e, rfl⟩; exact ⟨hz, a, ha, b, hb, e⟩

def prodGo (C : ConB) (ds : List DomB) : Bool := goK 2 C ds
def prodKp (C : ConB) (ds : List DomB) : Nat → Int → Bool := varsKp C.vars (prodG C ds) C.vars.length
theorem prodGo_parts {C : ConB} {ds : List DomB} (h : prodGo C ds = true) : C.kind = 2 ∧ rightB C ds.length = true ∧ allMay ds = true := goK_parts h
theorem prodGo_not {C : ConB} {ds : List DomB} (h : ¬ C.kind = 2) : prodGo C ds = false := goK_not h
theorem prodGo_of {C : ConB} {ds : List DomB} (hk : C.kind = 2) (hr : rightB C ds.length = true) (hm : allMay ds = true) : prodGo C ds = true := goK_of hk hr hm
theorem prod_go_less {C : ConB} {vs us : List DomB} (h : Fewer vs us) (hg : prodGo C us = true) : prodGo C vs = true := goK_less h hg

theorem product_parts {C : ConB} {V : Int} (hk : C.kind = 2) (h : rightB C V = true) : C.vars.length = 3 := by
  unfold rightB at h
  simp only [hk] at h
  unfold plainR at h
  simp only [hk] at h
  simp at h
  exact h.2.2.1

theorem prod_falls {C : ConB} {vs us : List DomB} (h : Fewer vs us) (hg : prodGo C us = true) : withinL (stepB (prodKp C vs) vs) (stepB (prodKp C us) us) = true := by
  obtain ⟨hk2, h2, hm⟩ := prodGo_parts hg
  have h3 := product_parts hk2 h2
  have hsub : ∀ i, i < 3 → ∀ x ∈ leftOf C vs i, x ∈ leftOf C us i := fun i hi x hx => fewer_at h (rightB_vars h2) hm (by omega) hx
  refine step_falls h hm fun i hi v hv hk => varsKp_mono (fun k hk _ hgk => ?_) hk
  obtain ⟨a, b, c, ha, hb, hc, e, e2⟩ := (prodL_iff (by omega)).1 hgk
  exact (prodL_iff (by omega)).2 ⟨a, b, c, hsub 0 (by omega) a ha, hsub 1 (by omega) b hb, hsub 2 (by omega) c hc, e, e2⟩

/-- Does a product hold? -/
def holdsP (C : ConB) (row : List Int) : Bool := (rowVals C row).getD 0 0 * (rowVals C row).getD 1 0 == (rowVals C row).getD 2 0
theorem holdsP_iff {C : ConB} {row : List Int} (h : C.vars.length = 3) : holdsP C row = true ↔ row.getD (C.vars.getD 0 0).toNat 0 * row.getD (C.vars.getD 1 0).toNat 0 = row.getD (C.vars.getD 2 0).toNat 0 := by
  unfold holdsP
  rw [rowVals_getD C row (by omega), rowVals_getD C row (by omega), rowVals_getD C row (by omega), beq_iff_eq]

theorem prod_sound {C : ConB} {ds : List DomB} {row : List Int} (hg : prodGo C ds = true) (hl : leftL row ds = true) (hh : holdsP C row = true) : leftL row (stepB (prodKp C ds) ds) = true := by
  obtain ⟨hk2, h2, hm⟩ := prodGo_parts hg
  have h3 := product_parts hk2 h2
  have hv := rightB_vars h2
  have he := (holdsP_iff h3).1 hh
  refine step_sound hm hl fun i hi => varsKp_iff.2 fun k hk e => (prodL_iff (by omega)).2 ⟨_, _, _, left_at hv hl (show 0 < C.vars.length by omega), left_at hv hl (show 1 < C.vars.length by omega), left_at hv hl (show 2 < C.vars.length by omega), he, ?_⟩
  rw [← e]
  have : k = 0 ∨ k = 1 ∨ k = 2 := by omega
  rcases this with rfl | rfl | rfl <;> rfl

theorem prod_single {C : ConB} {row : List Int} (hr : withinB row 1048576 = true) (hk2 : C.kind = 2) (hB : rightB C row.length = true) : allLive C.vars (stepB (prodKp C (singles row)) (singles row)) C.vars.length = holdsP C row := by
  have hv := rightB_vars hB
  have h3 := product_parts hk2 hB
  have hs : ∀ i, i < 3 → leftOf C (singles row) i = [row.getD (C.vars.getD i 0).toNat 0] := fun i hi => singles_at hv hr (by omega)
  have hg : ∀ k v, k < 3 → (prodG C (singles row) k v = true ↔ row.getD (C.vars.getD 0 0).toNat 0 * row.getD (C.vars.getD 1 0).toNat 0 = row.getD (C.vars.getD 2 0).toNat 0 ∧ row.getD (C.vars.getD k 0).toNat 0 = v) := fun k v hk => by
    unfold prodG
    rw [prodL_iff hk, hs 0 (by omega), hs 1 (by omega), hs 2 (by omega)]
    simp only [List.mem_singleton]
    have h4 : k = 0 ∨ k = 1 ∨ k = 2 := by omega
    constructor
    · rintro ⟨a, b, c, rfl, rfl, rfl, e, e2⟩
      refine ⟨e, ?_⟩
      rw [← e2]
      rcases h4 with rfl | rfl | rfl <;> rfl
    · rintro ⟨e, e2⟩
      refine ⟨_, _, _, rfl, rfl, rfl, e, ?_⟩
      rw [← e2]
      rcases h4 with rfl | rfl | rfl <;> rfl
  unfold prodKp
  rw [Bool.eq_iff_iff, allLive_varsKp hv, holdsP_iff h3]
  constructor
  · intro h
    exact ((hg 0 _ (by omega)).1 (h 0 (by omega) 0 (by omega) rfl)).1
  · intro h i hi k hk e
    exact (hg k _ (by omega)).2 ⟨h, by rw [e]⟩
end Go.Proofs.YtjmegicopdbkdaaDoor

namespace Go.Proofs.YtjmegicopdbkdaaDoor
namespace Pl
theorem okUpto_lt {xs : List Int} {n : Nat} (h : okUpto xs n = true) {i j : Nat} (hij : i < j) (hj : j < n) : xs.getD i 0 < xs.getD j 0 := by
  induction j with
  | zero => omega
  | succ j ih =>
    have h1 := okUpto_at h hj
    unfold okAt at h1
    simp only [Bool.and_eq_true, Bool.or_eq_true, decide_eq_true_eq] at h1
    have h2 : xs.getD j 0 < xs.getD (j + 1) 0 := by
      rcases h1.2 with h3 | h3
      · omega
      · exact h3
    by_cases e : i = j
    · subst e; exact h2
    · have := ih (by omega) (by omega)
      omega
theorem listB_sorted (xs : List Int) (L : Nat) : (listB xs L).Pairwise (· < ·) := by
  unfold listB
  split
  · rename_i h
    unfold valsOf elemsI
    rw [List.map_map, List.pairwise_map]
    have hs := sorted_upto L 64
    refine List.Pairwise.imp_of_mem (fun {a b} ha hb hab => ?_) hs
    have hb2 := (mem_upto.1 hb).2
    have := (may_bit (d := (xs, L)) h hb2).1
    exact okUpto_lt (mayB_ok h) hab this
  · exact List.Pairwise.nil
theorem listB_nodup (xs : List Int) (L : Nat) : (listB xs L).Nodup := by
  refine List.Pairwise.imp (fun {a b} h => ?_) (listB_sorted xs L)
  omega
end Pl
end Go.Proofs.YtjmegicopdbkdaaDoor

set_option maxHeartbeats 1000000
set_option maxRecDepth 10000
namespace Go.Proofs.YtjmegicopdbkdaaDoor
open Go Go.RowKit Pl

/-- A value is put to a list that has each once. -/
def addB (acc : List Int) (v : Int) : List Int := if acc.contains v then acc else acc ++ [v]
def addAll (acc l : List Int) : List Int := l.foldl addB acc
/-- All values of the first variables, each once. -/
def allU (C : ConB) (ds : List DomB) (j : Nat) : List Int := (List.range j).foldl (fun acc i => addAll acc (leftOf C ds i)) []
theorem addAll_snoc (acc l : List Int) (v : Int) : addAll acc (l ++ [v]) = addB (addAll acc l) v := by unfold addAll; rw [List.foldl_append]; rfl
theorem addAll_nil (acc : List Int) : addAll acc [] = acc := rfl
theorem allU_zero (C : ConB) (ds : List DomB) : allU C ds 0 = [] := rfl
theorem allU_succ (C : ConB) (ds : List DomB) (j : Nat) : allU C ds (j + 1) = addAll (allU C ds j) (leftOf C ds j) := by unfold allU; rw [List.range_succ, List.foldl_append]; rfl
theorem mem_addB {acc : List Int} {v x : Int} : x ∈ addB acc v ↔ x ∈ acc ∨ x = v := by
  unfold addB
  split
  · rename_i h
    rw [List.contains_iff_mem] at h
    constructor
    · exact .inl
    · rintro (h2 | rfl)
      · exact h2
      · exact h
  · rw [List.mem_append, List.mem_singleton]
theorem nodup_addB {acc : List Int} {v : Int} (h : acc.Nodup) : (addB acc v).Nodup := by
  unfold addB
  split
  · exact h
  · rename_i h2
    rw [List.contains_iff_mem] at h2
    rw [List.nodup_append]
    refine ⟨h, by simp, fun a ha b hb e => ?_⟩
    rw [List.mem_singleton] at hb
    subst hb
    exact h2 (e ▸ ha)
theorem mem_addAll {l : List Int} : ∀ {acc : List Int} {x : Int}, x ∈ addAll acc l ↔ x ∈ acc ∨ x ∈ l := by
  induction l with
  | nil => intro acc x; simp [addAll]
  | cons v l ih =>
    intro acc x
    have : addAll acc (v :: l) = addAll (addB acc v) l := rfl
    rw [this, ih, mem_addB, List.mem_cons, or_assoc]
theorem nodup_addAll {l : List Int} : ∀ {acc : List Int}, acc.Nodup → (addAll acc l).Nodup := by
  induction l with
  | nil => intro acc h; exact h
  | cons v l ih => intro acc h; exact ih (nodup_addB h)
theorem mem_allU {C : ConB} {ds : List DomB} {j : Nat} {x : Int} : x ∈ allU C ds j ↔ ∃ i, i < j ∧ x ∈ leftOf C ds i := by
  induction j with
  | zero => rw [allU_zero]; simp
  | succ j ih =>
    rw [allU_succ, mem_addAll, ih]
    constructor
    · rintro (⟨i, hi, hx⟩ | hx)
      · exact ⟨i, by omega, hx⟩
      · exact ⟨j, by omega, hx⟩
    · rintro ⟨i, hi, hx⟩
      by_cases e : i = j
      · subst e; exact .inr hx
      · exact .inl ⟨i, by omega, hx⟩
theorem nodup_allU (C : ConB) (ds : List DomB) (j : Nat) : (allU C ds j).Nodup := by
  induction j with
  | zero => rw [allU_zero]; exact List.nodup_nil
  | succ j ih => rw [allU_succ]; exact nodup_addAll ih
theorem nodup_len : ∀ {l m : List Int}, l.Nodup → (∀ x ∈ l, x ∈ m) → l.length ≤ m.length := by
  intro l
  induction l with
  | nil => intro m _ _; simp
  | cons a l ih =>
    intro m hn hs
    rw [List.nodup_cons] at hn
    have ha : a ∈ m := hs a (by simp)
    have h1 := ih (m := m.erase a) hn.2 (fun x hx => by
      have hne : x ≠ a := fun e => hn.1 (e ▸ hx)
      exact (List.mem_erase_of_ne hne).2 (hs x (by simp [hx])))
    rw [List.length_erase_of_mem ha] at h1
    have : 0 < m.length := List.length_pos_of_mem ha
    simp only [List.length_cons]
    omega

/-- Is nothing left of one of the variables? -/
def wipedB (C : ConB) (ds : List DomB) (j : Nat) : Bool := (List.range j).any fun i => decide ((leftOf C ds i).length = 0)
theorem wipedB_iff {C : ConB} {ds : List DomB} {j : Nat} : wipedB C ds j = false ↔ ∀ i, i < j → 0 < (leftOf C ds i).length := by
  unfold wipedB
  rw [List.any_eq_false]
  constructor
  · intro h i hi
    have := h i (List.mem_range.2 hi)
    simp at this
    exact List.length_pos_iff.2 this
  · intro h i hi
    have := h i (List.mem_range.1 hi)
    simp
    exact List.length_pos_iff.1 this
/-- Are there fewer values than variables, or none of one? -/
def fewB (C : ConB) (ds : List DomB) : Bool := wipedB C ds C.vars.length || decide ((allU C ds C.vars.length).length < C.vars.length)
theorem fewB_iff {C : ConB} {ds : List DomB} : fewB C ds = false ↔ (∀ i, i < C.vars.length → 0 < (leftOf C ds i).length) ∧ C.vars.length ≤ (allU C ds C.vars.length).length := by
  unfold fewB
  rw [Bool.or_eq_false_iff, wipedB_iff, decide_eq_false_iff_not]
  constructor
  · rintro ⟨h1, h2⟩; exact ⟨h1, by omega⟩
  · rintro ⟨h1, h2⟩; exact ⟨h1, by omega⟩
/-- Has another variable that value alone? -/
def soleB (C : ConB) (ds : List DomB) (i : Nat) (v : Int) : Bool := (List.range C.vars.length).any fun k => !decide (C.vars.getD k 0 = C.vars.getD i 0) && (leftOf C ds k == [v])
def diffG (C : ConB) (ds : List DomB) (i : Nat) (v : Int) : Bool := !fewB C ds && !soleB C ds i v
theorem diffG_iff {C : ConB} {ds : List DomB} {i : Nat} {v : Int} : diffG C ds i v = true ↔ fewB C ds = false ∧ ∀ k, k < C.vars.length → C.vars.getD k 0 ≠ C.vars.getD i 0 → leftOf C ds k ≠ [v] := by
  unfold diffG soleB
  rw [Bool.and_eq_true, Bool.not_eq_true', Bool.not_eq_true', List.any_eq_false]
  constructor
  · rintro ⟨h1, h2⟩
    refine ⟨h1, fun k hk hne he => ?_⟩
    have := h2 k (List.mem_range.2 hk)
    rw [decide_eq_false hne, he] at this
    simp at this
  · rintro ⟨h1, h2⟩
    refine ⟨h1, fun k hk => ?_⟩
    by_cases e : C.vars.getD k 0 = C.vars.getD i 0
    · rw [decide_eq_true e]; simp
    · have := h2 k (List.mem_range.1 hk) e
      simp [this]

def diffGo (C : ConB) (ds : List DomB) : Bool := goK 5 C ds
def diffKp (C : ConB) (ds : List DomB) : Nat → Int → Bool := varsKp C.vars (diffG C ds) C.vars.length
theorem diffGo_parts {C : ConB} {ds : List DomB} (h : diffGo C ds = true) : C.kind = 5 ∧ rightB C ds.length = true ∧ allMay ds = true := goK_parts h
theorem diffGo_not {C : ConB} {ds : List DomB} (h : ¬ C.kind = 5) : diffGo C ds = false := goK_not h
theorem diffGo_of {C : ConB} {ds : List DomB} (hk : C.kind = 5) (hr : rightB C ds.length = true) (hm : allMay ds = true) : diffGo C ds = true := goK_of hk hr hm
theorem diff_go_less {C : ConB} {vs us : List DomB} (h : Fewer vs us) (hg : diffGo C us = true) : diffGo C vs = true := goK_less h hg

theorem diff_falls {C : ConB} {vs us : List DomB} (h : Fewer vs us) (hg : diffGo C us = true) : withinL (stepB (diffKp C vs) vs) (stepB (diffKp C us) us) = true := by
  obtain ⟨_, h2, hm⟩ := diffGo_parts hg
  have hsub : ∀ i, i < C.vars.length → ∀ x ∈ leftOf C vs i, x ∈ leftOf C us i := fun i hi x hx => fewer_at h (rightB_vars h2) hm hi hx
  refine step_falls h hm fun i hi v hv hk => varsKp_mono (fun k hk _ hgk => ?_) hk
  obtain ⟨hf, hs⟩ := diffG_iff.1 hgk
  obtain ⟨hf1, hf2⟩ := fewB_iff.1 hf
  refine diffG_iff.2 ⟨fewB_iff.2 ⟨fun i hi => ?_, ?_⟩, fun k' hk' hne he => hs k' hk' hne ?_⟩
  · obtain ⟨x, hx⟩ := List.exists_mem_of_length_pos (hf1 i hi)
    exact List.length_pos_of_mem (hsub i hi x hx)
  · refine Nat.le_trans hf2 (nodup_len (nodup_allU _ _ _) fun x hx => ?_)
    obtain ⟨i, hi, hx⟩ := mem_allU.1 hx
    exact mem_allU.2 ⟨i, hi, hsub i hi x hx⟩
  · have h1 := hf1 k' hk'
    have h2 : ∀ x ∈ leftOf C vs k', x = v := fun x hx => by
      have := hsub k' hk' x hx
      rw [he, List.mem_singleton] at this
      exact this
    have h3 : (leftOf C vs k').Nodup := listB_nodup _ _
    match hl : leftOf C vs k' with
    | [] => rw [hl] at h1; simp at h1
    | [a] => rw [hl] at h2; rw [h2 a (by simp)]
    | a :: b :: r =>
      rw [hl] at h2 h3
      have e1 := h2 a (by simp)
      have e2 := h2 b (by simp)
      rw [List.nodup_cons] at h3
      exact absurd (by rw [e1, ← e2]; simp) h3.1

/-- Do variables differ? -/
def holdsD (C : ConB) (row : List Int) : Bool := (List.range C.vars.length).all fun i => (List.range i).all fun k => !decide ((rowVals C row).getD i 0 = (rowVals C row).getD k 0)
theorem holdsD_iff {C : ConB} {row : List Int} : holdsD C row = true ↔ ∀ i k, i < C.vars.length → k < i → row.getD (C.vars.getD i 0).toNat 0 ≠ row.getD (C.vars.getD k 0).toNat 0 := by
  unfold holdsD
  rw [List.all_eq_true]
  constructor
  · intro h i k hi hk
    have h1 := h i (List.mem_range.2 hi)
    rw [List.all_eq_true] at h1
    have h2 := h1 k (List.mem_range.2 hk)
    rw [rowVals_getD C row hi, rowVals_getD C row (by omega)] at h2
    simpa using h2
  · intro h i hi
    have hi := List.mem_range.1 hi
    rw [List.all_eq_true]
    intro k hk
    have hk := List.mem_range.1 hk
    rw [rowVals_getD C row hi, rowVals_getD C row (by omega)]
    simpa using h i k hi hk
theorem holdsD_ne {C : ConB} {row : List Int} (h : holdsD C row = true) {i k : Nat} (hi : i < C.vars.length) (hk : k < C.vars.length) (e : i ≠ k) : row.getD (C.vars.getD i 0).toNat 0 ≠ row.getD (C.vars.getD k 0).toNat 0 := by
  rcases Nat.lt_or_ge k i with h1 | h1
  · exact holdsD_iff.1 h i k hi h1
  · exact (holdsD_iff.1 h k i hk (by omega)).symm
theorem holdsD_nodup {C : ConB} {row : List Int} (h : holdsD C row = true) : ((List.range C.vars.length).map fun i => row.getD (C.vars.getD i 0).toNat 0).Nodup := by
  unfold List.Nodup
  rw [List.pairwise_map]
  refine List.Pairwise.imp_of_mem (fun {a b} ha hb hab => ?_) List.pairwise_lt_range
  exact holdsD_ne h (List.mem_range.1 ha) (List.mem_range.1 hb) (by omega)

/-- Where a row that differs is left, there are enough values, and none is another's alone. -/
theorem diffG_row {C : ConB} {ds : List DomB} {row : List Int} (_hv : varsOk C.vars ds.length = true) (hl : ∀ i, i < C.vars.length → row.getD (C.vars.getD i 0).toNat 0 ∈ leftOf C ds i) (hh : holdsD C row = true) {i : Nat} (hi : i < C.vars.length) :
    diffG C ds i (row.getD (C.vars.getD i 0).toNat 0) = true := by
  refine diffG_iff.2 ⟨fewB_iff.2 ⟨fun k hk => List.length_pos_of_mem (hl k hk), ?_⟩, fun k hk hne he => ?_⟩
  · have h1 := nodup_len (holdsD_nodup hh) (m := allU C ds C.vars.length) (fun x hx => by
      rw [List.mem_map] at hx
      obtain ⟨k, hk, rfl⟩ := hx
      have hk := List.mem_range.1 hk
      exact mem_allU.2 ⟨k, hk, hl k hk⟩)
    rw [List.length_map, List.length_range] at h1
    exact h1
  · have h1 := hl k hk
    rw [he, List.mem_singleton] at h1
    have hki : k ≠ i := fun e => hne (by rw [e])
    exact holdsD_ne hh hk hi hki h1

theorem diff_sound {C : ConB} {ds : List DomB} {row : List Int} (hg : diffGo C ds = true) (hl : leftL row ds = true) (hh : holdsD C row = true) : leftL row (stepB (diffKp C ds) ds) = true := by
  obtain ⟨_, h2, hm⟩ := diffGo_parts hg
  have hv := rightB_vars h2
  refine step_sound hm hl fun i hi => varsKp_iff.2 fun k hk e => ?_
  have h := diffG_row hv (fun i hi => left_at hv hl hi) hh hk
  rwa [e] at h

theorem diff_single {C : ConB} {row : List Int} (hr : withinB row 1048576 = true) (_hk : C.kind = 5) (hB : rightB C row.length = true) : allLive C.vars (stepB (diffKp C (singles row)) (singles row)) C.vars.length = holdsD C row := by
  have hv := rightB_vars hB
  have hs : ∀ i, i < C.vars.length → leftOf C (singles row) i = [row.getD (C.vars.getD i 0).toNat 0] := fun i hi => singles_at hv hr hi
  unfold diffKp
  rw [Bool.eq_iff_iff, allLive_varsKp hv]
  constructor
  · intro h
    refine holdsD_iff.2 fun i k hi hk e => ?_
    have h1 := (diffG_iff.1 (h i hi i hi rfl)).2 k (by omega) (varsOk_ne hv hi hk)
    exact h1 (by rw [hs k (by omega), e])
  · intro h i hi k hk e
    have h1 := diffG_row (ds := singles row) (by rw [singles_length]; exact hv) (fun i hi => by rw [hs i hi]; simp) h hk
    rwa [e] at h1
end Go.Proofs.YtjmegicopdbkdaaDoor

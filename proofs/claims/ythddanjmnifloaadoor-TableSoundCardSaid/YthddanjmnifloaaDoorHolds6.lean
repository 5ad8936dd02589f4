/-
  Contracts of the document's answer for rows: Holds, of kind 6.
-/
import Derived.Test.YthddanjmnifloaaDoorLawsShared
import Derived.Test.YthddanjmnifloaaDoorGo
import Derived.Test.YthddanjmnifloaaDoorTabS
set_option maxHeartbeats 1000000
set_option maxRecDepth 10000
namespace Go.Proofs.YthddanjmnifloaaDoor
open Go Go.RowKit Pl

/-- Is a row's part, at the constraint's variables, a row of the table? -/
def holdsT (C : ConB) (row : List Int) : Bool := (List.range (C.nums.length / C.vars.length)).any fun t => chunk C.nums C.vars.length t == rowVals C row
theorem chunk_eq {nums rv : List Int} {n t s : Nat} (hs : s = t * n) (hv : rv.length = n) (hn : s + n ≤ nums.length) : ((List.range n).all fun j => nums.getD (s + j) 0 == rv.getD j 0) = (chunk nums n t == rv) := by
  have hcl : (chunk nums n t).length = n := by unfold chunk; rw [List.length_take, List.length_drop, ← hs]; omega
  have hcg : ∀ j, j < n → (chunk nums n t).getD j 0 = nums.getD (s + j) 0 := fun j hj => by
    unfold chunk
    rw [getD_take' _ hj, getD_drop', ← hs]
  rw [Bool.eq_iff_iff, List.all_eq_true, beq_iff_eq]
  constructor
  · intro h
    apply List.ext_getElem (by omega)
    intro j h1 h2
    have h3 := h j (List.mem_range.2 (by omega))
    rw [beq_iff_eq, ← hcg j (by omega)] at h3
    rw [List.getD_eq_getElem?_getD, List.getD_eq_getElem?_getD, List.getElem?_eq_getElem h1, List.getElem?_eq_getElem h2] at h3
    simpa using h3
  · intro h j hj
    rw [beq_iff_eq, ← hcg j (List.mem_range.1 hj), h]


theorem holds6_any (K R Ct : Int) (A1 A2 A3 : Option Addr) (n1 c1 n2 c2 n3 c3 : Nat) (C : ConB) (A : Option Addr) (n c : Nat) (row : List Int) (w : World) (hC : ConIn w K R Ct A1 A2 A3 n1 c1 n2 c2 n3 c3 C) (hI : Ints w A n row) (hK : K = 6) (hR : rightB C n = true) :
    Calls Tryd.prog 37 #[.agg #[.int .i64 K, .slice A1 n1 c1, .slice A2 n2 c2, .int .i64 R, .int .i64 Ct, .slice A3 n3 c3], .slice A n c] w fun e w' => e = .returned (.bool (holdsT C row)) ∧ Kept w w' := by
  subst hK
  obtain ⟨i0, hi, hz0, hz1, hz2⟩ := info_parts info_int
  have hv := rightB_vars hR
  have HC := Lib.hid hC
  have HI := Lib.hid hI
  have HR := Lib.hid hR
  have hsm := hI.small
  have Hlen := Lib.hid hI.len
  have Hl1 := Lib.hid hC.vars.len
  have Hl3 := Lib.hid hC.nums.len
  have hs3 := hC.nums.small
  have Hkind := Lib.hid hC.kind
  have Hv := Lib.hid hv
  have hn18 : n1 ≤ 9 := by
    have h1 := rightB_len hR
    have := hC.vars.len
    omega
  have hrl : (rowVals C row).length = n1 := by unfold rowVals; rw [List.length_map]; exact hC.vars.len
  have Hrl := Lib.hid hrl
  have Hrng : Hid (∀ x ∈ rowVals C row, -9223372036854775808 ≤ x ∧ x ≤ 9223372036854775807) := fun x hx => by
    unfold rowVals at hx
    rw [List.mem_map] at hx
    obtain ⟨v, _, rfl⟩ := hx
    exact HI.out.getD_rng _
  clear hC hI hv hrl hR
  have HB : Hid (∀ wr, Kept (w.alloc (.cells #[.int .i64 6, .slice A1 n1 c1, .slice A2 n2 c2, .int .i64 R, .int .i64 Ct, .slice A3 n3 c3] 37)) wr → wr.heap[w.heap.size]? = some (.cells #[.int .i64 6, .slice A1 n1 c1, .slice A2 n2 c2, .int .i64 R, .int .i64 Ct, .slice A3 n3 c3] 37)) := fun wr h => h.heapAt (heap_new _ _)
  go_enter Tryd.func37, Tryd.ntmps37
  go_wp2_with fail
  go_loopw [5, 6] (fun u v wr => ∃ k : Nat, k ≤ n1 ∧ v = .int .i64 k ∧ wr.ownsRow (w.heap.size + 1) 3 1 u k (((rowVals C row).take k).map (Value.int .i64)) ∧ Hid (Kept (w.alloc (.cells #[.int .i64 6, .slice A1 n1 c1, .slice A2 n2 c2, .int .i64 R, .int .i64 Ct, .slice A3 n3 c3] 37)) wr)) (fun _ v _ => n1 - (intOf v).toNat)
  case atStart => exact ⟨0, Nat.zero_le _, rfl, own_empty (heap_new2 _ _ _) (Nat.le_refl _), Kept.box _ _⟩
  case round =>
    obtain ⟨k, hk, rfl, hown, Hkw⟩ := hrel
    have hb := HB.out wr Hkw.out
    have b0 := cell_at hb 0
    have b1 := cell_at hb 1
    have b2 := cell_at hb 2
    have b3 := cell_at hb 3
    have b4 := cell_at hb 4
    have b5 := cell_at hb 5
    simp only [List.getElem?_toArray, List.getElem?_cons_zero, List.getElem?_cons_succ] at b0 b1 b2 b3 b4 b5
    clear hb
    have hszr := Hkw.out.size
    simp only [World.size_alloc] at hszr
    by_cases hlt : k < n1
    · have hSr := HC.out.vars.kept ((Kept.box _ _).then Hkw.out)
      have hRr := HI.out.kept ((Kept.box _ _).then Hkw.out)
      obtain ⟨a, rfl, hblk⟩ := hSr.addr (by omega)
      obtain ⟨x, Hx, hcx, _, _⟩ := hSr.named k hlt
      obtain ⟨hx1, hx2⟩ := varsOk_rng Hv.out (show k < C.vars.length by have := Hl1.out; omega)
      rw [Hx.out] at hx1 hx2
      obtain ⟨p, rfl⟩ := Int.eq_ofNat_of_zero_le hx1
      have hpn : p < n := by omega
      obtain ⟨ar, rfl, hblk2⟩ := hRr.addr (by omega)
      obtain ⟨y, Hy, hcy, hy1, hy2⟩ := hRr.named p hpn
      have Htake : Hid (((rowVals C row).take (k + 1)).map (Value.int .i64) = ((rowVals C row).take k).map (Value.int .i64) ++ [.int .i64 y]) := by
        show _ = _
        rw [take_succ_getD (x := y) (by have := Hrl.out; omega) ?_]
        · simp
        · unfold rowVals
          rw [List.getD_eq_getElem?_getD, List.getElem?_map]
          have h2 := Hx.out
          rw [List.getD_eq_getElem?_getD, List.getElem?_eq_getElem (by have := Hl1.out; omega)] at h2
          rw [List.getElem?_eq_getElem (by have := Hl1.out; omega)]
          simp only [Option.getD_some] at h2
          simp only [Option.map_some, Option.getD_some, h2, Int.toNat_natCast]
          exact Hy.out
      clear hSr hRr
      go_wp2_with (at_builtin; refine wpList_append_own _ rfl _ _ 23 rfl (w.heap.size + 1) 3 i0 (.int .i64 0) 1 8 Tryd.underlying23 hi hz0 hz1 hz2 rfl (by decide) _ _ _ rfl (hown.alloc _) ⟨wr.heap.size, 0, none⟩ 1 1 [.int .i64 y] rfl rfl (cell_one_new _ _ _) (by simp [Value.oneCell']) (by unfold maxLen; omega) (by omega) (by simp; omega) ?_; intro v' w2 hown' hgrow _)
      go_roundw
      case rel => exact ⟨k + 1, by omega, by go_num, by rw [Htake.out]; exact hown', Hkw.out.appended hown (by simp) hgrow⟩
      case measure => simp [intOf]; omega
    · have e : k = n1 := by omega
      subst e
      rw [List.take_of_length_le (by have := Hrl.out; omega)] at hown
      obtain ⟨A', c', rfl, hI', hfr⟩ := Ints.of_own hown Hrng.out
      have HI' := Lib.hid hI'
      clear hown hI' hfr hlt
      obtain ⟨wv, hwv⟩ : ∃ wv : World, wv = wr := ⟨_, rfl⟩
      subst hwv
      obtain ⟨rv, hrv⟩ : ∃ rv, rv = rowVals C row := ⟨_, rfl⟩
      have Hrv := Lib.hid hrv
      have HIv : Hid (Ints wv A' k rv) := by rw [hrv]; exact HI'.out
      clear hrv HI' Hrl Hrng
      have Hrvl := Lib.hid HIv.out.len
      obtain ⟨_, _, hnn, hdv⟩ := table_parts Hkind.out HR.out
      rw [Hl1.out, Hl3.out] at hdv
      rw [Hl3.out] at hnn
      obtain ⟨q, hq⟩ : ∃ q, n3 = q * k := ⟨n3 / k, (Nat.div_mul_cancel (Nat.dvd_of_mod_eq_zero hdv)).symm⟩
      have hk0 : 0 < k := by have := (rightB_len HR.out).1; have := Hl1.out; omega
      have HH : Hid (holdsT C row = (List.range q).any fun t => chunk C.nums k t == rv) := by
        show _ = _
        unfold holdsT
        rw [Hl1.out, Hl3.out, hq, Nat.mul_div_cancel _ hk0, Hrv.out]
      have Hq := Lib.hid hq
      clear hdv hq
      go_wp2_with fail
      clear b0 b1 b2 b3 b4 b5
      go_loopw [10] (fun u wq => ∃ t s : Nat, s ≤ n3 ∧ u = .int .i64 s ∧ Hid (s = t * k) ∧ Hid (t ≤ q) ∧ Hid (Kept wv wq) ∧ Hid (((List.range t).any fun t => chunk C.nums k t == rv) = false)) (fun u _ => n3 - (intOf u).toNat)
      case atStart => exact ⟨0, 0, Nat.zero_le _, rfl, by show 0 = _; simp, Nat.zero_le _, Kept.same _, rfl⟩
      case round =>
        obtain ⟨t, s, hs, rfl, Hs, Ht, Hkq, Hno⟩ := hrel
        have Hk2 := Lib.hid (Hkw.out.then Hkq.out)
        have hb := HB.out wr Hk2.out
        have b0 := cell_at hb 0
        have b1 := cell_at hb 1
        have b2 := cell_at hb 2
        have b3 := cell_at hb 3
        have b4 := cell_at hb 4
        have b5 := cell_at hb 5
        simp only [List.getElem?_toArray, List.getElem?_cons_zero, List.getElem?_cons_succ] at b0 b1 b2 b3 b4 b5
        clear hb
        have hlb : w.heap.size < wr.heap.size := World.block_lt_of_cell? wr _ b0
        by_cases hlt2 : s < n3
        · have hst : s + k ≤ n3 ∧ t < q := by
            have h1 : t < q := by
              rcases Nat.lt_or_ge t q with h | h
              · exact h
              · have h2 := Nat.mul_le_mul_right k h
                have := Hq.out
                have := Hs.out
                omega
            have h2 : (t + 1) * k ≤ q * k := Nat.mul_le_mul_right k h1
            rw [Nat.add_mul, Nat.one_mul] at h2
            have := Hq.out
            have := Hs.out
            omega
          obtain ⟨hsk, htq⟩ := hst
          have Hs1 : Hid (s + k = (t + 1) * k) := by show _ = _; rw [Hs.out, Nat.add_mul, Nat.one_mul]
          obtain ⟨a3, rfl, hb30⟩ := HC.out.nums.addr (by omega)
          obtain ⟨av, rfl, hbv0⟩ := HIv.out.addr hk0
          obtain ⟨wo, hwo⟩ : ∃ wo : World, wo = wr := ⟨_, rfl⟩
          subst hwo
          go_wp2_with fail
          clear b0 b1 b2 b3 b4 b5
          go_loopw [11, 12] (fun u v wq => ∃ i : Nat, i ≤ k ∧ v = .int .i64 i ∧ u = .bool ((List.range i).all fun i => C.nums.getD (s + i) 0 == rv.getD i 0) ∧ Hid (Kept wo wq)) (fun _ v _ => k - (intOf v).toNat)
          case atStart => exact ⟨0, Nat.zero_le _, rfl, rfl, Kept.same _⟩
          case round =>
            obtain ⟨i, hik, rfl, rfl, Hki⟩ := hrel
            have HkI := Lib.hid (Hk2.out.then Hki.out)
            have HwI := Lib.hid ((Kept.box _ _).then HkI.out)
            have hb := HB.out wr HkI.out
            have b0 := cell_at hb 0
            have b1 := cell_at hb 1
            have b2 := cell_at hb 2
            have b3 := cell_at hb 3
            have b4 := cell_at hb 4
            have b5 := cell_at hb 5
            simp only [List.getElem?_toArray, List.getElem?_cons_zero, List.getElem?_cons_succ] at b0 b1 b2 b3 b4 b5
            clear hb
            have hszi := HwI.out.size
            have hlb2 : w.heap.size < wr.heap.size := World.block_lt_of_cell? wr _ b0
            by_cases hlt3 : i < k
            · have hN := HC.out.nums.kept HwI.out
              have hV := HIv.out.kept (Hkq.out.then Hki.out)
              obtain ⟨y, Hy, hcy, _, _⟩ := hN.named (s + i) (by omega)
              obtain ⟨x, Hx, hcx, _, _⟩ := hV.named i hlt3
              have hb3 : a3.block < wr.heap.size := by omega
              have hbv : av.block < wr.heap.size := hV.block (by omega)
              have Hnx : Hid (((List.range (i + 1)).all fun i => C.nums.getD (s + i) 0 == rv.getD i 0) = (((List.range i).all fun i => C.nums.getD (s + i) 0 == rv.getD i 0) && (y == x))) := by
                show _ = _
                rw [List.range_succ, List.all_append, ← Hy.out, ← Hx.out]; simp
              have hsi : IntKind.i64.wrap ((s : Int) + (i : Int)) = (s : Int) + (i : Int) := IntWalk.i64_in _ (by omega)
              have hsi2 : ((s : Int) + (i : Int)).toNat = s + i := by omega
              clear hN hV
              generalize ((List.range i).all fun i => C.nums.getD (s + i) 0 == rv.getD i 0) = q1 at *
              cases q1 with
              | false =>
                go_wp2_with fail
                refine wp_region_quiet_below (by kernel_rfl) (by kernel_rfl) ?_
                repeat (any_goals (first | go_big_quiet_step ((fail)) | quiet_step ((fail)) | (refine wpQuiet_step (fun K hK => ?_); go_simp; split <;> (refine hK _ ?_; clear hK K))))
                all_goals (refine wpQuiet_nil ?_; intro w1 hw'; replace hw' := Kept.regrown hw')
                all_goals try (exfalso; omega)
                have Hk9 := Lib.hid (Hki.out.then hw')
                clear hw' b0 b1 b2 b3 b4 b5
                go_wp2_with fail
                go_roundw
                case rel => exact ⟨i + 1, by omega, by go_num, by rw [Hnx.out]; rfl, Hk9.out⟩
                case measure => simp [intOf]; omega
              | true =>
                go_wp2_with fail
                refine wp_region_quiet_below (by kernel_rfl) (by kernel_rfl) ?_
                repeat (any_goals (first | go_big_quiet_step ((fail)) | quiet_step ((fail)) | (refine wpQuiet_step (fun K hK => ?_); go_simp; split <;> (refine hK _ ?_; clear hK K))))
                all_goals (refine wpQuiet_nil ?_; intro w1 hw'; replace hw' := Kept.regrown hw')
                all_goals try (exfalso; omega)
                have Hk9 := Lib.hid (Hki.out.then hw')
                clear hw' b0 b1 b2 b3 b4 b5 hsi hsi2
                go_wp2_with fail
                go_roundw
                case rel => exact ⟨i + 1, by omega, by go_num, by rw [Hnx.out]; rfl, Hk9.out⟩
                case measure => simp [intOf]; omega
            · have e : i = k := by omega
              subst e
              have Hch : Hid (((List.range i).all fun j => C.nums.getD (s + j) 0 == rv.getD j 0) = (chunk C.nums i t == rv)) := chunk_eq Hs.out Hrvl.out (by have := Hl3.out; omega)
              have Hno2 : Hid (((List.range (t + 1)).any fun t => chunk C.nums i t == rv) = (chunk C.nums i t == rv)) := by
                show _ = _
                rw [List.range_succ, List.any_append, Hno.out]; simp
              have Hyes : Hid ((chunk C.nums i t == rv) = true → holdsT C row = true) := fun h => by
                rw [HH.out, List.any_eq_true]
                exact ⟨t, List.mem_range.2 htq, h⟩
              rw [Hch.out]
              clear Hch
              generalize (chunk C.nums i t == rv) = q2 at *
              cases q2 with
              | true =>
                have hy := Lib.hid (Hyes.out (by first | rfl | trivial))
                go_wp2_with fail
                go_ret
                exact ⟨ret_bool hy.out.symm, HwI.out⟩
              | false =>
                have hsi : IntKind.i64.wrap ((s : Int) + (i : Int)) = (s : Int) + (i : Int) := IntWalk.i64_in _ (by omega)
                go_wp2_with fail
                go_roundw
                case rel => exact ⟨t + 1, s + i, by omega, by go_num, Hs1.out, htq, Hkq.out.then Hki.out, Hno2.out⟩
                case measure => simp [intOf]; omega
        · have e : s = n3 := by omega
          have etq : t = q := by
            have h1 := Hq.out
            have h2 := Hs.out
            rw [e] at h2
            exact Nat.eq_of_mul_eq_mul_right hk0 (h2.symm.trans h1)
          have HF : Hid (holdsT C row = false) := by show _ = _; rw [HH.out, ← etq]; exact Hno.out
          clear etq e
          go_wp2_with fail
          go_ret
          exact ⟨ret_bool HF.out.symm, (Kept.box _ _).then Hk2.out⟩
end Go.Proofs.YthddanjmnifloaaDoor

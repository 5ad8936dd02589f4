/-
  Contracts and plain laws that the card rests on, part 15.
-/
import Derived.Test.YtjmegicopdbkdaaDoorI10
import Derived.Test.YtjmegicopdbkdaaDoorI11
import Derived.Test.YtjmegicopdbkdaaDoorI14
set_option maxHeartbeats 1000000
set_option maxRecDepth 10000
namespace Go.Proofs.YtjmegicopdbkdaaDoor
open Go Go.RowKit Pl



theorem holds5_any (K R Ct : Int) (A1 A2 A3 : Option Addr) (n1 c1 n2 c2 n3 c3 : Nat) (C : ConB) (A : Option Addr) (n c : Nat) (row : List Int) (w : World) (hC : ConIn w K R Ct A1 A2 A3 n1 c1 n2 c2 n3 c3 C) (hI : Ints w A n row) (hK : K = 5) (hR : rightB C n = true) (hW : withinB row 1048576 = true) :
    Calls Tryd.prog 20 #[.agg #[.int .i64 K, .slice A1 n1 c1, .slice A2 n2 c2, .int .i64 R, .int .i64 Ct, .slice A3 n3 c3], .slice A n c] w fun e w' => e = .returned (.bool (holdsD C row)) ∧ Kept w w' := by
  subst hK
  have _hW := hW
  obtain ⟨i0, hi, hz0, hz1, hz2⟩ := info_parts info_int
  have hv := rightB_vars hR
  have HC := Lib.hid hC
  have HI := Lib.hid hI
  have HR := Lib.hid hR
  have hsm := hI.small
  have Hlen := Lib.hid hI.len
  have Hl1 := Lib.hid hC.vars.len
  have Hl3 := Lib.hid hC.nums.len
  have hs3 := hC.nums.small
  have Hkind := Lib.hid hC.kind
  have Hv := Lib.hid hv
  have hn18 : n1 ≤ 9 := by
    have h1 := rightB_len hR
    have := hC.vars.len
    omega
  have hrl : (rowVals C row).length = n1 := by unfold rowVals; rw [List.length_map]; exact hC.vars.len
  have Hrl := Lib.hid hrl
  have Hrng : Hid (∀ x ∈ rowVals C row, -9223372036854775808 ≤ x ∧ x ≤ 9223372036854775807) := fun x hx => by
    unfold rowVals at hx
    rw [List.mem_map] at hx
    obtain ⟨v, _, rfl⟩ := hx
    exact HI.out.getD_rng _
  clear hC hI hv hrl hR
  have HB : Hid (∀ wr, Kept (w.alloc (.cells #[.int .i64 5, .slice A1 n1 c1, .slice A2 n2 c2, .int .i64 R, .int .i64 Ct, .slice A3 n3 c3] 24)) wr → wr.heap[w.heap.size]? = some (.cells #[.int .i64 5, .slice A1 n1 c1, .slice A2 n2 c2, .int .i64 R, .int .i64 Ct, .slice A3 n3 c3] 24)) := fun wr h => h.heapAt (heap_new _ _)
  go_enter Tryd.func20, Tryd.ntmps20
  go_wp2_with fail
  go_loopw [5, 6] (fun u v wr => ∃ k : Nat, k ≤ n1 ∧ v = .int .i64 k ∧ wr.ownsRow (w.heap.size + 1) 3 1 u k (((rowVals C row).take k).map (Value.int .i64)) ∧ Hid (Kept (w.alloc (.cells #[.int .i64 5, .slice A1 n1 c1, .slice A2 n2 c2, .int .i64 R, .int .i64 Ct, .slice A3 n3 c3] 24)) wr)) (fun _ v _ => n1 - (intOf v).toNat)
  case atStart => exact ⟨0, Nat.zero_le _, rfl, own_empty (heap_new2 _ _ _) (Nat.le_refl _), Kept.box _ _⟩
  case round =>
    obtain ⟨k, hk, rfl, hown, Hkw⟩ := hrel
    have hb := HB.out wr Hkw.out
    have b0 := cell_at hb 0
    have b1 := cell_at hb 1
    have b2 := cell_at hb 2
    have b3 := cell_at hb 3
    have b4 := cell_at hb 4
    have b5 := cell_at hb 5
    simp only [List.getElem?_toArray, List.getElem?_cons_zero, List.getElem?_cons_succ] at b0 b1 b2 b3 b4 b5
    clear hb
    have hszr := Hkw.out.size
    simp only [World.size_alloc] at hszr
    by_cases hlt : k < n1
    · have hSr := HC.out.vars.kept ((Kept.box _ _).then Hkw.out)
      have hRr := HI.out.kept ((Kept.box _ _).then Hkw.out)
      obtain ⟨a, rfl, hblk⟩ := hSr.addr (by omega)
      obtain ⟨x, Hx, hcx, _, _⟩ := hSr.named k hlt
      obtain ⟨hx1, hx2⟩ := varsOk_rng Hv.out (show k < C.vars.length by have := Hl1.out; omega)
      rw [Hx.out] at hx1 hx2
      obtain ⟨p, rfl⟩ := Int.eq_ofNat_of_zero_le hx1
      have hpn : p < n := by omega
      obtain ⟨ar, rfl, hblk2⟩ := hRr.addr (by omega)
      obtain ⟨y, Hy, hcy, hy1, hy2⟩ := hRr.named p hpn
      have Htake : Hid (((rowVals C row).take (k + 1)).map (Value.int .i64) = ((rowVals C row).take k).map (Value.int .i64) ++ [.int .i64 y]) := by
        show _ = _
        rw [take_succ_getD (x := y) (by have := Hrl.out; omega) ?_]
        · simp
        · unfold rowVals
          rw [List.getD_eq_getElem?_getD, List.getElem?_map]
          have h2 := Hx.out
          rw [List.getD_eq_getElem?_getD, List.getElem?_eq_getElem (by have := Hl1.out; omega)] at h2
          rw [List.getElem?_eq_getElem (by have := Hl1.out; omega)]
          simp only [Option.getD_some] at h2
          simp only [Option.map_some, Option.getD_some, h2, Int.toNat_natCast]
          exact Hy.out
      clear hSr hRr
      go_wp2_with (at_builtin; refine wpList_append_own _ rfl _ _ 22 rfl (w.heap.size + 1) 3 i0 (.int .i64 0) 1 8 Tryd.underlying22 hi hz0 hz1 hz2 rfl (by decide) _ _ _ rfl (hown.alloc _) ⟨wr.heap.size, 0, none⟩ 1 1 [.int .i64 y] rfl rfl (cell_one_new _ _ _) (by simp [Value.oneCell']) (by unfold maxLen; omega) (by omega) (by simp; omega) ?_; intro v' w2 hown' hgrow _)
      go_roundw
      case rel => exact ⟨k + 1, by omega, by go_num, by rw [Htake.out]; exact hown', Hkw.out.appended hown (by simp) hgrow⟩
      case measure => simp [intOf]; omega
    · have e : k = n1 := by omega
      subst e
      rw [List.take_of_length_le (by have := Hrl.out; omega)] at hown
      obtain ⟨A', c', rfl, hI', hfr⟩ := Ints.of_own hown Hrng.out
      have HI' := Lib.hid hI'
      clear hown hI' hfr hlt
      obtain ⟨wv, hwv⟩ : ∃ wv : World, wv = wr := ⟨_, rfl⟩
      subst hwv
      obtain ⟨rv, hrv⟩ : ∃ rv, rv = rowVals C row := ⟨_, rfl⟩
      have Hrv := Lib.hid hrv
      have HIv : Hid (Ints wv A' k rv) := by rw [hrv]; exact HI'.out
      clear hrv HI' Hrl Hrng
      have Hrvl := Lib.hid HIv.out.len
      have HH : Hid (holdsD C row = (List.range k).all fun i => (List.range i).all fun t => !decide (rv.getD i 0 = rv.getD t 0)) := by
        show _ = _
        unfold holdsD
        rw [Hl1.out, Hrv.out]
      go_wp2_with fail
      clear b0 b1 b2 b3 b4 b5
      go_loopw [8] (fun u wq => ∃ i : Nat, i ≤ k ∧ u = .int .i64 i ∧ Hid (Kept wv wq) ∧ Hid (((List.range i).all fun i => (List.range i).all fun t => !decide (rv.getD i 0 = rv.getD t 0)) = true)) (fun u _ => k - (intOf u).toNat)
      case atStart => exact ⟨0, Nat.zero_le _, rfl, Kept.same _, rfl⟩
      case round =>
        obtain ⟨i, hi2, rfl, Hki, Hup⟩ := hrel
        obtain ⟨wi, hwi⟩ : ∃ wi : World, wi = wr := ⟨_, rfl⟩
        subst hwi
        by_cases hlt2 : i < k
        · go_wp2_with fail
          go_loopw [9] (fun u wz => ∃ t : Nat, t ≤ i ∧ u = .int .i64 t ∧ Hid (Kept wv wz) ∧ Hid (((List.range t).all fun t => !decide (rv.getD i 0 = rv.getD t 0)) = true)) (fun u _ => i - (intOf u).toNat)
          case atStart => exact ⟨0, Nat.zero_le _, rfl, Hki.out, rfl⟩
          case round =>
            obtain ⟨t, ht, rfl, Hkz, Hin⟩ := hrel
            obtain ⟨wz, hwz⟩ : ∃ wz : World, wz = wr := ⟨_, rfl⟩
            subst hwz
            by_cases hlt3 : t < i
            · obtain ⟨av, rfl, hbv⟩ := (HIv.out.kept Hkz.out).addr (by omega)
              obtain ⟨x, Hx, hcx, _, _⟩ := (HIv.out.kept Hkz.out).named i hlt2
              obtain ⟨y, Hy, hcy, _, _⟩ := (HIv.out.kept Hkz.out).named t (by omega)
              by_cases hxy : x = y
              · have hb : (x == y) = true := by simp [hxy]
                have Hres : Hid (holdsD C row = false) := by
                  show _ = _
                  rw [HH.out, List.all_eq_false]
                  refine ⟨i, List.mem_range.2 hlt2, ?_⟩
                  rw [Bool.not_eq_true, List.all_eq_false]
                  refine ⟨t, List.mem_range.2 hlt3, ?_⟩
                  rw [Hx.out, Hy.out, hxy]
                  simp
                clear hxy
                go_wp2_with fail
                refine wp_region_quiet_below (by kernel_rfl) (by kernel_rfl) ?_
                repeat (any_goals (first | go_big_quiet_step ((fail)) | quiet_step ((fail)) | (refine wpQuiet_step (fun K hK => ?_); go_simp; split <;> (refine hK _ ?_; clear hK K))))
                all_goals (refine wpQuiet_nil ?_; intro w1 hw'; replace hw' := Kept.regrown hw')
                all_goals try (exfalso; omega)
                have Hk9 := Lib.hid ((Kept.box _ _).then ((Hkw.out.then Hkz.out).then hw'))
                clear hw'
                go_wp2_with fail
                go_ret
                exact ⟨ret_bool (by rw [Hres.out]), Hk9.out⟩
              · have hb : (x == y) = false := by simp [hxy]
                have Hnx : Hid (((List.range (t + 1)).all fun t => !decide (rv.getD i 0 = rv.getD t 0)) = true) := by
                  show _ = _
                  rw [List.range_succ, List.all_append, Hin.out, List.all_cons, List.all_nil, Hx.out, Hy.out, decide_eq_false hxy]
                  rfl
                clear hxy
                go_wp2_with fail
                refine wp_region_quiet_below (by kernel_rfl) (by kernel_rfl) ?_
                repeat (any_goals (first | go_big_quiet_step ((fail)) | quiet_step ((fail)) | (refine wpQuiet_step (fun K hK => ?_); go_simp; split <;> (refine hK _ ?_; clear hK K))))
                all_goals (refine wpQuiet_nil ?_; intro w1 hw'; replace hw' := Kept.regrown hw')
                all_goals try (exfalso; omega)
                have Hk9 := Lib.hid (Hkz.out.then hw')
                clear hw'
                go_wp2_with fail
                go_roundw
                case rel => first | exact ⟨t + 1, by omega, by go_num, Hk9.out, Hnx.out⟩ | ((repeat apply Exists.intro); exact ⟨⟨t + 1, by omega, by go_num, Hk9.out, Hnx.out⟩, rfl⟩)
                case measure => simp [intOf]; omega
            · have e : t = i := by omega
              subst e
              have Hnx : Hid (((List.range (t + 1)).all fun i => (List.range i).all fun t => !decide (rv.getD i 0 = rv.getD t 0)) = true) := by
                show _ = _
                rw [List.range_succ, List.all_append, Hup.out, List.all_cons, List.all_nil, Hin.out]
                rfl
              go_wp2_with fail
              go_roundw
              case rel => exact ⟨t + 1, by omega, by go_num, Hkz.out, Hnx.out⟩
              case measure => simp [intOf]; omega
        · have e : i = k := by omega
          subst e
          have Hres : Hid (holdsD C row = true) := by show _ = _; rw [HH.out, Hup.out]
          have Hk9 := Lib.hid ((Kept.box _ _).then (Hkw.out.then Hki.out))
          go_wp2_with fail
          go_ret
          exact ⟨ret_bool (by rw [Hres.out]), Hk9.out⟩
end Go.Proofs.YtjmegicopdbkdaaDoor

set_option maxHeartbeats 1000000
set_option maxRecDepth 10000
namespace Go.Proofs.YtjmegicopdbkdaaDoor
open Go Go.RowKit Pl

theorem sound15_any (K R Ct : Int) (A1 A2 A3 : Option Addr) (n1 c1 n2 c2 n3 c3 : Nat) (C : ConB) (A B : Option Addr) (n c m d : Nat) (ds : List DomB) (row : List Int) (w : World) (hC : ConIn w K R Ct A1 A2 A3 n1 c1 n2 c2 n3 c3 C) (hS : Doms w A n ds) (hI : Ints w B m row) (hT : Tab w) :
    Calls Tryd.prog 8 #[.agg #[.int .i64 K, .slice A1 n1 c1, .slice A2 n2 c2, .int .i64 R, .int .i64 Ct, .slice A3 n3 c3], .slice A n c, .slice B m d] w fun e w' => e = .returned (.bool true) ∧ Kept w w' := by
  have HC := Lib.hid hC
  have HS := Lib.hid hS
  have HI := Lib.hid hI
  have HT := Lib.hid hT
  have Hlen := Lib.hid hS.len
  have HlR := Lib.hid hI.len
  clear hC hS hI hT
  have hhB : ∀ W, Kept (w.alloc (.cells #[.int .i64 K, .slice A1 n1 c1, .slice A2 n2 c2, .int .i64 R, .int .i64 Ct, .slice A3 n3 c3] 24)) W → W.heap[w.heap.size]? = some (.cells #[.int .i64 K, .slice A1 n1 c1, .slice A2 n2 c2, .int .i64 R, .int .i64 Ct, .slice A3 n3 c3] 24) := fun W h => h.heapAt (heap_new _ _)
  have HB := Lib.hid hhB
  clear hhB
  go_enter Tryd.func8, Tryd.ntmps8
  go_wp2_with fail
  refine (awake15 _ (HT.out.kept (Kept.box _ _))).mono ?_
  rintro e W1 ⟨rfl, hk1⟩
  have hb := HB.out W1 hk1
  have b0 := cell_at hb 0
  have b1 := cell_at hb 1
  have b2 := cell_at hb 2
  have b3 := cell_at hb 3
  have b4 := cell_at hb 4
  have b5 := cell_at hb 5
  simp only [List.getElem?_toArray, List.getElem?_cons_zero, List.getElem?_cons_succ] at b0 b1 b2 b3 b4 b5
  clear hb
  have Hk1 := Lib.hid hk1
  have HK1 := Lib.hid ((Kept.box _ _).then hk1)
  clear hk1
  go_wp2_with fail
  refine (large_any K R Ct A1 A2 A3 n1 c1 n2 c2 n3 c3 C A n c ds _ (HC.out.kept HK1.out) (HS.out.kept HK1.out)).mono ?_
  rintro e W2 ⟨bl, rfl, hn, hk2⟩
  clear b0 b1 b2 b3 b4 b5
  have hb := HB.out W2 (Hk1.out.then hk2)
  have b0 := cell_at hb 0
  have b1 := cell_at hb 1
  have b2 := cell_at hb 2
  have b3 := cell_at hb 3
  have b4 := cell_at hb 4
  have b5 := cell_at hb 5
  simp only [List.getElem?_toArray, List.getElem?_cons_zero, List.getElem?_cons_succ] at b0 b1 b2 b3 b4 b5
  clear hb
  have Hk2 := Lib.hid (Hk1.out.then hk2)
  have HK2 := Lib.hid (HK1.out.then hk2)
  clear hk2
  cases bl with
  | true =>
    clear b0 b1 b2 b3 b4 b5
    go_wp2_with fail
    go_ret
    exact ⟨rfl, HK2.out⟩
  | false =>
    have hn20 : n ≤ 20 := hn rfl
    clear hn
    go_wp2_with fail
    have H1 := diffstep_law K R Ct A1 A2 A3 n1 c1 n2 c2 n3 c3 C A n c ds _ (HC.out.kept HK2.out) (HS.out.kept HK2.out) (HT.out.kept HK2.out) (by omega)
    cases hg : diffGo C ds with
    | false =>
      rw [if_neg (by rw [hg]; decide)] at H1
      refine H1.mono ?_
      rintro e W3 ⟨rfl, hk3⟩
      have HK3 := Lib.hid (HK2.out.then hk3)
      clear H1 hk3 b0 b1 b2 b3 b4 b5
      go_wp2_with fail
      go_ret
      exact ⟨rfl, HK3.out⟩
    | true =>
      obtain ⟨hk4, hB4, hm4⟩ := diffGo_parts hg
      have Hg := Lib.hid hg
      have Hm4 := Lib.hid hm4
      have hK4 : K = 5 := HC.out.kind.symm.trans hk4
      subst hK4
      rw [if_pos hg] at H1
      refine H1.mono ?_
      rintro e W3 ⟨Aa, ca, rfl, hDa, hk3⟩
      have Hk3 := Lib.hid (Hk2.out.then hk3)
      have HK3 := Lib.hid (HK2.out.then hk3)
      have HDa := Lib.hid hDa
      rw [Hlen.out] at hB4
      have hR4 := hB4
      have HH : Hid (m = n → withinB row 1048576 = true → ∀ W, Kept w W → Calls Tryd.prog 20 #[.agg #[.int .i64 5, .slice A1 n1 c1, .slice A2 n2 c2, .int .i64 R, .int .i64 Ct, .slice A3 n3 c3], .slice B m d] W fun e w' => e = .returned (.bool (holdsD C row)) ∧ Kept W w') := fun h hwr W hW =>
        holds5_any 5 R Ct A1 A2 A3 n1 c1 n2 c2 n3 c3 C B m d row W (HC.out.kept hW) (HI.out.kept hW) rfl (by rw [h]; exact hR4) hwr
      have HR11 : Hid (∀ W O, Kept w W → W.heap[O]? = some (.cells #[.int .i64 5, .slice A1 n1 c1, .slice A2 n2 c2, .int .i64 R, .int .i64 Ct, .slice A3 n3 c3] 24) → Calls Tryd.prog 19 #[.slice (some ⟨O, 0, Option.none⟩) 1 1, .slice B m d] W fun e w' => e = .returned (.bool (withinB row 1048576 && rightB C m)) ∧ Kept W w') := fun W O hW hO =>
        rr1_any 5 R Ct A1 A2 A3 n1 c1 n2 c2 n3 c3 C O B m d row W hO (HC.out.kept hW) (HI.out.kept hW)
      clear H1 hk3 hDa b0 b1 b2 b3 b4 b5 hB4 hR4 hg hm4
      have hb := HB.out W3 Hk3.out
      have b0 := cell_at hb 0
      have b1 := cell_at hb 1
      have b2 := cell_at hb 2
      have b3 := cell_at hb 3
      have b4 := cell_at hb 4
      have b5 := cell_at hb 5
      simp only [List.getElem?_toArray, List.getElem?_cons_zero, List.getElem?_cons_succ] at b0 b1 b2 b3 b4 b5
      clear hb
      go_wp2_with fail
      refine (within_any _ _ _ _ _ _ _ _ _ HDa.out (HS.out.kept HK3.out)).mono ?_
      rw [step_within Hm4.out]
      rintro e W4 ⟨rfl, hk4⟩
      have Hk4 := Lib.hid (Hk3.out.then hk4)
      have HK4 := Lib.hid (HK3.out.then hk4)
      have HDa4 := Lib.hid (HDa.out.kept hk4)
      clear hk4 b0 b1 b2 b3 b4 b5
      have hb := HB.out W4 Hk4.out
      have b0 := cell_at hb 0
      have b1 := cell_at hb 1
      have b2 := cell_at hb 2
      have b3 := cell_at hb 3
      have b4 := cell_at hb 4
      have b5 := cell_at hb 5
      simp only [List.getElem?_toArray, List.getElem?_cons_zero, List.getElem?_cons_succ] at b0 b1 b2 b3 b4 b5
      clear hb
      go_wp2_with fail
      refine (left_any _ _ _ _ _ _ _ _ _ (HI.out.kept HK4.out) (HS.out.kept HK4.out)).mono ?_
      have Hsnd : Hid (leftL row ds = true → holdsD C row = true → leftL row (stepB (diffKp C ds) ds) = true) := fun h1 h2 => diff_sound Hg.out h1 h2
      have Hmn : Hid (leftL row ds = true → m = n) := fun h => by
        have := (leftL_iff.1 h).1
        rw [HlR.out, Hlen.out] at this
        exact this
      generalize leftL row ds = q1 at *
      rintro e W5 ⟨rfl, hk5⟩
      have Hk5 := Lib.hid (Hk4.out.then hk5)
      have HK5 := Lib.hid (HK4.out.then hk5)
      have HDa5 := Lib.hid (HDa4.out.kept hk5)
      clear hk5 b0 b1 b2 b3 b4 b5
      cases q1 with
      | false =>
        go_wp2_with fail
        go_ret
        exact ⟨rfl, HK5.out⟩
      | true =>
        have Hmn2 := Lib.hid (Hmn.out (by first | rfl | trivial))
        have hb := HB.out W5 Hk5.out
        have b0 := cell_at hb 0
        have b1 := cell_at hb 1
        have b2 := cell_at hb 2
        have b3 := cell_at hb 3
        have b4 := cell_at hb 4
        have b5 := cell_at hb 5
        simp only [List.getElem?_toArray, List.getElem?_cons_zero, List.getElem?_cons_succ] at b0 b1 b2 b3 b4 b5
        clear hb
        go_wp2_with fail
        refine (HR11.out _ _ (HK5.out.then (Kept.box _ _)) (heap_new _ _)).mono ?_
        have Hwq : Hid ((withinB row 1048576 && rightB C m) = true → withinB row 1048576 = true) := fun h => (Bool.and_eq_true_iff.1 h).1
        generalize (withinB row 1048576 && rightB C m) = q2 at *
        rintro e W6 ⟨rfl, hk6⟩
        have Hk6 := Lib.hid (Hk5.out.then ((Kept.box _ _).then hk6))
        have HK6 := Lib.hid (HK5.out.then ((Kept.box _ _).then hk6))
        have HDa6 := Lib.hid (HDa5.out.kept ((Kept.box _ _).then hk6))
        clear hk6 b0 b1 b2 b3 b4 b5
        cases q2 with
        | false =>
          go_wp2_with fail
          go_ret
          exact ⟨rfl, HK6.out⟩
        | true =>
          have hb := HB.out W6 Hk6.out
          have b0 := cell_at hb 0
          have b1 := cell_at hb 1
          have b2 := cell_at hb 2
          have b3 := cell_at hb 3
          have b4 := cell_at hb 4
          have b5 := cell_at hb 5
          simp only [List.getElem?_toArray, List.getElem?_cons_zero, List.getElem?_cons_succ] at b0 b1 b2 b3 b4 b5
          clear hb
          go_wp2_with fail
          refine (HH.out Hmn2.out (Hwq.out (by first | rfl | trivial)) _ HK6.out).mono ?_
          generalize holdsD C row = q3 at *
          rintro e W7 ⟨rfl, hk7⟩
          have HK7 := Lib.hid (HK6.out.then hk7)
          have HDa7 := Lib.hid (HDa6.out.kept hk7)
          clear hk7 b0 b1 b2 b3 b4 b5
          cases q3 with
          | false =>
            go_wp2_with fail
            go_ret
            exact ⟨rfl, HK7.out⟩
          | true =>
            have Hs := Lib.hid (Hsnd.out (by first | rfl | trivial) (by first | rfl | trivial))
            go_wp2_with fail
            refine (left_any _ _ _ _ _ _ _ _ _ (HI.out.kept HK7.out) HDa7.out).mono ?_
            rw [Hs.out]
            rintro e W8 ⟨rfl, hk8⟩
            have HK8 := Lib.hid (HK7.out.then hk8)
            clear hk8
            go_wp2_with fail
            go_ret
            exact ⟨rfl, HK8.out⟩
end Go.Proofs.YtjmegicopdbkdaaDoor

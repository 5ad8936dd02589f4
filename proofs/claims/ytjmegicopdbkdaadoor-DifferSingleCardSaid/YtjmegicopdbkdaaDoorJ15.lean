/-
  Contracts and plain laws that the card rests on, part 15.
-/
import Derived.Test.YtjmegicopdbkdaaDoorJ10
import Derived.Test.YtjmegicopdbkdaaDoorJ11
import Derived.Test.YtjmegicopdbkdaaDoorJ14
set_option maxHeartbeats 1000000
set_option maxRecDepth 10000
namespace Go.Proofs.YtjmegicopdbkdaaDoor
open Go Go.RowKit Pl



theorem holds5_any (K R Ct : Int) (A1 A2 A3 : Option Addr) (n1 c1 n2 c2 n3 c3 : Nat) (C : ConB) (A : Option Addr) (n c : Nat) (row : List Int) (w : World) (hC : ConIn w K R Ct A1 A2 A3 n1 c1 n2 c2 n3 c3 C) (hI : Ints w A n row) (hK : K = 5) (hR : rightB C n = true) (hW : withinB row 1048576 = true) :
    Calls Tryd.prog 20 #[.agg #[.int .i64 K, .slice A1 n1 c1, .slice A2 n2 c2, .int .i64 R, .int .i64 Ct, .slice A3 n3 c3], .slice A n c] w fun e w' => e = .returned (.bool (holdsD C row)) ∧ Kept w w' := by
  subst hK
  have _hW := hW
  obtain ⟨i0, hi, hz0, hz1, hz2⟩ := info_parts info_int
  have hv := rightB_vars hR
  have HC := Lib.hid hC
  have HI := Lib.hid hI
  have HR := Lib.hid hR
  have hsm := hI.small
  have Hlen := Lib.hid hI.len
  have Hl1 := Lib.hid hC.vars.len
  have Hl3 := Lib.hid hC.nums.len
  have hs3 := hC.nums.small
  have Hkind := Lib.hid hC.kind
  have Hv := Lib.hid hv
  have hn18 : n1 ≤ 9 := by
    have h1 := rightB_len hR
    have := hC.vars.len
    omega
  have hrl : (rowVals C row).length = n1 := by unfold rowVals; rw [List.length_map]; exact hC.vars.len
  have Hrl := Lib.hid hrl
  have Hrng : Hid (∀ x ∈ rowVals C row, -9223372036854775808 ≤ x ∧ x ≤ 9223372036854775807) := fun x hx => by
    unfold rowVals at hx
    rw [List.mem_map] at hx
    obtain ⟨v, _, rfl⟩ := hx
    exact HI.out.getD_rng _
  clear hC hI hv hrl hR
  have HB : Hid (∀ wr, Kept (w.alloc (.cells #[.int .i64 5, .slice A1 n1 c1, .slice A2 n2 c2, .int .i64 R, .int .i64 Ct, .slice A3 n3 c3] 24)) wr → wr.heap[w.heap.size]? = some (.cells #[.int .i64 5, .slice A1 n1 c1, .slice A2 n2 c2, .int .i64 R, .int .i64 Ct, .slice A3 n3 c3] 24)) := fun wr h => h.heapAt (heap_new _ _)
  go_enter Tryd.func20, Tryd.ntmps20
  go_wp2_with fail
  go_loopw [5, 6] (fun u v wr => ∃ k : Nat, k ≤ n1 ∧ v = .int .i64 k ∧ wr.ownsRow (w.heap.size + 1) 3 1 u k (((rowVals C row).take k).map (Value.int .i64)) ∧ Hid (Kept (w.alloc (.cells #[.int .i64 5, .slice A1 n1 c1, .slice A2 n2 c2, .int .i64 R, .int .i64 Ct, .slice A3 n3 c3] 24)) wr)) (fun _ v _ => n1 - (intOf v).toNat)
  case atStart => exact ⟨0, Nat.zero_le _, rfl, own_empty (heap_new2 _ _ _) (Nat.le_refl _), Kept.box _ _⟩
  case round =>
    obtain ⟨k, hk, rfl, hown, Hkw⟩ := hrel
    have hb := HB.out wr Hkw.out
    have b0 := cell_at hb 0
    have b1 := cell_at hb 1
    have b2 := cell_at hb 2
    have b3 := cell_at hb 3
    have b4 := cell_at hb 4
    have b5 := cell_at hb 5
    simp only [List.getElem?_toArray, List.getElem?_cons_zero, List.getElem?_cons_succ] at b0 b1 b2 b3 b4 b5
    clear hb
    have hszr := Hkw.out.size
    simp only [World.size_alloc] at hszr
    by_cases hlt : k < n1
    · have hSr := HC.out.vars.kept ((Kept.box _ _).then Hkw.out)
      have hRr := HI.out.kept ((Kept.box _ _).then Hkw.out)
      obtain ⟨a, rfl, hblk⟩ := hSr.addr (by omega)
      obtain ⟨x, Hx, hcx, _, _⟩ := hSr.named k hlt
      obtain ⟨hx1, hx2⟩ := varsOk_rng Hv.out (show k < C.vars.length by have := Hl1.out; omega)
      rw [Hx.out] at hx1 hx2
      obtain ⟨p, rfl⟩ := Int.eq_ofNat_of_zero_le hx1
      have hpn : p < n := by omega
      obtain ⟨ar, rfl, hblk2⟩ := hRr.addr (by omega)
      obtain ⟨y, Hy, hcy, hy1, hy2⟩ := hRr.named p hpn
      have Htake : Hid (((rowVals C row).take (k + 1)).map (Value.int .i64) = ((rowVals C row).take k).map (Value.int .i64) ++ [.int .i64 y]) := by
        show _ = _
        rw [take_succ_getD (x := y) (by have := Hrl.out; omega) ?_]
        · simp
        · unfold rowVals
          rw [List.getD_eq_getElem?_getD, List.getElem?_map]
          have h2 := Hx.out
          rw [List.getD_eq_getElem?_getD, List.getElem?_eq_getElem (by have := Hl1.out; omega)] at h2
          rw [List.getElem?_eq_getElem (by have := Hl1.out; omega)]
          simp only [Option.getD_some] at h2
          simp only [Option.map_some, Option.getD_some, h2, Int.toNat_natCast]
          exact Hy.out
      clear hSr hRr
      go_wp2_with (at_builtin; refine wpList_append_own _ rfl _ _ 22 rfl (w.heap.size + 1) 3 i0 (.int .i64 0) 1 8 Tryd.underlying22 hi hz0 hz1 hz2 rfl (by decide) _ _ _ rfl (hown.alloc _) ⟨wr.heap.size, 0, none⟩ 1 1 [.int .i64 y] rfl rfl (cell_one_new _ _ _) (by simp [Value.oneCell']) (by unfold maxLen; omega) (by omega) (by simp; omega) ?_; intro v' w2 hown' hgrow _)
      go_roundw
      case rel => exact ⟨k + 1, by omega, by go_num, by rw [Htake.out]; exact hown', Hkw.out.appended hown (by simp) hgrow⟩
      case measure => simp [intOf]; omega
    · have e : k = n1 := by omega
      subst e
      rw [List.take_of_length_le (by have := Hrl.out; omega)] at hown
      obtain ⟨A', c', rfl, hI', hfr⟩ := Ints.of_own hown Hrng.out
      have HI' := Lib.hid hI'
      clear hown hI' hfr hlt
      obtain ⟨wv, hwv⟩ : ∃ wv : World, wv = wr := ⟨_, rfl⟩
      subst hwv
      obtain ⟨rv, hrv⟩ : ∃ rv, rv = rowVals C row := ⟨_, rfl⟩
      have Hrv := Lib.hid hrv
      have HIv : Hid (Ints wv A' k rv) := by rw [hrv]; exact HI'.out
      clear hrv HI' Hrl Hrng
      have Hrvl := Lib.hid HIv.out.len
      have HH : Hid (holdsD C row = (List.range k).all fun i => (List.range i).all fun t => !decide (rv.getD i 0 = rv.getD t 0)) := by
        show _ = _
        unfold holdsD
        rw [Hl1.out, Hrv.out]
      go_wp2_with fail
      clear b0 b1 b2 b3 b4 b5
      go_loopw [8] (fun u wq => ∃ i : Nat, i ≤ k ∧ u = .int .i64 i ∧ Hid (Kept wv wq) ∧ Hid (((List.range i).all fun i => (List.range i).all fun t => !decide (rv.getD i 0 = rv.getD t 0)) = true)) (fun u _ => k - (intOf u).toNat)
      case atStart => exact ⟨0, Nat.zero_le _, rfl, Kept.same _, rfl⟩
      case round =>
        obtain ⟨i, hi2, rfl, Hki, Hup⟩ := hrel
        obtain ⟨wi, hwi⟩ : ∃ wi : World, wi = wr := ⟨_, rfl⟩
        subst hwi
        by_cases hlt2 : i < k
        · go_wp2_with fail
          go_loopw [9] (fun u wz => ∃ t : Nat, t ≤ i ∧ u = .int .i64 t ∧ Hid (Kept wv wz) ∧ Hid (((List.range t).all fun t => !decide (rv.getD i 0 = rv.getD t 0)) = true)) (fun u _ => i - (intOf u).toNat)
          case atStart => exact ⟨0, Nat.zero_le _, rfl, Hki.out, rfl⟩
          case round =>
            obtain ⟨t, ht, rfl, Hkz, Hin⟩ := hrel
            obtain ⟨wz, hwz⟩ : ∃ wz : World, wz = wr := ⟨_, rfl⟩
            subst hwz
            by_cases hlt3 : t < i
            · obtain ⟨av, rfl, hbv⟩ := (HIv.out.kept Hkz.out).addr (by omega)
              obtain ⟨x, Hx, hcx, _, _⟩ := (HIv.out.kept Hkz.out).named i hlt2
              obtain ⟨y, Hy, hcy, _, _⟩ := (HIv.out.kept Hkz.out).named t (by omega)
              by_cases hxy : x = y
              · have hb : (x == y) = true := by simp [hxy]
                have Hres : Hid (holdsD C row = false) := by
                  show _ = _
                  rw [HH.out, List.all_eq_false]
                  refine ⟨i, List.mem_range.2 hlt2, ?_⟩
                  rw [Bool.not_eq_true, List.all_eq_false]
                  refine ⟨t, List.mem_range.2 hlt3, ?_⟩
                  rw [Hx.out, Hy.out, hxy]
                  simp
                clear hxy
                go_wp2_with fail
                refine wp_region_quiet_below (by kernel_rfl) (by kernel_rfl) ?_
                repeat (any_goals (first | go_big_quiet_step ((fail)) | quiet_step ((fail)) | (refine wpQuiet_step (fun K hK => ?_); go_simp; split <;> (refine hK _ ?_; clear hK K))))
                all_goals (refine wpQuiet_nil ?_; intro w1 hw'; replace hw' := Kept.regrown hw')
                all_goals try (exfalso; omega)
                have Hk9 := Lib.hid ((Kept.box _ _).then ((Hkw.out.then Hkz.out).then hw'))
                clear hw'
                go_wp2_with fail
                go_ret
                exact ⟨ret_bool (by rw [Hres.out]), Hk9.out⟩
              · have hb : (x == y) = false := by simp [hxy]
                have Hnx : Hid (((List.range (t + 1)).all fun t => !decide (rv.getD i 0 = rv.getD t 0)) = true) := by
                  show _ = _
                  rw [List.range_succ, List.all_append, Hin.out, List.all_cons, List.all_nil, Hx.out, Hy.out, decide_eq_false hxy]
                  rfl
                clear hxy
                go_wp2_with fail
                refine wp_region_quiet_below (by kernel_rfl) (by kernel_rfl) ?_
                repeat (any_goals (first | go_big_quiet_step ((fail)) | quiet_step ((fail)) | (refine wpQuiet_step (fun K hK => ?_); go_simp; split <;> (refine hK _ ?_; clear hK K))))
                all_goals (refine wpQuiet_nil ?_; intro w1 hw'; replace hw' := Kept.regrown hw')
                all_goals try (exfalso; omega)
                have Hk9 := Lib.hid (Hkz.out.then hw')
                clear hw'
                go_wp2_with fail
                go_roundw
                case rel => first | exact ⟨t + 1, by omega, by go_num, Hk9.out, Hnx.out⟩ | ((repeat apply Exists.intro); exact ⟨⟨t + 1, by omega, by go_num, Hk9.out, Hnx.out⟩, rfl⟩)
                case measure => simp [intOf]; omega
            · have e : t = i := by omega
              subst e
              have Hnx : Hid (((List.range (t + 1)).all fun i => (List.range i).all fun t => !decide (rv.getD i 0 = rv.getD t 0)) = true) := by
                show _ = _
                rw [List.range_succ, List.all_append, Hup.out, List.all_cons, List.all_nil, Hin.out]
                rfl
              go_wp2_with fail
              go_roundw
              case rel => exact ⟨t + 1, by omega, by go_num, Hkz.out, Hnx.out⟩
              case measure => simp [intOf]; omega
        · have e : i = k := by omega
          subst e
          have Hres : Hid (holdsD C row = true) := by show _ = _; rw [HH.out, Hup.out]
          have Hk9 := Lib.hid ((Kept.box _ _).then (Hkw.out.then Hki.out))
          go_wp2_with fail
          go_ret
          exact ⟨ret_bool (by rw [Hres.out]), Hk9.out⟩
end Go.Proofs.YtjmegicopdbkdaaDoor

set_option maxHeartbeats 1000000
set_option maxRecDepth 10000
namespace Go.Proofs.YtjmegicopdbkdaaDoor
open Go Go.RowKit Pl

theorem single15_any (K R Ct : Int) (A1 A2 A3 : Option Addr) (n1 c1 n2 c2 n3 c3 : Nat) (C : ConB) (B : Option Addr) (m d : Nat) (row : List Int) (w : World) (hC : ConIn w K R Ct A1 A2 A3 n1 c1 n2 c2 n3 c3 C) (hI : Ints w B m row) (hT : Tab w) :
    Calls Tryd.prog 10 #[.agg #[.int .i64 K, .slice A1 n1 c1, .slice A2 n2 c2, .int .i64 R, .int .i64 Ct, .slice A3 n3 c3], .slice B m d] w fun e w' => e = .returned (.bool true) ∧ Kept w w' := by
  obtain ⟨i0, hi, hz0, hz1, hz2⟩ := info_parts info_dom2
  have HC := Lib.hid hC
  have HI := Lib.hid hI
  have HT := Lib.hid hT
  have HlR := Lib.hid hI.len
  have hsm := hI.small
  have hs1 := hC.vars.small
  have hs2 := hC.coefs.small
  have hs3 := hC.nums.small
  clear hC hI hT
  have hhB : ∀ W, Kept (w.alloc (.cells #[.int .i64 K, .slice A1 n1 c1, .slice A2 n2 c2, .int .i64 R, .int .i64 Ct, .slice A3 n3 c3] 24)) W → W.heap[w.heap.size]? = some (.cells #[.int .i64 K, .slice A1 n1 c1, .slice A2 n2 c2, .int .i64 R, .int .i64 Ct, .slice A3 n3 c3] 24) := fun W h => h.heapAt (heap_new _ _)
  have HB := Lib.hid hhB
  clear hhB
  go_enter Tryd.func10, Tryd.ntmps10
  go_wp2_with fail
  refine (awake15 _ (HT.out.kept (Kept.box _ _))).mono ?_
  rintro e W1 ⟨rfl, hk1⟩
  have hb := HB.out W1 hk1
  have b0 := cell_at hb 0
  have b1 := cell_at hb 1
  have b2 := cell_at hb 2
  have b3 := cell_at hb 3
  have b4 := cell_at hb 4
  have b5 := cell_at hb 5
  simp only [List.getElem?_toArray, List.getElem?_cons_zero, List.getElem?_cons_succ] at b0 b1 b2 b3 b4 b5
  clear hb
  have Hk1 := Lib.hid hk1
  have HK1 := Lib.hid ((Kept.box _ _).then hk1)
  clear hk1
  by_cases g0 : (20 : Int) < m
  · have hd0 : decide ((20 : Int) < m) = true := by simp; omega
    go_wp2_with fail
    go_ret
    exact ⟨rfl, HK1.out⟩
  have hd0 : decide ((20 : Int) < m) = false := by simp; omega
  by_cases g1 : (150 : Int) < n1
  · have hd1 : decide ((150 : Int) < n1) = true := by simp; omega
    go_wp2_with fail
    go_ret
    exact ⟨rfl, HK1.out⟩
  have hd1 : decide ((150 : Int) < n1) = false := by simp; omega
  by_cases g2 : (150 : Int) < n2
  · have hd2 : decide ((150 : Int) < n2) = true := by simp; omega
    go_wp2_with fail
    go_ret
    exact ⟨rfl, HK1.out⟩
  have hd2 : decide ((150 : Int) < n2) = false := by simp; omega
  by_cases g3 : (150 : Int) < n3
  · have hd3 : decide ((150 : Int) < n3) = true := by simp; omega
    go_wp2_with fail
    go_ret
    exact ⟨rfl, HK1.out⟩
  have hd3 : decide ((150 : Int) < n3) = false := by simp; omega
  go_wp2_with fail
  refine (rr1_any K R Ct A1 A2 A3 n1 c1 n2 c2 n3 c3 C _ B m d row _ (heap_new _ _) (HC.out.kept (HK1.out.then (Kept.box _ _))) (HI.out.kept (HK1.out.then (Kept.box _ _)))).mono ?_
  generalize hq : (withinB row 1048576 && rightB C m) = q
  have Hq := Lib.hid hq
  clear hq
  rintro e W2 ⟨rfl, hk2⟩
  have Hk2 := Lib.hid (Hk1.out.then ((Kept.box _ _).then hk2))
  have HK2 := Lib.hid (HK1.out.then ((Kept.box _ _).then hk2))
  clear hk2 b0 b1 b2 b3 b4 b5
  cases q with
  | false =>
    go_wp2_with fail
    go_ret
    exact ⟨rfl, HK2.out⟩
  | true =>
    obtain ⟨hwr, hrt⟩ := Bool.and_eq_true_iff.1 Hq.out
    have Hwr := Lib.hid hwr
    have Hrt := Lib.hid hrt
    clear hwr hrt
    go_wp2_with fail
    go_loopw [5, 45] (fun u v wr => ∃ k : Nat, k ≤ m ∧ v = .int .i64 k ∧ Hid (OwnD wr W2.heap.size u (singles (row.take k))) ∧ Hid (Kept W2 wr)) (fun _ v _ => m - (intOf v).toNat)
    case atStart => exact ⟨0, Nat.zero_le _, rfl, OwnD.nil _ _, Kept.same _⟩
    case round =>
      obtain ⟨k, hk, rfl, HO, Hkw⟩ := hrel
      by_cases hlt : k < m
      · have hIr := HI.out.kept (HK2.out.then Hkw.out)
        obtain ⟨a, rfl, hblk⟩ := hIr.addr (by omega)
        obtain ⟨x, Hx, hcx, hx1, hx2⟩ := hIr.named k hlt
        obtain ⟨vs, hown, hd⟩ := HO.out
        have hkl : (singles (row.take k)).length = k := by rw [singles_length, List.length_take]; have := HlR.out; omega
        rw [hkl] at hown hd
        have Hown := Lib.hid hown
        have Hdd := Lib.hid hd
        have Hul : Hid (∀ i, u5.ownBlock = some i → W2.heap.size ≤ i ∧ i < wr.heap.size) := hown.lt
        have hszr := Hkw.out.size
        clear hIr hown hd
        go_wp2_with (at_builtin; refine wpList_append_own_at _ rfl _ _ 25 rfl W2.heap.size 47 i0 (.agg #[.slice Option.none 0 0, .int .u64 0]) 2 32 Tryd.underlying25 hi hz0 hz1 hz2 rfl (by decide) _ _ _ rfl (own_kept Hown.out ((Kept.box _ _).newBlock _)) ⟨wr.heap.size + 1, 0, none⟩ 1 1 [.slice (some ⟨wr.heap.size, 0, Option.none⟩) 1 1, .int .u64 1] rfl rfl (World.news_of_block (cs := #[.slice (some ⟨wr.heap.size, 0, Option.none⟩) 1 1, .int .u64 1]) (t := 47) (fr := (0, 0)) (heap_new2 _ _ _)) (by simp [Value.oneCell']) (by unfold maxLen; omega) (by omega) (by simp; omega) ?_; intro v' w2 hown' hgrow _ hloc; obtain ⟨g, cap, rfl, hgb, hgl⟩ := hown'.form (by omega))
        go_roundw
        case rel =>
          refine ⟨k + 1, by omega, by go_num, ?_, ?_⟩
          · show OwnD _ _ _ _
            have e1 : singles (row.take (k + 1)) = singles (row.take k) ++ [([x], 1)] := by
              rw [take_succ_getD (by have := HlR.out; omega) Hx.out]
              unfold singles
              rw [List.map_append]; rfl
            rw [e1]
            have hk2 := (Kept.box wr (.cells #[.int .i64 x] 3)).newBlock (.cells #[.slice (some ⟨wr.heap.size, 0, Option.none⟩) 1 1, .int .u64 1] 47)
            have hx64 : Ints ((wr.alloc (.cells #[.int .i64 x] 3)).alloc (.cells #[.slice (some ⟨wr.heap.size, 0, Option.none⟩) 1 1, .int .u64 1] 47)) (some ⟨wr.heap.size, 0, Option.none⟩) 1 [x] := (lit1 wr x 3 (0, 0) ⟨hx1, hx2⟩).kept (Kept.box _ _)
            have := OwnD.snoc (ds := singles (row.take k)) (d := ([x], 1)) (c := 1) (by rw [hkl]; exact own_kept Hown.out hk2) ?_ hx64 ?_ (show (1 : Nat) < 2 ^ 64 by decide) (by rw [hkl]; exact hown') hgrow ?_
            · rw [hkl] at this; exact this
            · rw [hkl]
              intro j hj
              obtain ⟨hl, B1, m1, c1', e1, e2, e3, e4⟩ := Hdd.out j hj
              exact ⟨hl, B1, m1, c1', e1, e2, e3.kept hk2, e4⟩
            · intro _ a' ha' e
              cases ha'
              exact absurd (Hul.out _ e).2 (Nat.lt_irrefl _)
            · rcases hloc with h | h
              · exact Or.inl (by rw [← h]; rfl)
              · right
                have : g = wr.heap.size + 1 + 1 := by simpa [Value.ownBlock] using h
                simp only [World.size_alloc]
                omega
          · show Kept W2 w2
            exact ((Hkw.out.newBlock _).newBlock _).grown hgrow (by simp; omega) (fun i hi => (Hul.out i hi).1)
        case measure => simp [intOf]; omega
      · have e : k = m := by omega
        subst e
        rw [List.take_of_length_le (by have := HlR.out; omega)] at HO
        have HKr := Lib.hid (HK2.out.then Hkw.out)
        have hsl : (singles row).length = k := by rw [singles_length]; exact HlR.out
        obtain ⟨A5, c5, rfl⟩ := HO.out.parts
        have HD := Lib.hid (HO.out.doms (n := (singles row).length) rfl (by omega))
        rw [hsl] at HD ⊢
        have Hm := Lib.hid (allMay_singles Hwr.out)
        have hb := HB.out wr (Hk2.out.then Hkw.out)
        have b0 := cell_at hb 0
        have b1 := cell_at hb 1
        have b2 := cell_at hb 2
        have b3 := cell_at hb 3
        have b4 := cell_at hb 4
        have b5 := cell_at hb 5
        simp only [List.getElem?_toArray, List.getElem?_cons_zero, List.getElem?_cons_succ] at b0 b1 b2 b3 b4 b5
        clear hb
        have H1 := diffstep_law K R Ct A1 A2 A3 n1 c1 n2 c2 n3 c3 C A5 k c5 (singles row) wr (HC.out.kept HKr.out) HD.out (HT.out.kept HKr.out) (by omega)
        have Hkind := Lib.hid HC.out.kind
        go_wp2_with fail
        by_cases gK : ¬ K = 5
        · rw [if_neg (by rw [diffGo_not (by rw [Hkind.out]; exact gK)]; decide)] at H1
          refine H1.mono ?_
          rintro e W5 ⟨rfl, hk5⟩
          have HK5 := Lib.hid (HKr.out.then hk5)
          clear H1 hk5 b0 b1 b2 b3 b4 b5
          go_wp2_with fail
          go_ret
          exact ⟨rfl, HK5.out⟩
        have gK := Classical.not_not.1 gK
        subst gK
        have HeB2 : Hid (rightB C row.length = true) := by show _ = _; rw [HlR.out]; exact Hrt.out
        have hgo : diffGo C (singles row) = true := diffGo_of Hkind.out (by rw [hsl]; exact Hrt.out) Hm.out
        have hvm : 1 ≤ C.vars.length := (rightB_len Hrt.out).1
        rw [if_pos hgo] at H1
        refine H1.mono ?_
        have Hres : Hid ((stepB (diffKp C (singles row)) (singles row)).length = k) := by show _ = _; rw [stepB_length]; exact hsl
        have Hal := Lib.hid (diff_single Hwr.out Hkind.out HeB2.out)
        generalize stepB (diffKp C (singles row)) (singles row) = res at *
        rintro e W5 ⟨A7, c7, rfl, hD7, hk5⟩
        rw [Hres.out] at hD7 ⊢
        have HD7 := Lib.hid hD7
        have Hk5 := Lib.hid ((Hk2.out.then Hkw.out).then hk5)
        have HK5 := Lib.hid (HKr.out.then hk5)
        have Hvo : Hid (varsOk C.vars k = true) := rightB_vars Hrt.out
        have Hvl := Lib.hid HC.out.vars.len
        rw [Hvl.out] at Hal
        clear H1 hk5 hD7 hgo hvm hsl b0 b1 b2 b3 b4 b5
        have hb := HB.out W5 Hk5.out
        have b0 := cell_at hb 0
        have b1 := cell_at hb 1
        have b2 := cell_at hb 2
        have b3 := cell_at hb 3
        have b4 := cell_at hb 4
        have b5 := cell_at hb 5
        simp only [List.getElem?_toArray, List.getElem?_cons_zero, List.getElem?_cons_succ] at b0 b1 b2 b3 b4 b5
        clear hb
        go_wp2_with fail
        clear b0 b1 b2 b3 b4 b5
        go_loopw [10, 81] (fun u v wq => ∃ j : Nat, j ≤ n1 ∧ v = .int .i64 j ∧ u = .bool (allLive C.vars res j) ∧ Hid (Kept W5 wq)) (fun _ v _ => n1 - (intOf v).toNat)
        case atStart => exact ⟨0, Nat.zero_le _, rfl, rfl, Kept.same _⟩
        case round =>
          obtain ⟨j, hj, rfl, rfl, Hkq⟩ := hrel
          have HKq := Lib.hid (HK5.out.then Hkq.out)
          by_cases hlt2 : j < n1
          · have hSq := HC.out.vars.kept HKq.out
            obtain ⟨av, rfl, hbv⟩ := hSq.addr (by omega)
            obtain ⟨x, Hx, hcx, _, _⟩ := hSq.named j hlt2
            obtain ⟨hx1, hx2⟩ := varsOk_rng Hvo.out (show j < C.vars.length by have := Hvl.out; omega)
            rw [Hx.out] at hx1 hx2
            obtain ⟨p, rfl⟩ := Int.eq_ofNat_of_zero_le hx1
            have hpk : p < k := by omega
            have hDq := HD7.out.kept Hkq.out
            obtain ⟨ad, rfl, hbd⟩ := hDq.addr (by omega)
            obtain ⟨ys, L, Bx, mx, cx, Hdx, hc1, hc2, _, hLx⟩ := hDq.named p hpk
            have Hs : Hid (allLive C.vars res (j + 1) = (allLive C.vars res j && decide (L = 1))) := by
              show _ = _
              rw [allLive_succ, Hx.out, Int.toNat_natCast, Hdx.out]
            clear hSq hDq
            generalize allLive C.vars res j = q1 at *
            cases q1 with
            | false =>
              go_wp2_with fail
              go_roundw
              case rel => exact ⟨j + 1, by omega, by go_num, by rw [Hs.out]; rfl, Hkq.out⟩
              case measure => simp [intOf]; omega
            | true =>
              by_cases hL1 : L = 1
              · subst hL1
                go_wp2_with fail
                go_roundw
                case rel => exact ⟨j + 1, by omega, by go_num, by rw [Hs.out]; rfl, Hkq.out⟩
                case measure => simp [intOf]; omega
              · have hd5 : ((L : Int) == 1) = false := by simp; omega
                go_wp2_with fail
                go_roundw
                case rel => exact ⟨j + 1, by omega, by go_num, by rw [Hs.out]; simp [hL1], Hkq.out⟩
                case measure => simp [intOf]; omega
          · have e : j = n1 := by omega
            subst e
            have hb := HB.out wr (Hk5.out.then Hkq.out)
            have b0 := cell_at hb 0
            have b1 := cell_at hb 1
            have b2 := cell_at hb 2
            have b3 := cell_at hb 3
            have b4 := cell_at hb 4
            have b5 := cell_at hb 5
            simp only [List.getElem?_toArray, List.getElem?_cons_zero, List.getElem?_cons_succ] at b0 b1 b2 b3 b4 b5
            clear hb
            rw [Hal.out]
            have HQ := Lib.hid (holds5_any 5 R Ct A1 A2 A3 j c1 n2 c2 n3 c3 C B k d row wr (HC.out.kept HKq.out) (HI.out.kept HKq.out) rfl Hrt.out Hwr.out)
            clear Hal
            generalize holdsD C row = q3 at *
            go_wp2_with fail
            refine HQ.out.mono ?_
            rintro e W7 ⟨rfl, hk7⟩
            have HK7 := Lib.hid (HKq.out.then hk7)
            clear hk7 b0 b1 b2 b3 b4 b5 HQ
            cases q3 with
            | true =>
              go_wp2_with fail
              go_ret
              exact ⟨rfl, HK7.out⟩
            | false =>
              go_wp2_with fail
              go_ret
              exact ⟨rfl, HK7.out⟩
end Go.Proofs.YtjmegicopdbkdaaDoor

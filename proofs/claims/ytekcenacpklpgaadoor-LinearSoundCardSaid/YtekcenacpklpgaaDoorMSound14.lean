/-
  Contracts and plain laws that the card rests on, part 14.
-/
import Derived.Test.YtekcenacpklpgaaDoorMSound9
import Derived.Test.YtekcenacpklpgaaDoorMSound7
import Derived.Test.YtekcenacpklpgaaDoorMSound6
import Derived.Test.YtekcenacpklpgaaDoorMSound8
import Derived.Test.YtekcenacpklpgaaDoorMSound12
import Derived.Test.YtekcenacpklpgaaDoorMSound13
set_option maxHeartbeats 2000000
set_option maxRecDepth 10000
namespace Go.Proofs.YtekcenacpklpgaaDoor
open Go Go.RowKit Pl

theorem sumBut_bnd {cs : List Int} {r : Nat → Int} {m : Nat} (hc : ∀ i, -1048576 ≤ cs.getD i 0 ∧ cs.getD i 0 ≤ 1048576) (hr : ∀ i, i < m → -1048576 ≤ r i ∧ r i ≤ 1048576) :
    ∀ j, j ≤ m → -(1099511627776 * (j : Int)) ≤ sumBut cs r (-1) j ∧ sumBut cs r (-1) j ≤ 1099511627776 * (j : Int) := by
  intro j
  induction j with
  | zero => intro _; simp [sumBut]
  | succ j ih =>
    intro hj
    have h1 := ih (by omega)
    have h2 := mul_small (hc j) (hr j (by omega))
    simp only [sumBut]
    have e : ((j + 1 : Nat) : Int) = (j : Int) + 1 := by omega
    rw [e, if_neg (by omega)]
    omega
/-- How a sum compares, by whether it is less, and the same. -/
def relT (lt eq : Bool) (r : Nat) : Bool := ([eq, !eq, lt, lt || eq, !lt && !eq, !lt] : List Bool).getD r false
theorem relT_rel {s c : Int} {r : Nat} (h : r < 6) : relB s (r : Int) c = relT (decide (s < c)) (decide (s = c)) r := by
  have : r = 0 ∨ r = 1 ∨ r = 2 ∨ r = 3 ∨ r = 4 ∨ r = 5 := by omega
  rcases this with rfl | rfl | rfl | rfl | rfl | rfl <;> (unfold relB relT; rw [Bool.eq_iff_iff]; simp) <;> omega

theorem rsum_any (K R Ct : Int) (A1 A2 A3 : Option Addr) (n1 c1 n2 c2 n3 c3 : Nat) (C : ConB) (B : Option Addr) (m d : Nat) (vs : List Int) (A : Option Addr) (n c : Nat) (row : List Int) (w : World) (hC : ConIn w K R Ct A1 A2 A3 n1 c1 n2 c2 n3 c3 C) (hV : Ints w B m vs) (hI : Ints w A n row)
    (hl : n2 = m) (h8 : m ≤ 8) (hb : ∀ i, -1048576 ≤ C.coefs.getD i 0 ∧ C.coefs.getD i 0 ≤ 1048576) (hv : ∀ i, i < m → 0 ≤ vs.getD i 0 ∧ vs.getD i 0 < n) (hr : ∀ i, -1048576 ≤ row.getD i 0 ∧ row.getD i 0 ≤ 1048576) (h0 : 0 ≤ R) (h5 : R ≤ 5) :
    Calls Tryd.prog 44 #[.agg #[.int .i64 K, .slice A1 n1 c1, .slice A2 n2 c2, .int .i64 R, .int .i64 Ct, .slice A3 n3 c3], .slice B m d, .slice A n c] w fun e w' => e = .returned (.bool (relB (sumBut C.coefs (fun i => row.getD (vs.getD i 0).toNat 0) (-1) m) C.rel C.const)) ∧ Kept w w' := by
  subst hl
  obtain ⟨r, rfl⟩ := Int.eq_ofNat_of_zero_le h0
  have hr6 : r < 6 := by omega
  have HRel : Hid (C.rel = (r : Nat)) := hC.rel
  have HCon := Lib.hid hC.const
  have HC := Lib.hid hC
  have HV := Lib.hid hV
  have HI := Lib.hid hI
  have Hb := Lib.hid hb
  have Hv := Lib.hid hv
  have Hr := Lib.hid hr
  obtain ⟨f, hf⟩ : ∃ f : Nat → Int, f = fun i => row.getD (vs.getD i 0).toNat 0 := ⟨_, rfl⟩
  have Hf : Hid (∀ i, f i = row.getD (vs.getD i 0).toNat 0) := fun i => by rw [hf]
  have Hrng : Hid (∀ j, j ≤ n2 → -(1099511627776 * (j : Int)) ≤ sumBut C.coefs f (-1) j ∧ sumBut C.coefs f (-1) j ≤ 1099511627776 * (j : Int)) := sumBut_bnd hb (fun i _ => by rw [hf]; exact hr _)
  rw [← hf]
  have hrc := hC.rc
  clear hC hV hI hb hv hr hf h0 h5
  have HB : Hid (∀ wr, Kept (w.alloc (.cells #[.int .i64 K, .slice A1 n1 c1, .slice A2 n2 c2, .int .i64 r, .int .i64 Ct, .slice A3 n3 c3] 24)) wr → wr.heap[w.heap.size]? = some (.cells #[.int .i64 K, .slice A1 n1 c1, .slice A2 n2 c2, .int .i64 r, .int .i64 Ct, .slice A3 n3 c3] 24)) := fun wr h => h.heapAt (heap_new _ _)
  go_enter Tryd.func44, Tryd.ntmps44
  go_wp2_with fail
  have HK0 : Hid (Kept w (w.alloc (.cells #[.int .i64 K, .slice A1 n1 c1, .slice A2 n2 c2, .int .i64 r, .int .i64 Ct, .slice A3 n3 c3] 24))) := Kept.box _ _
  generalize w.alloc (.cells #[.int .i64 K, .slice A1 n1 c1, .slice A2 n2 c2, .int .i64 r, .int .i64 Ct, .slice A3 n3 c3] 24) = W0 at *
  go_loopw [7, 8] (fun u v wr => ∃ k : Nat, k ≤ n2 ∧ v = .int .i64 k ∧ u = .int .i64 (sumBut C.coefs f (-1) k) ∧ Hid (Kept W0 wr)) (fun _ v _ => n2 - (intOf v).toNat)
  case atStart => exact ⟨0, Nat.zero_le _, rfl, rfl, Kept.same _⟩
  case round =>
    obtain ⟨k, hk, rfl, rfl, Hkw⟩ := hrel
    obtain ⟨wv, hwv⟩ : ∃ wv : World, wv = wr := ⟨_, rfl⟩
    subst hwv
    have HK := Lib.hid (HK0.out.then Hkw.out)
    have hb := HB.out wv Hkw.out
    have b0 := cell_at hb 0
    have b1 := cell_at hb 1
    have b2 := cell_at hb 2
    have b3 := cell_at hb 3
    have b4 := cell_at hb 4
    have b5 := cell_at hb 5
    simp only [List.getElem?_toArray, List.getElem?_cons_zero, List.getElem?_cons_succ] at b0 b1 b2 b3 b4 b5
    clear hb
    have hlb : w.heap.size < wv.heap.size := World.block_lt_of_cell? wv _ b0
    have hsk := Hrng.out k hk
    by_cases hlt : k < n2
    · obtain ⟨av, hav, hbv⟩ := (HV.out.kept HK.out).addr (by omega)
      subst hav
      obtain ⟨v, Hv1, hcv, _, _⟩ := (HV.out.kept HK.out).named k hlt
      obtain ⟨hv0, hv1⟩ := Hv.out k hlt
      rw [Hv1.out] at hv0 hv1
      obtain ⟨p, rfl⟩ := Int.eq_ofNat_of_zero_le hv0
      have hpn : p < n := by omega
      obtain ⟨aq, haq, hbq⟩ := (HC.out.coefs.kept HK.out).addr (by omega)
      subst haq
      obtain ⟨q, Hq1, hcq, _, _⟩ := (HC.out.coefs.kept HK.out).named k hlt
      obtain ⟨ar, har, hbr⟩ := (HI.out.kept HK.out).addr (by omega)
      subst har
      obtain ⟨y, Hy1, hcy, _, _⟩ := (HI.out.kept HK.out).named p hpn
      have hq := Hb.out k
      rw [Hq1.out] at hq
      have hy := Hr.out p
      rw [Hy1.out] at hy
      have hm := mul_small hq hy
      have Hnx : Hid (sumBut C.coefs f (-1) (k + 1) = sumBut C.coefs f (-1) k + q * y) := by
        show _ = _
        simp only [sumBut]
        rw [if_neg (by omega), Hq1.out, Hf.out, Hv1.out, Int.toNat_natCast, Hy1.out]
      generalize sumBut C.coefs f (-1) k = s at *
      obtain ⟨t, ht⟩ : ∃ t, t = q * y := ⟨_, rfl⟩
      rw [← ht] at hm Hnx
      have htw : IntKind.i64.wrap (q * y) = t := by rw [← ht]; exact IntWalk.i64_in _ (by omega)
      have hsw : IntKind.i64.wrap (s + t) = s + t := IntWalk.i64_in _ (by omega)
      clear ht hq hy hm hsk
      go_wp2_with fail
      refine wp_region_quiet_below (by kernel_rfl) (by kernel_rfl) ?_
      repeat (any_goals (first | go_big_quiet_step ((fail)) | quiet_step ((fail)) | (refine wpQuiet_step (fun K hK => ?_); go_simp; split <;> (refine hK _ ?_; clear hK K))))
      all_goals (refine wpQuiet_nil ?_; intro w1 hw'; replace hw' := Kept.regrown hw')
      all_goals try (exfalso; omega)
      have Hk9 := Lib.hid (Hkw.out.then hw')
      clear hw'
      go_wp2_with fail
      go_roundw
      case rel => first | exact ⟨k + 1, by omega, by go_num, by rw [Hnx.out], Hk9.out⟩ | ((repeat apply Exists.intro); exact ⟨⟨k + 1, by omega, by go_num, by rw [Hnx.out], Hk9.out⟩, rfl⟩)
      case measure => simp [intOf]; omega
    · have e : k = n2 := by omega
      subst e
      have HRes : Hid (relB (sumBut C.coefs f (-1) k) C.rel C.const = relT (decide (sumBut C.coefs f (-1) k < Ct)) (decide (sumBut C.coefs f (-1) k = Ct)) r) := by
        show _ = _
        rw [HRel.out, HCon.out]
        exact relT_rel hr6
      generalize hs : sumBut C.coefs f (-1) k = s at *
      have Hs := Lib.hid hs
      clear hs
      have hri0 : (0 : Int) ≤ (r : Int) := by omega
      have hri6 : (r : Int) < 6 := by omega
      have hcl : ∀ lt eq : Bool, (wv.alloc (.cells #[.bool eq, .bool (!eq), .bool lt, .bool (lt || eq), .bool (!lt && !eq), .bool (!lt)] 4)).cell? ⟨wv.heap.size, r, Option.none⟩ = some (.bool (relT lt eq r)) := fun lt eq => by
        rw [cell_at (heap_new _ _)]
        have : r = 0 ∨ r = 1 ∨ r = 2 ∨ r = 3 ∨ r = 4 ∨ r = 5 := by omega
        rcases this with rfl | rfl | rfl | rfl | rfl | rfl <;> rfl
      rcases Int.lt_trichotomy s Ct with h | h | h
      · have hd1 : decide (s < Ct) = true := by simp [h]
        have hd2 : (s == Ct) = false := by simp; omega
        have hd3 : decide (s = Ct) = false := by simp; omega
        have hc2 : (wv.alloc (.cells #[.bool false, .bool true, .bool true, .bool true, .bool false, .bool false] 4)).cell? ⟨wv.heap.size, r, Option.none⟩ = some (.bool (relT true false r)) := hcl true false
        rw [hd1, hd3] at HRes
        clear hcl
        go_wp2_with fail
        go_ret
        exact ⟨ret_bool (by rw [Hs.out, HRes.out]), HK.out.newBlock _⟩
      · have hd1 : decide (s < Ct) = false := by simp; omega
        have hd2 : (s == Ct) = true := by simp [h]
        have hd3 : decide (s = Ct) = true := by simp [h]
        have hc2 : (wv.alloc (.cells #[.bool true, .bool false, .bool false, .bool true, .bool false, .bool true] 4)).cell? ⟨wv.heap.size, r, Option.none⟩ = some (.bool (relT false true r)) := hcl false true
        rw [hd1, hd3] at HRes
        have Hh := Lib.hid h
        clear hcl h
        go_wp2_with fail
        go_ret
        exact ⟨ret_bool (by rw [Hs.out, HRes.out]), HK.out.newBlock _⟩
      · have hd1 : decide (s < Ct) = false := by simp; omega
        have hd2 : (s == Ct) = false := by simp; omega
        have hd3 : decide (s = Ct) = false := by simp; omega
        have hc2 : (wv.alloc (.cells #[.bool false, .bool true, .bool false, .bool false, .bool true, .bool true] 4)).cell? ⟨wv.heap.size, r, Option.none⟩ = some (.bool (relT false false r)) := hcl false false
        rw [hd1, hd3] at HRes
        clear hcl
        go_wp2_with fail
        go_ret
        exact ⟨ret_bool (by rw [Hs.out, HRes.out]), HK.out.newBlock _⟩
end Go.Proofs.YtekcenacpklpgaaDoor

set_option maxHeartbeats 1000000
set_option maxRecDepth 10000
namespace Go.Proofs.YtekcenacpklpgaaDoor
open Go Go.RowKit Pl

theorem row_rng {row : List Int} (h : withinB row 1048576 = true) (i : Nat) : -1048576 ≤ row.getD i 0 ∧ row.getD i 0 ≤ 1048576 := by
  by_cases hi : i < row.length
  · have := withinB_mem h (x := row.getD i 0) (by rw [List.getD_eq_getElem?_getD, List.getElem?_eq_getElem hi]; exact List.getElem_mem hi)
    omega
  · rw [List.getD_eq_getElem?_getD, List.getElem?_eq_none (by omega)]; simp

theorem holds1_any (K R Ct : Int) (A1 A2 A3 : Option Addr) (n1 c1 n2 c2 n3 c3 : Nat) (C : ConB) (A : Option Addr) (n c : Nat) (row : List Int) (w : World) (hC : ConIn w K R Ct A1 A2 A3 n1 c1 n2 c2 n3 c3 C) (hI : Ints w A n row) (hK : K = 1) (hR : rightB C n = true) (hW : withinB row 1048576 = true) :
    Calls Tryd.prog 17 #[.agg #[.int .i64 K, .slice A1 n1 c1, .slice A2 n2 c2, .int .i64 R, .int .i64 Ct, .slice A3 n3 c3], .slice A n c] w fun e w' => e = .returned (.bool (holdsLin C row)) ∧ Kept w w' := by
  subst hK
  obtain ⟨i0, hi, hz0, hz1, hz2⟩ := info_parts info_int
  have hv := rightB_vars hR
  have HC := Lib.hid hC
  have HI := Lib.hid hI
  have HR := Lib.hid hR
  have hsm := hI.small
  have Hlen := Lib.hid hI.len
  have Hl1 := Lib.hid hC.vars.len
  have Hl3 := Lib.hid hC.nums.len
  have hs3 := hC.nums.small
  have Hkind := Lib.hid hC.kind
  have Hv := Lib.hid hv
  have hn18 : n1 ≤ 9 := by
    have h1 := rightB_len hR
    have := hC.vars.len
    omega
  have hrl : (rowVals C row).length = n1 := by unfold rowVals; rw [List.length_map]; exact hC.vars.len
  have Hrl := Lib.hid hrl
  have Hrng : Hid (∀ x ∈ rowVals C row, -9223372036854775808 ≤ x ∧ x ≤ 9223372036854775807) := fun x hx => by
    unfold rowVals at hx
    rw [List.mem_map] at hx
    obtain ⟨v, _, rfl⟩ := hx
    exact HI.out.getD_rng _
  clear hC hI hv hrl hR
  have HB : Hid (∀ wr, Kept (w.alloc (.cells #[.int .i64 1, .slice A1 n1 c1, .slice A2 n2 c2, .int .i64 R, .int .i64 Ct, .slice A3 n3 c3] 24)) wr → wr.heap[w.heap.size]? = some (.cells #[.int .i64 1, .slice A1 n1 c1, .slice A2 n2 c2, .int .i64 R, .int .i64 Ct, .slice A3 n3 c3] 24)) := fun wr h => h.heapAt (heap_new _ _)
  go_enter Tryd.func17, Tryd.ntmps17
  go_wp2_with fail
  go_loopw [5, 6] (fun u v wr => ∃ k : Nat, k ≤ n1 ∧ v = .int .i64 k ∧ wr.ownsRow (w.heap.size + 1) 3 1 u k (((rowVals C row).take k).map (Value.int .i64)) ∧ Hid (Kept (w.alloc (.cells #[.int .i64 1, .slice A1 n1 c1, .slice A2 n2 c2, .int .i64 R, .int .i64 Ct, .slice A3 n3 c3] 24)) wr)) (fun _ v _ => n1 - (intOf v).toNat)
  case atStart => exact ⟨0, Nat.zero_le _, rfl, own_empty (heap_new2 _ _ _) (Nat.le_refl _), Kept.box _ _⟩
  case round =>
    obtain ⟨k, hk, rfl, hown, Hkw⟩ := hrel
    have hb := HB.out wr Hkw.out
    have b0 := cell_at hb 0
    have b1 := cell_at hb 1
    have b2 := cell_at hb 2
    have b3 := cell_at hb 3
    have b4 := cell_at hb 4
    have b5 := cell_at hb 5
    simp only [List.getElem?_toArray, List.getElem?_cons_zero, List.getElem?_cons_succ] at b0 b1 b2 b3 b4 b5
    clear hb
    have hszr := Hkw.out.size
    simp only [World.size_alloc] at hszr
    by_cases hlt : k < n1
    · have hSr := HC.out.vars.kept ((Kept.box _ _).then Hkw.out)
      have hRr := HI.out.kept ((Kept.box _ _).then Hkw.out)
      obtain ⟨a, rfl, hblk⟩ := hSr.addr (by omega)
      obtain ⟨x, Hx, hcx, _, _⟩ := hSr.named k hlt
      obtain ⟨hx1, hx2⟩ := varsOk_rng Hv.out (show k < C.vars.length by have := Hl1.out; omega)
      rw [Hx.out] at hx1 hx2
      obtain ⟨p, rfl⟩ := Int.eq_ofNat_of_zero_le hx1
      have hpn : p < n := by omega
      obtain ⟨ar, rfl, hblk2⟩ := hRr.addr (by omega)
      obtain ⟨y, Hy, hcy, hy1, hy2⟩ := hRr.named p hpn
      have Htake : Hid (((rowVals C row).take (k + 1)).map (Value.int .i64) = ((rowVals C row).take k).map (Value.int .i64) ++ [.int .i64 y]) := by
        show _ = _
        rw [take_succ_getD (x := y) (by have := Hrl.out; omega) ?_]
        · simp
        · unfold rowVals
          rw [List.getD_eq_getElem?_getD, List.getElem?_map]
          have h2 := Hx.out
          rw [List.getD_eq_getElem?_getD, List.getElem?_eq_getElem (by have := Hl1.out; omega)] at h2
          rw [List.getElem?_eq_getElem (by have := Hl1.out; omega)]
          simp only [Option.getD_some] at h2
          simp only [Option.map_some, Option.getD_some, h2, Int.toNat_natCast]
          exact Hy.out
      clear hSr hRr
      go_wp2_with (at_builtin; refine wpList_append_own _ rfl _ _ 22 rfl (w.heap.size + 1) 3 i0 (.int .i64 0) 1 8 Tryd.underlying22 hi hz0 hz1 hz2 rfl (by decide) _ _ _ rfl (hown.alloc _) ⟨wr.heap.size, 0, none⟩ 1 1 [.int .i64 y] rfl rfl (cell_one_new _ _ _) (by simp [Value.oneCell']) (by unfold maxLen; omega) (by omega) (by simp; omega) ?_; intro v' w2 hown' hgrow _)
      go_roundw
      case rel => exact ⟨k + 1, by omega, by go_num, by rw [Htake.out]; exact hown', Hkw.out.appended hown (by simp) hgrow⟩
      case measure => simp [intOf]; omega
    · have e : k = n1 := by omega
      subst e
      rw [List.take_of_length_le (by have := Hrl.out; omega)] at hown
      obtain ⟨A', c', rfl, hI', hfr⟩ := Ints.of_own hown Hrng.out
      have HI' := Lib.hid hI'
      clear hown hI' hfr hlt
      obtain ⟨wv, hwv⟩ : ∃ wv : World, wv = wr := ⟨_, rfl⟩
      subst hwv
      obtain ⟨rv, hrv⟩ : ∃ rv, rv = rowVals C row := ⟨_, rfl⟩
      have Hrv := Lib.hid hrv
      have HIv : Hid (Ints wv A' k rv) := by rw [hrv]; exact HI'.out
      clear hrv HI' Hrl Hrng
      have Hrvl := Lib.hid HIv.out.len
      have hso := linear_parts Hkind.out HR.out
      have hcl := HC.out.coefs.len
      have hHq : Hid (holdsLin C row = relB (sumBut C.coefs (fun i => row.getD (C.vars.getD i 0).toNat 0) (-1) k) C.rel C.const) := by
        show _ = _
        unfold holdsLin holdsL
        rw [if_pos Hkind.out, Hl1.out]; rfl
      have hKv := (Kept.box w (.cells #[.int .i64 1, .slice A1 k c1, .slice A2 n2 c2, .int .i64 R, .int .i64 Ct, .slice A3 n3 c3] 24)).then Hkw.out
      have HQ := Lib.hid (rsum_any 1 R Ct A1 A2 A3 k c1 n2 c2 n3 c3 C A1 k c1 C.vars A n c row wv (HC.out.kept hKv) (HC.out.vars.kept hKv) (HI.out.kept hKv) (by have := hso.len; have := Hl1.out; omega) (by have := hso.most; have := Hl1.out; omega) hso.bnd
        (fun i hi => varsOk_rng Hv.out (by have := Hl1.out; omega)) (row_rng hW) (by have := hso.rel0; rwa [HC.out.rel] at this) (by have := hso.rel5; rwa [HC.out.rel] at this))
      have HKv := Lib.hid hKv
      have hlb : w.heap.size < wv.heap.size := World.block_lt_of_cell? wv _ b0
      generalize relB (sumBut C.coefs (fun i => row.getD (C.vars.getD i 0).toNat 0) (-1) k) C.rel C.const = q at *
      clear hso hcl hKv
      go_wp2_with fail
      refine HQ.out.mono ?_
      rintro e W5 ⟨rfl, hk5⟩
      have HK5 := Lib.hid (HKv.out.then hk5)
      clear hk5 b0 b1 b2 b3 b4 b5
      go_wp2_with fail
      go_ret
      exact ⟨ret_bool (by rw [hHq.out]), HK5.out⟩
end Go.Proofs.YtekcenacpklpgaaDoor

set_option maxHeartbeats 1000000
set_option maxRecDepth 10000
namespace Go.Proofs.YtekcenacpklpgaaDoor
open Go Go.RowKit Pl


theorem holds3_any (K R Ct : Int) (A1 A2 A3 : Option Addr) (n1 c1 n2 c2 n3 c3 : Nat) (C : ConB) (A : Option Addr) (n c : Nat) (row : List Int) (w : World) (hC : ConIn w K R Ct A1 A2 A3 n1 c1 n2 c2 n3 c3 C) (hI : Ints w A n row) (hK : K = 3) (hR : rightB C n = true) (hW : withinB row 1048576 = true) :
    Calls Tryd.prog 17 #[.agg #[.int .i64 K, .slice A1 n1 c1, .slice A2 n2 c2, .int .i64 R, .int .i64 Ct, .slice A3 n3 c3], .slice A n c] w fun e w' => e = .returned (.bool (holdsLin C row)) ∧ Kept w w' := by
  subst hK
  obtain ⟨i0, hi, hz0, hz1, hz2⟩ := info_parts info_int
  have hv := rightB_vars hR
  have hW0 := Lib.hid hW
  have HC := Lib.hid hC
  have HI := Lib.hid hI
  have HR := Lib.hid hR
  have hsm := hI.small
  have Hlen := Lib.hid hI.len
  have Hl1 := Lib.hid hC.vars.len
  have Hl3 := Lib.hid hC.nums.len
  have hs3 := hC.nums.small
  have Hkind := Lib.hid hC.kind
  have Hv := Lib.hid hv
  have hn18 : n1 ≤ 9 := by
    have h1 := rightB_len hR
    have := hC.vars.len
    omega
  have hrl : (rowVals C row).length = n1 := by unfold rowVals; rw [List.length_map]; exact hC.vars.len
  have Hrl := Lib.hid hrl
  have Hrng : Hid (∀ x ∈ rowVals C row, -9223372036854775808 ≤ x ∧ x ≤ 9223372036854775807) := fun x hx => by
    unfold rowVals at hx
    rw [List.mem_map] at hx
    obtain ⟨v, _, rfl⟩ := hx
    exact HI.out.getD_rng _
  clear hC hI hv hrl hR
  have HB : Hid (∀ wr, Kept (w.alloc (.cells #[.int .i64 3, .slice A1 n1 c1, .slice A2 n2 c2, .int .i64 R, .int .i64 Ct, .slice A3 n3 c3] 24)) wr → wr.heap[w.heap.size]? = some (.cells #[.int .i64 3, .slice A1 n1 c1, .slice A2 n2 c2, .int .i64 R, .int .i64 Ct, .slice A3 n3 c3] 24)) := fun wr h => h.heapAt (heap_new _ _)
  go_enter Tryd.func17, Tryd.ntmps17
  go_wp2_with fail
  go_loopw [5, 6] (fun u v wr => ∃ k : Nat, k ≤ n1 ∧ v = .int .i64 k ∧ wr.ownsRow (w.heap.size + 1) 3 1 u k (((rowVals C row).take k).map (Value.int .i64)) ∧ Hid (Kept (w.alloc (.cells #[.int .i64 3, .slice A1 n1 c1, .slice A2 n2 c2, .int .i64 R, .int .i64 Ct, .slice A3 n3 c3] 24)) wr)) (fun _ v _ => n1 - (intOf v).toNat)
  case atStart => exact ⟨0, Nat.zero_le _, rfl, own_empty (heap_new2 _ _ _) (Nat.le_refl _), Kept.box _ _⟩
  case round =>
    obtain ⟨k, hk, rfl, hown, Hkw⟩ := hrel
    have hb := HB.out wr Hkw.out
    have b0 := cell_at hb 0
    have b1 := cell_at hb 1
    have b2 := cell_at hb 2
    have b3 := cell_at hb 3
    have b4 := cell_at hb 4
    have b5 := cell_at hb 5
    simp only [List.getElem?_toArray, List.getElem?_cons_zero, List.getElem?_cons_succ] at b0 b1 b2 b3 b4 b5
    clear hb
    have hszr := Hkw.out.size
    simp only [World.size_alloc] at hszr
    by_cases hlt : k < n1
    · have hSr := HC.out.vars.kept ((Kept.box _ _).then Hkw.out)
      have hRr := HI.out.kept ((Kept.box _ _).then Hkw.out)
      obtain ⟨a, rfl, hblk⟩ := hSr.addr (by omega)
      obtain ⟨x, Hx, hcx, _, _⟩ := hSr.named k hlt
      obtain ⟨hx1, hx2⟩ := varsOk_rng Hv.out (show k < C.vars.length by have := Hl1.out; omega)
      rw [Hx.out] at hx1 hx2
      obtain ⟨p, rfl⟩ := Int.eq_ofNat_of_zero_le hx1
      have hpn : p < n := by omega
      obtain ⟨ar, rfl, hblk2⟩ := hRr.addr (by omega)
      obtain ⟨y, Hy, hcy, hy1, hy2⟩ := hRr.named p hpn
      have Htake : Hid (((rowVals C row).take (k + 1)).map (Value.int .i64) = ((rowVals C row).take k).map (Value.int .i64) ++ [.int .i64 y]) := by
        show _ = _
        rw [take_succ_getD (x := y) (by have := Hrl.out; omega) ?_]
        · simp
        · unfold rowVals
          rw [List.getD_eq_getElem?_getD, List.getElem?_map]
          have h2 := Hx.out
          rw [List.getD_eq_getElem?_getD, List.getElem?_eq_getElem (by have := Hl1.out; omega)] at h2
          rw [List.getElem?_eq_getElem (by have := Hl1.out; omega)]
          simp only [Option.getD_some] at h2
          simp only [Option.map_some, Option.getD_some, h2, Int.toNat_natCast]
          exact Hy.out
      clear hSr hRr
      go_wp2_with (at_builtin; refine wpList_append_own _ rfl _ _ 22 rfl (w.heap.size + 1) 3 i0 (.int .i64 0) 1 8 Tryd.underlying22 hi hz0 hz1 hz2 rfl (by decide) _ _ _ rfl (hown.alloc _) ⟨wr.heap.size, 0, none⟩ 1 1 [.int .i64 y] rfl rfl (cell_one_new _ _ _) (by simp [Value.oneCell']) (by unfold maxLen; omega) (by omega) (by simp; omega) ?_; intro v' w2 hown' hgrow _)
      go_roundw
      case rel => exact ⟨k + 1, by omega, by go_num, by rw [Htake.out]; exact hown', Hkw.out.appended hown (by simp) hgrow⟩
      case measure => simp [intOf]; omega
    · have e : k = n1 := by omega
      subst e
      rw [List.take_of_length_le (by have := Hrl.out; omega)] at hown
      obtain ⟨A', c', rfl, hI', hfr⟩ := Ints.of_own hown Hrng.out
      have HI' := Lib.hid hI'
      clear hown hI' hfr hlt
      obtain ⟨wv, hwv⟩ : ∃ wv : World, wv = wr := ⟨_, rfl⟩
      subst hwv
      obtain ⟨rv, hrv⟩ : ∃ rv, rv = rowVals C row := ⟨_, rfl⟩
      have Hrv := Lib.hid hrv
      have HIv : Hid (Ints wv A' k rv) := by rw [hrv]; exact HI'.out
      clear hrv HI' Hrl Hrng
      have Hrvl := Lib.hid HIv.out.len
      have hso := iff_parts Hkind.out HR.out
      have hk29 : 2 ≤ k ∧ k ≤ 9 := by have := hso.least; have := hso.most; have := Hl1.out; omega
      have hv0 := rowVals_getD C row (i := 0) (by have := Hl1.out; omega)
      have hHq : Hid (holdsLin C row = ((decide (rv.getD 0 0 = 0) || decide (rv.getD 0 0 = 1)) && (relB (sumBut C.coefs (fun i => row.getD ((C.vars.drop 1).getD i 0).toNat 0) (-1) (k - 1)) C.rel C.const == decide (rv.getD 0 0 = 1)))) := by
        show _ = _
        unfold holdsLin holdsI
        rw [if_neg (by rw [Hkind.out]; decide), Hl1.out, Hrv.out, hv0]
        have e : (fun i => row.getD ((C.vars.drop 1).getD i 0).toNat 0) = fun i => atV C row (i + 1) := by
          funext i
          unfold atV
          rw [getD_drop1]
        rw [e]; rfl
      have hKv := (Kept.box w (.cells #[.int .i64 3, .slice A1 k c1, .slice A2 n2 c2, .int .i64 R, .int .i64 Ct, .slice A3 n3 c3] 24)).then Hkw.out
      obtain ⟨bv, ov, hA1, _⟩ := HC.out.vars.plain (by omega)
      subst hA1
      have hvl : (C.vars.drop 1).length = k - 1 := by rw [List.length_drop, Hl1.out]
      have HQ : Hid (∀ W, Kept wv W → Calls Tryd.prog 44 #[.agg #[.int .i64 3, .slice (some ⟨bv, ov, Option.none⟩) k c1, .slice A2 n2 c2, .int .i64 R, .int .i64 Ct, .slice A3 n3 c3], .slice (some ⟨bv, ov + 1, Option.none⟩) (k - 1) (c1 - 1), .slice A n c] W
          fun e w' => e = .returned (.bool (relB (sumBut C.coefs (fun i => row.getD ((C.vars.drop 1).getD i 0).toNat 0) (-1) (k - 1)) C.rel C.const)) ∧ Kept W w') := fun W hW =>
        rsum_any 3 R Ct (some ⟨bv, ov, Option.none⟩) A2 A3 k c1 n2 c2 n3 c3 C (some ⟨bv, ov + 1, Option.none⟩) (k - 1) (c1 - 1) (C.vars.drop 1) A n c row W (HC.out.kept (hKv.then hW)) ((HC.out.vars.rest hk29.1).kept (hKv.then hW)) (HI.out.kept (hKv.then hW)) (by have := hso.len; have := Hl1.out; have := HC.out.coefs.len; omega) (by omega) hso.bnd
          (fun i hi => varsOk_rng (varsOk_drop Hv.out) (by rw [hvl]; exact hi)) (row_rng hW0.out) (by have := hso.rel0; rwa [HC.out.rel] at this) (by have := hso.rel5; rwa [HC.out.rel] at this)
      have HKv := Lib.hid hKv
      have hcap := HC.out.cap1
      have hbv : bv < wv.heap.size := by have := HC.out.vars.block (by omega); have := hKv.size; simp only at *; omega
      obtain ⟨b, o, hA', hc⟩ := HIv.out.plain (by omega)
      subst hA'
      have c0 := hc 0 (by have := Hrvl.out; omega)
      simp only [Nat.add_zero] at c0
      have hbl : b < wv.heap.size := World.block_lt_of_cell? wv _ c0
      have hlb : w.heap.size < wv.heap.size := World.block_lt_of_cell? wv _ b0
      have h1n : (1 : Int) ≤ (k : Int) := by omega
      have h0n : (0 : Int) < (k : Int) := by omega
      have h1c : (k : Int) ≤ (c1 : Int) := by omega
      generalize relB (sumBut C.coefs (fun i => row.getD ((C.vars.drop 1).getD i 0).toNat 0) (-1) (k - 1)) C.rel C.const = q at *
      generalize rv.getD 0 0 = x at *
      clear hso hv0 hKv hvl hc
      by_cases g1 : x = 1
      · have Hres : Hid (holdsLin C row = (q == true)) := by show _ = _; rw [hHq.out, g1]; simp
        subst g1
        go_wp2_with fail
        refine wp_region_quiet_below (by kernel_rfl) (by kernel_rfl) ?_
        repeat (any_goals (first | go_big_quiet_step (((go_at_call 44; exact Calls.regrown_of (HQ.out _ (below_regrown _ _ _))))) | quiet_step (((go_at_call 44; exact Calls.regrown_of (HQ.out _ (below_regrown _ _ _))))) | (refine wpQuiet_step (fun K hK => ?_); go_simp; split <;> (refine hK _ ?_; clear hK K))))
        all_goals (refine wpQuiet_nil ?_; intro w1 hw'; replace hw' := Kept.regrown hw')
        all_goals try (exfalso; omega)
        have HK5 := Lib.hid (HKv.out.then hw')
        clear hw'
        go_wp2_with fail
        go_ret
        exact ⟨ret_bool (by rw [Hres.out]; cases q <;> rfl), HK5.out⟩
      · have hd1 : (x != 1) = true := by simp [g1]
        have hd1' : (x == 1) = false := by simp [g1]
        by_cases g0 : x = 0
        · have Hres : Hid (holdsLin C row = (q == false)) := by show _ = _; rw [hHq.out, g0]; simp
          subst g0
          go_wp2_with fail
          refine wp_region_quiet_below (by kernel_rfl) (by kernel_rfl) ?_
          repeat (any_goals (first | go_big_quiet_step (((go_at_call 44; exact Calls.regrown_of (HQ.out _ (below_regrown _ _ _))))) | quiet_step (((go_at_call 44; exact Calls.regrown_of (HQ.out _ (below_regrown _ _ _))))) | (refine wpQuiet_step (fun K hK => ?_); go_simp; split <;> (refine hK _ ?_; clear hK K))))
          all_goals (refine wpQuiet_nil ?_; intro w1 hw'; replace hw' := Kept.regrown hw')
          all_goals try (exfalso; omega)
          have HK5 := Lib.hid (HKv.out.then hw')
          clear hw'
          go_wp2_with fail
          go_ret
          exact ⟨ret_bool (by rw [Hres.out]; cases q <;> rfl), HK5.out⟩
        · have hd0 : (x != 0) = true := by simp [g0]
          have Hres : Hid (holdsLin C row = false) := by show _ = _; rw [hHq.out, decide_eq_false g0, decide_eq_false g1]; rfl
          clear g0 g1
          go_wp2_with fail
          go_ret
          exact ⟨ret_bool (by rw [Hres.out]), HKv.out⟩
end Go.Proofs.YtekcenacpklpgaaDoor

namespace Go.Proofs.YtekcenacpklpgaaDoor
open Go Go.RowKit Pl

theorem holdslin_any (K R Ct : Int) (A1 A2 A3 : Option Addr) (n1 c1 n2 c2 n3 c3 : Nat) (C : ConB) (A : Option Addr) (n c : Nat) (row : List Int) (w : World) (hC : ConIn w K R Ct A1 A2 A3 n1 c1 n2 c2 n3 c3 C) (hI : Ints w A n row) (hK : K = 1 ∨ K = 3) (hR : rightB C n = true) (hW : withinB row 1048576 = true) :
    Calls Tryd.prog 17 #[.agg #[.int .i64 K, .slice A1 n1 c1, .slice A2 n2 c2, .int .i64 R, .int .i64 Ct, .slice A3 n3 c3], .slice A n c] w fun e w' => e = .returned (.bool (holdsLin C row)) ∧ Kept w w' := by
  rcases hK with hK | hK
  · exact holds1_any K R Ct A1 A2 A3 n1 c1 n2 c2 n3 c3 C A n c row w hC hI hK hR hW
  · exact holds3_any K R Ct A1 A2 A3 n1 c1 n2 c2 n3 c3 C A n c row w hC hI hK hR hW
end Go.Proofs.YtekcenacpklpgaaDoor

set_option maxHeartbeats 1000000
set_option maxRecDepth 10000
namespace Go.Proofs.YtekcenacpklpgaaDoor
open Go Go.RowKit Pl

theorem sound12_any (K R Ct : Int) (A1 A2 A3 : Option Addr) (n1 c1 n2 c2 n3 c3 : Nat) (C : ConB) (A B : Option Addr) (n c m d : Nat) (ds : List DomB) (row : List Int) (w : World) (hC : ConIn w K R Ct A1 A2 A3 n1 c1 n2 c2 n3 c3 C) (hS : Doms w A n ds) (hI : Ints w B m row) (hT : Tab w) :
    Calls Tryd.prog 4 #[.agg #[.int .i64 K, .slice A1 n1 c1, .slice A2 n2 c2, .int .i64 R, .int .i64 Ct, .slice A3 n3 c3], .slice A n c, .slice B m d] w fun e w' => e = .returned (.bool true) ∧ Kept w w' := by
  have HC := Lib.hid hC
  have HS := Lib.hid hS
  have HI := Lib.hid hI
  have HT := Lib.hid hT
  have Hlen := Lib.hid hS.len
  have HlR := Lib.hid hI.len
  clear hC hS hI hT
  have hhB : ∀ W, Kept (w.alloc (.cells #[.int .i64 K, .slice A1 n1 c1, .slice A2 n2 c2, .int .i64 R, .int .i64 Ct, .slice A3 n3 c3] 24)) W → W.heap[w.heap.size]? = some (.cells #[.int .i64 K, .slice A1 n1 c1, .slice A2 n2 c2, .int .i64 R, .int .i64 Ct, .slice A3 n3 c3] 24) := fun W h => h.heapAt (heap_new _ _)
  have HB := Lib.hid hhB
  clear hhB
  go_enter Tryd.func4, Tryd.ntmps4
  go_wp2_with fail
  refine (awake12 _ (HT.out.kept (Kept.box _ _))).mono ?_
  rintro e W1 ⟨rfl, hk1⟩
  have hb := HB.out W1 hk1
  have b0 := cell_at hb 0
  have b1 := cell_at hb 1
  have b2 := cell_at hb 2
  have b3 := cell_at hb 3
  have b4 := cell_at hb 4
  have b5 := cell_at hb 5
  simp only [List.getElem?_toArray, List.getElem?_cons_zero, List.getElem?_cons_succ] at b0 b1 b2 b3 b4 b5
  clear hb
  have Hk1 := Lib.hid hk1
  have HK1 := Lib.hid ((Kept.box _ _).then hk1)
  clear hk1
  go_wp2_with fail
  refine (large_any K R Ct A1 A2 A3 n1 c1 n2 c2 n3 c3 C A n c ds _ (HC.out.kept HK1.out) (HS.out.kept HK1.out)).mono ?_
  rintro e W2 ⟨bl, rfl, hn, hk2⟩
  clear b0 b1 b2 b3 b4 b5
  have hb := HB.out W2 (Hk1.out.then hk2)
  have b0 := cell_at hb 0
  have b1 := cell_at hb 1
  have b2 := cell_at hb 2
  have b3 := cell_at hb 3
  have b4 := cell_at hb 4
  have b5 := cell_at hb 5
  simp only [List.getElem?_toArray, List.getElem?_cons_zero, List.getElem?_cons_succ] at b0 b1 b2 b3 b4 b5
  clear hb
  have Hk2 := Lib.hid (Hk1.out.then hk2)
  have HK2 := Lib.hid (HK1.out.then hk2)
  clear hk2
  cases bl with
  | true =>
    clear b0 b1 b2 b3 b4 b5
    go_wp2_with fail
    go_ret
    exact ⟨rfl, HK2.out⟩
  | false =>
    have hn20 : n ≤ 20 := hn rfl
    clear hn
    go_wp2_with fail
    have H1 := linstep_law K R Ct A1 A2 A3 n1 c1 n2 c2 n3 c3 C A n c ds _ (HC.out.kept HK2.out) (HS.out.kept HK2.out) (HT.out.kept HK2.out) (by omega)
    cases hg : linGo C ds with
    | false =>
      rw [if_neg (by rw [hg]; decide)] at H1
      refine H1.mono ?_
      rintro e W3 ⟨rfl, hk3⟩
      have HK3 := Lib.hid (HK2.out.then hk3)
      clear H1 hk3 b0 b1 b2 b3 b4 b5
      go_wp2_with fail
      go_ret
      exact ⟨rfl, HK3.out⟩
    | true =>
      obtain ⟨hk4, hB4, hm4⟩ := linGo_parts hg
      have Hg := Lib.hid hg
      have Hm4 := Lib.hid hm4
      have HK9 : Hid (K = 1 ∨ K = 3) := by
        show _ ∨ _
        rw [← HC.out.kind]
        exact hk4
      rw [if_pos hg] at H1
      refine H1.mono ?_
      rintro e W3 ⟨Aa, ca, rfl, hDa, hk3⟩
      have Hk3 := Lib.hid (Hk2.out.then hk3)
      have HK3 := Lib.hid (HK2.out.then hk3)
      have HDa := Lib.hid hDa
      rw [Hlen.out] at hB4
      have hR4 := hB4
      have HH : Hid (m = n → withinB row 1048576 = true → ∀ W, Kept w W → Calls Tryd.prog 17 #[.agg #[.int .i64 K, .slice A1 n1 c1, .slice A2 n2 c2, .int .i64 R, .int .i64 Ct, .slice A3 n3 c3], .slice B m d] W fun e w' => e = .returned (.bool (holdsLin C row)) ∧ Kept W w') := fun h hwr W hW =>
        holdslin_any K R Ct A1 A2 A3 n1 c1 n2 c2 n3 c3 C B m d row W (HC.out.kept hW) (HI.out.kept hW) HK9.out (by rw [h]; exact hR4) hwr
      have HR11 : Hid (∀ W O, Kept w W → W.heap[O]? = some (.cells #[.int .i64 K, .slice A1 n1 c1, .slice A2 n2 c2, .int .i64 R, .int .i64 Ct, .slice A3 n3 c3] 24) → Calls Tryd.prog 16 #[.slice (some ⟨O, 0, Option.none⟩) 1 1, .slice B m d] W fun e w' => e = .returned (.bool (withinB row 1048576 && rightB C m)) ∧ Kept W w') := fun W O hW hO =>
        rr1_any K R Ct A1 A2 A3 n1 c1 n2 c2 n3 c3 C O B m d row W hO (HC.out.kept hW) (HI.out.kept hW)
      clear H1 hk3 hDa b0 b1 b2 b3 b4 b5 hB4 hR4 hg hm4 hk4
      have hb := HB.out W3 Hk3.out
      have b0 := cell_at hb 0
      have b1 := cell_at hb 1
      have b2 := cell_at hb 2
      have b3 := cell_at hb 3
      have b4 := cell_at hb 4
      have b5 := cell_at hb 5
      simp only [List.getElem?_toArray, List.getElem?_cons_zero, List.getElem?_cons_succ] at b0 b1 b2 b3 b4 b5
      clear hb
      go_wp2_with fail
      refine (within_any _ _ _ _ _ _ _ _ _ HDa.out (HS.out.kept HK3.out)).mono ?_
      rw [step_within Hm4.out]
      rintro e W4 ⟨rfl, hk4⟩
      have Hk4 := Lib.hid (Hk3.out.then hk4)
      have HK4 := Lib.hid (HK3.out.then hk4)
      have HDa4 := Lib.hid (HDa.out.kept hk4)
      clear hk4 b0 b1 b2 b3 b4 b5
      have hb := HB.out W4 Hk4.out
      have b0 := cell_at hb 0
      have b1 := cell_at hb 1
      have b2 := cell_at hb 2
      have b3 := cell_at hb 3
      have b4 := cell_at hb 4
      have b5 := cell_at hb 5
      simp only [List.getElem?_toArray, List.getElem?_cons_zero, List.getElem?_cons_succ] at b0 b1 b2 b3 b4 b5
      clear hb
      go_wp2_with fail
      refine (left_any _ _ _ _ _ _ _ _ _ (HI.out.kept HK4.out) (HS.out.kept HK4.out)).mono ?_
      have Hsnd : Hid (leftL row ds = true → holdsLin C row = true → leftL row (stepB (linKp C ds) ds) = true) := fun h1 h2 => lin_sound Hg.out h1 h2
      have Hmn : Hid (leftL row ds = true → m = n) := fun h => by
        have := (leftL_iff.1 h).1
        rw [HlR.out, Hlen.out] at this
        exact this
      generalize leftL row ds = q1 at *
      rintro e W5 ⟨rfl, hk5⟩
      have Hk5 := Lib.hid (Hk4.out.then hk5)
      have HK5 := Lib.hid (HK4.out.then hk5)
      have HDa5 := Lib.hid (HDa4.out.kept hk5)
      clear hk5 b0 b1 b2 b3 b4 b5
      cases q1 with
      | false =>
        go_wp2_with fail
        go_ret
        exact ⟨rfl, HK5.out⟩
      | true =>
        have Hmn2 := Lib.hid (Hmn.out (by first | rfl | trivial))
        have hb := HB.out W5 Hk5.out
        have b0 := cell_at hb 0
        have b1 := cell_at hb 1
        have b2 := cell_at hb 2
        have b3 := cell_at hb 3
        have b4 := cell_at hb 4
        have b5 := cell_at hb 5
        simp only [List.getElem?_toArray, List.getElem?_cons_zero, List.getElem?_cons_succ] at b0 b1 b2 b3 b4 b5
        clear hb
        go_wp2_with fail
        refine (HR11.out _ _ (HK5.out.then (Kept.box _ _)) (heap_new _ _)).mono ?_
        have Hwq : Hid ((withinB row 1048576 && rightB C m) = true → withinB row 1048576 = true) := fun h => (Bool.and_eq_true_iff.1 h).1
        generalize (withinB row 1048576 && rightB C m) = q2 at *
        rintro e W6 ⟨rfl, hk6⟩
        have Hk6 := Lib.hid (Hk5.out.then ((Kept.box _ _).then hk6))
        have HK6 := Lib.hid (HK5.out.then ((Kept.box _ _).then hk6))
        have HDa6 := Lib.hid (HDa5.out.kept ((Kept.box _ _).then hk6))
        clear hk6 b0 b1 b2 b3 b4 b5
        cases q2 with
        | false =>
          go_wp2_with fail
          go_ret
          exact ⟨rfl, HK6.out⟩
        | true =>
          have hb := HB.out W6 Hk6.out
          have b0 := cell_at hb 0
          have b1 := cell_at hb 1
          have b2 := cell_at hb 2
          have b3 := cell_at hb 3
          have b4 := cell_at hb 4
          have b5 := cell_at hb 5
          simp only [List.getElem?_toArray, List.getElem?_cons_zero, List.getElem?_cons_succ] at b0 b1 b2 b3 b4 b5
          clear hb
          go_wp2_with fail
          refine (HH.out Hmn2.out (Hwq.out (by first | rfl | trivial)) _ HK6.out).mono ?_
          generalize holdsLin C row = q3 at *
          rintro e W7 ⟨rfl, hk7⟩
          have HK7 := Lib.hid (HK6.out.then hk7)
          have HDa7 := Lib.hid (HDa6.out.kept hk7)
          clear hk7 b0 b1 b2 b3 b4 b5
          cases q3 with
          | false =>
            go_wp2_with fail
            go_ret
            exact ⟨rfl, HK7.out⟩
          | true =>
            have Hs := Lib.hid (Hsnd.out (by first | rfl | trivial) (by first | rfl | trivial))
            go_wp2_with fail
            refine (left_any _ _ _ _ _ _ _ _ _ (HI.out.kept HK7.out) HDa7.out).mono ?_
            rw [Hs.out]
            rintro e W8 ⟨rfl, hk8⟩
            have HK8 := Lib.hid (HK7.out.then hk8)
            clear hk8
            go_wp2_with fail
            go_ret
            exact ⟨rfl, HK8.out⟩
end Go.Proofs.YtekcenacpklpgaaDoor

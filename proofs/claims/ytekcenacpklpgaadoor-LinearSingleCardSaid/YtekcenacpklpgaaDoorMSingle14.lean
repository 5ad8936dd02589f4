/-
  Contracts and plain laws that the card rests on, part 14.
-/
import Derived.Test.YtekcenacpklpgaaDoorMSingle9
import Derived.Test.YtekcenacpklpgaaDoorMSingle7
import Derived.Test.YtekcenacpklpgaaDoorMSingle6
import Derived.Test.YtekcenacpklpgaaDoorMSingle8
import Derived.Test.YtekcenacpklpgaaDoorMSingle12
import Derived.Test.YtekcenacpklpgaaDoorMSingle13
set_option maxHeartbeats 2000000
set_option maxRecDepth 10000
namespace Go.Proofs.YtekcenacpklpgaaDoor
open Go Go.RowKit Pl

theorem sumBut_bnd {cs : List Int} {r : Nat → Int} {m : Nat} (hc : ∀ i, -1048576 ≤ cs.getD i 0 ∧ cs.getD i 0 ≤ 1048576) (hr : ∀ i, i < m → -1048576 ≤ r i ∧ r i ≤ 1048576) :
    ∀ j, j ≤ m → -(1099511627776 * (j : Int)) ≤ sumBut cs r (-1) j ∧ sumBut cs r (-1) j ≤ 1099511627776 * (j : Int) := by
  intro j
  induction j with
  | zero => intro _; simp [sumBut]
  | succ j ih =>
    intro hj
    have h1 := ih (by omega)
    have h2 := mul_small (hc j) (hr j (by omega))
    simp only [sumBut]
    have e : ((j + 1 : Nat) : Int) = (j : Int) + 1 := by omega
    rw [e, if_neg (by omega)]
    omega
/-- How a sum compares, by whether it is less, and the same. -/
def relT (lt eq : Bool) (r : Nat) : Bool := ([eq, !eq, lt, lt || eq, !lt && !eq, !lt] : List Bool).getD r false
theorem relT_rel {s c : Int} {r : Nat} (h : r < 6) : relB s (r : Int) c = relT (decide (s < c)) (decide (s = c)) r := by
  have : r = 0 ∨ r = 1 ∨ r = 2 ∨ r = 3 ∨ r = 4 ∨ r = 5 := by omega
  rcases this with rfl | rfl | rfl | rfl | rfl | rfl <;> (unfold relB relT; rw [Bool.eq_iff_iff]; simp) <;> omega

theorem rsum_any (K R Ct : Int) (A1 A2 A3 : Option Addr) (n1 c1 n2 c2 n3 c3 : Nat) (C : ConB) (B : Option Addr) (m d : Nat) (vs : List Int) (A : Option Addr) (n c : Nat) (row : List Int) (w : World) (hC : ConIn w K R Ct A1 A2 A3 n1 c1 n2 c2 n3 c3 C) (hV : Ints w B m vs) (hI : Ints w A n row)
    (hl : n2 = m) (h8 : m ≤ 8) (hb : ∀ i, -1048576 ≤ C.coefs.getD i 0 ∧ C.coefs.getD i 0 ≤ 1048576) (hv : ∀ i, i < m → 0 ≤ vs.getD i 0 ∧ vs.getD i 0 < n) (hr : ∀ i, -1048576 ≤ row.getD i 0 ∧ row.getD i 0 ≤ 1048576) (h0 : 0 ≤ R) (h5 : R ≤ 5) :
    Calls Tryd.prog 44 #[.agg #[.int .i64 K, .slice A1 n1 c1, .slice A2 n2 c2, .int .i64 R, .int .i64 Ct, .slice A3 n3 c3], .slice B m d, .slice A n c] w fun e w' => e = .returned (.bool (relB (sumBut C.coefs (fun i => row.getD (vs.getD i 0).toNat 0) (-1) m) C.rel C.const)) ∧ Kept w w' := by
  subst hl
  obtain ⟨r, rfl⟩ := Int.eq_ofNat_of_zero_le h0
  have hr6 : r < 6 := by omega
  have HRel : Hid (C.rel = (r : Nat)) := hC.rel
  have HCon := Lib.hid hC.const
  have HC := Lib.hid hC
  have HV := Lib.hid hV
  have HI := Lib.hid hI
  have Hb := Lib.hid hb
  have Hv := Lib.hid hv
  have Hr := Lib.hid hr
  obtain ⟨f, hf⟩ : ∃ f : Nat → Int, f = fun i => row.getD (vs.getD i 0).toNat 0 := ⟨_, rfl⟩
  have Hf : Hid (∀ i, f i = row.getD (vs.getD i 0).toNat 0) := fun i => by rw [hf]
  have Hrng : Hid (∀ j, j ≤ n2 → -(1099511627776 * (j : Int)) ≤ sumBut C.coefs f (-1) j ∧ sumBut C.coefs f (-1) j ≤ 1099511627776 * (j : Int)) := sumBut_bnd hb (fun i _ => by rw [hf]; exact hr _)
  rw [← hf]
  have hrc := hC.rc
  clear hC hV hI hb hv hr hf h0 h5
  have HB : Hid (∀ wr, Kept (w.alloc (.cells #[.int .i64 K, .slice A1 n1 c1, .slice A2 n2 c2, .int .i64 r, .int .i64 Ct, .slice A3 n3 c3] 24)) wr → wr.heap[w.heap.size]? = some (.cells #[.int .i64 K, .slice A1 n1 c1, .slice A2 n2 c2, .int .i64 r, .int .i64 Ct, .slice A3 n3 c3] 24)) := fun wr h => h.heapAt (heap_new _ _)
  go_enter Tryd.func44, Tryd.ntmps44
  go_wp2_with fail
  have HK0 : Hid (Kept w (w.alloc (.cells #[.int .i64 K, .slice A1 n1 c1, .slice A2 n2 c2, .int .i64 r, .int .i64 Ct, .slice A3 n3 c3] 24))) := Kept.box _ _
  generalize w.alloc (.cells #[.int .i64 K, .slice A1 n1 c1, .slice A2 n2 c2, .int .i64 r, .int .i64 Ct, .slice A3 n3 c3] 24) = W0 at *
  go_loopw [7, 8] (fun u v wr => ∃ k : Nat, k ≤ n2 ∧ v = .int .i64 k ∧ u = .int .i64 (sumBut C.coefs f (-1) k) ∧ Hid (Kept W0 wr)) (fun _ v _ => n2 - (intOf v).toNat)
  case atStart => exact ⟨0, Nat.zero_le _, rfl, rfl, Kept.same _⟩
  case round =>
    obtain ⟨k, hk, rfl, rfl, Hkw⟩ := hrel
    obtain ⟨wv, hwv⟩ : ∃ wv : World, wv = wr := ⟨_, rfl⟩
    subst hwv
    have HK := Lib.hid (HK0.out.then Hkw.out)
    have hb := HB.out wv Hkw.out
    have b0 := cell_at hb 0
    have b1 := cell_at hb 1
    have b2 := cell_at hb 2
    have b3 := cell_at hb 3
    have b4 := cell_at hb 4
    have b5 := cell_at hb 5
    simp only [List.getElem?_toArray, List.getElem?_cons_zero, List.getElem?_cons_succ] at b0 b1 b2 b3 b4 b5
    clear hb
    have hlb : w.heap.size < wv.heap.size := World.block_lt_of_cell? wv _ b0
    have hsk := Hrng.out k hk
    by_cases hlt : k < n2
    · obtain ⟨av, hav, hbv⟩ := (HV.out.kept HK.out).addr (by omega)
      subst hav
      obtain ⟨v, Hv1, hcv, _, _⟩ := (HV.out.kept HK.out).named k hlt
      obtain ⟨hv0, hv1⟩ := Hv.out k hlt
      rw [Hv1.out] at hv0 hv1
      obtain ⟨p, rfl⟩ := Int.eq_ofNat_of_zero_le hv0
      have hpn : p < n := by omega
      obtain ⟨aq, haq, hbq⟩ := (HC.out.coefs.kept HK.out).addr (by omega)
      subst haq
      obtain ⟨q, Hq1, hcq, _, _⟩ := (HC.out.coefs.kept HK.out).named k hlt
      obtain ⟨ar, har, hbr⟩ := (HI.out.kept HK.out).addr (by omega)
      subst har
      obtain ⟨y, Hy1, hcy, _, _⟩ := (HI.out.kept HK.out).named p hpn
      have hq := Hb.out k
      rw [Hq1.out] at hq
      have hy := Hr.out p
      rw [Hy1.out] at hy
      have hm := mul_small hq hy
      have Hnx : Hid (sumBut C.coefs f (-1) (k + 1) = sumBut C.coefs f (-1) k + q * y) := by
        show _ = _
        simp only [sumBut]
        rw [if_neg (by omega), Hq1.out, Hf.out, Hv1.out, Int.toNat_natCast, Hy1.out]
      generalize sumBut C.coefs f (-1) k = s at *
      obtain ⟨t, ht⟩ : ∃ t, t = q * y := ⟨_, rfl⟩
      rw [← ht] at hm Hnx
      have htw : IntKind.i64.wrap (q * y) = t := by rw [← ht]; exact IntWalk.i64_in _ (by omega)
      have hsw : IntKind.i64.wrap (s + t) = s + t := IntWalk.i64_in _ (by omega)
      clear ht hq hy hm hsk
      go_wp2_with fail
      refine wp_region_quiet_below (by kernel_rfl) (by kernel_rfl) ?_
      repeat (any_goals (first | go_big_quiet_step ((fail)) | quiet_step ((fail)) | (refine wpQuiet_step (fun K hK => ?_); go_simp; split <;> (refine hK _ ?_; clear hK K))))
      all_goals (refine wpQuiet_nil ?_; intro w1 hw'; replace hw' := Kept.regrown hw')
      all_goals try (exfalso; omega)
      have Hk9 := Lib.hid (Hkw.out.then hw')
      clear hw'
      go_wp2_with fail
      go_roundw
      case rel => first | exact ⟨k + 1, by omega, by go_num, by rw [Hnx.out], Hk9.out⟩ | ((repeat apply Exists.intro); exact ⟨⟨k + 1, by omega, by go_num, by rw [Hnx.out], Hk9.out⟩, rfl⟩)
      case measure => simp [intOf]; omega
    · have e : k = n2 := by omega
      subst e
      have HRes : Hid (relB (sumBut C.coefs f (-1) k) C.rel C.const = relT (decide (sumBut C.coefs f (-1) k < Ct)) (decide (sumBut C.coefs f (-1) k = Ct)) r) := by
        show _ = _
        rw [HRel.out, HCon.out]
        exact relT_rel hr6
      generalize hs : sumBut C.coefs f (-1) k = s at *
      have Hs := Lib.hid hs
      clear hs
      have hri0 : (0 : Int) ≤ (r : Int) := by omega
      have hri6 : (r : Int) < 6 := by omega
      have hcl : ∀ lt eq : Bool, (wv.alloc (.cells #[.bool eq, .bool (!eq), .bool lt, .bool (lt || eq), .bool (!lt && !eq), .bool (!lt)] 4)).cell? ⟨wv.heap.size, r, Option.none⟩ = some (.bool (relT lt eq r)) := fun lt eq => by
        rw [cell_at (heap_new _ _)]
        have : r = 0 ∨ r = 1 ∨ r = 2 ∨ r = 3 ∨ r = 4 ∨ r = 5 := by omega
        rcases this with rfl | rfl | rfl | rfl | rfl | rfl <;> rfl
      rcases Int.lt_trichotomy s Ct with h | h | h
      · have hd1 : decide (s < Ct) = true := by simp [h]
        have hd2 : (s == Ct) = false := by simp; omega
        have hd3 : decide (s = Ct) = false := by simp; omega
        have hc2 : (wv.alloc (.cells #[.bool false, .bool true, .bool true, .bool true, .bool false, .bool false] 4)).cell? ⟨wv.heap.size, r, Option.none⟩ = some (.bool (relT true false r)) := hcl true false
        rw [hd1, hd3] at HRes
        clear hcl
        go_wp2_with fail
        go_ret
        exact ⟨ret_bool (by rw [Hs.out, HRes.out]), HK.out.newBlock _⟩
      · have hd1 : decide (s < Ct) = false := by simp; omega
        have hd2 : (s == Ct) = true := by simp [h]
        have hd3 : decide (s = Ct) = true := by simp [h]
        have hc2 : (wv.alloc (.cells #[.bool true, .bool false, .bool false, .bool true, .bool false, .bool true] 4)).cell? ⟨wv.heap.size, r, Option.none⟩ = some (.bool (relT false true r)) := hcl false true
        rw [hd1, hd3] at HRes
        have Hh := Lib.hid h
        clear hcl h
        go_wp2_with fail
        go_ret
        exact ⟨ret_bool (by rw [Hs.out, HRes.out]), HK.out.newBlock _⟩
      · have hd1 : decide (s < Ct) = false := by simp; omega
        have hd2 : (s == Ct) = false := by simp; omega
        have hd3 : decide (s = Ct) = false := by simp; omega
        have hc2 : (wv.alloc (.cells #[.bool false, .bool true, .bool false, .bool false, .bool true, .bool true] 4)).cell? ⟨wv.heap.size, r, Option.none⟩ = some (.bool (relT false false r)) := hcl false false
        rw [hd1, hd3] at HRes
        clear hcl
        go_wp2_with fail
        go_ret
        exact ⟨ret_bool (by rw [Hs.out, HRes.out]), HK.out.newBlock _⟩
end Go.Proofs.YtekcenacpklpgaaDoor

set_option maxHeartbeats 1000000
set_option maxRecDepth 10000
namespace Go.Proofs.YtekcenacpklpgaaDoor
open Go Go.RowKit Pl

theorem row_rng {row : List Int} (h : withinB row 1048576 = true) (i : Nat) : -1048576 ≤ row.getD i 0 ∧ row.getD i 0 ≤ 1048576 := by
  by_cases hi : i < row.length
  · have := withinB_mem h (x := row.getD i 0) (by rw [List.getD_eq_getElem?_getD, List.getElem?_eq_getElem hi]; exact List.getElem_mem hi)
    omega
  · rw [List.getD_eq_getElem?_getD, List.getElem?_eq_none (by omega)]; simp

theorem holds1_any (K R Ct : Int) (A1 A2 A3 : Option Addr) (n1 c1 n2 c2 n3 c3 : Nat) (C : ConB) (A : Option Addr) (n c : Nat) (row : List Int) (w : World) (hC : ConIn w K R Ct A1 A2 A3 n1 c1 n2 c2 n3 c3 C) (hI : Ints w A n row) (hK : K = 1) (hR : rightB C n = true) (hW : withinB row 1048576 = true) :
    Calls Tryd.prog 17 #[.agg #[.int .i64 K, .slice A1 n1 c1, .slice A2 n2 c2, .int .i64 R, .int .i64 Ct, .slice A3 n3 c3], .slice A n c] w fun e w' => e = .returned (.bool (holdsLin C row)) ∧ Kept w w' := by
  subst hK
  obtain ⟨i0, hi, hz0, hz1, hz2⟩ := info_parts info_int
  have hv := rightB_vars hR
  have HC := Lib.hid hC
  have HI := Lib.hid hI
  have HR := Lib.hid hR
  have hsm := hI.small
  have Hlen := Lib.hid hI.len
  have Hl1 := Lib.hid hC.vars.len
  have Hl3 := Lib.hid hC.nums.len
  have hs3 := hC.nums.small
  have Hkind := Lib.hid hC.kind
  have Hv := Lib.hid hv
  have hn18 : n1 ≤ 9 := by
    have h1 := rightB_len hR
    have := hC.vars.len
    omega
  have hrl : (rowVals C row).length = n1 := by unfold rowVals; rw [List.length_map]; exact hC.vars.len
  have Hrl := Lib.hid hrl
  have Hrng : Hid (∀ x ∈ rowVals C row, -9223372036854775808 ≤ x ∧ x ≤ 9223372036854775807) := fun x hx => by
    unfold rowVals at hx
    rw [List.mem_map] at hx
    obtain ⟨v, _, rfl⟩ := hx
    exact HI.out.getD_rng _
  clear hC hI hv hrl hR
  have HB : Hid (∀ wr, Kept (w.alloc (.cells #[.int .i64 1, .slice A1 n1 c1, .slice A2 n2 c2, .int .i64 R, .int .i64 Ct, .slice A3 n3 c3] 24)) wr → wr.heap[w.heap.size]? = some (.cells #[.int .i64 1, .slice A1 n1 c1, .slice A2 n2 c2, .int .i64 R, .int .i64 Ct, .slice A3 n3 c3] 24)) := fun wr h => h.heapAt (heap_new _ _)
  go_enter Tryd.func17, Tryd.ntmps17
  go_wp2_with fail
  go_loopw [5, 6] (fun u v wr => ∃ k : Nat, k ≤ n1 ∧ v = .int .i64 k ∧ wr.ownsRow (w.heap.size + 1) 3 1 u k (((rowVals C row).take k).map (Value.int .i64)) ∧ Hid (Kept (w.alloc (.cells #[.int .i64 1, .slice A1 n1 c1, .slice A2 n2 c2, .int .i64 R, .int .i64 Ct, .slice A3 n3 c3] 24)) wr)) (fun _ v _ => n1 - (intOf v).toNat)
  case atStart => exact ⟨0, Nat.zero_le _, rfl, own_empty (heap_new2 _ _ _) (Nat.le_refl _), Kept.box _ _⟩
  case round =>
    obtain ⟨k, hk, rfl, hown, Hkw⟩ := hrel
    have hb := HB.out wr Hkw.out
    have b0 := cell_at hb 0
    have b1 := cell_at hb 1
    have b2 := cell_at hb 2
    have b3 := cell_at hb 3
    have b4 := cell_at hb 4
    have b5 := cell_at hb 5
    simp only [List.getElem?_toArray, List.getElem?_cons_zero, List.getElem?_cons_succ] at b0 b1 b2 b3 b4 b5
    clear hb
    have hszr := Hkw.out.size
    simp only [World.size_alloc] at hszr
    by_cases hlt : k < n1
    · have hSr := HC.out.vars.kept ((Kept.box _ _).then Hkw.out)
      have hRr := HI.out.kept ((Kept.box _ _).then Hkw.out)
      obtain ⟨a, rfl, hblk⟩ := hSr.addr (by omega)
      obtain ⟨x, Hx, hcx, _, _⟩ := hSr.named k hlt
      obtain ⟨hx1, hx2⟩ := varsOk_rng Hv.out (show k < C.vars.length by have := Hl1.out; omega)
      rw [Hx.out] at hx1 hx2
      obtain ⟨p, rfl⟩ := Int.eq_ofNat_of_zero_le hx1
      have hpn : p < n := by omega
      obtain ⟨ar, rfl, hblk2⟩ := hRr.addr (by omega)
      obtain ⟨y, Hy, hcy, hy1, hy2⟩ := hRr.named p hpn
      have Htake : Hid (((rowVals C row).take (k + 1)).map (Value.int .i64) = ((rowVals C row).take k).map (Value.int .i64) ++ [.int .i64 y]) := by
        show _ = _
        rw [take_succ_getD (x := y) (by have := Hrl.out; omega) ?_]
        · simp
        · unfold rowVals
          rw [List.getD_eq_getElem?_getD, List.getElem?_map]
          have h2 := Hx.out
          rw [List.getD_eq_getElem?_getD, List.getElem?_eq_getElem (by have := Hl1.out; omega)] at h2
          rw [List.getElem?_eq_getElem (by have := Hl1.out; omega)]
          simp only [Option.getD_some] at h2
          simp only [Option.map_some, Option.getD_some, h2, Int.toNat_natCast]
          exact Hy.out
      clear hSr hRr
      go_wp2_with (at_builtin; refine wpList_append_own _ rfl _ _ 22 rfl (w.heap.size + 1) 3 i0 (.int .i64 0) 1 8 Tryd.underlying22 hi hz0 hz1 hz2 rfl (by decide) _ _ _ rfl (hown.alloc _) ⟨wr.heap.size, 0, none⟩ 1 1 [.int .i64 y] rfl rfl (cell_one_new _ _ _) (by simp [Value.oneCell']) (by unfold maxLen; omega) (by omega) (by simp; omega) ?_; intro v' w2 hown' hgrow _)
      go_roundw
      case rel => exact ⟨k + 1, by omega, by go_num, by rw [Htake.out]; exact hown', Hkw.out.appended hown (by simp) hgrow⟩
      case measure => simp [intOf]; omega
    · have e : k = n1 := by omega
      subst e
      rw [List.take_of_length_le (by have := Hrl.out; omega)] at hown
      obtain ⟨A', c', rfl, hI', hfr⟩ := Ints.of_own hown Hrng.out
      have HI' := Lib.hid hI'
      clear hown hI' hfr hlt
      obtain ⟨wv, hwv⟩ : ∃ wv : World, wv = wr := ⟨_, rfl⟩
      subst hwv
      obtain ⟨rv, hrv⟩ : ∃ rv, rv = rowVals C row := ⟨_, rfl⟩
      have Hrv := Lib.hid hrv
      have HIv : Hid (Ints wv A' k rv) := by rw [hrv]; exact HI'.out
      clear hrv HI' Hrl Hrng
      have Hrvl := Lib.hid HIv.out.len
      have hso := linear_parts Hkind.out HR.out
      have hcl := HC.out.coefs.len
      have hHq : Hid (holdsLin C row = relB (sumBut C.coefs (fun i => row.getD (C.vars.getD i 0).toNat 0) (-1) k) C.rel C.const) := by
        show _ = _
        unfold holdsLin holdsL
        rw [if_pos Hkind.out, Hl1.out]; rfl
      have hKv := (Kept.box w (.cells #[.int .i64 1, .slice A1 k c1, .slice A2 n2 c2, .int .i64 R, .int .i64 Ct, .slice A3 n3 c3] 24)).then Hkw.out
      have HQ := Lib.hid (rsum_any 1 R Ct A1 A2 A3 k c1 n2 c2 n3 c3 C A1 k c1 C.vars A n c row wv (HC.out.kept hKv) (HC.out.vars.kept hKv) (HI.out.kept hKv) (by have := hso.len; have := Hl1.out; omega) (by have := hso.most; have := Hl1.out; omega) hso.bnd
        (fun i hi => varsOk_rng Hv.out (by have := Hl1.out; omega)) (row_rng hW) (by have := hso.rel0; rwa [HC.out.rel] at this) (by have := hso.rel5; rwa [HC.out.rel] at this))
      have HKv := Lib.hid hKv
      have hlb : w.heap.size < wv.heap.size := World.block_lt_of_cell? wv _ b0
      generalize relB (sumBut C.coefs (fun i => row.getD (C.vars.getD i 0).toNat 0) (-1) k) C.rel C.const = q at *
      clear hso hcl hKv
      go_wp2_with fail
      refine HQ.out.mono ?_
      rintro e W5 ⟨rfl, hk5⟩
      have HK5 := Lib.hid (HKv.out.then hk5)
      clear hk5 b0 b1 b2 b3 b4 b5
      go_wp2_with fail
      go_ret
      exact ⟨ret_bool (by rw [hHq.out]), HK5.out⟩
end Go.Proofs.YtekcenacpklpgaaDoor

set_option maxHeartbeats 1000000
set_option maxRecDepth 10000
namespace Go.Proofs.YtekcenacpklpgaaDoor
open Go Go.RowKit Pl


theorem holds3_any (K R Ct : Int) (A1 A2 A3 : Option Addr) (n1 c1 n2 c2 n3 c3 : Nat) (C : ConB) (A : Option Addr) (n c : Nat) (row : List Int) (w : World) (hC : ConIn w K R Ct A1 A2 A3 n1 c1 n2 c2 n3 c3 C) (hI : Ints w A n row) (hK : K = 3) (hR : rightB C n = true) (hW : withinB row 1048576 = true) :
    Calls Tryd.prog 17 #[.agg #[.int .i64 K, .slice A1 n1 c1, .slice A2 n2 c2, .int .i64 R, .int .i64 Ct, .slice A3 n3 c3], .slice A n c] w fun e w' => e = .returned (.bool (holdsLin C row)) ∧ Kept w w' := by
  subst hK
  obtain ⟨i0, hi, hz0, hz1, hz2⟩ := info_parts info_int
  have hv := rightB_vars hR
  have hW0 := Lib.hid hW
  have HC := Lib.hid hC
  have HI := Lib.hid hI
  have HR := Lib.hid hR
  have hsm := hI.small
  have Hlen := Lib.hid hI.len
  have Hl1 := Lib.hid hC.vars.len
  have Hl3 := Lib.hid hC.nums.len
  have hs3 := hC.nums.small
  have Hkind := Lib.hid hC.kind
  have Hv := Lib.hid hv
  have hn18 : n1 ≤ 9 := by
    have h1 := rightB_len hR
    have := hC.vars.len
    omega
  have hrl : (rowVals C row).length = n1 := by unfold rowVals; rw [List.length_map]; exact hC.vars.len
  have Hrl := Lib.hid hrl
  have Hrng : Hid (∀ x ∈ rowVals C row, -9223372036854775808 ≤ x ∧ x ≤ 9223372036854775807) := fun x hx => by
    unfold rowVals at hx
    rw [List.mem_map] at hx
    obtain ⟨v, _, rfl⟩ := hx
    exact HI.out.getD_rng _
  clear hC hI hv hrl hR
  have HB : Hid (∀ wr, Kept (w.alloc (.cells #[.int .i64 3, .slice A1 n1 c1, .slice A2 n2 c2, .int .i64 R, .int .i64 Ct, .slice A3 n3 c3] 24)) wr → wr.heap[w.heap.size]? = some (.cells #[.int .i64 3, .slice A1 n1 c1, .slice A2 n2 c2, .int .i64 R, .int .i64 Ct, .slice A3 n3 c3] 24)) := fun wr h => h.heapAt (heap_new _ _)
  go_enter Tryd.func17, Tryd.ntmps17
  go_wp2_with fail
  go_loopw [5, 6] (fun u v wr => ∃ k : Nat, k ≤ n1 ∧ v = .int .i64 k ∧ wr.ownsRow (w.heap.size + 1) 3 1 u k (((rowVals C row).take k).map (Value.int .i64)) ∧ Hid (Kept (w.alloc (.cells #[.int .i64 3, .slice A1 n1 c1, .slice A2 n2 c2, .int .i64 R, .int .i64 Ct, .slice A3 n3 c3] 24)) wr)) (fun _ v _ => n1 - (intOf v).toNat)
  case atStart => exact ⟨0, Nat.zero_le _, rfl, own_empty (heap_new2 _ _ _) (Nat.le_refl _), Kept.box _ _⟩
  case round =>
    obtain ⟨k, hk, rfl, hown, Hkw⟩ := hrel
    have hb := HB.out wr Hkw.out
    have b0 := cell_at hb 0
    have b1 := cell_at hb 1
    have b2 := cell_at hb 2
    have b3 := cell_at hb 3
    have b4 := cell_at hb 4
    have b5 := cell_at hb 5
    simp only [List.getElem?_toArray, List.getElem?_cons_zero, List.getElem?_cons_succ] at b0 b1 b2 b3 b4 b5
    clear hb
    have hszr := Hkw.out.size
    simp only [World.size_alloc] at hszr
    by_cases hlt : k < n1
    · have hSr := HC.out.vars.kept ((Kept.box _ _).then Hkw.out)
      have hRr := HI.out.kept ((Kept.box _ _).then Hkw.out)
      obtain ⟨a, rfl, hblk⟩ := hSr.addr (by omega)
      obtain ⟨x, Hx, hcx, _, _⟩ := hSr.named k hlt
      obtain ⟨hx1, hx2⟩ := varsOk_rng Hv.out (show k < C.vars.length by have := Hl1.out; omega)
      rw [Hx.out] at hx1 hx2
      obtain ⟨p, rfl⟩ := Int.eq_ofNat_of_zero_le hx1
      have hpn : p < n := by omega
      obtain ⟨ar, rfl, hblk2⟩ := hRr.addr (by omega)
      obtain ⟨y, Hy, hcy, hy1, hy2⟩ := hRr.named p hpn
      have Htake : Hid (((rowVals C row).take (k + 1)).map (Value.int .i64) = ((rowVals C row).take k).map (Value.int .i64) ++ [.int .i64 y]) := by
        show _ = _
        rw [take_succ_getD (x := y) (by have := Hrl.out; omega) ?_]
        · simp
        · unfold rowVals
          rw [List.getD_eq_getElem?_getD, List.getElem?_map]
          have h2 := Hx.out
          rw [List.getD_eq_getElem?_getD, List.getElem?_eq_getElem (by have := Hl1.out; omega)] at h2
          rw [List.getElem?_eq_getElem (by have := Hl1.out; omega)]
          simp only [Option.getD_some] at h2
          simp only [Option.map_some, Option.getD_some, h2, Int.toNat_natCast]
          exact Hy.out
      clear hSr hRr
      go_wp2_with (at_builtin; refine wpList_append_own _ rfl _ _ 22 rfl (w.heap.size + 1) 3 i0 (.int .i64 0) 1 8 Tryd.underlying22 hi hz0 hz1 hz2 rfl (by decide) _ _ _ rfl (hown.alloc _) ⟨wr.heap.size, 0, none⟩ 1 1 [.int .i64 y] rfl rfl (cell_one_new _ _ _) (by simp [Value.oneCell']) (by unfold maxLen; omega) (by omega) (by simp; omega) ?_; intro v' w2 hown' hgrow _)
      go_roundw
      case rel => exact ⟨k + 1, by omega, by go_num, by rw [Htake.out]; exact hown', Hkw.out.appended hown (by simp) hgrow⟩
      case measure => simp [intOf]; omega
    · have e : k = n1 := by omega
      subst e
      rw [List.take_of_length_le (by have := Hrl.out; omega)] at hown
      obtain ⟨A', c', rfl, hI', hfr⟩ := Ints.of_own hown Hrng.out
      have HI' := Lib.hid hI'
      clear hown hI' hfr hlt
      obtain ⟨wv, hwv⟩ : ∃ wv : World, wv = wr := ⟨_, rfl⟩
      subst hwv
      obtain ⟨rv, hrv⟩ : ∃ rv, rv = rowVals C row := ⟨_, rfl⟩
      have Hrv := Lib.hid hrv
      have HIv : Hid (Ints wv A' k rv) := by rw [hrv]; exact HI'.out
      clear hrv HI' Hrl Hrng
      have Hrvl := Lib.hid HIv.out.len
      have hso := iff_parts Hkind.out HR.out
      have hk29 : 2 ≤ k ∧ k ≤ 9 := by have := hso.least; have := hso.most; have := Hl1.out; omega
      have hv0 := rowVals_getD C row (i := 0) (by have := Hl1.out; omega)
      have hHq : Hid (holdsLin C row = ((decide (rv.getD 0 0 = 0) || decide (rv.getD 0 0 = 1)) && (relB (sumBut C.coefs (fun i => row.getD ((C.vars.drop 1).getD i 0).toNat 0) (-1) (k - 1)) C.rel C.const == decide (rv.getD 0 0 = 1)))) := by
        show _ = _
        unfold holdsLin holdsI
        rw [if_neg (by rw [Hkind.out]; decide), Hl1.out, Hrv.out, hv0]
        have e : (fun i => row.getD ((C.vars.drop 1).getD i 0).toNat 0) = fun i => atV C row (i + 1) := by
          funext i
          unfold atV
          rw [getD_drop1]
        rw [e]; rfl
      have hKv := (Kept.box w (.cells #[.int .i64 3, .slice A1 k c1, .slice A2 n2 c2, .int .i64 R, .int .i64 Ct, .slice A3 n3 c3] 24)).then Hkw.out
      obtain ⟨bv, ov, hA1, _⟩ := HC.out.vars.plain (by omega)
      subst hA1
      have hvl : (C.vars.drop 1).length = k - 1 := by rw [List.length_drop, Hl1.out]
      have HQ : Hid (∀ W, Kept wv W → Calls Tryd.prog 44 #[.agg #[.int .i64 3, .slice (some ⟨bv, ov, Option.none⟩) k c1, .slice A2 n2 c2, .int .i64 R, .int .i64 Ct, .slice A3 n3 c3], .slice (some ⟨bv, ov + 1, Option.none⟩) (k - 1) (c1 - 1), .slice A n c] W
          fun e w' => e = .returned (.bool (relB (sumBut C.coefs (fun i => row.getD ((C.vars.drop 1).getD i 0).toNat 0) (-1) (k - 1)) C.rel C.const)) ∧ Kept W w') := fun W hW =>
        rsum_any 3 R Ct (some ⟨bv, ov, Option.none⟩) A2 A3 k c1 n2 c2 n3 c3 C (some ⟨bv, ov + 1, Option.none⟩) (k - 1) (c1 - 1) (C.vars.drop 1) A n c row W (HC.out.kept (hKv.then hW)) ((HC.out.vars.rest hk29.1).kept (hKv.then hW)) (HI.out.kept (hKv.then hW)) (by have := hso.len; have := Hl1.out; have := HC.out.coefs.len; omega) (by omega) hso.bnd
          (fun i hi => varsOk_rng (varsOk_drop Hv.out) (by rw [hvl]; exact hi)) (row_rng hW0.out) (by have := hso.rel0; rwa [HC.out.rel] at this) (by have := hso.rel5; rwa [HC.out.rel] at this)
      have HKv := Lib.hid hKv
      have hcap := HC.out.cap1
      have hbv : bv < wv.heap.size := by have := HC.out.vars.block (by omega); have := hKv.size; simp only at *; omega
      obtain ⟨b, o, hA', hc⟩ := HIv.out.plain (by omega)
      subst hA'
      have c0 := hc 0 (by have := Hrvl.out; omega)
      simp only [Nat.add_zero] at c0
      have hbl : b < wv.heap.size := World.block_lt_of_cell? wv _ c0
      have hlb : w.heap.size < wv.heap.size := World.block_lt_of_cell? wv _ b0
      have h1n : (1 : Int) ≤ (k : Int) := by omega
      have h0n : (0 : Int) < (k : Int) := by omega
      have h1c : (k : Int) ≤ (c1 : Int) := by omega
      generalize relB (sumBut C.coefs (fun i => row.getD ((C.vars.drop 1).getD i 0).toNat 0) (-1) (k - 1)) C.rel C.const = q at *
      generalize rv.getD 0 0 = x at *
      clear hso hv0 hKv hvl hc
      by_cases g1 : x = 1
      · have Hres : Hid (holdsLin C row = (q == true)) := by show _ = _; rw [hHq.out, g1]; simp
        subst g1
        go_wp2_with fail
        refine wp_region_quiet_below (by kernel_rfl) (by kernel_rfl) ?_
        repeat (any_goals (first | go_big_quiet_step (((go_at_call 44; exact Calls.regrown_of (HQ.out _ (below_regrown _ _ _))))) | quiet_step (((go_at_call 44; exact Calls.regrown_of (HQ.out _ (below_regrown _ _ _))))) | (refine wpQuiet_step (fun K hK => ?_); go_simp; split <;> (refine hK _ ?_; clear hK K))))
        all_goals (refine wpQuiet_nil ?_; intro w1 hw'; replace hw' := Kept.regrown hw')
        all_goals try (exfalso; omega)
        have HK5 := Lib.hid (HKv.out.then hw')
        clear hw'
        go_wp2_with fail
        go_ret
        exact ⟨ret_bool (by rw [Hres.out]; cases q <;> rfl), HK5.out⟩
      · have hd1 : (x != 1) = true := by simp [g1]
        have hd1' : (x == 1) = false := by simp [g1]
        by_cases g0 : x = 0
        · have Hres : Hid (holdsLin C row = (q == false)) := by show _ = _; rw [hHq.out, g0]; simp
          subst g0
          go_wp2_with fail
          refine wp_region_quiet_below (by kernel_rfl) (by kernel_rfl) ?_
          repeat (any_goals (first | go_big_quiet_step (((go_at_call 44; exact Calls.regrown_of (HQ.out _ (below_regrown _ _ _))))) | quiet_step (((go_at_call 44; exact Calls.regrown_of (HQ.out _ (below_regrown _ _ _))))) | (refine wpQuiet_step (fun K hK => ?_); go_simp; split <;> (refine hK _ ?_; clear hK K))))
          all_goals (refine wpQuiet_nil ?_; intro w1 hw'; replace hw' := Kept.regrown hw')
          all_goals try (exfalso; omega)
          have HK5 := Lib.hid (HKv.out.then hw')
          clear hw'
          go_wp2_with fail
          go_ret
          exact ⟨ret_bool (by rw [Hres.out]; cases q <;> rfl), HK5.out⟩
        · have hd0 : (x != 0) = true := by simp [g0]
          have Hres : Hid (holdsLin C row = false) := by show _ = _; rw [hHq.out, decide_eq_false g0, decide_eq_false g1]; rfl
          clear g0 g1
          go_wp2_with fail
          go_ret
          exact ⟨ret_bool (by rw [Hres.out]), HKv.out⟩
end Go.Proofs.YtekcenacpklpgaaDoor

namespace Go.Proofs.YtekcenacpklpgaaDoor
open Go Go.RowKit Pl

theorem holdslin_any (K R Ct : Int) (A1 A2 A3 : Option Addr) (n1 c1 n2 c2 n3 c3 : Nat) (C : ConB) (A : Option Addr) (n c : Nat) (row : List Int) (w : World) (hC : ConIn w K R Ct A1 A2 A3 n1 c1 n2 c2 n3 c3 C) (hI : Ints w A n row) (hK : K = 1 ∨ K = 3) (hR : rightB C n = true) (hW : withinB row 1048576 = true) :
    Calls Tryd.prog 17 #[.agg #[.int .i64 K, .slice A1 n1 c1, .slice A2 n2 c2, .int .i64 R, .int .i64 Ct, .slice A3 n3 c3], .slice A n c] w fun e w' => e = .returned (.bool (holdsLin C row)) ∧ Kept w w' := by
  rcases hK with hK | hK
  · exact holds1_any K R Ct A1 A2 A3 n1 c1 n2 c2 n3 c3 C A n c row w hC hI hK hR hW
  · exact holds3_any K R Ct A1 A2 A3 n1 c1 n2 c2 n3 c3 C A n c row w hC hI hK hR hW
end Go.Proofs.YtekcenacpklpgaaDoor

set_option maxHeartbeats 1000000
set_option maxRecDepth 10000
namespace Go.Proofs.YtekcenacpklpgaaDoor
open Go Go.RowKit Pl

theorem single12_any (K R Ct : Int) (A1 A2 A3 : Option Addr) (n1 c1 n2 c2 n3 c3 : Nat) (C : ConB) (B : Option Addr) (m d : Nat) (row : List Int) (w : World) (hC : ConIn w K R Ct A1 A2 A3 n1 c1 n2 c2 n3 c3 C) (hI : Ints w B m row) (hT : Tab w) :
    Calls Tryd.prog 6 #[.agg #[.int .i64 K, .slice A1 n1 c1, .slice A2 n2 c2, .int .i64 R, .int .i64 Ct, .slice A3 n3 c3], .slice B m d] w fun e w' => e = .returned (.bool true) ∧ Kept w w' := by
  obtain ⟨i0, hi, hz0, hz1, hz2⟩ := info_parts info_dom2
  have HC := Lib.hid hC
  have HI := Lib.hid hI
  have HT := Lib.hid hT
  have HlR := Lib.hid hI.len
  have hsm := hI.small
  have hs1 := hC.vars.small
  have hs2 := hC.coefs.small
  have hs3 := hC.nums.small
  clear hC hI hT
  have hhB : ∀ W, Kept (w.alloc (.cells #[.int .i64 K, .slice A1 n1 c1, .slice A2 n2 c2, .int .i64 R, .int .i64 Ct, .slice A3 n3 c3] 24)) W → W.heap[w.heap.size]? = some (.cells #[.int .i64 K, .slice A1 n1 c1, .slice A2 n2 c2, .int .i64 R, .int .i64 Ct, .slice A3 n3 c3] 24) := fun W h => h.heapAt (heap_new _ _)
  have HB := Lib.hid hhB
  clear hhB
  go_enter Tryd.func6, Tryd.ntmps6
  go_wp2_with fail
  refine (awake12 _ (HT.out.kept (Kept.box _ _))).mono ?_
  rintro e W1 ⟨rfl, hk1⟩
  have hb := HB.out W1 hk1
  have b0 := cell_at hb 0
  have b1 := cell_at hb 1
  have b2 := cell_at hb 2
  have b3 := cell_at hb 3
  have b4 := cell_at hb 4
  have b5 := cell_at hb 5
  simp only [List.getElem?_toArray, List.getElem?_cons_zero, List.getElem?_cons_succ] at b0 b1 b2 b3 b4 b5
  clear hb
  have Hk1 := Lib.hid hk1
  have HK1 := Lib.hid ((Kept.box _ _).then hk1)
  clear hk1
  by_cases g0 : (20 : Int) < m
  · have hd0 : decide ((20 : Int) < m) = true := by simp; omega
    go_wp2_with fail
    go_ret
    exact ⟨rfl, HK1.out⟩
  have hd0 : decide ((20 : Int) < m) = false := by simp; omega
  by_cases g1 : (150 : Int) < n1
  · have hd1 : decide ((150 : Int) < n1) = true := by simp; omega
    go_wp2_with fail
    go_ret
    exact ⟨rfl, HK1.out⟩
  have hd1 : decide ((150 : Int) < n1) = false := by simp; omega
  by_cases g2 : (150 : Int) < n2
  · have hd2 : decide ((150 : Int) < n2) = true := by simp; omega
    go_wp2_with fail
    go_ret
    exact ⟨rfl, HK1.out⟩
  have hd2 : decide ((150 : Int) < n2) = false := by simp; omega
  by_cases g3 : (150 : Int) < n3
  · have hd3 : decide ((150 : Int) < n3) = true := by simp; omega
    go_wp2_with fail
    go_ret
    exact ⟨rfl, HK1.out⟩
  have hd3 : decide ((150 : Int) < n3) = false := by simp; omega
  go_wp2_with fail
  refine (rr1_any K R Ct A1 A2 A3 n1 c1 n2 c2 n3 c3 C _ B m d row _ (heap_new _ _) (HC.out.kept (HK1.out.then (Kept.box _ _))) (HI.out.kept (HK1.out.then (Kept.box _ _)))).mono ?_
  generalize hq : (withinB row 1048576 && rightB C m) = q
  have Hq := Lib.hid hq
  clear hq
  rintro e W2 ⟨rfl, hk2⟩
  have Hk2 := Lib.hid (Hk1.out.then ((Kept.box _ _).then hk2))
  have HK2 := Lib.hid (HK1.out.then ((Kept.box _ _).then hk2))
  clear hk2 b0 b1 b2 b3 b4 b5
  cases q with
  | false =>
    go_wp2_with fail
    go_ret
    exact ⟨rfl, HK2.out⟩
  | true =>
    obtain ⟨hwr, hrt⟩ := Bool.and_eq_true_iff.1 Hq.out
    have Hwr := Lib.hid hwr
    have Hrt := Lib.hid hrt
    clear hwr hrt
    go_wp2_with fail
    go_loopw [5, 45] (fun u v wr => ∃ k : Nat, k ≤ m ∧ v = .int .i64 k ∧ Hid (OwnD wr W2.heap.size u (singles (row.take k))) ∧ Hid (Kept W2 wr)) (fun _ v _ => m - (intOf v).toNat)
    case atStart => exact ⟨0, Nat.zero_le _, rfl, OwnD.nil _ _, Kept.same _⟩
    case round =>
      obtain ⟨k, hk, rfl, HO, Hkw⟩ := hrel
      by_cases hlt : k < m
      · have hIr := HI.out.kept (HK2.out.then Hkw.out)
        obtain ⟨a, rfl, hblk⟩ := hIr.addr (by omega)
        obtain ⟨x, Hx, hcx, hx1, hx2⟩ := hIr.named k hlt
        obtain ⟨vs, hown, hd⟩ := HO.out
        have hkl : (singles (row.take k)).length = k := by rw [singles_length, List.length_take]; have := HlR.out; omega
        rw [hkl] at hown hd
        have Hown := Lib.hid hown
        have Hdd := Lib.hid hd
        have Hul : Hid (∀ i, u5.ownBlock = some i → W2.heap.size ≤ i ∧ i < wr.heap.size) := hown.lt
        have hszr := Hkw.out.size
        clear hIr hown hd
        go_wp2_with (at_builtin; refine wpList_append_own_at _ rfl _ _ 25 rfl W2.heap.size 47 i0 (.agg #[.slice Option.none 0 0, .int .u64 0]) 2 32 Tryd.underlying25 hi hz0 hz1 hz2 rfl (by decide) _ _ _ rfl (own_kept Hown.out ((Kept.box _ _).newBlock _)) ⟨wr.heap.size + 1, 0, none⟩ 1 1 [.slice (some ⟨wr.heap.size, 0, Option.none⟩) 1 1, .int .u64 1] rfl rfl (World.news_of_block (cs := #[.slice (some ⟨wr.heap.size, 0, Option.none⟩) 1 1, .int .u64 1]) (t := 47) (fr := (0, 0)) (heap_new2 _ _ _)) (by simp [Value.oneCell']) (by unfold maxLen; omega) (by omega) (by simp; omega) ?_; intro v' w2 hown' hgrow _ hloc; obtain ⟨g, cap, rfl, hgb, hgl⟩ := hown'.form (by omega))
        go_roundw
        case rel =>
          refine ⟨k + 1, by omega, by go_num, ?_, ?_⟩
          · show OwnD _ _ _ _
            have e1 : singles (row.take (k + 1)) = singles (row.take k) ++ [([x], 1)] := by
              rw [take_succ_getD (by have := HlR.out; omega) Hx.out]
              unfold singles
              rw [List.map_append]; rfl
            rw [e1]
            have hk2 := (Kept.box wr (.cells #[.int .i64 x] 3)).newBlock (.cells #[.slice (some ⟨wr.heap.size, 0, Option.none⟩) 1 1, .int .u64 1] 47)
            have hx64 : Ints ((wr.alloc (.cells #[.int .i64 x] 3)).alloc (.cells #[.slice (some ⟨wr.heap.size, 0, Option.none⟩) 1 1, .int .u64 1] 47)) (some ⟨wr.heap.size, 0, Option.none⟩) 1 [x] := (lit1 wr x 3 (0, 0) ⟨hx1, hx2⟩).kept (Kept.box _ _)
            have := OwnD.snoc (ds := singles (row.take k)) (d := ([x], 1)) (c := 1) (by rw [hkl]; exact own_kept Hown.out hk2) ?_ hx64 ?_ (show (1 : Nat) < 2 ^ 64 by decide) (by rw [hkl]; exact hown') hgrow ?_
            · rw [hkl] at this; exact this
            · rw [hkl]
              intro j hj
              obtain ⟨hl, B1, m1, c1', e1, e2, e3, e4⟩ := Hdd.out j hj
              exact ⟨hl, B1, m1, c1', e1, e2, e3.kept hk2, e4⟩
            · intro _ a' ha' e
              cases ha'
              exact absurd (Hul.out _ e).2 (Nat.lt_irrefl _)
            · rcases hloc with h | h
              · exact Or.inl (by rw [← h]; rfl)
              · right
                have : g = wr.heap.size + 1 + 1 := by simpa [Value.ownBlock] using h
                simp only [World.size_alloc]
                omega
          · show Kept W2 w2
            exact ((Hkw.out.newBlock _).newBlock _).grown hgrow (by simp; omega) (fun i hi => (Hul.out i hi).1)
        case measure => simp [intOf]; omega
      · have e : k = m := by omega
        subst e
        rw [List.take_of_length_le (by have := HlR.out; omega)] at HO
        have HKr := Lib.hid (HK2.out.then Hkw.out)
        have hsl : (singles row).length = k := by rw [singles_length]; exact HlR.out
        obtain ⟨A5, c5, rfl⟩ := HO.out.parts
        have HD := Lib.hid (HO.out.doms (n := (singles row).length) rfl (by omega))
        rw [hsl] at HD ⊢
        have Hm := Lib.hid (allMay_singles Hwr.out)
        have hb := HB.out wr (Hk2.out.then Hkw.out)
        have b0 := cell_at hb 0
        have b1 := cell_at hb 1
        have b2 := cell_at hb 2
        have b3 := cell_at hb 3
        have b4 := cell_at hb 4
        have b5 := cell_at hb 5
        simp only [List.getElem?_toArray, List.getElem?_cons_zero, List.getElem?_cons_succ] at b0 b1 b2 b3 b4 b5
        clear hb
        have H1 := linstep_law K R Ct A1 A2 A3 n1 c1 n2 c2 n3 c3 C A5 k c5 (singles row) wr (HC.out.kept HKr.out) HD.out (HT.out.kept HKr.out) (by omega)
        have Hkind := Lib.hid HC.out.kind
        go_wp2_with fail
        by_cases gK : ¬ (K = 1 ∨ K = 3)
        · rw [if_neg (by rw [linGo_not (by rw [Hkind.out]; exact gK)]; decide)] at H1
          refine H1.mono ?_
          rintro e W5 ⟨rfl, hk5⟩
          have HK5 := Lib.hid (HKr.out.then hk5)
          clear H1 hk5 b0 b1 b2 b3 b4 b5
          go_wp2_with fail
          go_ret
          exact ⟨rfl, HK5.out⟩
        have gK := Classical.not_not.1 gK
        have HK9 := Lib.hid gK
        have HkK : Hid (C.kind = 1 ∨ C.kind = 3) := by
          show _ ∨ _
          rw [Hkind.out]
          exact gK
        clear gK
        have HeB2 : Hid (rightB C row.length = true) := by show _ = _; rw [HlR.out]; exact Hrt.out
        have hgo : linGo C (singles row) = true := linGo_of HkK.out (by rw [hsl]; exact Hrt.out) Hm.out
        have hvm : 1 ≤ C.vars.length := (rightB_len Hrt.out).1
        rw [if_pos hgo] at H1
        refine H1.mono ?_
        have Hres : Hid ((stepB (linKp C (singles row)) (singles row)).length = k) := by show _ = _; rw [stepB_length]; exact hsl
        have Hal := Lib.hid (lin_single Hwr.out HkK.out HeB2.out)
        generalize stepB (linKp C (singles row)) (singles row) = res at *
        rintro e W5 ⟨A7, c7, rfl, hD7, hk5⟩
        rw [Hres.out] at hD7 ⊢
        have HD7 := Lib.hid hD7
        have Hk5 := Lib.hid ((Hk2.out.then Hkw.out).then hk5)
        have HK5 := Lib.hid (HKr.out.then hk5)
        have Hvo : Hid (varsOk C.vars k = true) := rightB_vars Hrt.out
        have Hvl := Lib.hid HC.out.vars.len
        rw [Hvl.out] at Hal
        clear H1 hk5 hD7 hgo hvm hsl b0 b1 b2 b3 b4 b5
        have hb := HB.out W5 Hk5.out
        have b0 := cell_at hb 0
        have b1 := cell_at hb 1
        have b2 := cell_at hb 2
        have b3 := cell_at hb 3
        have b4 := cell_at hb 4
        have b5 := cell_at hb 5
        simp only [List.getElem?_toArray, List.getElem?_cons_zero, List.getElem?_cons_succ] at b0 b1 b2 b3 b4 b5
        clear hb
        go_wp2_with fail
        clear b0 b1 b2 b3 b4 b5
        go_loopw [10, 81] (fun u v wq => ∃ j : Nat, j ≤ n1 ∧ v = .int .i64 j ∧ u = .bool (allLive C.vars res j) ∧ Hid (Kept W5 wq)) (fun _ v _ => n1 - (intOf v).toNat)
        case atStart => exact ⟨0, Nat.zero_le _, rfl, rfl, Kept.same _⟩
        case round =>
          obtain ⟨j, hj, rfl, rfl, Hkq⟩ := hrel
          have HKq := Lib.hid (HK5.out.then Hkq.out)
          by_cases hlt2 : j < n1
          · have hSq := HC.out.vars.kept HKq.out
            obtain ⟨av, rfl, hbv⟩ := hSq.addr (by omega)
            obtain ⟨x, Hx, hcx, _, _⟩ := hSq.named j hlt2
            obtain ⟨hx1, hx2⟩ := varsOk_rng Hvo.out (show j < C.vars.length by have := Hvl.out; omega)
            rw [Hx.out] at hx1 hx2
            obtain ⟨p, rfl⟩ := Int.eq_ofNat_of_zero_le hx1
            have hpk : p < k := by omega
            have hDq := HD7.out.kept Hkq.out
            obtain ⟨ad, rfl, hbd⟩ := hDq.addr (by omega)
            obtain ⟨ys, L, Bx, mx, cx, Hdx, hc1, hc2, _, hLx⟩ := hDq.named p hpk
            have Hs : Hid (allLive C.vars res (j + 1) = (allLive C.vars res j && decide (L = 1))) := by
              show _ = _
              rw [allLive_succ, Hx.out, Int.toNat_natCast, Hdx.out]
            clear hSq hDq
            generalize allLive C.vars res j = q1 at *
            cases q1 with
            | false =>
              go_wp2_with fail
              go_roundw
              case rel => exact ⟨j + 1, by omega, by go_num, by rw [Hs.out]; rfl, Hkq.out⟩
              case measure => simp [intOf]; omega
            | true =>
              by_cases hL1 : L = 1
              · subst hL1
                go_wp2_with fail
                go_roundw
                case rel => exact ⟨j + 1, by omega, by go_num, by rw [Hs.out]; rfl, Hkq.out⟩
                case measure => simp [intOf]; omega
              · have hd5 : ((L : Int) == 1) = false := by simp; omega
                go_wp2_with fail
                go_roundw
                case rel => exact ⟨j + 1, by omega, by go_num, by rw [Hs.out]; simp [hL1], Hkq.out⟩
                case measure => simp [intOf]; omega
          · have e : j = n1 := by omega
            subst e
            have hb := HB.out wr (Hk5.out.then Hkq.out)
            have b0 := cell_at hb 0
            have b1 := cell_at hb 1
            have b2 := cell_at hb 2
            have b3 := cell_at hb 3
            have b4 := cell_at hb 4
            have b5 := cell_at hb 5
            simp only [List.getElem?_toArray, List.getElem?_cons_zero, List.getElem?_cons_succ] at b0 b1 b2 b3 b4 b5
            clear hb
            rw [Hal.out]
            have HQ := Lib.hid (holdslin_any K R Ct A1 A2 A3 j c1 n2 c2 n3 c3 C B k d row wr (HC.out.kept HKq.out) (HI.out.kept HKq.out) HK9.out Hrt.out Hwr.out)
            clear Hal
            generalize holdsLin C row = q3 at *
            go_wp2_with fail
            refine HQ.out.mono ?_
            rintro e W7 ⟨rfl, hk7⟩
            have HK7 := Lib.hid (HKq.out.then hk7)
            clear hk7 b0 b1 b2 b3 b4 b5 HQ
            cases q3 with
            | true =>
              go_wp2_with fail
              go_ret
              exact ⟨rfl, HK7.out⟩
            | false =>
              go_wp2_with fail
              go_ret
              exact ⟨rfl, HK7.out⟩
end Go.Proofs.YtekcenacpklpgaaDoor

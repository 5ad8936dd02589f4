/-
  Contracts and plain laws that the card rests on, part 11.
-/
import Derived.Test.YtekcenacpklpgaaDoorMTells10
import Derived.Deep.RegionHeld3
import Derived.Test.YtekcenacpklpgaaDoorMTells3
set_option maxHeartbeats 2000000
set_option maxRecDepth 10000
namespace Go.Proofs.YtekcenacpklpgaaDoor
open Go Go.RowKit Pl

/-- What an iff's question keeps of the first variable's values. -/
def iffQ (lo hi rel c x : Int) : Bool := (decide (x = 1) && mayL lo hi rel c) || (decide (x = 0) && mayL lo hi (contraB rel) c)

theorem liniff1_any (x : Int) (Be Bc : Nat) (K R Ct : Int) (A1 A2 A3 : Option Addr) (n1 c1 n2 c2 n3 c3 : Nat) (lo hi : Int) (w : World) (h0 : 0 ≤ R) (h5 : R ≤ 5)
    (he : w.heap[Be]? = some (.cells #[.int .i64 lo, .int .i64 hi] 86)) (hc : w.heap[Bc]? = some (.cells #[.int .i64 K, .slice A1 n1 c1, .slice A2 n2 c2, .int .i64 R, .int .i64 Ct, .slice A3 n3 c3] 24)) :
    Calls Tryd.prog 64 #[.int .i64 x, .pointer (some ⟨Be, 0, Option.none⟩), .pointer (some ⟨Bc, 0, Option.none⟩)] w fun e w' => e = .returned (.bool (iffQ lo hi R Ct x)) ∧ Kept w w' := by
  have e0 := cell_at he 0
  have e1 := cell_at he 1
  have c3' := cell_at hc 3
  have c4' := cell_at hc 4
  simp only [List.getElem?_toArray, List.getElem?_cons_zero, List.getElem?_cons_succ] at e0 e1 c3' c4'
  have hle := lt_at he
  have hlc := lt_at hc
  have HQm : Hid (∀ r W, 0 ≤ r → r ≤ 5 → Calls Tryd.prog 62 #[.agg #[.int .i64 lo, .int .i64 hi], .int .i64 r, .int .i64 Ct] W fun e w' => e = .returned (.bool (mayL lo hi r Ct)) ∧ Kept W w') := fun r W h0 h5 => endsmay_any lo hi r Ct W h0 h5
  have hcr : 0 ≤ contraB R ∧ contraB R ≤ 5 := ⟨(contra_rng h0 h5).1, (contra_rng h0 h5).2.1⟩
  have HQc : Hid (∀ W, Calls Tryd.prog 19 #[.int .i64 R] W fun e w' => e = .returned (.int .i64 (contraB R)) ∧ Kept W w') := fun W => (lincontrary_any R W).mono fun _ _ ⟨h1, h2⟩ => ⟨h1, h2 ▸ Kept.same _⟩
  clear he hc
  by_cases g1 : x = 1
  · subst g1
    have HR : Hid (iffQ lo hi R Ct 1 = mayL lo hi R Ct) := by show _ = _; unfold iffQ; simp
    have HM : Hid (∀ W, Calls Tryd.prog 62 #[.agg #[.int .i64 lo, .int .i64 hi], .int .i64 R, .int .i64 Ct] W fun e w' => e = .returned (.bool (mayL lo hi R Ct)) ∧ Kept W w') := fun W => HQm.out R W h0 h5
    clear HQm HQc hcr
    generalize mayL lo hi R Ct = b at *
    cases b with
    | true =>
      go_enter Tryd.func64, Tryd.ntmps64
      go_wp2_with fail
      refine wp_region_quiet_below (by kernel_rfl) (by kernel_rfl) ?_
      repeat (any_goals (first | go_big_quiet_step (((go_at_call 62; exact Calls.regrown_of (HM.out _)))) | quiet_step (((go_at_call 62; exact Calls.regrown_of (HM.out _)))) | (refine wpQuiet_step (fun K hK => ?_); go_simp; split <;> (refine hK _ ?_; clear hK K))))
      all_goals (refine wpQuiet_nil ?_; intro w1 hw'; replace hw' := Kept.regrown hw')
      all_goals try (exfalso; omega)
      have Hk := Lib.hid hw'
      clear hw'
      go_wp2_with fail
      go_ret
      exact ⟨ret_bool (by rw [HR.out]), Hk.out⟩
    | false =>
      go_enter Tryd.func64, Tryd.ntmps64
      go_wp2_with fail
      refine wp_region_quiet_below (by kernel_rfl) (by kernel_rfl) ?_
      repeat (any_goals (first | go_big_quiet_step (((go_at_call 62; exact Calls.regrown_of (HM.out _)))) | quiet_step (((go_at_call 62; exact Calls.regrown_of (HM.out _)))) | (refine wpQuiet_step (fun K hK => ?_); go_simp; split <;> (refine hK _ ?_; clear hK K))))
      all_goals (refine wpQuiet_nil ?_; intro w1 hw'; replace hw' := Kept.regrown hw')
      all_goals try (exfalso; omega)
      have Hk := Lib.hid hw'
      clear hw'
      go_wp2_with fail
      go_ret
      exact ⟨ret_bool (by rw [HR.out]), Hk.out⟩
  · have hd1 : (x == 1) = false := by simp [g1]
    by_cases g2 : x = 0
    · subst g2
      have HR : Hid (iffQ lo hi R Ct 0 = mayL lo hi (contraB R) Ct) := by show _ = _; unfold iffQ; simp
      have HM : Hid (∀ W, Calls Tryd.prog 62 #[.agg #[.int .i64 lo, .int .i64 hi], .int .i64 (contraB R), .int .i64 Ct] W fun e w' => e = .returned (.bool (mayL lo hi (contraB R) Ct)) ∧ Kept W w') := fun W => HQm.out _ W hcr.1 hcr.2
      clear HQm hcr
      generalize mayL lo hi (contraB R) Ct = b at *
      generalize contraB R = R' at *
      go_enter Tryd.func64, Tryd.ntmps64
      go_wp2_with fail
      refine wp_region_quiet_below (by kernel_rfl) (by kernel_rfl) ?_
      repeat (any_goals (first | go_big_quiet_step ((first | (go_at_call 19; exact Calls.regrown_of (HQc.out _)) | (go_at_call 62; exact Calls.regrown_of (HM.out _)))) | quiet_step ((first | (go_at_call 19; exact Calls.regrown_of (HQc.out _)) | (go_at_call 62; exact Calls.regrown_of (HM.out _)))) | (refine wpQuiet_step (fun K hK => ?_); go_simp; split <;> (refine hK _ ?_; clear hK K))))
      all_goals (refine wpQuiet_nil ?_; intro w1 hw'; replace hw' := Kept.regrown hw')
      all_goals try (exfalso; omega)
      have Hk := Lib.hid hw'
      clear hw'
      go_wp2_with fail
      go_ret
      exact ⟨ret_bool (by rw [HR.out]), Hk.out⟩
    · have hd2 : (x == 0) = false := by simp [g2]
      have HR : Hid (iffQ lo hi R Ct x = false) := by show _ = _; unfold iffQ; rw [decide_eq_false g1, decide_eq_false g2]; rfl
      clear HQm HQc hcr g1 g2
      go_enter Tryd.func64, Tryd.ntmps64
      go_wp2_with fail
      refine wp_region_quiet_below (by kernel_rfl) (by kernel_rfl) ?_
      repeat (any_goals (first | go_big_quiet_step ((fail)) | quiet_step ((fail)) | (refine wpQuiet_step (fun K hK => ?_); go_simp; split <;> (refine hK _ ?_; clear hK K))))
      all_goals (refine wpQuiet_nil ?_; intro w1 hw'; replace hw' := Kept.regrown hw')
      all_goals try (exfalso; omega)
      have Hk := Lib.hid hw'
      clear hw'
      go_wp2_with fail
      go_ret
      exact ⟨ret_bool (by rw [HR.out]), Hk.out⟩

theorem iffG_ff {C : ConB} {ds : List DomB} (hy : (leftOf C ds 0).contains 1 = false) (hz : (leftOf C ds 0).contains 0 = false) (i : Nat) {x : Int} (hx : i = 0 → x ∈ leftOf C ds 0) : iffG C ds i x = false := by
  unfold iffG
  by_cases e : i = 0
  · rw [if_pos e]
    have h := hx e
    have h1 : x ≠ 1 := fun e => by rw [e] at h; rw [List.contains_iff_mem.2 h] at hy; cases hy
    have h2 : x ≠ 0 := fun e => by rw [e] at h; rw [List.contains_iff_mem.2 h] at hz; cases hz
    rw [decide_eq_false h1, decide_eq_false h2]; rfl
  · rw [if_neg e, if_neg (by rw [hy]; decide), if_neg (by rw [hz]; decide)]
theorem iffG_tf {C : ConB} {ds : List DomB} (hy : (leftOf C ds 0).contains 1 = true) (hz : (leftOf C ds 0).contains 0 = false) : (fun i x => iffG C ds (i + 1) x) = sumG C.coefs (restOf C ds) (C.vars.length - 1) C.rel C.const := by
  funext i x
  unfold iffG
  rw [if_neg (by omega), if_pos hy, if_neg (by rw [hz]; decide)]; rfl
theorem iffG_ft {C : ConB} {ds : List DomB} (hy : (leftOf C ds 0).contains 1 = false) (hz : (leftOf C ds 0).contains 0 = true) : (fun i x => iffG C ds (i + 1) x) = sumG C.coefs (restOf C ds) (C.vars.length - 1) (contraB C.rel) C.const := by
  funext i x
  unfold iffG
  rw [if_neg (by omega), if_neg (by rw [hy]; decide), if_pos hz]; rfl
theorem iffG_tt {C : ConB} {ds : List DomB} (hy : (leftOf C ds 0).contains 1 = true) (hz : (leftOf C ds 0).contains 0 = true) : (fun i x => iffG C ds (i + 1) x) = fun _ _ => true := by
  funext i x
  unfold iffG
  rw [if_neg (by omega), if_pos hy, if_pos hz]
theorem iff_none {C : ConB} {ds : List DomB} (hm : allMay ds = true) (hy : (leftOf C ds 0).contains 1 = false) (hz : (leftOf C ds 0).contains 0 = false) : stepB (varsKp C.vars (fun _ _ => false) C.vars.length) ds = stepB (varsKp C.vars (iffG C ds) C.vars.length) ds := by
  refine stepB_congr hm fun i hi v hv => ?_
  rw [Bool.eq_iff_iff, varsKp_iff, varsKp_iff]
  have e : ∀ k, (C.vars.getD k 0).toNat = i → iffG C ds k v = false := fun k e => iffG_ff hy hz k (fun e0 => by subst e0; unfold leftOf; rw [e]; exact hv)
  constructor
  · intro h k hk e2; exact absurd (h k hk e2) (by decide)
  · intro h k hk e2; exact absurd (h k hk e2) (by rw [e k e2]; decide)
theorem iff_last {C : ConB} {ds : List DomB} {kq : Nat → Int → Bool} {p : Nat} (hv : varsOk C.vars ds.length = true) (hm : allMay ds = true) (hn : 0 < C.vars.length) (hp : C.vars.getD 0 0 = (p : Nat))
    (hq : kq = varsKp (C.vars.drop 1) (fun i x => iffG C ds (i + 1) x) (C.vars.drop 1).length) :
    (stepB kq ds).set p (keepD (iffQ (lowBut C.coefs (restOf C ds) (-1) (C.vars.length - 1)) (highBut C.coefs (restOf C ds) (-1) (C.vars.length - 1)) C.rel C.const) (ds.getD p nilD)) = stepB (varsKp C.vars (iffG C ds) C.vars.length) ds :=
  first_step hv hm hn hp (fun v _ => rfl) (fun i _ _ v _ => by rw [hq])
theorem stepB_true {ds : List DomB} (hm : allMay ds = true) : stepB (fun _ _ => true) ds = ds := by
  apply ext_getD (stepB_length _ _)
  intro i hi
  rw [stepB_length] at hi
  rw [stepB_getD _ _ hi]
  exact keepD_all (allMay_at hm hi) (fun _ _ => rfl)

theorem Ints.rest {w : World} {b off n : Nat} {xs : List Int} (h : Ints w (some ⟨b, off, Option.none⟩) n xs) (hn : 2 ≤ n) : Ints w (some ⟨b, off + 1, Option.none⟩) (n - 1) (xs.drop 1) := by
  obtain ⟨b', off', e, hc⟩ := h.plain (by omega)
  cases e
  refine ⟨by rw [List.length_drop, h.len], by have := h.small; omega, fun x hx => h.rng x (List.mem_of_mem_drop hx), fun _ => ⟨_, rfl, fun j hj => ?_⟩⟩
  rw [add_plain, getD_drop1, show off + 1 + j = off + (j + 1) by omega]
  exact hc (j + 1) (by have := h.len; omega)

theorem liniff_any (K R Ct : Int) (A1 A2 A3 : Option Addr) (n1 c1 n2 c2 n3 c3 : Nat) (C : ConB) (A : Option Addr) (n c : Nat) (ds : List DomB) (base g cap : Nat) (w0 w : World) (hC : ConIn w0 K R Ct A1 A2 A3 n1 c1 n2 c2 n3 c3 C) (hS : Doms w0 A n ds) (hT : Tab w0)
    (hk : Kept w0 w) (hg : w0.heap.size ≤ g) (hgl : g < w.heap.size) (hO : OwnD w base (.slice (some ⟨g, 0, Option.none⟩) n cap) ds) (hm : allMay ds = true) (hso : SumOk C 1) (hv : varsOk C.vars n = true)
    (h0 : ∀ i, i < n1 → 0 < (leftOf C ds i).length) (hn : n ≤ 1000) :
    Calls Tryd.prog 30 #[.agg #[.int .i64 K, .slice A1 n1 c1, .slice A2 n2 c2, .int .i64 R, .int .i64 Ct, .slice A3 n3 c3], .slice A n c, .slice (some ⟨g, 0, Option.none⟩) n cap] w (TurnPost base g n cap (stepB (varsKp C.vars (iffG C ds) n1) ds) w) := by
  have hl1 := hC.vars.len
  have hl2 := hC.coefs.len
  have hn12 : 2 ≤ n1 ∧ n1 ≤ 9 := by have := hso.least; have := hso.most; omega
  have hn2 : n2 = n1 - 1 := by have := hso.len; omega
  obtain ⟨bv, ov, rfl, hcv⟩ := hC.vars.plain (by omega)
  have hcv0 := hcv 0 (by omega)
  simp only [Nat.add_zero] at hcv0
  obtain ⟨hv0, hv1⟩ := varsOk_rng hv (i := 0) (by omega)
  obtain ⟨p, hp⟩ := Int.eq_ofNat_of_zero_le hv0
  rw [hp] at hcv0 hv1
  have hpn : p < n := by omega
  have HC := Lib.hid hC
  have HS := Lib.hid hS
  have HT := Lib.hid hT
  have Hk := Lib.hid hk
  have HO := Lib.hid hO
  have Hm := Lib.hid hm
  have Hso := Lib.hid hso
  have Hvo := Lib.hid hv
  have H0 := Lib.hid h0
  have Hp := Lib.hid hp
  have Hlen := Lib.hid hS.len
  have Hl1 := Lib.hid hl1
  have Hn2 := Lib.hid hn2
  have Hcv0 := Lib.hid hcv0
  have hcap := hC.cap1
  have hc1s : (c1 : Int) ≤ 9223372036854775807 ∨ True := .inr trivial
  have HV := Lib.hid (hC.vars.rest hn12.1)
  have hsz := hk.size
  have hbv := World.block_lt_of_cell? w0 _ hcv0
  have hcv1 := hk.cellAt hcv0
  clear hC hS hT hk hO hm hso hv h0 hp hl1 hl2 hn2 hcv hcv0 hc1s hv0 hv1
  go_enter Tryd.func30, Tryd.ntmps30
  go_wp2_with fail
  have HK0 : Hid (Kept w (w.alloc (.cells #[.int .i64 K, .slice (some ⟨bv, ov, Option.none⟩) n1 c1, .slice A2 n2 c2, .int .i64 R, .int .i64 Ct, .slice A3 n3 c3] 24))) := Kept.box _ _
  have HB0 : Hid ((w.alloc (.cells #[.int .i64 K, .slice (some ⟨bv, ov, Option.none⟩) n1 c1, .slice A2 n2 c2, .int .i64 R, .int .i64 Ct, .slice A3 n3 c3] 24)).heap[w.heap.size]? = some (.cells #[.int .i64 K, .slice (some ⟨bv, ov, Option.none⟩) n1 c1, .slice A2 n2 c2, .int .i64 R, .int .i64 Ct, .slice A3 n3 c3] 24)) := heap_new _ _
  generalize w.alloc (.cells #[.int .i64 K, .slice (some ⟨bv, ov, Option.none⟩) n1 c1, .slice A2 n2 c2, .int .i64 R, .int .i64 Ct, .slice A3 n3 c3] 24) = W0 at *
  clear hcv1
  have hcv1 := (Hk.out.then HK0.out).cellAt Hcv0.out
  have b1 := cell_at HB0.out 1
  simp only [List.getElem?_toArray, List.getElem?_cons_zero, List.getElem?_cons_succ] at b1
  have hlb : w.heap.size < W0.heap.size := lt_at HB0.out
  have hbv0 : bv < W0.heap.size := World.block_lt_of_cell? W0 _ hcv1
  have h1n : (1 : Int) ≤ (n1 : Int) := by omega
  have h0n : (0 : Int) < (n1 : Int) := by omega
  have h1c : (n1 : Int) ≤ (c1 : Int) := by omega
  -- THE REST
  refine wp_region_quiet_below (by kernel_rfl) (by kernel_rfl) ?_
  repeat (any_goals (first | go_big_quiet_step ((fail)) | quiet_step ((fail)) | (refine wpQuiet_step (fun K hK => ?_); go_simp; split <;> (refine hK _ ?_; clear hK K))))
  all_goals (refine wpQuiet_nil ?_; intro w1 hw'; replace hw' := Kept.regrown hw')
  obtain ⟨wa, hwa⟩ : ∃ wa : World, wa = w1 := ⟨_, rfl⟩
  subst hwa
  have HKa0 : Hid (Kept W0 wa) := hw'
  have HKa := Lib.hid ((Hk.out.then HK0.out).then HKa0.out)
  clear hw' hcv1 b1 hlb hbv0
  obtain ⟨al, hal, hbal0⟩ := HS.out.addr (by omega)
  subst hal
  obtain ⟨xs, L, B, m, cB, Hd, hw1, hw2, HI0, hL⟩ := HS.out.named p hpn
  have Hw1 := Lib.hid hw1
  have Hw2 := Lib.hid hw2
  have Hleft : Hid (leftOf C ds 0 = listB xs L) := by show _ = _; unfold leftOf; rw [Hp.out, Int.toNat_natCast, Hd.out]
  have Hmay : Hid (mayB xs L = true) := by
    have := allMay_at Hm.out (show p < ds.length by have := Hlen.out; omega)
    have h2 := Hd.out
    unfold nilD at h2
    rw [h2] at this
    exact this
  obtain ⟨h, hh⟩ : ∃ h : Int → Bool, h = fun v => (listB xs L).contains v := ⟨_, rfl⟩
  have HQh : Hid (∀ v W, Kept wa W → Calls Tryd.prog 63 #[.agg #[.slice B m cB, .int .u64 L], .int .i64 v] W fun e w' => e = .returned (.bool (h v)) ∧ Kept W w') := fun v W hW => by
    have h9 := has_any B m cB L xs v W (HI0.out.kept (HKa.out.then hW)) hL (HT.out.kept (HKa.out.then hW))
    rw [hh]; exact h9
  have Hy : Hid ((leftOf C ds 0).contains 1 = h 1) := by show _ = _; rw [Hleft.out, hh]
  have Hz : Hid ((leftOf C ds 0).contains 0 = h 0) := by show _ = _; rw [Hleft.out, hh]
  clear hh hw1 hw2
  have hc1 := HKa.out.cellAt Hw1.out
  have hc2 := HKa.out.cellAt Hw2.out
  have hlal : al.block < wa.heap.size := by have := HKa.out.size; omega
  go_wp2_with fail
  refine wp_region_quiet_below (by kernel_rfl) (by kernel_rfl) ?_
  repeat (any_goals (first | go_big_quiet_step (((go_at_call 63; exact Calls.regrown_of (HQh.out _ _ (below_regrown _ _ _))))) | quiet_step (((go_at_call 63; exact Calls.regrown_of (HQh.out _ _ (below_regrown _ _ _))))) | (refine wpQuiet_step (fun K hK => ?_); go_simp; split <;> (refine hK _ ?_; clear hK K))))
  all_goals (refine wpQuiet_nil ?_; intro w1 hw'; replace hw' := Kept.regrown hw')
  all_goals try (exfalso; omega)
  obtain ⟨wb, hwb⟩ : ∃ wb : World, wb = w1 := ⟨_, rfl⟩
  subst hwb
  have HKb := Lib.hid (HKa.out.then hw')
  have HK0b := Lib.hid ((HK0.out.then HKa0.out).then hw')
  have HBb := Lib.hid ((HKa0.out.then hw').heapAt HB0.out)
  clear hw' hc1 hc2 HQh hlal
  have Hr0 : Hid (0 ≤ R) := by have := Hso.out.rel0; rwa [HC.out.rel] at this
  have Hr5 : Hid (R ≤ 5) := by have := Hso.out.rel5; rwa [HC.out.rel] at this
  have Hrest : Hid (∀ i, i < n1 - 1 → 0 < (lsV (C.vars.drop 1) ds i).length) := fun i hi => by rw [lsV_rest]; exact H0.out (i + 1) (by omega)
  have Hvr : Hid (varsOk (C.vars.drop 1) n = true) := varsOk_drop Hvo.out
  have HVl : Hid ((C.vars.drop 1).length = n1 - 1) := by show _ = _; rw [List.length_drop, Hl1.out]
  have hsb := HK0b.out.size
  have hlBb : w.heap.size < wb.heap.size := lt_at HBb.out
  have HTot : Hid (∀ W, Kept w0 W → Calls Tryd.prog 59 #[.agg #[.int .i64 K, .slice (some ⟨bv, ov, Option.none⟩) n1 c1, .slice A2 n2 c2, .int .i64 R, .int .i64 Ct, .slice A3 n3 c3], .slice (some ⟨bv, ov + 1, Option.none⟩) (n1 - 1) (c1 - 1), .slice (some al) n c] W
      fun e w' => e = .returned (.agg #[.int .i64 (lowBut C.coefs (restOf C ds) (-1) (n1 - 1)), .int .i64 (highBut C.coefs (restOf C ds) (-1) (n1 - 1))]) ∧ Kept W w') := fun W hW => by
    rw [← lsV_rest]
    exact total_any K R Ct (some ⟨bv, ov, Option.none⟩) A2 A3 n1 c1 n2 c2 n3 c3 C (some ⟨bv, ov + 1, Option.none⟩) (n1 - 1) (c1 - 1) (C.vars.drop 1) (some al) n c ds W (HC.out.kept hW) (HV.out.kept hW) (HS.out.kept hW) (HT.out.kept hW) Hm.out Hn2.out (by omega) Hso.out.bnd (fun i hi => varsOk_rng Hvr.out (by rw [HVl.out]; exact hi)) Hrest.out
  have HSum : Hid (∀ rel W, 0 ≤ rel → rel ≤ 5 → Kept w0 W → g < W.heap.size → OwnD W base (.slice (some ⟨g, 0, Option.none⟩) n cap) ds → Calls Tryd.prog 29 #[.agg #[.int .i64 K, .slice (some ⟨bv, ov, Option.none⟩) n1 c1, .slice A2 n2 c2, .int .i64 R, .int .i64 Ct, .slice A3 n3 c3], .slice (some ⟨bv, ov + 1, Option.none⟩) (n1 - 1) (c1 - 1), .int .i64 rel, .slice (some al) n c, .slice (some ⟨g, 0, Option.none⟩) n cap] W
      (TurnPost base g n cap (stepB (varsKp (C.vars.drop 1) (sumG C.coefs (restOf C ds) (n1 - 1) rel C.const) (n1 - 1)) ds) W)) := fun rel W hr0 hr5 hW hgW hO => by
    rw [← lsV_rest]
    exact linsum_any K R Ct (some ⟨bv, ov, Option.none⟩) A2 A3 n1 c1 n2 c2 n3 c3 C (some ⟨bv, ov + 1, Option.none⟩) (n1 - 1) (c1 - 1) (C.vars.drop 1) (some al) n c ds rel base g cap w0 W HC.out HV.out HS.out HT.out hW hg hgW hO Hm.out Hn2.out (by omega) Hso.out.bnd Hvr.out Hrest.out hr0 hr5
  have Hlast0 : Hid (∀ kq, kq = varsKp (C.vars.drop 1) (fun i x => iffG C ds (i + 1) x) (n1 - 1) → (stepB kq ds).set p (keepD (iffQ (lowBut C.coefs (restOf C ds) (-1) (n1 - 1)) (highBut C.coefs (restOf C ds) (-1) (n1 - 1)) R Ct) (xs, L)) = stepB (varsKp C.vars (iffG C ds) n1) ds) := fun kq hq => by
    have h9 := iff_last (C := C) (ds := ds) (kq := kq) (p := p) (by rw [Hlen.out]; exact Hvo.out) Hm.out (by rw [Hl1.out]; omega) Hp.out (by rw [HVl.out]; exact hq)
    rw [Hd.out, Hl1.out, HC.out.rel, HC.out.const] at h9
    exact h9
  have Hnone : Hid ((leftOf C ds 0).contains 1 = false → (leftOf C ds 0).contains 0 = false → stepB (varsKp C.vars (fun _ _ => false) n1) ds = stepB (varsKp C.vars (iffG C ds) n1) ds) := fun h1 h2 => by
    have h9 := iff_none Hm.out h1 h2
    rwa [Hl1.out] at h9
  have Htf : Hid ((leftOf C ds 0).contains 1 = true → (leftOf C ds 0).contains 0 = false → (fun i x => iffG C ds (i + 1) x) = sumG C.coefs (restOf C ds) (n1 - 1) R C.const) := fun h1 h2 => by
    have h9 := iffG_tf h1 h2
    rwa [Hl1.out, HC.out.rel] at h9
  have Hft : Hid ((leftOf C ds 0).contains 1 = false → (leftOf C ds 0).contains 0 = true → (fun i x => iffG C ds (i + 1) x) = sumG C.coefs (restOf C ds) (n1 - 1) (contraB R) C.const) := fun h1 h2 => by
    have h9 := iffG_ft h1 h2
    rwa [Hl1.out, HC.out.rel] at h9
  have Htt : Hid ((leftOf C ds 0).contains 1 = true → (leftOf C ds 0).contains 0 = true → (fun i x => iffG C ds (i + 1) x) = fun _ _ => true) := fun h1 h2 => iffG_tt h1 h2
  generalize lowBut C.coefs (restOf C ds) (-1) (n1 - 1) = lo' at *
  generalize highBut C.coefs (restOf C ds) (-1) (n1 - 1) = hi' at *
  obtain ⟨d9, hd9⟩ : ∃ d9, d9 = keepD (iffQ lo' hi' R Ct) (xs, L) := ⟨_, rfl⟩
  have Hd9 : Hid (d9.2 < 2 ^ 64) := by show _ < _; rw [hd9]; exact keepD_lt _ _
  have Hd91 : Hid (d9.1 = xs) := by show _ = _; rw [hd9]; rfl
  have Hd9q : Hid (keepD (iffQ lo' hi' R Ct) (xs, L) = d9) := hd9.symm
  rw [← hd9] at Hlast0
  have HOb := Lib.hid (HO.out.kept HK0b.out)
  have hgb : g < wb.heap.size := by omega
  generalize h 1 = y at *
  generalize h 0 = z at *
  clear hd9
  cases y with
  | false =>
    cases z with
    | false =>
      have hb := HBb.out
      have b0 := cell_at hb 0
      have b1 := cell_at hb 1
      have b2 := cell_at hb 2
      have b3 := cell_at hb 3
      have b4 := cell_at hb 4
      have b5 := cell_at hb 5
      simp only [List.getElem?_toArray, List.getElem?_cons_zero, List.getElem?_cons_succ] at b0 b1 b2 b3 b4 b5
      clear hb
      have Hres := Lib.hid (Hnone.out Hy.out Hz.out)
      go_wp2_with fail
      refine (linnone_any K R Ct (some ⟨bv, ov, Option.none⟩) A2 A3 n1 c1 n2 c2 n3 c3 C base g n cap ds w0 wb HC.out HT.out HKb.out hg hgb HOb.out Hlen.out Hm.out Hvo.out hn).mono ?_
      rintro e W5 ⟨rfl, hO5, hk5⟩
      have HO5 := Lib.hid hO5
      have HK5 := Lib.hid hk5
      clear hO5 hk5 b0 b1 b2 b3 b4 b5
      go_wp2_with fail
      first | go_end0 | refine bodyPost_ret (results_none rfl _ _ _) rfl ?_
      exact ⟨rfl, by rw [← Hres.out]; exact HO5.out, (KeptBut.of HK0b.out g).then HK5.out⟩
    | true =>
      have hb := HBb.out
      have b0 := cell_at hb 0
      have b1 := cell_at hb 1
      have b2 := cell_at hb 2
      have b3 := cell_at hb 3
      have b4 := cell_at hb 4
      have b5 := cell_at hb 5
      simp only [List.getElem?_toArray, List.getElem?_cons_zero, List.getElem?_cons_succ] at b0 b1 b2 b3 b4 b5
      clear hb
      have hcr : 0 ≤ contraB R ∧ contraB R ≤ 5 := ⟨(contra_rng Hr0.out Hr5.out).1, (contra_rng Hr0.out Hr5.out).2.1⟩
      have HCo : Hid (∀ W, Calls Tryd.prog 19 #[.int .i64 R] W fun e w' => e = .returned (.int .i64 (contraB R)) ∧ Kept W w') := fun W => (lincontrary_any R W).mono fun _ _ ⟨h1, h2⟩ => ⟨h1, h2 ▸ Kept.same _⟩
      have Hlast : Hid ((stepB (varsKp (C.vars.drop 1) (sumG C.coefs (restOf C ds) (n1 - 1) (contraB R) C.const) (n1 - 1)) ds).set p d9 = stepB (varsKp C.vars (iffG C ds) n1) ds) := Hlast0.out _ (by rw [Hft.out Hy.out Hz.out])
      have HSu : Hid (∀ W, Kept wb W → Calls Tryd.prog 29 #[.agg #[.int .i64 K, .slice (some ⟨bv, ov, Option.none⟩) n1 c1, .slice A2 n2 c2, .int .i64 R, .int .i64 Ct, .slice A3 n3 c3], .slice (some ⟨bv, ov + 1, Option.none⟩) (n1 - 1) (c1 - 1), .int .i64 (contraB R), .slice (some al) n c, .slice (some ⟨g, 0, Option.none⟩) n cap] W
          (TurnPost base g n cap (stepB (varsKp (C.vars.drop 1) (sumG C.coefs (restOf C ds) (n1 - 1) (contraB R) C.const) (n1 - 1)) ds) W)) := fun W hW => HSum.out _ W hcr.1 hcr.2 (HKb.out.then hW) (by have := hW.size; omega) (HOb.out.kept hW)
      generalize hkq : varsKp (C.vars.drop 1) (sumG C.coefs (restOf C ds) (n1 - 1) (contraB R) C.const) (n1 - 1) = kq at *
      generalize contraB R = R' at *
      clear hkq hcr
      go_wp2_with fail
      go_region_held3 (fun W => W.cell? ⟨w.heap.size, 0, Option.none⟩ = some (.int .i64 K) ∧ W.cell? ⟨w.heap.size, 1, Option.none⟩ = some (.slice (some ⟨bv, ov, Option.none⟩) n1 c1) ∧ W.cell? ⟨w.heap.size, 2, Option.none⟩ = some (.slice A2 n2 c2) ∧ W.cell? ⟨w.heap.size, 3, Option.none⟩ = some (.int .i64 R) ∧ W.cell? ⟨w.heap.size, 4, Option.none⟩ = some (.int .i64 Ct) ∧ W.cell? ⟨w.heap.size, 5, Option.none⟩ = some (.slice A3 n3 c3))
        (first | go_keep | exact conbox6 (((Kept.drewn _).then hk4).heapAt HBb.out) | exact conbox6 (hk5.heapAt (((Kept.drewn _).then hk4).heapAt HBb.out) (by omega)))
        (first
          | (go_at_call 19; refine (HCo.out _).mono ?_; rintro e W4 ⟨rfl, hk4⟩)
          | (go_at_call 29; refine (HSu.out _ ((Kept.drewn _).then hk4)).mono ?_; rintro e W5 ⟨rfl, hO5, hk5⟩))
      have HO5 := Lib.hid hO5
      have HK5 := Lib.hid ((KeptBut.of ((Kept.drewn _).then hk4) g).then hk5)
      clear hO5 hk5 hk4 b0 b1 b2 b3 b4 b5 HSu HCo HSum
      have HKx := Lib.hid (((KeptBut.of HKb.out g).then HK5.out).kept hg)
      have HBx := Lib.hid (HK5.out.heapAt HBb.out (by omega))
      have hb := HBx.out
      have b0 := cell_at hb 0
      have b1 := cell_at hb 1
      have b2 := cell_at hb 2
      have b3 := cell_at hb 3
      have b4 := cell_at hb 4
      have b5 := cell_at hb 5
      simp only [List.getElem?_toArray, List.getElem?_cons_zero, List.getElem?_cons_succ] at b0 b1 b2 b3 b4 b5
      clear hb
      have hlx : w.heap.size < W5.heap.size := lt_at HBx.out
      have hlz := HKx.out.size
      go_wp2_with fail
      refine (HTot.out _ HKx.out).mono ?_
      rintro e W6 ⟨rfl, hk6⟩
      have HKy : Hid (Kept W5 (W6.alloc (.cells #[.int .i64 lo', .int .i64 hi'] 86))) := hk6.newBlock _
      have HEy : Hid ((W6.alloc (.cells #[.int .i64 lo', .int .i64 hi'] 86)).heap[W6.heap.size]? = some (.cells #[.int .i64 lo', .int .i64 hi'] 86 (0, 0))) := heap_new _ _
      have hc1 := (HKx.out.then hk6).cellAt Hw1.out
      have hc2 := (HKx.out.then hk6).cellAt Hw2.out
      have hlal : al.block < W6.heap.size := by have := hk6.size; omega
      clear hk6 b0 b1 b2 b3 b4 b5 hlx
      go_wp2_with fail
      clear hc1 hc2 hlal
      generalize W6.alloc (.cells #[.int .i64 lo', .int .i64 hi'] 86) = W7 at *
      generalize W6.heap.size = Be at *
      have HcK : Hid (Calls Tryd.prog 57 #[.agg #[.slice B m cB, .int .u64 L], .func (.func 64) #[] #[.pointer (some ⟨Be, 0, Option.none⟩), .pointer (some ⟨w.heap.size, 0, Option.none⟩)]] W7
          fun e w' => ∃ A' c', e = .returned (.agg #[.slice A' m c', .int .u64 (d9.2 : Nat)]) ∧ Ints w' A' m xs ∧ Kept W7 w' ∧ (A' = B ∨ Fresh W7 A')) := by
        have h := linkept_iff B m cB L xs (.pointer (some ⟨Be, 0, Option.none⟩)) (.pointer (some ⟨w.heap.size, 0, Option.none⟩)) (iffQ lo' hi' R Ct) W7 (HI0.out.kept (HKx.out.then HKy.out)) hL (HT.out.kept (HKx.out.then HKy.out)) Hmay.out
          (fun x W' hW' _ => liniff1_any x Be w.heap.size K R Ct (some ⟨bv, ov, Option.none⟩) A2 A3 n1 c1 n2 c2 n3 c3 lo' hi' W' Hr0.out Hr5.out (hW'.heapAt HEy.out) (hW'.heapAt (HKy.out.heapAt HBx.out)))
        rwa [Hd9q.out] at h
      refine HcK.out.mono ?_
      rintro e W9 ⟨A9, c9, rfl, hI9, hk9, hA9⟩
      have Hlu : Hid ((stepB kq ds).length = n) := by show _ = _; rw [stepB_length]; exact Hlen.out
      have HF : Hid (OwnD ((W9.setCell ⟨g, p * 2, Option.none⟩ (.slice A9 m c9)).setCell ⟨g, p * 2 + 1, Option.none⟩ (.int .u64 (d9.2 : Nat))) base (.slice (some ⟨g, 0, Option.none⟩) n cap) (stepB (varsKp C.vars (iffG C ds) n1) ds) ∧
          KeptBut g w ((W9.setCell ⟨g, p * 2, Option.none⟩ (.slice A9 m c9)).setCell ⟨g, p * 2 + 1, Option.none⟩ (.int .u64 (d9.2 : Nat)))) := by
        have hO8 := (HO5.out.kept (HKy.out.then hk9)).set Hlu.out hpn (d := d9) (B := A9) (m := m) (c := c9) (by rw [Hd91.out]; exact hI9) (fun hn a ha => by
          rcases hA9 with h | h
          · subst h
            subst ha
            have := HI0.out.block hn
            omega
          · have := h a ha; have := HKy.out.size; have := HK5.out.size; omega) Hd9.out
        rw [Hlast.out] at hO8
        exact ⟨hO8, (((KeptBut.of HK0b.out g).then HK5.out).then (KeptBut.of (HKy.out.then hk9) g)).then ((KeptBut.set _ (a := ⟨g, p * 2, Option.none⟩) rfl _).then (KeptBut.set _ (a := ⟨g, p * 2 + 1, Option.none⟩) rfl _))⟩
      obtain ⟨_, _, _, _, _, _, t1, t2, _, _, _, t3, t4⟩ := (HO5.out.kept (HKy.out.then hk9)).named Hlu.out p hpn
      have hg9 : g < W9.heap.size := by have := hk9.size; have := HKy.out.size; have := HK5.out.size; omega
      clear hI9 hk9 hA9
      go_wp2_with fail
      go_end0
      exact ⟨rfl, HF.out.1, HF.out.2⟩
  | true =>
    cases z with
    | false =>
      have hb := HBb.out
      have b0 := cell_at hb 0
      have b1 := cell_at hb 1
      have b2 := cell_at hb 2
      have b3 := cell_at hb 3
      have b4 := cell_at hb 4
      have b5 := cell_at hb 5
      simp only [List.getElem?_toArray, List.getElem?_cons_zero, List.getElem?_cons_succ] at b0 b1 b2 b3 b4 b5
      clear hb
      have Hlast : Hid ((stepB (varsKp (C.vars.drop 1) (sumG C.coefs (restOf C ds) (n1 - 1) R C.const) (n1 - 1)) ds).set p d9 = stepB (varsKp C.vars (iffG C ds) n1) ds) := Hlast0.out _ (by rw [Htf.out Hy.out Hz.out])
      have HSu := Lib.hid (HSum.out R wb Hr0.out Hr5.out HKb.out hgb HOb.out)
      generalize hkq : varsKp (C.vars.drop 1) (sumG C.coefs (restOf C ds) (n1 - 1) R C.const) (n1 - 1) = kq at *
      clear hkq
      go_wp2_with fail
      refine HSu.out.mono ?_
      rintro e W5 ⟨rfl, hO5, hk5⟩
      have HO5 := Lib.hid hO5
      have HK5 := Lib.hid hk5
      clear hO5 hk5 b0 b1 b2 b3 b4 b5 HSu HSum
      have HKx := Lib.hid (((KeptBut.of HKb.out g).then HK5.out).kept hg)
      have HBx := Lib.hid (HK5.out.heapAt HBb.out (by omega))
      have hb := HBx.out
      have b0 := cell_at hb 0
      have b1 := cell_at hb 1
      have b2 := cell_at hb 2
      have b3 := cell_at hb 3
      have b4 := cell_at hb 4
      have b5 := cell_at hb 5
      simp only [List.getElem?_toArray, List.getElem?_cons_zero, List.getElem?_cons_succ] at b0 b1 b2 b3 b4 b5
      clear hb
      have hlx : w.heap.size < W5.heap.size := lt_at HBx.out
      have hlz := HKx.out.size
      go_wp2_with fail
      refine (HTot.out _ HKx.out).mono ?_
      rintro e W6 ⟨rfl, hk6⟩
      have HKy : Hid (Kept W5 (W6.alloc (.cells #[.int .i64 lo', .int .i64 hi'] 86))) := hk6.newBlock _
      have HEy : Hid ((W6.alloc (.cells #[.int .i64 lo', .int .i64 hi'] 86)).heap[W6.heap.size]? = some (.cells #[.int .i64 lo', .int .i64 hi'] 86 (0, 0))) := heap_new _ _
      have hc1 := (HKx.out.then hk6).cellAt Hw1.out
      have hc2 := (HKx.out.then hk6).cellAt Hw2.out
      have hlal : al.block < W6.heap.size := by have := hk6.size; omega
      clear hk6 b0 b1 b2 b3 b4 b5 hlx
      go_wp2_with fail
      clear hc1 hc2 hlal
      generalize W6.alloc (.cells #[.int .i64 lo', .int .i64 hi'] 86) = W7 at *
      generalize W6.heap.size = Be at *
      have HcK : Hid (Calls Tryd.prog 57 #[.agg #[.slice B m cB, .int .u64 L], .func (.func 64) #[] #[.pointer (some ⟨Be, 0, Option.none⟩), .pointer (some ⟨w.heap.size, 0, Option.none⟩)]] W7
          fun e w' => ∃ A' c', e = .returned (.agg #[.slice A' m c', .int .u64 (d9.2 : Nat)]) ∧ Ints w' A' m xs ∧ Kept W7 w' ∧ (A' = B ∨ Fresh W7 A')) := by
        have h := linkept_iff B m cB L xs (.pointer (some ⟨Be, 0, Option.none⟩)) (.pointer (some ⟨w.heap.size, 0, Option.none⟩)) (iffQ lo' hi' R Ct) W7 (HI0.out.kept (HKx.out.then HKy.out)) hL (HT.out.kept (HKx.out.then HKy.out)) Hmay.out
          (fun x W' hW' _ => liniff1_any x Be w.heap.size K R Ct (some ⟨bv, ov, Option.none⟩) A2 A3 n1 c1 n2 c2 n3 c3 lo' hi' W' Hr0.out Hr5.out (hW'.heapAt HEy.out) (hW'.heapAt (HKy.out.heapAt HBx.out)))
        rwa [Hd9q.out] at h
      refine HcK.out.mono ?_
      rintro e W9 ⟨A9, c9, rfl, hI9, hk9, hA9⟩
      have Hlu : Hid ((stepB kq ds).length = n) := by show _ = _; rw [stepB_length]; exact Hlen.out
      have HF : Hid (OwnD ((W9.setCell ⟨g, p * 2, Option.none⟩ (.slice A9 m c9)).setCell ⟨g, p * 2 + 1, Option.none⟩ (.int .u64 (d9.2 : Nat))) base (.slice (some ⟨g, 0, Option.none⟩) n cap) (stepB (varsKp C.vars (iffG C ds) n1) ds) ∧
          KeptBut g w ((W9.setCell ⟨g, p * 2, Option.none⟩ (.slice A9 m c9)).setCell ⟨g, p * 2 + 1, Option.none⟩ (.int .u64 (d9.2 : Nat)))) := by
        have hO8 := (HO5.out.kept (HKy.out.then hk9)).set Hlu.out hpn (d := d9) (B := A9) (m := m) (c := c9) (by rw [Hd91.out]; exact hI9) (fun hn a ha => by
          rcases hA9 with h | h
          · subst h
            subst ha
            have := HI0.out.block hn
            omega
          · have := h a ha; have := HKy.out.size; have := HK5.out.size; omega) Hd9.out
        rw [Hlast.out] at hO8
        exact ⟨hO8, (((KeptBut.of HK0b.out g).then HK5.out).then (KeptBut.of (HKy.out.then hk9) g)).then ((KeptBut.set _ (a := ⟨g, p * 2, Option.none⟩) rfl _).then (KeptBut.set _ (a := ⟨g, p * 2 + 1, Option.none⟩) rfl _))⟩
      obtain ⟨_, _, _, _, _, _, t1, t2, _, _, _, t3, t4⟩ := (HO5.out.kept (HKy.out.then hk9)).named Hlu.out p hpn
      have hg9 : g < W9.heap.size := by have := hk9.size; have := HKy.out.size; have := HK5.out.size; omega
      clear hI9 hk9 hA9
      go_wp2_with fail
      go_end0
      exact ⟨rfl, HF.out.1, HF.out.2⟩
    | true =>
      obtain ⟨kq, hkq⟩ : ∃ kq : Nat → Int → Bool, kq = fun _ _ => true := ⟨_, rfl⟩
      have Hlast : Hid ((stepB kq ds).set p d9 = stepB (varsKp C.vars (iffG C ds) n1) ds) := Hlast0.out _ (by
        rw [hkq, Htt.out Hy.out Hz.out]
        funext i x
        symm
        exact varsKp_iff.2 fun _ _ _ => rfl)
      have HO5 : Hid (OwnD wb base (.slice (some ⟨g, 0, Option.none⟩) n cap) (stepB kq ds)) := by
        show OwnD _ _ _ _
        rw [hkq, stepB_true Hm.out]
        exact HOb.out
      have HK5 : Hid (KeptBut g wb wb) := KeptBut.refl _ _
      obtain ⟨W5, hW5⟩ : ∃ W5 : World, W5 = wb := ⟨_, rfl⟩
      rw [← hW5] at HO5
      have HK5' : Hid (KeptBut g wb W5) := by rw [hW5]; exact HK5.out
      clear hkq HSum HK5
      have HK5 := HK5'
      rw [← hW5]
      clear hW5
      have HKx := Lib.hid (((KeptBut.of HKb.out g).then HK5.out).kept hg)
      have HBx := Lib.hid (HK5.out.heapAt HBb.out (by omega))
      have hb := HBx.out
      have b0 := cell_at hb 0
      have b1 := cell_at hb 1
      have b2 := cell_at hb 2
      have b3 := cell_at hb 3
      have b4 := cell_at hb 4
      have b5 := cell_at hb 5
      simp only [List.getElem?_toArray, List.getElem?_cons_zero, List.getElem?_cons_succ] at b0 b1 b2 b3 b4 b5
      clear hb
      have hlx : w.heap.size < W5.heap.size := lt_at HBx.out
      have hlz := HKx.out.size
      go_wp2_with fail
      refine (HTot.out _ HKx.out).mono ?_
      rintro e W6 ⟨rfl, hk6⟩
      have HKy : Hid (Kept W5 (W6.alloc (.cells #[.int .i64 lo', .int .i64 hi'] 86))) := hk6.newBlock _
      have HEy : Hid ((W6.alloc (.cells #[.int .i64 lo', .int .i64 hi'] 86)).heap[W6.heap.size]? = some (.cells #[.int .i64 lo', .int .i64 hi'] 86 (0, 0))) := heap_new _ _
      have hc1 := (HKx.out.then hk6).cellAt Hw1.out
      have hc2 := (HKx.out.then hk6).cellAt Hw2.out
      have hlal : al.block < W6.heap.size := by have := hk6.size; omega
      clear hk6 b0 b1 b2 b3 b4 b5 hlx
      go_wp2_with fail
      clear hc1 hc2 hlal
      generalize W6.alloc (.cells #[.int .i64 lo', .int .i64 hi'] 86) = W7 at *
      generalize W6.heap.size = Be at *
      have HcK : Hid (Calls Tryd.prog 57 #[.agg #[.slice B m cB, .int .u64 L], .func (.func 64) #[] #[.pointer (some ⟨Be, 0, Option.none⟩), .pointer (some ⟨w.heap.size, 0, Option.none⟩)]] W7
          fun e w' => ∃ A' c', e = .returned (.agg #[.slice A' m c', .int .u64 (d9.2 : Nat)]) ∧ Ints w' A' m xs ∧ Kept W7 w' ∧ (A' = B ∨ Fresh W7 A')) := by
        have h := linkept_iff B m cB L xs (.pointer (some ⟨Be, 0, Option.none⟩)) (.pointer (some ⟨w.heap.size, 0, Option.none⟩)) (iffQ lo' hi' R Ct) W7 (HI0.out.kept (HKx.out.then HKy.out)) hL (HT.out.kept (HKx.out.then HKy.out)) Hmay.out
          (fun x W' hW' _ => liniff1_any x Be w.heap.size K R Ct (some ⟨bv, ov, Option.none⟩) A2 A3 n1 c1 n2 c2 n3 c3 lo' hi' W' Hr0.out Hr5.out (hW'.heapAt HEy.out) (hW'.heapAt (HKy.out.heapAt HBx.out)))
        rwa [Hd9q.out] at h
      refine HcK.out.mono ?_
      rintro e W9 ⟨A9, c9, rfl, hI9, hk9, hA9⟩
      have Hlu : Hid ((stepB kq ds).length = n) := by show _ = _; rw [stepB_length]; exact Hlen.out
      have HF : Hid (OwnD ((W9.setCell ⟨g, p * 2, Option.none⟩ (.slice A9 m c9)).setCell ⟨g, p * 2 + 1, Option.none⟩ (.int .u64 (d9.2 : Nat))) base (.slice (some ⟨g, 0, Option.none⟩) n cap) (stepB (varsKp C.vars (iffG C ds) n1) ds) ∧
          KeptBut g w ((W9.setCell ⟨g, p * 2, Option.none⟩ (.slice A9 m c9)).setCell ⟨g, p * 2 + 1, Option.none⟩ (.int .u64 (d9.2 : Nat)))) := by
        have hO8 := (HO5.out.kept (HKy.out.then hk9)).set Hlu.out hpn (d := d9) (B := A9) (m := m) (c := c9) (by rw [Hd91.out]; exact hI9) (fun hn a ha => by
          rcases hA9 with h | h
          · subst h
            subst ha
            have := HI0.out.block hn
            omega
          · have := h a ha; have := HKy.out.size; have := HK5.out.size; omega) Hd9.out
        rw [Hlast.out] at hO8
        exact ⟨hO8, (((KeptBut.of HK0b.out g).then HK5.out).then (KeptBut.of (HKy.out.then hk9) g)).then ((KeptBut.set _ (a := ⟨g, p * 2, Option.none⟩) rfl _).then (KeptBut.set _ (a := ⟨g, p * 2 + 1, Option.none⟩) rfl _))⟩
      obtain ⟨_, _, _, _, _, _, t1, t2, _, _, _, t3, t4⟩ := (HO5.out.kept (HKy.out.then hk9)).named Hlu.out p hpn
      have hg9 : g < W9.heap.size := by have := hk9.size; have := HKy.out.size; have := HK5.out.size; omega
      clear hI9 hk9 hA9
      go_wp2_with fail
      go_end0
      exact ⟨rfl, HF.out.1, HF.out.2⟩
end Go.Proofs.YtekcenacpklpgaaDoor

set_option maxHeartbeats 1000000
namespace Go.Proofs.YtekcenacpklpgaaDoor
open Go Go.RowKit Pl

/-- What a step hands back. -/
def StepPost (r : Option (List DomB)) (w : World) (e : Ending) (w' : World) : Prop :=
  match r with
  | Option.none => e = .returned (.tuple #[.slice Option.none 0 0, .int .i64 1]) ∧ Kept w w'
  | some ds => ∃ A c, e = .returned (.tuple #[.slice A ds.length c, .int .i64 0]) ∧ Doms w' A ds.length ds ∧ Kept w w'

theorem info_dom : (Tryd.prog.info? 47).map (fun i => (i.zero, i.size, i.bytes)) = some (some (.agg #[.slice Option.none 0 0, .int .u64 0]), 2, 32) := by kernel_rfl
end Go.Proofs.YtekcenacpklpgaaDoor

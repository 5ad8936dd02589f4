/-
  The laws of the bits: BitsBack, BitsTells.
-/
import Derived.Test.YthddanjmnifloaaDoorLaw02
set_option maxHeartbeats 1000000
set_option maxRecDepth 10000
namespace Go.Proofs.YthddanjmnifloaaDoor
open Go Go.RowKit Pl

theorem back_any (b : Nat) (w : World) (hb : b < 2 ^ 64) (hT : Tab w) :
    Calls Tryd.prog 4 #[.int .u64 b] w fun e w' => e = .returned (.bool true) ∧ Kept w w' := by
  have HT := Lib.hid hT
  have HLi : Hid (∀ W, Tab W → Calls Tryd.prog 23 #[.int .u64 b] W (ListPost (elemsI b) W)) := fun W hW => list_any b W hb hW
  have HNx : Hid (∀ W n, Tab W → Calls Tryd.prog 20 #[.int .u64 b, .int .i64 n] W fun e w' => e = .returned (.int .i64 (from? (elemsI b) n)) ∧ W = w') := fun W n hW => by
    rw [next_eq b n hb]; exact next_any b n W hb hW
  have HOf : Hid (∀ W A n c, Ints W A n (elemsI b) → Calls Tryd.prog 26 #[.slice A n c] W fun e w' => e = .returned (.int .u64 b) ∧ W = w') := fun W A n c h => by
    have := of_any A n c (elemsI b) W h
    rwa [ofL_elemsI hb] at this
  have HCo : Hid (∀ W, Calls Tryd.prog 17 #[.int .u64 b] W fun e w' => e = .returned (.int .i64 ((elemsI b).length : Nat)) ∧ W = w') := fun W => by
    rw [elemsI_length]; exact count_any b W hb
  have HS : Hid ((elemsI b).Pairwise (· < ·)) := sorted_elemsI b
  have HR : Hid (∀ x ∈ elemsI b, 0 ≤ x ∧ x ≤ 63) := fun x hx => elemsI_rng x hx
  have hm := elemsI_length_le b
  clear hT hb
  generalize elemsI b = xs at *
  generalize hxm : xs.length = m at *
  have Hm := Lib.hid hxm
  clear hxm
  have HA : Hid (∀ k, k < m → from? xs (atB xs k) = xs.getD k 0 ∧ atB xs k ≤ xs.getD k 0) := fun k hk => from_at HS.out (fun x hx => (HR.out x hx).1) (by rw [Hm.out]; exact hk)
  have HE : Hid (from? xs (atB xs m) = -1) := by
    have := from_end HS.out (fun x hx => (HR.out x hx).1)
    rwa [Hm.out] at this
  have HNe : Hid (∀ k, k < m → xs.getD k 0 + 1 = atB xs (k + 1)) := fun k hk => by unfold atB; simp
  go_enter Tryd.func4, Tryd.ntmps4
  go_wp2_with (first
    | (go_at_call 14; refine (awake02 _ HT.out).mono ?_; rintro e w1 ⟨rfl, hk⟩; have Hk := Lib.hid hk; clear hk)
    | (go_at_call 23; refine (HLi.out _ (HT.out.kept Hk.out)).mono ?_; unfold ListPost; rw [Hm.out]; rintro e w2 ⟨A, c, rfl, hI, hk2, _⟩; have HI := Lib.hid hI; have Hk2 := Lib.hid (Hk.out.then hk2); clear hI hk2))
  have hs1 := HI.out.small
  go_loop [4, 13] (fun u v => ∃ k : Nat, k ≤ m ∧ v = .int .i64 k ∧ ∃ y : Int, u = .int .i64 y ∧ Hid (atB xs k = y)) (fun _ v => m - (intOf v).toNat)
  case atStart => exact ⟨0, Nat.zero_le _, rfl, 0, rfl, rfl⟩
  case round =>
    obtain ⟨k, hk, rfl, y, rfl, Hy⟩ := hrel
    by_cases hlt : k < m
    · obtain ⟨a, rfl, hba⟩ := HI.out.addr (by omega)
      obtain ⟨x, Hx, hcx, hx1, hx2⟩ := HI.out.named k hlt
      have h1 := HA.out k hlt
      rw [Hx.out, Hy.out] at h1
      have hyx := h1.2
      have hx64 : x ≤ 63 := by
        have := HR.out x (by
          rw [← Hx.out, List.getD_eq_getElem?_getD, List.getElem?_eq_getElem (by have := Hm.out; omega)]
          exact List.getElem_mem _)
        exact this.2
      have Hn : Hid (∀ W, Tab W → Calls Tryd.prog 20 #[.int .u64 b, .int .i64 y] W fun e w' => e = .returned (.int .i64 x) ∧ W = w') := fun W hW => by
        have := HNx.out W y hW
        rwa [h1.1] at this
      have Hy2 : Hid (atB xs (k + 1) = x + 1) := by
        show _ = _
        rw [← HNe.out k hlt, Hx.out]
      clear h1
      go_wp2_with (go_at_call 20; refine (Hn.out _ (HT.out.kept Hk2.out)).mono ?_; rintro e w' ⟨rfl, rfl⟩)
      go_round
      case rel => exact ⟨k + 1, by omega, by go_num, x + 1, by go_num, Hy2⟩
      case measure => simp [intOf]; omega
    · have e : k = m := by omega
      subst e
      have Hn : Hid (∀ W, Tab W → Calls Tryd.prog 20 #[.int .u64 b, .int .i64 y] W fun e w' => e = .returned (.int .i64 (-1)) ∧ W = w') := fun W hW => by
        have := HNx.out W y hW
        rwa [← Hy.out, HE.out, Hy.out] at this
      go_wp2_with (first
        | (go_at_call 20; refine (Hn.out _ (HT.out.kept Hk2.out)).mono ?_; rintro e w' ⟨rfl, rfl⟩)
        | (go_at_call 26; refine (HOf.out _ _ _ _ HI.out).mono ?_; rintro e w' ⟨rfl, rfl⟩)
        | (go_at_call 17; refine (HCo.out _).mono ?_; rintro e w' ⟨rfl, rfl⟩))
      go_ret
      exact ⟨rfl, Hk2.out⟩

set_option maxHeartbeats 4000000 in
theorem tells_any (b : Nat) (low high : Int) (A : Option Addr) (n c : Nat) (l : List Int) (w : World) (hb : b < 2 ^ 64) (hT : Tab w) (h8 : -9223372036854775808 ≤ low) (h9 : low ≤ 9223372036854775807) (hl : Ints w A n l) :
    Calls Tryd.prog 3 #[.int .u64 b, .int .i64 low, .int .i64 high, .slice A n c] w fun e w' => e = .returned (.bool true) ∧ Kept w w' := by
  have HT := Lib.hid hT
  have Hl := Lib.hid hl
  have hs1 := hl.small
  by_cases hbig : 200 < n
  · clear hT hl
    go_enter Tryd.func3, Tryd.ntmps3
    go_wp2_with (go_at_call 14; refine (awake02 _ HT.out).mono ?_; rintro e w1 ⟨rfl, hk⟩; have Hk := Lib.hid hk; clear hk)
    go_ret
    exact ⟨rfl, Hk.out⟩
  have HLi : Hid (∀ W, Tab W → Calls Tryd.prog 23 #[.int .u64 b] W (ListPost (elemsI b) W)) := fun W hW => list_any b W hb hW
  have HRl : Hid (∀ W, Calls Tryd.prog 15 #[.int .u64 b] W (ListPost (elemsI b) W)) := fun W => rlist_any b W hb
  obtain ⟨nx, hnx⟩ : ∃ nx, nx = from? (elemsI b) low := ⟨_, rfl⟩
  have HNx : Hid (∀ W, Tab W → Calls Tryd.prog 20 #[.int .u64 b, .int .i64 low] W fun e w' => e = .returned (.int .i64 nx) ∧ W = w') := fun W hW => by
    rw [hnx, next_eq b low hb]; exact next_any b low W hb hW
  have HRn : Hid (∀ W, Calls Tryd.prog 21 #[.int .u64 b, .int .i64 low] W fun e w' => e = .returned (.int .i64 nx) ∧ Kept W w') := fun W => by
    rw [hnx]; exact rnext_any b low W hb
  have HOf : Hid (∀ W, Ints W A n l → Calls Tryd.prog 26 #[.slice A n c] W fun e w' => e = .returned (.int .u64 (ofL l : Nat)) ∧ W = w') := fun W h => of_any A n c l W h
  have HRo : Hid (∀ W, Ints W A n l → Calls Tryd.prog 27 #[.slice A n c] W fun e w' => e = .returned (.int .u64 (ofL l : Nat)) ∧ Kept W w') := fun W h => rof_any A n c l W h
  have HCo : Hid (∀ W, Calls Tryd.prog 17 #[.int .u64 b] W fun e w' => e = .returned (.int .i64 ((elemsI b).length : Nat)) ∧ W = w') := fun W => by
    rw [elemsI_length]; exact count_any b W hb
  have HBe : Hid (∀ W, Calls Tryd.prog 25 #[.int .i64 low, .int .i64 high] W fun e w' => e = .returned (.int .u64 (btw low high : Nat)) ∧ W = w') := fun W => between_any low high W
  have HRb : Hid (∀ W, Calls Tryd.prog 16 #[.int .i64 low, .int .i64 high] W fun e w' => e = .returned (.int .u64 (btw low high : Nat)) ∧ Kept W w') := fun W => rbetween_any low high W
  have HFi : Hid (∀ W, Calls Tryd.prog 24 #[.int .i64 low] W fun e w' => e = .returned (.int .u64 (fst low.toNat : Nat)) ∧ W = w') := fun W => first_quiet low W
  have HRf : Hid (0 < low → ∀ W, Calls Tryd.prog 16 #[.int .i64 0, .int .i64 (low - 1)] W fun e w' => e = .returned (.int .u64 (fst low.toNat : Nat)) ∧ Kept W w') := fun h W => by
    rw [first_eq h]; exact rbetween_any 0 (low - 1) W
  have HF0 : Hid (¬ 0 < low → fst low.toNat = 0) := first_zero
  obtain ⟨ls, hls⟩ : ∃ ls, ls = lo b := ⟨_, rfl⟩
  obtain ⟨gt, hgt⟩ : ∃ gt, gt = (Lib.bitLen b : Int) - 1 := ⟨_, rfl⟩
  have HLe : Hid (∀ W, Tab W → Calls Tryd.prog 18 #[.int .u64 b] W fun e w' => e = .returned (.int .i64 ls) ∧ W = w') := fun W hW => by rw [hls]; exact least_any b W hb hW
  have HGr : Hid (∀ W, Calls Tryd.prog 19 #[.int .u64 b] W fun e w' => e = .returned (.int .i64 gt) ∧ W = w') := fun W => by rw [hgt]; exact greatest_any b W hb
  have HE0 : Hid ((elemsI b).length = 0 → ls = -1 ∧ gt = -1) := fun h => by
    have := (elemsI_nil_iff hb).1 h
    subst this
    exact ⟨hls, by rw [hgt]; exact bitLen_zero⟩
  have HE1 : Hid (0 < (elemsI b).length → (elemsI b).getD 0 0 = ls ∧ (elemsI b).getD ((elemsI b).length - 1) 0 = gt) := fun h => by
    have h0 : b ≠ 0 := fun e => by have := (elemsI_nil_iff hb).2 e; omega
    exact ⟨by rw [hls]; exact elemsI_head hb h0, by rw [hgt]; exact elemsI_last hb h0⟩
  have hm := elemsI_length_le b
  clear hT hb hls hgt hnx hl
  generalize fst low.toNat = fl at *
  generalize btw low high = bt at *
  generalize ofL l = of at *
  generalize elemsI b = xs at *
  generalize hxm : xs.length = m at *
  have Hm := Lib.hid hxm
  clear hxm
  by_cases hm0 : m = 0
  · by_cases h0 : 0 < low
    · subst hm0
      obtain ⟨rfl, rfl⟩ := HE0.out rfl
      go_enter Tryd.func3, Tryd.ntmps3
      go_wp2_with (first
        | (go_at_call 14; refine (awake02 _ HT.out).mono ?_; rintro e w1 ⟨rfl, hk⟩; have Hk := Lib.hid hk; clear hk)
        | (go_at_call 15; refine (HRl.out _).mono ?_; unfold ListPost; rw [Hm.out]; rintro e w2 ⟨A1, c1, rfl, hI, hk2, _⟩; have HI := Lib.hid hI; have Hk2 := Lib.hid (Hk.out.then hk2); clear hI hk2)
        | (go_at_call 17; refine (HCo.out _).mono ?_; rintro e w' ⟨rfl, rfl⟩)
        | (go_at_call 18; refine (HLe.out _ (HT.out.kept HK.out)).mono ?_; rintro e w' ⟨rfl, rfl⟩)
        | (go_at_call 19; refine (HGr.out _).mono ?_; rintro e w' ⟨rfl, rfl⟩)
        | (go_at_call 20; refine (HNx.out _ (HT.out.kept HK.out)).mono ?_; rintro e w' ⟨rfl, rfl⟩)
        | (go_at_call 21; refine (HRn.out _).mono ?_; rintro e w4 ⟨rfl, hk4⟩; have HJ := Lib.hid (HI.out.kept hk4); have HL := Lib.hid (HK.out.then hk4); clear hk4)
        | (go_at_call 23; refine (HLi.out _ (HT.out.kept HL.out)).mono ?_; unfold ListPost; rw [Hm.out]; rintro e w5 ⟨A2, c2, rfl, hI2, hk5, _⟩; have HI2 := Lib.hid hI2; have HJ5 := Lib.hid (HJ.out.kept hk5); have HK5 := Lib.hid (HL.out.then hk5); clear hI2 hk5)
        | (go_at_call 22; refine (rsame_any _ _ _ _ _ _ _ _ _ HI2.out HJ5.out).mono ?_; rintro e w6 ⟨rfl, hk6⟩; have HK6 := Lib.hid (HK5.out.then hk6); clear hk6)
        | (go_at_call 24; refine (HFi.out _).mono ?_; rintro e w' ⟨rfl, rfl⟩)
        | (go_at_call 25; refine (HBe.out _).mono ?_; rintro e w' ⟨rfl, rfl⟩)
        | (go_at_call 16; first | (have h3 := HRf; clear HRf; refine (h3.out h0 _).mono ?_; clear h3; rintro e w3 ⟨rfl, hk3⟩; have HI := Lib.hid (HI.out.kept hk3); have HK := Lib.hid (Hk2.out.then hk3); clear hk3) | (refine (HRb.out _).mono ?_; rintro e w7 ⟨rfl, hk7⟩; have HK7 := Lib.hid (HK6.out.then hk7); clear hk7))
        | (go_at_call 26; refine (HOf.out _ (Hl.out.kept HK7.out)).mono ?_; rintro e w' ⟨rfl, rfl⟩)
        | (go_at_call 27; refine (HRo.out _ (Hl.out.kept HK7.out)).mono ?_; rintro e w8 ⟨rfl, hk8⟩; have HK8 := Lib.hid (HK7.out.then hk8); clear hk8))
      go_ret
      exact ⟨ret_bool (by simp), HK8.out⟩
    · subst hm0
      obtain ⟨rfl, rfl⟩ := HE0.out rfl
      have hf0 := HF0.out h0
      subst hf0
      go_enter Tryd.func3, Tryd.ntmps3
      go_wp2_with (first
        | (go_at_call 14; refine (awake02 _ HT.out).mono ?_; rintro e w1 ⟨rfl, hk⟩; have Hk := Lib.hid hk; clear hk)
        | (go_at_call 15; refine (HRl.out _).mono ?_; unfold ListPost; rw [Hm.out]; rintro e w2 ⟨A1, c1, rfl, hI, hk2, _⟩; have HI := Lib.hid hI; have HK := Lib.hid (Hk.out.then hk2); clear hI hk2)
        | (go_at_call 17; refine (HCo.out _).mono ?_; rintro e w' ⟨rfl, rfl⟩)
        | (go_at_call 18; refine (HLe.out _ (HT.out.kept HK.out)).mono ?_; rintro e w' ⟨rfl, rfl⟩)
        | (go_at_call 19; refine (HGr.out _).mono ?_; rintro e w' ⟨rfl, rfl⟩)
        | (go_at_call 20; refine (HNx.out _ (HT.out.kept HK.out)).mono ?_; rintro e w' ⟨rfl, rfl⟩)
        | (go_at_call 21; refine (HRn.out _).mono ?_; rintro e w4 ⟨rfl, hk4⟩; have HJ := Lib.hid (HI.out.kept hk4); have HL := Lib.hid (HK.out.then hk4); clear hk4)
        | (go_at_call 23; refine (HLi.out _ (HT.out.kept HL.out)).mono ?_; unfold ListPost; rw [Hm.out]; rintro e w5 ⟨A2, c2, rfl, hI2, hk5, _⟩; have HI2 := Lib.hid hI2; have HJ5 := Lib.hid (HJ.out.kept hk5); have HK5 := Lib.hid (HL.out.then hk5); clear hI2 hk5)
        | (go_at_call 22; refine (rsame_any _ _ _ _ _ _ _ _ _ HI2.out HJ5.out).mono ?_; rintro e w6 ⟨rfl, hk6⟩; have HK6 := Lib.hid (HK5.out.then hk6); clear hk6)
        | (go_at_call 24; refine (HFi.out _).mono ?_; rintro e w' ⟨rfl, rfl⟩)
        | (go_at_call 25; refine (HBe.out _).mono ?_; rintro e w' ⟨rfl, rfl⟩)
        | (go_at_call 16; refine (HRb.out _).mono ?_; rintro e w7 ⟨rfl, hk7⟩; have HK7 := Lib.hid (HK6.out.then hk7); clear hk7)
        | (go_at_call 26; refine (HOf.out _ (Hl.out.kept HK7.out)).mono ?_; rintro e w' ⟨rfl, rfl⟩)
        | (go_at_call 27; refine (HRo.out _ (Hl.out.kept HK7.out)).mono ?_; rintro e w8 ⟨rfl, hk8⟩; have HK8 := Lib.hid (HK7.out.then hk8); clear hk8))
      go_ret
      exact ⟨ret_bool (by simp), HK8.out⟩
  · by_cases h0 : 0 < low
    · obtain ⟨m', rfl⟩ : ∃ m', m = m' + 1 := ⟨m - 1, by omega⟩
      have hL0 := (HE1.out (by omega)).1
      have hL1 := (HE1.out (by omega)).2
      have HL0 := Lib.hid hL0
      have HL1 := Lib.hid hL1
      clear hL0 hL1
      go_enter Tryd.func3, Tryd.ntmps3
      go_wp2_with (first
        | (go_at_call 14; refine (awake02 _ HT.out).mono ?_; rintro e w1 ⟨rfl, hk⟩; have Hk := Lib.hid hk; clear hk)
        | (go_at_call 15; refine (HRl.out _).mono ?_; unfold ListPost; rw [Hm.out]; rintro e w2 ⟨A1, c1, rfl, hI, hk2, _⟩; have HI := Lib.hid hI; have Hk2 := Lib.hid (Hk.out.then hk2); clear hI hk2))
      obtain ⟨a, rfl, hba⟩ := HI.out.addr (by omega)
      obtain ⟨x0, Hx0, hcx0, _, _⟩ := HI.out.named 0 (by omega)
      obtain ⟨x1, Hx1, hcx1, _, _⟩ := HI.out.named m' (by omega)
      have e0 : x0 = ls := by rw [← Hx0.out, HL0.out]
      have e1 : x1 = gt := by rw [← Hx1.out, ← HL1.out]; rfl
      subst e0 e1
      have hcx00 : w2.cell? a = some (.int .i64 x0) := by
        have ea : a.add 0 = a := by unfold Addr.add; simp
        rwa [ea] at hcx0
      refine wp_region_quiet_below (by kernel_rfl) (by kernel_rfl) ?_
      repeat (any_goals (first | go_big_quiet_step ((fail)) | quiet_step ((fail)) | (refine wpQuiet_step (fun K hK => ?_); go_simp; split <;> (refine hK _ ?_; clear hK K))))
      all_goals (refine wpQuiet_nil ?_; intro w1 hw'; replace hw' := Kept.regrown hw')
      have HI' := Lib.hid (HI.out.kept hw')
      have Hk2' := Lib.hid (Hk2.out.then hw')
      clear hw' HI Hk2 hcx0 hcx00 hcx1
      have HI := HI'
      have Hk2 := Hk2'
      clear HI' Hk2'
      go_wp2_with (first
        | (go_at_call 17; refine (HCo.out _).mono ?_; rintro e w' ⟨rfl, rfl⟩)
        | (go_at_call 18; refine (HLe.out _ (HT.out.kept HK.out)).mono ?_; rintro e w' ⟨rfl, rfl⟩)
        | (go_at_call 19; refine (HGr.out _).mono ?_; rintro e w' ⟨rfl, rfl⟩)
        | (go_at_call 20; refine (HNx.out _ (HT.out.kept HK.out)).mono ?_; rintro e w' ⟨rfl, rfl⟩)
        | (go_at_call 21; refine (HRn.out _).mono ?_; rintro e w4 ⟨rfl, hk4⟩; have HJ := Lib.hid (HI.out.kept hk4); have HL := Lib.hid (HK.out.then hk4); clear hk4)
        | (go_at_call 23; refine (HLi.out _ (HT.out.kept HL.out)).mono ?_; unfold ListPost; rw [Hm.out]; rintro e w5 ⟨A2, c2, rfl, hI2, hk5, _⟩; have HI2 := Lib.hid hI2; have HJ5 := Lib.hid (HJ.out.kept hk5); have HK5 := Lib.hid (HL.out.then hk5); clear hI2 hk5)
        | (go_at_call 22; refine (rsame_any _ _ _ _ _ _ _ _ _ HI2.out HJ5.out).mono ?_; rintro e w6 ⟨rfl, hk6⟩; have HK6 := Lib.hid (HK5.out.then hk6); clear hk6)
        | (go_at_call 24; refine (HFi.out _).mono ?_; rintro e w' ⟨rfl, rfl⟩)
        | (go_at_call 25; refine (HBe.out _).mono ?_; rintro e w' ⟨rfl, rfl⟩)
        | (go_at_call 16; first | (have h3 := HRf; clear HRf; refine (h3.out h0 _).mono ?_; clear h3; rintro e w3 ⟨rfl, hk3⟩; have HI := Lib.hid (HI.out.kept hk3); have HK := Lib.hid (Hk2.out.then hk3); clear hk3) | (refine (HRb.out _).mono ?_; rintro e w7 ⟨rfl, hk7⟩; have HK7 := Lib.hid (HK6.out.then hk7); clear hk7))
        | (go_at_call 26; refine (HOf.out _ (Hl.out.kept HK7.out)).mono ?_; rintro e w' ⟨rfl, rfl⟩)
        | (go_at_call 27; refine (HRo.out _ (Hl.out.kept HK7.out)).mono ?_; rintro e w8 ⟨rfl, hk8⟩; have HK8 := Lib.hid (HK7.out.then hk8); clear hk8))
      go_ret
      exact ⟨ret_bool (by simp), HK8.out⟩
    · obtain ⟨m', rfl⟩ : ∃ m', m = m' + 1 := ⟨m - 1, by omega⟩
      have hL0 := (HE1.out (by omega)).1
      have hL1 := (HE1.out (by omega)).2
      have HL0 := Lib.hid hL0
      have HL1 := Lib.hid hL1
      clear hL0 hL1
      have hf0 := HF0.out h0
      subst hf0
      go_enter Tryd.func3, Tryd.ntmps3
      go_wp2_with (first
        | (go_at_call 14; refine (awake02 _ HT.out).mono ?_; rintro e w1 ⟨rfl, hk⟩; have Hk := Lib.hid hk; clear hk)
        | (go_at_call 15; refine (HRl.out _).mono ?_; unfold ListPost; rw [Hm.out]; rintro e w2 ⟨A1, c1, rfl, hI, hk2, _⟩; have HI := Lib.hid hI; have Hk2 := Lib.hid (Hk.out.then hk2); clear hI hk2))
      obtain ⟨a, rfl, hba⟩ := HI.out.addr (by omega)
      obtain ⟨x0, Hx0, hcx0, _, _⟩ := HI.out.named 0 (by omega)
      obtain ⟨x1, Hx1, hcx1, _, _⟩ := HI.out.named m' (by omega)
      have e0 : x0 = ls := by rw [← Hx0.out, HL0.out]
      have e1 : x1 = gt := by rw [← Hx1.out, ← HL1.out]; rfl
      subst e0 e1
      have hcx00 : w2.cell? a = some (.int .i64 x0) := by
        have ea : a.add 0 = a := by unfold Addr.add; simp
        rwa [ea] at hcx0
      refine wp_region_quiet_below (by kernel_rfl) (by kernel_rfl) ?_
      repeat (any_goals (first | go_big_quiet_step ((fail)) | quiet_step ((fail)) | (refine wpQuiet_step (fun K hK => ?_); go_simp; split <;> (refine hK _ ?_; clear hK K))))
      all_goals (refine wpQuiet_nil ?_; intro w1 hw'; replace hw' := Kept.regrown hw')
      have HI' := Lib.hid (HI.out.kept hw')
      have Hk2' := Lib.hid (Hk2.out.then hw')
      clear hw' HI Hk2 hcx0 hcx00 hcx1
      have HI := HI'
      have Hk2 := Hk2'
      clear HI' Hk2'
      have HK := Hk2
      go_wp2_with (first
        | (go_at_call 17; refine (HCo.out _).mono ?_; rintro e w' ⟨rfl, rfl⟩)
        | (go_at_call 18; refine (HLe.out _ (HT.out.kept HK.out)).mono ?_; rintro e w' ⟨rfl, rfl⟩)
        | (go_at_call 19; refine (HGr.out _).mono ?_; rintro e w' ⟨rfl, rfl⟩)
        | (go_at_call 20; refine (HNx.out _ (HT.out.kept HK.out)).mono ?_; rintro e w' ⟨rfl, rfl⟩)
        | (go_at_call 21; refine (HRn.out _).mono ?_; rintro e w4 ⟨rfl, hk4⟩; have HJ := Lib.hid (HI.out.kept hk4); have HL := Lib.hid (HK.out.then hk4); clear hk4)
        | (go_at_call 23; refine (HLi.out _ (HT.out.kept HL.out)).mono ?_; unfold ListPost; rw [Hm.out]; rintro e w5 ⟨A2, c2, rfl, hI2, hk5, _⟩; have HI2 := Lib.hid hI2; have HJ5 := Lib.hid (HJ.out.kept hk5); have HK5 := Lib.hid (HL.out.then hk5); clear hI2 hk5)
        | (go_at_call 22; refine (rsame_any _ _ _ _ _ _ _ _ _ HI2.out HJ5.out).mono ?_; rintro e w6 ⟨rfl, hk6⟩; have HK6 := Lib.hid (HK5.out.then hk6); clear hk6)
        | (go_at_call 24; refine (HFi.out _).mono ?_; rintro e w' ⟨rfl, rfl⟩)
        | (go_at_call 25; refine (HBe.out _).mono ?_; rintro e w' ⟨rfl, rfl⟩)
        | (go_at_call 16; refine (HRb.out _).mono ?_; rintro e w7 ⟨rfl, hk7⟩; have HK7 := Lib.hid (HK6.out.then hk7); clear hk7)
        | (go_at_call 26; refine (HOf.out _ (Hl.out.kept HK7.out)).mono ?_; rintro e w' ⟨rfl, rfl⟩)
        | (go_at_call 27; refine (HRo.out _ (Hl.out.kept HK7.out)).mono ?_; rintro e w8 ⟨rfl, hk8⟩; have HK8 := Lib.hid (HK7.out.then hk8); clear hk8))
      go_ret
      exact ⟨ret_bool (by simp), HK8.out⟩
end Go.Proofs.YthddanjmnifloaaDoor

/-
  Contracts and plain laws that the card rests on, part 6.
-/
import Derived.Test.YtjmegicopdbkdaaDoorL2
import Derived.Test.YtjmegicopdbkdaaDoorL4
import Derived.Test.YtjmegicopdbkdaaDoorL3
import Derived.Test.YtjmegicopdbkdaaDoorL5
set_option maxHeartbeats 1000000
set_option maxRecDepth 10000
namespace Go.Proofs.YtjmegicopdbkdaaDoor
open Go Go.RowKit Pl

theorem rbox_0 (w : World) (v0 v1 : Value) (t : TypeId) : (w.alloc (.cells #[v0, v1] t)).heap[w.heap.size]? = some (.cells #[v0, v1] t) := heap_new _ _

theorem rmay_any (A : Option Addr) (n c : Nat) (L : Nat) (xs : List Int) (w : World) (hS : Ints w A n xs) (hL : L < 2 ^ 64) :
    Calls Tryd.prog 66 #[.agg #[.slice A n c, .int .u64 L]] w fun e w' => e = .returned (.bool (mayB xs L)) ∧ Kept w w' := by
  have HS := Lib.hid hS
  have Hlen := Lib.hid hS.len
  have hsm := hS.small
  clear hS
  by_cases hn : (64 : Int) < n
  · have hd : decide ((64 : Int) < n) = true := by simp [hn]
    go_enter Tryd.func66, Tryd.ntmps66
    go_wp2_with fail
    go_ret
    exact ⟨ret_bool (by simp [mayB, Hlen.out]; omega), Kept.box _ _⟩
  have hd : decide ((64 : Int) < n) = false := by simp; omega
  have HB : Hid (∀ wr, Kept (w.alloc (.cells #[.slice A n c, .int .u64 (L : Nat)] 64)) wr → wr.heap[w.heap.size]? = some (.cells #[.slice A n c, .int .u64 (L : Nat)] 64)) := fun wr h => h.heapAt (heap_new _ _)
  go_enter Tryd.func66, Tryd.ntmps66
  go_wp2_with fail
  go_loopw [3] (fun v wr => ∃ k : Nat, k ≤ n ∧ v = .int .i64 k ∧ Hid (Kept (w.alloc (.cells #[.slice A n c, .int .u64 (L : Nat)] 64)) wr) ∧ Hid (okUpto xs k = true)) (fun v _ => n - (intOf v).toNat)
  case atStart => exact ⟨0, Nat.zero_le _, rfl, Kept.same _, rfl⟩
  case round =>
    obtain ⟨k, hk, rfl, Hkw, Hok⟩ := hrel
    have hbk := HB.out wr Hkw.out
    have hb0 := cell_at hbk 0
    have hb1 := cell_at hbk 1
    simp only [List.getElem?_toArray, List.getElem?_cons_zero, List.getElem?_cons_succ] at hb0 hb1
    have hlb : w.heap.size < wr.heap.size := lt_at hbk
    clear hbk
    by_cases hlt : k < n
    · have hSr := HS.out.kept ((Kept.box _ _).then Hkw.out)
      obtain ⟨a, rfl, hblk⟩ := hSr.addr (by omega)
      obtain ⟨x, Hx, hck, hx1, hx2⟩ := hSr.named k hlt
      obtain ⟨y, Hy, hck1, hy1, hy2⟩ := hSr.named (k - 1) (by omega)
      have Hnext : Hid (okUpto xs (k + 1) = (decide (-1048576 ≤ x) && decide (x ≤ 1048576) && (decide (k = 0) || decide (y < x)))) := by
        show _ = _
        rw [okUpto_succ, Hok.out, okAt_named Hx.out Hy.out, Bool.true_and]
      have Hbad : Hid (okUpto xs (k + 1) = false → mayB xs L = false) := fun h => by
        rw [okUpto_succ, Hok.out, Bool.true_and] at h
        exact (may_bad Hlen.out hlt h).symm
      clear hSr
      by_cases g1 : x < -1048576
      · have hd1 : decide (x < -1048576) = true := by simp [g1]
        go_wp2_with fail
        refine wp_region_quiet_below (by kernel_rfl) (by kernel_rfl) ?_
        repeat (any_goals (first | go_big_quiet_step ((fail)) | quiet_step ((fail)) | (refine wpQuiet_step (fun K hK => ?_); go_simp; split <;> (refine hK _ ?_; clear hK K))))
        all_goals (refine wpQuiet_nil ?_; intro w1 hw'; replace hw' := Kept.regrown hw')
        all_goals try (exfalso; omega)
        have Hk9 := Lib.hid ((Kept.box _ _).then (Hkw.out.then hw'))
        clear hw'
        go_wp2_with fail
        go_ret
        exact ⟨ret_bool (by rw [Hbad.out (by rw [Hnext.out]; simp; omega)]), Hk9.out⟩
      have hd1 : decide (x < -1048576) = false := by simp; omega
      by_cases g2 : 1048576 < x
      · have hd2 : decide (1048576 < x) = true := by simp [g2]
        go_wp2_with fail
        refine wp_region_quiet_below (by kernel_rfl) (by kernel_rfl) ?_
        repeat (any_goals (first | go_big_quiet_step ((fail)) | quiet_step ((fail)) | (refine wpQuiet_step (fun K hK => ?_); go_simp; split <;> (refine hK _ ?_; clear hK K))))
        all_goals (refine wpQuiet_nil ?_; intro w1 hw'; replace hw' := Kept.regrown hw')
        all_goals try (exfalso; omega)
        have Hk9 := Lib.hid ((Kept.box _ _).then (Hkw.out.then hw'))
        clear hw'
        go_wp2_with fail
        go_ret
        exact ⟨ret_bool (by rw [Hbad.out (by rw [Hnext.out]; simp; omega)]), Hk9.out⟩
      have hd2 : decide (1048576 < x) = false := by simp; omega
      by_cases g3 : (0 : Int) < k
      · have hd3 : decide ((0 : Int) < k) = true := by simp; omega
        have e1 : ((k - 1 : Nat) : Int) = (k : Int) - 1 := by omega
        by_cases g4 : x ≤ y
        · have hd4 : decide (x ≤ y) = true := by simp [g4]
          go_wp2_with fail
          refine wp_region_quiet_below (by kernel_rfl) (by kernel_rfl) ?_
          repeat (any_goals (first | go_big_quiet_step ((fail)) | quiet_step ((fail)) | (refine wpQuiet_step (fun K hK => ?_); go_simp; split <;> (refine hK _ ?_; clear hK K))))
          all_goals (refine wpQuiet_nil ?_; intro w1 hw'; replace hw' := Kept.regrown hw')
          all_goals try (exfalso; omega)
          have Hk9 := Lib.hid ((Kept.box _ _).then (Hkw.out.then hw'))
          clear hw'
          go_wp2_with fail
          go_ret
          exact ⟨ret_bool (by rw [Hbad.out (by rw [Hnext.out]; simp; omega)]), Hk9.out⟩
        · have hd4 : decide (x ≤ y) = false := by simp; omega
          go_wp2_with fail
          refine wp_region_quiet_below (by kernel_rfl) (by kernel_rfl) ?_
          repeat (any_goals (first | go_big_quiet_step ((fail)) | quiet_step ((fail)) | (refine wpQuiet_step (fun K hK => ?_); go_simp; split <;> (refine hK _ ?_; clear hK K))))
          all_goals (refine wpQuiet_nil ?_; intro w1 hw'; replace hw' := Kept.regrown hw')
          all_goals try (exfalso; omega)
          have Hk9 := Lib.hid (Hkw.out.then hw')
          clear hw'
          go_wp2_with fail
          have HR : Hid (∃ j : Nat, j ≤ n ∧ (Value.int .i64 ((k : Int) + 1)) = .int .i64 j ∧ Hid (Kept (w.alloc (.cells #[.slice (some a) n c, .int .u64 (L : Nat)] 64)) w1) ∧ Hid (okUpto xs j = true)) := ⟨k + 1, by omega, by simp, Hk9.out, by show _ = _; rw [Hnext.out]; simp; omega⟩
          go_roundw
          case rel => exact HR.out
          case measure => simp [intOf]; omega
      · have hd3 : decide ((0 : Int) < k) = false := by simp; omega
        go_wp2_with fail
        refine wp_region_quiet_below (by kernel_rfl) (by kernel_rfl) ?_
        repeat (any_goals (first | go_big_quiet_step ((fail)) | quiet_step ((fail)) | (refine wpQuiet_step (fun K hK => ?_); go_simp; split <;> (refine hK _ ?_; clear hK K))))
        all_goals (refine wpQuiet_nil ?_; intro w1 hw'; replace hw' := Kept.regrown hw')
        all_goals try (exfalso; omega)
        have Hk9 := Lib.hid (Hkw.out.then hw')
        clear hw'
        go_wp2_with fail
        have HR : Hid (∃ j : Nat, j ≤ n ∧ (Value.int .i64 ((k : Int) + 1)) = .int .i64 j ∧ Hid (Kept (w.alloc (.cells #[.slice (some a) n c, .int .u64 (L : Nat)] 64)) w1) ∧ Hid (okUpto xs j = true)) := ⟨k + 1, by omega, by simp, Hk9.out, by show _ = _; rw [Hnext.out]; simp; omega⟩
        go_roundw
        case rel => exact HR.out
        case measure => simp [intOf]; omega
    · have e : k = n := by omega
      subst e
      go_wp2_with fail
      go_loopw [4, 5] (fun u v wr => ∃ (k' : Nat) (z : Nat), k' ≤ k ∧ v = .int .i64 k' ∧ u = .int .u64 (z : Nat) ∧ Hid (z < 2 ^ 64) ∧ Hid (k' < 64 → z = 2 ^ k') ∧ Hid (Kept (w.alloc (.cells #[.slice A k c, .int .u64 (L : Nat)] 64)) wr)) (fun _ v _ => k - (intOf v).toNat)
      case atStart => exact ⟨0, 1, Nat.zero_le _, rfl, rfl, by show 1 < 2 ^ 64; decide, fun _ => rfl, Hkw.out⟩
      case round =>
        obtain ⟨k', z, hk', rfl, rfl, Hz, Hz2, Hkw2⟩ := hrel
        rename_i wq
        have hbk := HB.out _ Hkw2.out
        have hb0 := cell_at hbk 0
        have hb1 := cell_at hbk 1
        simp only [List.getElem?_toArray, List.getElem?_cons_zero, List.getElem?_cons_succ] at hb0 hb1
        clear hbk
        have Hm : Hid (mayB xs L = decide (L < 2 ^ k)) := by
          show _ = _
          have h1 := Hok.out
          have h2 := Hlen.out
          unfold mayB
          rw [h2, h1]
          have : decide (k ≤ 64) = true := by simp; omega
          rw [this]; simp
        by_cases hlt2 : k' < k
        · obtain ⟨z', hz'⟩ : ∃ z' : Nat, z' = 2 * z % 18446744073709551616 := ⟨_, rfl⟩
          have hw : IntKind.u64.wrap (2 * (z : Int)) = (z' : Int) := by rw [IntKind.wrap_u64]; omega
          have hw2 : (2 * (z : Int)) % 18446744073709551616 = (z' : Int) := by omega
          have Hz1 : Hid (z' < 2 ^ 64) := by show z' < 18446744073709551616; omega
          have Hz3 : Hid (k' + 1 < 64 → z' = 2 ^ (k' + 1)) := fun h => by
            have h1 := Hz2.out (by omega)
            have h2 : 2 ^ (k' + 1) < 2 ^ 64 := Nat.pow_lt_pow_right (by decide) h
            rw [Nat.pow_succ] at h2 ⊢
            have h3 : (2 : Nat) ^ 64 = 18446744073709551616 := by decide
            omega
          clear hz'
          go_wp2_with fail
          go_roundw
          case rel => exact ⟨k' + 1, z', by omega, by go_num, rfl, Hz1.out, Hz3.out, Hkw2.out⟩
          case measure => simp [intOf]; omega
        · have e : k' = k := by omega
          subst e
          by_cases g : (k' : Int) = 64
          · have hd5 : ((k' : Int) == 64) = true := by simp [g]
            have e : k' = 64 := by omega
            subst e
            go_wp2_with fail
            go_ret
            exact ⟨ret_bool (by rw [Hm.out]; simpa using hL), (Kept.box _ _).then Hkw2.out⟩
          · have hd5 : ((k' : Int) == 64) = false := by simp; omega
            have Hzz := Lib.hid (Hz2.out (by omega))
            go_wp2_with fail
            go_ret
            exact ⟨ret_bool (by rw [Hm.out, ← Hzz.out]), (Kept.box _ _).then Hkw2.out⟩

theorem own_empty {w : World} {base g : Nat} {e : TypeId} {size : Nat} (h : w.heap[g]? = some (.cells #[] e (0, 0))) (hb : base ≤ g) : w.ownsRow base e size (.slice (some ⟨g, 0, Option.none⟩) 0 0) 0 [] :=
  ⟨by simp, .inr ⟨g, 0, #[], rfl, hb, h, Nat.le_refl 0, by unfold maxLen; omega, by simp, by simp⟩⟩

/-- The values that are left, up to a place. -/
def valsUpto (xs : List Int) (L k : Nat) : List Int := ((upto L k).map Int.ofNat).map fun i => xs.getD i.toNat 0
theorem valsUpto_succ (xs : List Int) (L k : Nat) : valsUpto xs L (k + 1) = valsUpto xs L k ++ (if L.testBit k then [xs.getD k 0] else []) := by
  unfold valsUpto
  rw [upto_succ]
  split <;> simp
theorem valsUpto_all {xs : List Int} {L : Nat} (h : mayB xs L = true) : valsUpto xs L xs.length = valsOf xs L := by
  unfold valsUpto valsOf elemsI
  rw [elems_of_lt (mayB_lt h) (mayB_len h)]

theorem rdlist_any (A : Option Addr) (n c L : Nat) (xs : List Int) (w : World) (hS : Ints w A n xs) (hL : L < 2 ^ 64) :
    Calls Tryd.prog 39 #[.agg #[.slice A n c, .int .u64 L]] w (ListPost (listB xs L) w) := by
  obtain ⟨i0, hi, hz0, hz1, hz2⟩ := info_parts info_int
  have HS := Lib.hid hS
  have HL := Lib.hid hL
  have Hlen := Lib.hid hS.len
  have hsm := hS.small
  have hmay : Hid (∀ W, Ints W A n xs → Calls Tryd.prog 66 #[.agg #[.slice A n c, .int .u64 L]] W fun e w' => e = .returned (.bool (mayB xs L)) ∧ Kept W w') := fun W hW => rmay_any A n c L xs W hW HL.out
  have HB : Hid (∀ wr, Kept (w.alloc (.cells #[.slice A n c, .int .u64 (L : Nat)] 64)) wr → wr.heap[w.heap.size]? = some (.cells #[.slice A n c, .int .u64 (L : Nat)] 64)) := fun wr h => h.heapAt (heap_new _ _)
  clear hS hL
  by_cases hm : mayB xs L = true
  · have hl : listB xs L = valsOf xs L := if_pos hm
    rw [hl]
    rw [hm] at hmay
    have Hm := Lib.hid hm
    have Hrng := Lib.hid (valsOf_rng hm)
    have hn64 : n ≤ 64 := by have := mayB_len hm; have := Hlen.out; omega
    clear hm hl
    go_enter Tryd.func39, Tryd.ntmps39
    go_wp2_with fail
    refine (hmay.out _ (HS.out.kept ((Kept.box _ _).newBlock _))).mono ?_
    rintro e w1 ⟨rfl, hk⟩
    have HK1 := Lib.hid ((Kept.box (w.alloc (.cells #[.slice A n c, .int .u64 (L : Nat)] 64)) (.cells #[] 3)).then hk)
    have Hown1 : Hid (w1.ownsRow (w.heap.size + 1) 3 1 (.slice (some ⟨w.heap.size + 1, 0, Option.none⟩) 0 0) 0 []) := own_empty (hk.heapAt (heap_new2 _ _ _)) (Nat.le_refl _)
    have hbk := HB.out _ HK1.out
    have hb0 := cell_at hbk 0
    have hb1 := cell_at hbk 1
    simp only [List.getElem?_toArray, List.getElem?_cons_zero, List.getElem?_cons_succ] at hb0 hb1
    clear hbk hk hmay
    go_wp2_with fail
    clear hb0 hb1
    go_loopw [3, 4, 5] (fun u x v wr => ∃ (k z : Nat), k ≤ n ∧ v = .int .i64 k ∧ x = .int .u64 (z : Nat) ∧ Hid (z = L / 2 ^ k) ∧ wr.ownsRow (w.heap.size + 1) 3 1 u (valsUpto xs L k).length ((valsUpto xs L k).map (Value.int .i64)) ∧ Hid (Kept (w.alloc (.cells #[.slice A n c, .int .u64 (L : Nat)] 64)) wr)) (fun _ _ v _ => n - (intOf v).toNat)
    case atStart => exact ⟨0, L, Nat.zero_le _, rfl, rfl, by show L = L / 2 ^ 0; simp, Hown1.out, HK1.out⟩
    case round =>
      obtain ⟨k, z, hk, rfl, rfl, Hz, hown, Hkw⟩ := hrel
      have hbk := HB.out _ Hkw.out
      have hb0 := cell_at hbk 0
      have hb1 := cell_at hbk 1
      simp only [List.getElem?_toArray, List.getElem?_cons_zero, List.getElem?_cons_succ] at hb0 hb1
      have hszr := Hkw.out.size
      simp only [World.size_alloc] at hszr
      clear hbk
      by_cases hlt : k < n
      · have hSr := HS.out.kept ((Kept.box _ _).then Hkw.out)
        obtain ⟨a, rfl, hblk⟩ := hSr.addr (by omega)
        obtain ⟨x, Hx, hcx, hx1, hx2⟩ := hSr.named k hlt
        have hzL : z ≤ L := by rw [Hz.out]; exact Nat.div_le_self _ _
        have hwz : IntKind.u64.wrap ((z : Int) / 2) = (z : Int) / 2 := by rw [IntKind.wrap_u64]; have := HL.out; omega
        have Hnz : Hid (z / 2 = L / 2 ^ (k + 1)) := by show _ = _; rw [Hz.out, Nat.div_div_eq_div_mul, Nat.pow_succ]
        have Hvl : Hid ((valsUpto xs L k).length ≤ k) := by
          show _ ≤ _
          unfold valsUpto
          rw [List.length_map]
          exact uptoI_length_le L k
        have hvl := Hvl.out
        have Hsucc := Lib.hid (valsUpto_succ xs L k)
        have Hbit : Hid (L.testBit k = decide (z % 2 = 1)) := by show _ = _; rw [testBit_div, Hz.out]
        clear hSr
        by_cases hbit : z % 2 = 1
        · have hd : ((z : Int) % 2 == 1) = true := by simp; omega
          have Hs2 : Hid (valsUpto xs L (k + 1) = valsUpto xs L k ++ [x]) := by
            show _ = _
            rw [Hsucc.out, Hbit.out, Hx.out]; simp [hbit]
          clear Hsucc Hbit Hvl
          generalize valsUpto xs L k = ys at *
          go_wp2_with (at_builtin; refine wpList_append_own _ rfl _ _ 22 rfl (w.heap.size + 1) 3 i0 (.int .i64 0) 1 8 Tryd.underlying22 hi hz0 hz1 hz2 rfl (by decide) _ _ _ rfl (hown.alloc _) ⟨wr.heap.size, 0, none⟩ 1 1 [.int .i64 x] rfl rfl (cell_one_new _ _ _) (by simp [Value.oneCell']) (by unfold maxLen; omega) (by omega) (by simp; omega) ?_; intro v' w2 hown' hgrow _; clear hcx hb0 hb1)
          go_roundw
          case rel => exact ⟨k + 1, z / 2, by omega, by go_num, by simp, Hnz.out, by rw [Hs2.out]; simpa using hown', Hkw.out.appended hown (by simp) hgrow⟩
          case measure => simp [intOf]; omega
        · have hd : ((z : Int) % 2 == 1) = false := by simp; omega
          have Hs2 : Hid (valsUpto xs L (k + 1) = valsUpto xs L k) := by
            show _ = _
            rw [Hsucc.out, Hbit.out]; simp [hbit]
          clear Hsucc Hbit Hvl
          go_wp2_with fail
          go_roundw
          case rel => exact ⟨k + 1, z / 2, by omega, by go_num, by simp, Hnz.out, by rw [Hs2.out]; exact hown, Hkw.out⟩
          case measure => simp [intOf]; omega
      · have e : k = n := by omega
        subst e
        have e2 : valsUpto xs L k = valsOf xs L := by rw [← Hlen.out]; exact valsUpto_all Hm.out
        rw [e2] at hown
        obtain ⟨A', c', rfl, hI, hfr⟩ := Ints.of_own hown (fun x hx => by have := Hrng.out x hx; omega)
        have HI := Lib.hid hI
        have Hfr : Hid (Fresh w A') := fun a ha => by have := hfr a ha; omega
        clear hfr hI hown e2
        go_wp2_with fail
        go_ret
        exact ⟨A', c', rfl, HI.out, (Kept.box _ _).then Hkw.out, Hfr.out⟩
  · have hl : listB xs L = [] := if_neg hm
    rw [hl]
    rw [Bool.eq_false_iff.2 hm] at hmay
    clear hm hl
    go_enter Tryd.func39, Tryd.ntmps39
    go_wp2_with fail
    refine (hmay.out _ (HS.out.kept ((Kept.box _ _).newBlock _))).mono ?_
    rintro e w1 ⟨rfl, hk⟩
    have HK1 := Lib.hid (((Kept.box _ _).newBlock _).then hk)
    clear hk hmay
    go_wp2_with fail
    go_ret
    exact ⟨_, _, rfl, ⟨rfl, by decide, by simp, fun h => by simp at h⟩, HK1.out, fun a ha => by cases ha; simp⟩
end Go.Proofs.YtjmegicopdbkdaaDoor

set_option maxHeartbeats 1000000
set_option maxRecDepth 10000
namespace Go.Proofs.YtjmegicopdbkdaaDoor
open Go Go.RowKit Pl

/-- It reads as lists of whole numbers. -/
structure LL (w : World) (A : Option Addr) (n : Nat) (ls : List (List Int)) : Prop where
  len : ls.length = n
  small : n ≤ 9223372036854775807
  cell : 0 < n → ∃ a, A = some a ∧ ∀ j, j < n → ∃ B m c, w.cell? (a.add j) = some (.slice B m c) ∧ Ints w B m (ls.getD j [])
theorem LL.kept {w w' : World} {A : Option Addr} {n : Nat} {ls : List (List Int)} (h : LL w A n ls) (hk : Kept w w') : LL w' A n ls :=
  ⟨h.len, h.small, fun hn => by
    obtain ⟨a, e, hc⟩ := h.cell hn
    refine ⟨a, e, fun j hj => ?_⟩
    obtain ⟨B, m, c, h1, h2⟩ := hc j hj
    exact ⟨B, m, c, hk.cellAt h1, h2.kept hk⟩⟩
theorem LL.named {w : World} {A : Option Addr} {n : Nat} {ls : List (List Int)} (h : LL w A n ls) (k : Nat) (hk : k < n) :
    ∃ (a : Addr) (l : List Int) (B : Option Addr) (m c : Nat), A = some a ∧ a.block < w.heap.size ∧ Hid (ls.getD k [] = l) ∧ w.cell? (a.add k) = some (.slice B m c) ∧ Hid (Ints w B m l) := by
  obtain ⟨a, rfl, hc⟩ := h.cell (by omega)
  obtain ⟨B, m, c, h1, h2⟩ := hc k hk
  have := World.block_lt_of_cell? w _ h1
  rw [add_block'] at this
  exact ⟨a, _, B, m, c, rfl, this, rfl, h1, h2⟩

/-- The slice u, in blocks from base on, owns the lists; their numbers do not lie in its own block. -/
def OwnL (w : World) (base : Nat) (u : Value) (ls : List (List Int)) : Prop :=
  ∃ vs : List Value, w.ownsRow base 22 1 u ls.length vs ∧ ∀ j, j < ls.length → ∃ B m c, vs[j]? = some (.slice B m c) ∧ Ints w B m (ls.getD j []) ∧ (0 < m → ∀ a, B = some a → u.ownBlock ≠ some a.block)
theorem OwnL.kept {w w' : World} {base : Nat} {u : Value} {ls : List (List Int)} (h : OwnL w base u ls) (hk : Kept w w') : OwnL w' base u ls := by
  obtain ⟨vs, hown, hd⟩ := h
  refine ⟨vs, own_kept hown hk, fun j hj => ?_⟩
  obtain ⟨B, m, c, h1, h2, h3⟩ := hd j hj
  exact ⟨B, m, c, h1, h2.kept hk, h3⟩
theorem OwnL.snoc {w1 w2 : World} {base g cap : Nat} {u : Value} {ls : List (List Int)} {l : List Int} {B : Option Addr} {m c : Nat} {vs : List Value}
    (hown : w1.ownsRow base 22 1 u ls.length vs) (hd : ∀ j, j < ls.length → ∃ B m c, vs[j]? = some (.slice B m c) ∧ Ints w1 B m (ls.getD j []) ∧ (0 < m → ∀ a, B = some a → u.ownBlock ≠ some a.block))
    (hI : Ints w1 B m l) (hB : 0 < m → ∀ a, B = some a → u.ownBlock ≠ some a.block)
    (h2 : w2.ownsRow base 22 1 (.slice (some ⟨g, 0, Option.none⟩) (ls.length + 1) cap) (ls.length + 1) (vs ++ [.slice B m c]))
    (hg : w1.grownBy w2 u.ownBlock) (hat : u.ownBlock = some g ∨ w1.heap.size ≤ g) : OwnL w2 base (.slice (some ⟨g, 0, Option.none⟩) (ls.length + 1) cap) (ls ++ [l]) := by
  have hlen : vs.length = ls.length := by have := hown.1; omega
  have hne : ∀ a : Addr, a.block < w1.heap.size → u.ownBlock ≠ some a.block → Value.ownBlock (.slice (some ⟨g, 0, Option.none⟩) (ls.length + 1) cap) ≠ some a.block := by
    intro a h1 h2 e
    simp only [Value.ownBlock, Option.some.injEq] at e
    rcases hat with h | h
    · rw [h, e] at h2; exact h2 rfl
    · omega
  have hint : ∀ {B : Option Addr} {m : Nat} {xs : List Int}, Ints w1 B m xs → (0 < m → ∀ a, B = some a → u.ownBlock ≠ some a.block) → Ints w2 B m xs := by
    intro B m xs h hb
    refine ⟨h.len, h.small, h.rng, fun hn => ?_⟩
    obtain ⟨a, e, hc⟩ := h.cell hn
    exact ⟨a, e, fun j hj => hg.cell (hc j hj) (by rw [add_block']; exact fun e' => hb hn a e e'.symm)⟩
  have hblk : ∀ {B : Option Addr} {m : Nat} {xs : List Int}, Ints w1 B m xs → 0 < m → ∀ a, B = some a → a.block < w1.heap.size := by
    intro B m xs h hn a ha
    subst ha
    exact h.block hn
  refine ⟨vs ++ [.slice B m c], by rw [List.length_append]; exact h2, fun j hj => ?_⟩
  rw [List.length_append] at hj
  simp only [List.length_cons, List.length_nil] at hj
  by_cases hlt : j < ls.length
  · have e0 : (ls ++ [l]).getD j [] = ls.getD j [] := by simp only [List.getD_eq_getElem?_getD, List.getElem?_append_left hlt]
    rw [e0]
    obtain ⟨B', m', c', e1, e3, e4⟩ := hd j hlt
    refine ⟨B', m', c', ?_, hint e3 e4, fun hn a ha => hne a (hblk e3 hn a ha) (e4 hn a ha)⟩
    rw [List.getElem?_append_left (by omega)]; exact e1
  · have e : j = ls.length := by omega
    subst e
    have e0 : (ls ++ [l]).getD ls.length [] = l := by simp [List.getD_eq_getElem?_getD]
    rw [e0]
    refine ⟨B, m, c, ?_, hint hI hB, fun hn a ha => hne a (hblk hI hn a ha) (hB hn a ha)⟩
    rw [List.getElem?_append_right (by omega), hlen]; simp
theorem OwnL.parts {w : World} {base : Nat} {u : Value} {ls : List (List Int)} (h : OwnL w base u ls) : ∃ A c, u = .slice A ls.length c := by
  obtain ⟨vs, hown, _⟩ := h
  rcases hown.2 with ⟨rfl, h0⟩ | ⟨g, cap, cur, rfl, _⟩
  · rw [h0]; exact ⟨_, _, rfl⟩
  · exact ⟨_, _, rfl⟩
theorem OwnL.lists {w : World} {base c : Nat} {A : Option Addr} {n : Nat} {ls : List (List Int)} (h : OwnL w base (.slice A n c) ls) (hn : ls.length = n) (hs : n ≤ 9223372036854775807) : LL w A n ls := by
  obtain ⟨vs, hown, hd⟩ := h
  subst hn
  refine ⟨rfl, hs, fun h0 => ?_⟩
  obtain ⟨g, cap, e, hb, hlt⟩ := hown.form h0
  cases e
  refine ⟨_, rfl, fun j hj => ?_⟩
  obtain ⟨B, m, c, e1, e3, _⟩ := hd j hj
  exact ⟨B, m, c, hown.cells (g := g) rfl _ _ e1, e3⟩
theorem OwnL.set {w : World} {base g n cap p : Nat} {ls : List (List Int)} {l : List Int} {B : Option Addr} {m c : Nat} (h : OwnL w base (.slice (some ⟨g, 0, Option.none⟩) n cap) ls) (hn : ls.length = n) (_hp : p < n) (hI : Ints w B m l) (hB : 0 < m → ∀ a, B = some a → a.block ≠ g) :
    OwnL (w.setCell ⟨g, p, Option.none⟩ (.slice B m c)) base (.slice (some ⟨g, 0, Option.none⟩) n cap) (ls.set p l) := by
  obtain ⟨vs, hown, hd⟩ := h
  subst hn
  have hlen : vs.length = ls.length := by have := hown.1; omega
  have h2 := (hown.stored p (.slice B m c)).1
  have hk : KeptBut g w (w.setCell ⟨g, p, Option.none⟩ (.slice B m c)) := KeptBut.set _ (a := ⟨g, p, Option.none⟩) rfl _
  refine ⟨_, by rw [List.length_set]; exact h2, fun j hj => ?_⟩
  rw [List.length_set] at hj
  by_cases e : j = p
  · subst e
    have e0 : (ls.set j l).getD j [] = l := by simp [List.getD_eq_getElem?_getD, hj]
    rw [e0]
    refine ⟨B, m, c, ?_, hI.keptBut0 hk hB, fun hn a ha e => hB hn a ha (by simpa [Value.ownBlock] using e.symm)⟩
    rw [List.getElem?_set_self (by omega)]
  · have e0 : (ls.set p l).getD j [] = ls.getD j [] := by simp only [List.getD_eq_getElem?_getD, List.getElem?_set_ne (fun h => e h.symm)]
    rw [e0]
    obtain ⟨B', m', c', e1, e3, e4⟩ := hd j hj
    refine ⟨B', m', c', ?_, e3.keptBut0 hk (fun hn a ha e => e4 hn a ha (by simp [Value.ownBlock, e])), e4⟩
    rw [List.getElem?_set_ne (by omega)]; exact e1
/-- A cell of the row stands there, and may be written. -/
theorem OwnL.at {w : World} {base g n cap : Nat} {ls : List (List Int)} (h : OwnL w base (.slice (some ⟨g, 0, Option.none⟩) n cap) ls) (hn : ls.length = n) (p : Nat) (hp : p < n) :
    (∃ v, w.cell? ⟨g, p, Option.none⟩ = some v) ∧ w.frozen? ⟨g, p, Option.none⟩ = false := by
  obtain ⟨vs, hown, hd⟩ := h
  subst hn
  obtain ⟨B, m, c, e1, _, _⟩ := hd p hp
  exact ⟨⟨_, by rw [hown.cellAt _ (by omega)]; exact e1⟩, hown.frozenAt _⟩

/-- What is left of each. -/
def listsOf (ds : List DomB) : List (List Int) := ds.map fun d => listB d.1 d.2
theorem listsOf_getD (ds : List DomB) {i : Nat} (hi : i < ds.length) : (listsOf ds).getD i [] = listB (ds.getD i nilD).1 (ds.getD i nilD).2 := by
  unfold listsOf
  rw [List.getD_eq_getElem?_getD, List.getElem?_map, List.getD_eq_getElem?_getD, List.getElem?_eq_getElem hi]
  rfl

theorem info_ints : (Tryd.prog.info? 22).map (fun i => (i.zero, i.size, i.bytes)) = some (some (.slice Option.none 0 0), 1, 24) := by kernel_rfl
/-- Lists are handed back, in a slice of the call's own. -/
def ListsPost (ls : List (List Int)) (w : World) (e : Ending) (w' : World) : Prop :=
  ∃ A c, e = .returned (.slice A ls.length c) ∧ LL w' A ls.length ls ∧ Kept w w'

theorem rlists_any (A : Option Addr) (n c : Nat) (ds : List DomB) (w : World) (hS : Doms w A n ds) (hn : n ≤ 1000) :
    Calls Tryd.prog 34 #[.slice A n c] w (ListsPost (listsOf ds) w) := by
  obtain ⟨i0, hi, hz0, hz1, hz2⟩ := info_parts info_ints
  have HS := Lib.hid hS
  have Hlen := Lib.hid hS.len
  clear hS
  go_enter Tryd.func34, Tryd.ntmps34
  go_wp2_with fail
  go_loopw [3, 4] (fun u v wr => ∃ k : Nat, k ≤ n ∧ v = .int .i64 k ∧ Hid (OwnL wr w.heap.size u (listsOf (ds.take k))) ∧ Hid (Kept w wr)) (fun _ v _ => n - (intOf v).toNat)
  case atStart =>
    refine ⟨0, Nat.zero_le _, rfl, ?_, Kept.box _ _⟩
    exact ⟨[], World.ownsRow_made w #[] 0 (Nat.le_refl _) (by decide) rfl, fun j hj => by simp [listsOf] at hj⟩
  case round =>
    obtain ⟨k, hk, rfl, HO, Hkw⟩ := hrel
    by_cases hlt : k < n
    · have hSr := HS.out.kept Hkw.out
      obtain ⟨a, rfl, hblk⟩ := hSr.addr (by omega)
      obtain ⟨xs, L, B, m, cB, Hd, hc1, hc2, HI, hL⟩ := hSr.named k hlt
      clear hSr
      go_wp2_with fail
      refine (rdlist_any B m cB L xs _ HI.out hL).mono ?_
      rintro e w1 ⟨Bl, cl, rfl, hIl, hk1, hfl⟩
      have HIl := Lib.hid hIl
      have Hk1 := Lib.hid hk1
      have Hfl := Lib.hid hfl
      obtain ⟨vs, hown, hd⟩ := HO.out
      have hkl : (listsOf (ds.take k)).length = k := by unfold listsOf; rw [List.length_map, List.length_take]; have := Hlen.out; omega
      rw [hkl] at hown hd
      have Hul : Hid (∀ i, u3.ownBlock = some i → w.heap.size ≤ i ∧ i < wr.heap.size) := hown.lt
      have Hown := Lib.hid (own_kept hown hk1)
      have Hdd := Lib.hid hd
      have hszr := Hkw.out.size
      have hsz1 := hk1.size
      have Hlb : Hid (listsOf (ds.take (k + 1)) = listsOf (ds.take k) ++ [listB xs L]) := by
        show _ = _
        rw [take_dom (by have := Hlen.out; omega) Hd.out]
        unfold listsOf
        rw [List.map_append]; rfl
      have hel := listB_length xs L
      clear hIl hk1 hfl hown hd hc1 hc2
      generalize listB xs L = l at *
      generalize hmm : l.length = mm at *
      clear hmm
      go_wp2_with (at_builtin; refine wpList_append_own_at _ rfl _ _ 59 rfl w.heap.size 22 i0 (.slice Option.none 0 0) 1 24 Tryd.underlying59 hi hz0 hz1 hz2 rfl (by decide) _ _ _ rfl (Hown.out.alloc _) ⟨w1.heap.size, 0, none⟩ 1 1 [.slice Bl mm cl] rfl rfl (cell_one_new _ _ _) (by simp [Value.oneCell']) (by unfold maxLen; omega) (by omega) (by simp; omega) ?_; intro v' w2 hown' hgrow _ hloc; obtain ⟨g, cap, rfl, hgb, hgl⟩ := hown'.form (by omega))
      go_roundw
      case rel =>
        refine ⟨k + 1, by omega, by go_num, ?_, ?_⟩
        · show OwnL _ _ _ _
          rw [Hlb.out]
          have hk2 := Kept.box w1 (.cells #[.slice Bl mm cl] 22)
          have := OwnL.snoc (ls := listsOf (ds.take k)) (l := l) (c := cl) (by rw [hkl]; exact Hown.out.alloc _) ?_ (HIl.out.kept hk2) ?_ (by rw [hkl]; exact hown') hgrow ?_
          · rw [hkl] at this; exact this
          · rw [hkl]
            intro j hj
            obtain ⟨B1, m1, c1', e1, e3, e4⟩ := Hdd.out j hj
            exact ⟨B1, m1, c1', e1, e3.kept (Hk1.out.then hk2), e4⟩
          · intro _ a' ha' e
            have := Hul.out _ e
            have := Hfl.out a' ha'
            omega
          · rcases hloc with h | h
            · exact Or.inl (by rw [← h]; rfl)
            · right
              have : g = w1.heap.size + 1 := by simpa [Value.ownBlock] using h
              simp only [World.size_alloc]
              omega
        · show Kept w w2
          exact ((Hkw.out.then Hk1.out).newBlock _).grown hgrow (by simp; omega) (fun i hi => (Hul.out i hi).1)
      case measure => simp [intOf]; omega
    · have e : k = n := by omega
      subst e
      rw [List.take_of_length_le (by have := Hlen.out; omega)] at HO
      obtain ⟨A5, c5, rfl⟩ := HO.out.parts
      have hl5 : (listsOf ds).length = k := by unfold listsOf; rw [List.length_map]; exact Hlen.out
      have HD := Lib.hid (HO.out.lists (n := (listsOf ds).length) rfl (by omega))
      clear HO
      go_wp2_with fail
      go_ret
      exact ⟨A5, c5, rfl, HD.out, Hkw.out⟩
end Go.Proofs.YtjmegicopdbkdaaDoor

set_option maxHeartbeats 1000000
set_option maxRecDepth 10000
namespace Go.Proofs.YtjmegicopdbkdaaDoor
open Go Go.RowKit Pl

theorem LL.row {w : World} {a : Addr} {n : Nat} {ls : List (List Int)} (h : LL w (some a) n ls) (hn : 0 < n) :
    ∃ vs : List Value, vs.length = n * 1 ∧ (∀ j u, vs[j]? = some u → w.cell? (a.add j) = some u) ∧ (∀ u ∈ vs, u.oneCell' = true) ∧
      ∀ j, j < n → ∃ B m c, vs[j]? = some (.slice B m c) ∧ Ints w B m (ls.getD j []) := by
  obtain ⟨b, e, hc⟩ := h.cell hn
  cases e
  refine ⟨(List.range n).map fun i => (w.cell? (a.add i)).getD undef, by simp, ?_, ?_, ?_⟩
  · intro j u hu
    rw [List.getElem?_map] at hu
    by_cases hj : j < n
    · rw [List.getElem?_range hj] at hu
      simp only [Option.map_some, Option.some.injEq] at hu
      obtain ⟨B, m, c, h1, _⟩ := hc j hj
      rw [h1] at hu ⊢; simpa using hu
    · rw [List.getElem?_eq_none (by simp; omega)] at hu
      simp at hu
  · intro u hu
    rw [List.mem_map] at hu
    obtain ⟨j, hj, rfl⟩ := hu
    obtain ⟨B, m, c, h1, _⟩ := hc j (List.mem_range.1 hj)
    rw [h1]; rfl
  · intro j hj
    obtain ⟨B, m, c, h1, h3⟩ := hc j hj
    exact ⟨B, m, c, by rw [List.getElem?_map, List.getElem?_range hj]; simp [h1], h3⟩

theorem any_snoc (f : Int → Bool) (l : List Int) (v : Int) : (l ++ [v]).any f = (l.any f || f v) := by rw [List.any_append]; simp

theorem keptBut_grown {B : Nat} {w0 w w2 : World} (h : KeptBut B w0 w) (o : Obj) {r : Option Nat} (hg : (w.alloc o).grownBy w2 r) (hr : ∀ i, r = some i → i = B ∨ w0.heap.size ≤ i) : KeptBut B w0 w2 := by
  have h1 := h.then (KeptBut.of (Kept.box w o) B)
  exact ⟨hg.os.trans h1.os, hg.tape.trans h1.tape, hg.output.trans h1.output, Nat.le_trans h1.size hg.size, fun k hk hB =>
    (hg.block k (Nat.lt_of_lt_of_le hk h1.size) (fun e => by rcases hr k e.symm with h | h <;> omega)).trans (h1.block k hk hB)⟩

end Go.Proofs.YtjmegicopdbkdaaDoor

set_option maxHeartbeats 1000000
set_option maxRecDepth 10000
namespace Go.Proofs.YtjmegicopdbkdaaDoor
open Go Go.RowKit Pl

/-- Lists are handed back, in a slice that the call owns. -/
def OwnLPost (n : Nat) (ls : List (List Int)) (w : World) (e : Ending) (w' : World) : Prop :=
  ∃ g c, e = .returned (.slice (some ⟨g, 0, Option.none⟩) n c) ∧ OwnL w' w.heap.size (.slice (some ⟨g, 0, Option.none⟩) n c) ls ∧ w.heap.size ≤ g ∧ g < w'.heap.size ∧ Kept w w'

theorem own_lower {w : World} {base base' : Nat} {e : TypeId} {size n : Nat} {v : Value} {xs : List Value} (h : w.ownsRow base e size v n xs) (hb : base' ≤ base) : w.ownsRow base' e size v n xs :=
  ⟨h.1, h.2.imp id (fun ⟨g, cap, cur, hv, hb2, r⟩ => ⟨g, cap, cur, hv, Nat.le_trans hb hb2, r⟩)⟩

theorem rnone_any (K R Ct : Int) (A1 A2 A3 : Option Addr) (n1 c1 n2 c2 n3 c3 : Nat) (C : ConB) (A : Option Addr) (n c : Nat) (ls : List (List Int)) (w : World) (hC : ConIn w K R Ct A1 A2 A3 n1 c1 n2 c2 n3 c3 C) (hL : LL w A n ls) (hv : varsOk C.vars n = true) (h0 : 0 < n) (hn : n ≤ 1000) :
    Calls Tryd.prog 35 #[.agg #[.int .i64 K, .slice A1 n1 c1, .slice A2 n2 c2, .int .i64 R, .int .i64 Ct, .slice A3 n3 c3], .slice A n c] w (OwnLPost n (noneU C.vars ls n1) w) := by
  obtain ⟨i0, hi, hz0, hz1, hz2⟩ := info_parts info_ints
  have HC := Lib.hid hC
  have HL := Lib.hid hL
  have Hv := Lib.hid hv
  have Hlen := Lib.hid hL.len
  have Hl1 := Lib.hid hC.vars.len
  have hs1 := hC.vars.small
  obtain ⟨a, _, _, _, _, rfl, hba, _, _, _⟩ := hL.named 0 h0
  obtain ⟨vs, hvl, hvc, hvo, hvd⟩ := hL.row h0
  have Hvd := Lib.hid hvd
  have Hvc := Lib.hid hvc
  clear hC hL hv hvd hvc
  have HR0 : Hid (((w.alloc (.cells #[.int .i64 K, .slice A1 n1 c1, .slice A2 n2 c2, .int .i64 R, .int .i64 Ct, .slice A3 n3 c3] 24)).alloc (.cells #[] 22)).ownsRow (w.heap.size + 1) 22 1 (.slice (some ⟨w.heap.size + 1, 0, Option.none⟩) 0 0) 0 []) := own_empty (heap_new2 _ _ _) (Nat.le_refl _)
  have HB : Hid (∀ wr, Kept (w.alloc (.cells #[.int .i64 K, .slice A1 n1 c1, .slice A2 n2 c2, .int .i64 R, .int .i64 Ct, .slice A3 n3 c3] 24)) wr → wr.heap[w.heap.size]? = some (.cells #[.int .i64 K, .slice A1 n1 c1, .slice A2 n2 c2, .int .i64 R, .int .i64 Ct, .slice A3 n3 c3] 24)) := fun wr h => h.heapAt (heap_new _ _)
  go_enter Tryd.func35, Tryd.ntmps35
  go_wp2_with (at_builtin; refine wpList_append_own _ rfl _ _ 59 rfl (w.heap.size + 1) 22 i0 (.slice Option.none 0 0) 1 24 Tryd.underlying59 hi hz0 hz1 hz2 rfl (by decide) _ _ _ rfl HR0.out a n c vs rfl hvl (fun j u hu => ((Kept.box w _).newBlock _).cellAt (Hvc.out j u hu)) hvo (by unfold maxLen; omega) (by omega) (by simp) ?_; intro v' w2 hown' hgrow _; rw [Nat.zero_add, List.nil_append] at hown'; obtain ⟨g, cap, rfl, hgb, hgl⟩ := hown'.form h0)
  have HK : Hid (Kept (w.alloc (.cells #[.int .i64 K, .slice A1 n1 c1, .slice A2 n2 c2, .int .i64 R, .int .i64 Ct, .slice A3 n3 c3] 24)) w2) := (Kept.box _ (.cells #[] 22)).grown hgrow (by simp) (fun i hi => by simp [Act.eval, Value.ownBlock] at hi; simp; omega)
  have HKw := Lib.hid ((Kept.box w _).then HK.out)
  have HO : Hid (OwnL w2 w.heap.size (.slice (some ⟨g, 0, Option.none⟩) n cap) ls) := by
    refine ⟨vs, by rw [Hlen.out]; exact own_lower hown' (Nat.le_succ _), fun j hj => ?_⟩
    rw [Hlen.out] at hj
    obtain ⟨B', m', c', e1, e3⟩ := Hvd.out j hj
    refine ⟨B', m', c', e1, e3.kept HKw.out, fun hm a' ha' e => ?_⟩
    subst ha'
    have := e3.block hm
    simp only [Value.ownBlock, Option.some.injEq] at e
    omega
  clear hown' hgrow hvo hvl
  go_wp2_with fail
  go_loopw [6] (fun u wr => ∃ j : Nat, j ≤ n1 ∧ u = .int .i64 j ∧ Hid (OwnL wr w.heap.size (.slice (some ⟨g, 0, Option.none⟩) n cap) (noneU C.vars ls j)) ∧ Hid (KeptBut g w2 wr)) (fun u _ => n1 - (intOf u).toNat)
  case atStart => exact ⟨0, Nat.zero_le _, rfl, HO.out, KeptBut.refl _ _⟩
  case round =>
    obtain ⟨j, hj, rfl, HOr, Hkr⟩ := hrel
    have HKb : Hid (Kept (w.alloc (.cells #[.int .i64 K, .slice A1 n1 c1, .slice A2 n2 c2, .int .i64 R, .int .i64 Ct, .slice A3 n3 c3] 24)) wr) := ((KeptBut.of HK.out g).then Hkr.out).kept (by simp; omega)
    have HKq := Lib.hid ((Kept.box w _).then HKb.out)
    have hb := HB.out wr HKb.out
    have b0 := cell_at hb 0
    have b1 := cell_at hb 1
    have b2 := cell_at hb 2
    have b3 := cell_at hb 3
    have b4 := cell_at hb 4
    have b5 := cell_at hb 5
    simp only [List.getElem?_toArray, List.getElem?_cons_zero, List.getElem?_cons_succ] at b0 b1 b2 b3 b4 b5
    clear hb
    have hlb : w.heap.size < wr.heap.size := World.block_lt_of_cell? wr _ b0
    have hgr : g < wr.heap.size := by have := Hkr.out.size; omega
    by_cases hlt : j < n1
    · obtain ⟨av, hav, hbv⟩ := (HC.out.vars.kept HKq.out).addr (by omega)
      subst hav
      obtain ⟨v, Hv1, hcv, _, _⟩ := (HC.out.vars.kept HKq.out).named j hlt
      obtain ⟨hv0, hv1⟩ := varsOk_rng Hv.out (i := j) (by have := Hl1.out; omega)
      rw [Hv1.out] at hv0 hv1
      obtain ⟨p, rfl⟩ := Int.eq_ofNat_of_zero_le hv0
      have hpn : p < n := by omega
      have Hln : Hid ((noneU C.vars ls j).length = n) := by show _ = _; rw [noneU_length]; exact Hlen.out
      obtain ⟨⟨vv, hcc⟩, hfz⟩ := HOr.out.at Hln.out p hpn
      have hset := HOr.out.set Hln.out hpn (B := Option.none) (m := 0) (c := 0) (l := []) (Ints.none _) (fun h => absurd h (Nat.lt_irrefl _))
      have Hnx : Hid (noneU C.vars ls (j + 1) = (noneU C.vars ls j).set p []) := by show _ = _; simp only [noneU]; rw [Hv1.out, Int.toNat_natCast]
      have HOn : Hid (OwnL (wr.setCell ⟨g, p, Option.none⟩ (.slice Option.none 0 0)) w.heap.size (.slice (some ⟨g, 0, Option.none⟩) n cap) (noneU C.vars ls (j + 1))) := by
        show OwnL _ _ _ _
        rw [Hnx.out]; exact hset
      clear hset
      go_wp2_with fail
      go_roundw
      case rel => exact ⟨j + 1, by omega, by go_num, HOn.out, Hkr.out.then (KeptBut.set _ (a := ⟨g, p, Option.none⟩) rfl _)⟩
      case measure => simp [intOf]; omega
    · have e : j = n1 := by omega
      subst e
      go_wp2_with fail
      go_ret
      exact ⟨g, cap, rfl, HOr.out, by omega, hgr, HKq.out⟩
end Go.Proofs.YtjmegicopdbkdaaDoor

set_option maxHeartbeats 1000000
set_option maxRecDepth 10000
namespace Go.Proofs.YtjmegicopdbkdaaDoor
open Go Go.RowKit Pl

theorem looktab_any (K R Ct : Int) (A1 A2 A3 : Option Addr) (n1 c1 n2 c2 n3 c3 : Nat) (C : ConB) (V : Int) (w : World) (hC : ConIn w K R Ct A1 A2 A3 n1 c1 n2 c2 n3 c3 C) :
    Calls Tryd.prog 57 #[.agg #[.int .i64 K, .slice A1 n1 c1, .slice A2 n2 c2, .int .i64 R, .int .i64 Ct, .slice A3 n3 c3, .int .i64 V]] w fun e w' => e = .returned (.bool (tabB C V)) ∧ Kept w w' := by
  have HC := Lib.hid hC
  clear hC
  go_enter Tryd.func57, Tryd.ntmps57
  go_wp2_with fail
  refine (variables_any K R Ct A1 A2 A3 n1 c1 n2 c2 n3 c3 C V 1 8 _ (HC.out.kept (Kept.box _ _))).mono ?_
  rintro e w1 ⟨rfl, hk⟩
  have Hb := Lib.hid (hk.heapAt (box_look w K R Ct V A1 A2 A3 n1 c1 n2 c2 n3 c3))
  have Hk := Lib.hid ((Kept.box _ _).then hk)
  have hb0 := cell_at Hb.out 0
  have hb1 := cell_at Hb.out 1
  have hb2 := cell_at Hb.out 2
  have hb3 := cell_at Hb.out 3
  have hb4 := cell_at Hb.out 4
  have hb5 := cell_at Hb.out 5
  have hb6 := cell_at Hb.out 6
  simp only [List.getElem?_toArray, List.getElem?_cons_zero, List.getElem?_cons_succ] at hb0 hb1 hb2 hb3 hb4 hb5 hb6
  have hl1 := HC.out.vars.len
  have hl3 := HC.out.nums.len
  have hs1 := HC.out.vars.small
  have hs3 := HC.out.nums.small
  have HB : Hid (tabB C V = (variablesB C V 1 8 && bareB C 0 96 && decide ((n3 : Int) % n1 = 0))) := by
    show _ = _
    unfold tabB; rw [hl1, hl3]
  have Hv : Hid (variablesB C V 1 8 = true → 1 ≤ n1) := by
    intro h
    unfold variablesB at h
    rw [hl1] at h
    simp at h
    omega
  clear hk
  generalize variablesB C V 1 8 = b at HB Hv
  cases b with
  | false =>
    go_wp2_with fail
    go_ret
    exact ⟨ret_bool (by rw [HB.out]; simp), Hk.out⟩
  | true =>
    have hn1 := Hv.out rfl
    go_wp2_with fail
    refine (bare_any K R Ct A1 A2 A3 n1 c1 n2 c2 n3 c3 C V 0 96 _ (HC.out.kept Hk.out)).mono ?_
    rintro e w2 ⟨rfl, hk2⟩
    have Hk2 := Lib.hid (Hk.out.then hk2)
    have c1 := hk2.cellAt hb1
    have c5 := hk2.cellAt hb5
    clear hk2 hb0 hb1 hb2 hb3 hb4 hb5 hb6
    generalize bareB C 0 96 = d at HB
    cases d with
    | false =>
      go_wp2_with fail
      go_ret
      exact ⟨ret_bool (by rw [HB.out]; simp), Hk2.out⟩
    | true =>
      have hne : ((n1 : Int) == 0) = false := by simp; omega
      have hn0 : (n1 : Int) ≠ 0 := by omega
      go_wp2_with fail
      go_ret
      exact ⟨ret_bool (by rw [HB.out]; simp only [Bool.true_and]; rfl), Hk2.out⟩

theorem lookelement_q {R Ct V : Int} {A1 A2 A3 : Option Addr} {n1 c1 n2 c2 n3 c3 : Nat} {C : ConB} (W : World) (h : ConIn W 4 R Ct A1 A2 A3 n1 c1 n2 c2 n3 c3 C) : Calls Tryd.prog 55 #[.agg #[.int .i64 4, .slice A1 n1 c1, .slice A2 n2 c2, .int .i64 R, .int .i64 Ct, .slice A3 n3 c3, .int .i64 V]] W fun e w' => e = .returned (.bool (elemB C V)) ∧ Kept W w' := lookelem_any 4 R Ct A1 A2 A3 n1 c1 n2 c2 n3 c3 C V W h
theorem looktable_q {R Ct V : Int} {A1 A2 A3 : Option Addr} {n1 c1 n2 c2 n3 c3 : Nat} {C : ConB} (W : World) (h : ConIn W 6 R Ct A1 A2 A3 n1 c1 n2 c2 n3 c3 C) : Calls Tryd.prog 57 #[.agg #[.int .i64 6, .slice A1 n1 c1, .slice A2 n2 c2, .int .i64 R, .int .i64 Ct, .slice A3 n3 c3, .int .i64 V]] W fun e w' => e = .returned (.bool (tabB C V)) ∧ Kept W w' := looktab_any 6 R Ct A1 A2 A3 n1 c1 n2 c2 n3 c3 C V W h
theorem right_elem (K R Ct : Int) (A1 A2 A3 : Option Addr) (n1 c1 n2 c2 n3 c3 : Nat) (C : ConB) (V : Int) (w : World) (hC : ConIn w K R Ct A1 A2 A3 n1 c1 n2 c2 n3 c3 C) (hK : K = 4) :
    Calls Tryd.prog 25 #[.agg #[.int .i64 K, .slice A1 n1 c1, .slice A2 n2 c2, .int .i64 R, .int .i64 Ct, .slice A3 n3 c3], .int .i64 V] w fun e w' => e = .returned (.bool (elemB C V)) ∧ Kept w w' := by
  subst hK
  have HC := Lib.hid hC
  clear hC
  go_enter Tryd.func25, Tryd.ntmps25
  go_wp2_with fail
  have HQ : Hid (∀ W, ConIn W 4 R Ct A1 A2 A3 n1 c1 n2 c2 n3 c3 C → Calls Tryd.prog 55 #[.agg #[.int .i64 4, .slice A1 n1 c1, .slice A2 n2 c2, .int .i64 R, .int .i64 Ct, .slice A3 n3 c3, .int .i64 V]] W fun e w' => e = .returned (.bool (elemB C V)) ∧ Kept W w') := fun W h => lookelement_q W h
  generalize hb : elemB C V = b at HQ
  have HC2 := Lib.hid (HC.out.kept ((Kept.box w (.cells #[.int .i64 4, .slice A1 n1 c1, .slice A2 n2 c2, .int .i64 R, .int .i64 Ct, .slice A3 n3 c3] 24)).newBlock (.cells #[.func (.func 52) #[] #[], .func (.func 53) #[] #[], .func (.func 54) #[] #[], .func (.func 55) #[] #[], .func (.func 56) #[] #[], .func (.func 57) #[] #[]] 77)))
  refine wp_region_quiet_below (by kernel_rfl) (by kernel_rfl) ?_
  repeat (any_goals (first | go_big_quiet_step (((go_at_call 55; exact Calls.regrown_of (HQ.out _ (HC2.out.kept (below_regrown _ _ _)))))) | quiet_step (((go_at_call 55; exact Calls.regrown_of (HQ.out _ (HC2.out.kept (below_regrown _ _ _)))))) | (refine wpQuiet_step (fun K hK => ?_); go_simp; split <;> (refine hK _ ?_; clear hK K))))
  all_goals (refine wpQuiet_nil ?_; intro w1 hw'; replace hw' := Kept.regrown hw')
  have Hk := Lib.hid (((Kept.box _ _).newBlock _).then hw')
  clear hw'
  go_wp2_with fail
  go_ret
  subst hb
  exact ⟨ret_bool (by simp), Hk.out⟩

theorem right_tab (K R Ct : Int) (A1 A2 A3 : Option Addr) (n1 c1 n2 c2 n3 c3 : Nat) (C : ConB) (V : Int) (w : World) (hC : ConIn w K R Ct A1 A2 A3 n1 c1 n2 c2 n3 c3 C) (hK : K = 6) :
    Calls Tryd.prog 25 #[.agg #[.int .i64 K, .slice A1 n1 c1, .slice A2 n2 c2, .int .i64 R, .int .i64 Ct, .slice A3 n3 c3], .int .i64 V] w fun e w' => e = .returned (.bool (tabB C V)) ∧ Kept w w' := by
  subst hK
  have HC := Lib.hid hC
  clear hC
  go_enter Tryd.func25, Tryd.ntmps25
  go_wp2_with fail
  have HQ : Hid (∀ W, ConIn W 6 R Ct A1 A2 A3 n1 c1 n2 c2 n3 c3 C → Calls Tryd.prog 57 #[.agg #[.int .i64 6, .slice A1 n1 c1, .slice A2 n2 c2, .int .i64 R, .int .i64 Ct, .slice A3 n3 c3, .int .i64 V]] W fun e w' => e = .returned (.bool (tabB C V)) ∧ Kept W w') := fun W h => looktable_q W h
  generalize hb : tabB C V = b at HQ
  have HC2 := Lib.hid (HC.out.kept ((Kept.box w (.cells #[.int .i64 6, .slice A1 n1 c1, .slice A2 n2 c2, .int .i64 R, .int .i64 Ct, .slice A3 n3 c3] 24)).newBlock (.cells #[.func (.func 52) #[] #[], .func (.func 53) #[] #[], .func (.func 54) #[] #[], .func (.func 55) #[] #[], .func (.func 56) #[] #[], .func (.func 57) #[] #[]] 77)))
  refine wp_region_quiet_below (by kernel_rfl) (by kernel_rfl) ?_
  repeat (any_goals (first | go_big_quiet_step (((go_at_call 57; exact Calls.regrown_of (HQ.out _ (HC2.out.kept (below_regrown _ _ _)))))) | quiet_step (((go_at_call 57; exact Calls.regrown_of (HQ.out _ (HC2.out.kept (below_regrown _ _ _)))))) | (refine wpQuiet_step (fun K hK => ?_); go_simp; split <;> (refine hK _ ?_; clear hK K))))
  all_goals (refine wpQuiet_nil ?_; intro w1 hw'; replace hw' := Kept.regrown hw')
  have Hk := Lib.hid (((Kept.box _ _).newBlock _).then hw')
  clear hw'
  go_wp2_with fail
  go_ret
  subst hb
  exact ⟨ret_bool (by simp), Hk.out⟩
end Go.Proofs.YtjmegicopdbkdaaDoor

set_option maxHeartbeats 1000000
set_option maxRecDepth 10000
namespace Go.Proofs.YtjmegicopdbkdaaDoor
open Go Go.RowKit Pl

def leftUpto (row : List Int) (ds : List DomB) (k : Nat) : Bool := (List.range k).all fun i => (listB (ds.getD i nilD).1 (ds.getD i nilD).2).contains (row.getD i 0)
/-- Is each value of a row left? -/
def leftL (row : List Int) (ds : List DomB) : Bool := decide (row.length = ds.length) && leftUpto row ds ds.length
theorem leftUpto_succ (row : List Int) (ds : List DomB) (k : Nat) : leftUpto row ds (k + 1) = (leftUpto row ds k && (listB (ds.getD k nilD).1 (ds.getD k nilD).2).contains (row.getD k 0)) := by
  unfold leftUpto
  rw [List.range_succ, List.all_append]
  simp
theorem leftUpto_bad {row : List Int} {ds : List DomB} {m n : Nat} (h : leftUpto row ds m = false) (hm : m ≤ n) : leftUpto row ds n = false := by
  cases e : leftUpto row ds n with
  | false => rfl
  | true =>
    unfold leftUpto at *
    rw [List.all_eq_true] at e
    have : (List.range m).all (fun i => (listB (ds.getD i nilD).1 (ds.getD i nilD).2).contains (row.getD i 0)) = true := List.all_eq_true.2 fun i hi => e i (List.mem_range.2 (by have := List.mem_range.1 hi; omega))
    rw [h] at this
    cases this
theorem contains_snoc (l : List Int) (v x : Int) : (l ++ [v]).contains x = (l.contains x || decide (v = x)) := by
  rw [Bool.eq_iff_iff, Bool.or_eq_true, List.contains_iff_mem, List.contains_iff_mem, List.mem_append, decide_eq_true_eq, List.mem_singleton]
  constructor
  · rintro (h | h)
    · exact Or.inl h
    · exact Or.inr h.symm
  · rintro (h | h)
    · exact Or.inl h
    · exact Or.inr h.symm

theorem left_any (A B : Option Addr) (n c m d : Nat) (row : List Int) (ds : List DomB) (w : World) (hR : Ints w A n row) (hS : Doms w B m ds) :
    Calls Tryd.prog 18 #[.slice A n c, .slice B m d] w fun e w' => e = .returned (.bool (leftL row ds)) ∧ Kept w w' := by
  have HR := Lib.hid hR
  have HS := Lib.hid hS
  have hsm := hR.small
  have hsm2 := hS.small
  have hla := hR.len
  have hlb := hS.len
  by_cases g1 : ¬ (n : Int) = m
  · have hd : ((n : Int) != m) = true := by simpa using g1
    have hw : leftL row ds = false := by unfold leftL; rw [hla, hlb]; simp; omega
    rw [hw]
    clear hR hS hla hlb
    go_enter Tryd.func18, Tryd.ntmps18
    go_wp2_with fail
    go_ret
    exact ⟨rfl, Kept.same _⟩
  have e : n = m := by omega
  subst e
  have hw : Hid (leftL row ds = leftUpto row ds n) := by show _ = _; unfold leftL; rw [hla, hlb]; simp
  clear hR hS hla hlb g1
  go_enter Tryd.func18, Tryd.ntmps18
  go_wp2_with fail
  go_loopw [17] (fun v wr => ∃ k : Nat, k ≤ n ∧ v = .int .i64 k ∧ Hid (Kept w wr) ∧ Hid (leftUpto row ds k = true)) (fun v _ => n - (intOf v).toNat)
  case atStart => exact ⟨0, Nat.zero_le _, rfl, Kept.same _, rfl⟩
  case round =>
    obtain ⟨k, hk, rfl, Hkw, Hok⟩ := hrel
    by_cases hlt : k < n
    · have hSr := HS.out.kept Hkw.out
      have hRr := HR.out.kept Hkw.out
      obtain ⟨b, rfl, hblk⟩ := hSr.addr (by omega)
      obtain ⟨a, rfl, hblk2⟩ := hRr.addr (by omega)
      obtain ⟨xs, L, Bx, mx, cx, Hdx, hc1, hc2, HIx, hLx⟩ := hSr.named k hlt
      obtain ⟨x, Hx, _, hx1, hx2⟩ := hRr.named k hlt
      have Hnext : Hid (leftUpto row ds (k + 1) = (listB xs L).contains x) := by
        show _ = _
        rw [leftUpto_succ, Hok.out, Hdx.out, Hx.out, Bool.true_and]
      clear hSr hRr
      go_wp2_with fail
      refine (rdlist_any Bx mx cx L xs _ (HIx.out.kept (Kept.box _ _)) hLx).mono ?_
      rintro e w1 ⟨Bl, cl, rfl, hIl, hk1, _⟩
      have HK1 := Lib.hid (Hkw.out.then ((Kept.box _ _).then hk1))
      have HIl := Lib.hid hIl
      have hel := listB_length xs L
      clear hIl hk1
      generalize listB xs L = l at *
      generalize hm : l.length = mm at *
      have Hmm := Lib.hid hm
      clear hm
      go_wp2_with fail
      go_loopw [7, 25] (fun u v wr => ∃ j : Nat, j ≤ mm ∧ v = .int .i64 j ∧ u = .bool ((l.take j).contains x) ∧ Hid (Kept w1 wr)) (fun _ v _ => mm - (intOf v).toNat)
      case atStart => exact ⟨0, Nat.zero_le _, rfl, by simp, Kept.same _⟩
      case round =>
        obtain ⟨j, hj, rfl, rfl, Hkw2⟩ := hrel
        by_cases hlt2 : j < mm
        · have hIr := HIl.out.kept Hkw2.out
          obtain ⟨bl, rfl, hbl⟩ := hIr.addr (by omega)
          obtain ⟨y, Hy, hcy, _, _⟩ := hIr.named j hlt2
          obtain ⟨x', Hx', hcx, _, _⟩ := (HR.out.kept (HK1.out.then Hkw2.out)).named k hlt
          have ex : x' = x := Hx'.out.symm.trans Hx.out
          subst ex
          have Hs : Hid ((l.take (j + 1)).contains x' = ((l.take j).contains x' || decide (y = x'))) := by
            show _ = _
            rw [take_succ_getD (by have := Hmm.out; omega) Hy.out]
            exact contains_snoc _ _ _
          clear hIr
          generalize (l.take j).contains x' = b1 at *
          cases b1 with
          | true =>
            go_wp2_with fail
            go_roundw
            case rel => exact ⟨j + 1, by omega, by go_num, by rw [Hs.out]; rfl, Hkw2.out⟩
            case measure => simp [intOf]; omega
          | false =>
            go_wp2_with fail
            go_roundw
            case rel => exact ⟨j + 1, by omega, by go_num, by rw [Hs.out]; rfl, Hkw2.out⟩
            case measure => simp [intOf]; omega
        · have e : j = mm := by omega
          subst e
          have e2 : l.take j = l := List.take_of_length_le (by have := Hmm.out; omega)
          rw [e2]
          clear e2
          have Hk2 := Lib.hid (HK1.out.then Hkw2.out)
          generalize l.contains x = b1 at *
          cases b1 with
          | true =>
            go_wp2_with fail
            go_roundw
            case rel => exact ⟨k + 1, by omega, by go_num, Hk2.out, Hnext.out⟩
            case measure => simp [intOf]; omega
          | false =>
            go_wp2_with fail
            go_ret
            exact ⟨ret_bool (by rw [hw.out, leftUpto_bad Hnext.out hlt]), Hk2.out⟩
    · have e : k = n := by omega
      subst e
      go_wp2_with fail
      go_ret
      exact ⟨ret_bool (by rw [hw.out, Hok.out]), Hkw.out⟩
end Go.Proofs.YtjmegicopdbkdaaDoor

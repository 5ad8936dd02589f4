/-
  Contracts and plain laws that the card rests on, part 8.
-/
import Derived.Test.YtjmegicopdbkdaaDoorJ3
import Derived.Test.YtjmegicopdbkdaaDoorJ5
import Derived.Test.YtjmegicopdbkdaaDoorJ4
import Derived.Test.YtjmegicopdbkdaaDoorJ6
set_option maxHeartbeats 1000000
set_option maxRecDepth 10000
namespace Go.Proofs.YtjmegicopdbkdaaDoor
open Go Go.RowKit Pl

theorem rbox_0 (w : World) (v0 v1 : Value) (t : TypeId) : (w.alloc (.cells #[v0, v1] t)).heap[w.heap.size]? = some (.cells #[v0, v1] t) := heap_new _ _

theorem rmay_any (A : Option Addr) (n c : Nat) (L : Nat) (xs : List Int) (w : World) (hS : Ints w A n xs) (hL : L < 2 ^ 64) :
    Calls Tryd.prog 66 #[.agg #[.slice A n c, .int .u64 L]] w fun e w' => e = .returned (.bool (mayB xs L)) ∧ Kept w w' := by
  have HS := Lib.hid hS
  have Hlen := Lib.hid hS.len
  have hsm := hS.small
  clear hS
  by_cases hn : (64 : Int) < n
  · have hd : decide ((64 : Int) < n) = true := by simp [hn]
    go_enter Tryd.func66, Tryd.ntmps66
    go_wp2_with fail
    go_ret
    exact ⟨ret_bool (by simp [mayB, Hlen.out]; omega), Kept.box _ _⟩
  have hd : decide ((64 : Int) < n) = false := by simp; omega
  have HB : Hid (∀ wr, Kept (w.alloc (.cells #[.slice A n c, .int .u64 (L : Nat)] 64)) wr → wr.heap[w.heap.size]? = some (.cells #[.slice A n c, .int .u64 (L : Nat)] 64)) := fun wr h => h.heapAt (heap_new _ _)
  go_enter Tryd.func66, Tryd.ntmps66
  go_wp2_with fail
  go_loopw [3] (fun v wr => ∃ k : Nat, k ≤ n ∧ v = .int .i64 k ∧ Hid (Kept (w.alloc (.cells #[.slice A n c, .int .u64 (L : Nat)] 64)) wr) ∧ Hid (okUpto xs k = true)) (fun v _ => n - (intOf v).toNat)
  case atStart => exact ⟨0, Nat.zero_le _, rfl, Kept.same _, rfl⟩
  case round =>
    obtain ⟨k, hk, rfl, Hkw, Hok⟩ := hrel
    have hbk := HB.out wr Hkw.out
    have hb0 := cell_at hbk 0
    have hb1 := cell_at hbk 1
    simp only [List.getElem?_toArray, List.getElem?_cons_zero, List.getElem?_cons_succ] at hb0 hb1
    have hlb : w.heap.size < wr.heap.size := lt_at hbk
    clear hbk
    by_cases hlt : k < n
    · have hSr := HS.out.kept ((Kept.box _ _).then Hkw.out)
      obtain ⟨a, rfl, hblk⟩ := hSr.addr (by omega)
      obtain ⟨x, Hx, hck, hx1, hx2⟩ := hSr.named k hlt
      obtain ⟨y, Hy, hck1, hy1, hy2⟩ := hSr.named (k - 1) (by omega)
      have Hnext : Hid (okUpto xs (k + 1) = (decide (-1048576 ≤ x) && decide (x ≤ 1048576) && (decide (k = 0) || decide (y < x)))) := by
        show _ = _
        rw [okUpto_succ, Hok.out, okAt_named Hx.out Hy.out, Bool.true_and]
      have Hbad : Hid (okUpto xs (k + 1) = false → mayB xs L = false) := fun h => by
        rw [okUpto_succ, Hok.out, Bool.true_and] at h
        exact (may_bad Hlen.out hlt h).symm
      clear hSr
      by_cases g1 : x < -1048576
      · have hd1 : decide (x < -1048576) = true := by simp [g1]
        go_wp2_with fail
        refine wp_region_quiet_below (by kernel_rfl) (by kernel_rfl) ?_
        repeat (any_goals (first | go_big_quiet_step ((fail)) | quiet_step ((fail)) | (refine wpQuiet_step (fun K hK => ?_); go_simp; split <;> (refine hK _ ?_; clear hK K))))
        all_goals (refine wpQuiet_nil ?_; intro w1 hw'; replace hw' := Kept.regrown hw')
        all_goals try (exfalso; omega)
        have Hk9 := Lib.hid ((Kept.box _ _).then (Hkw.out.then hw'))
        clear hw'
        go_wp2_with fail
        go_ret
        exact ⟨ret_bool (by rw [Hbad.out (by rw [Hnext.out]; simp; omega)]), Hk9.out⟩
      have hd1 : decide (x < -1048576) = false := by simp; omega
      by_cases g2 : 1048576 < x
      · have hd2 : decide (1048576 < x) = true := by simp [g2]
        go_wp2_with fail
        refine wp_region_quiet_below (by kernel_rfl) (by kernel_rfl) ?_
        repeat (any_goals (first | go_big_quiet_step ((fail)) | quiet_step ((fail)) | (refine wpQuiet_step (fun K hK => ?_); go_simp; split <;> (refine hK _ ?_; clear hK K))))
        all_goals (refine wpQuiet_nil ?_; intro w1 hw'; replace hw' := Kept.regrown hw')
        all_goals try (exfalso; omega)
        have Hk9 := Lib.hid ((Kept.box _ _).then (Hkw.out.then hw'))
        clear hw'
        go_wp2_with fail
        go_ret
        exact ⟨ret_bool (by rw [Hbad.out (by rw [Hnext.out]; simp; omega)]), Hk9.out⟩
      have hd2 : decide (1048576 < x) = false := by simp; omega
      by_cases g3 : (0 : Int) < k
      · have hd3 : decide ((0 : Int) < k) = true := by simp; omega
        have e1 : ((k - 1 : Nat) : Int) = (k : Int) - 1 := by omega
        by_cases g4 : x ≤ y
        · have hd4 : decide (x ≤ y) = true := by simp [g4]
          go_wp2_with fail
          refine wp_region_quiet_below (by kernel_rfl) (by kernel_rfl) ?_
          repeat (any_goals (first | go_big_quiet_step ((fail)) | quiet_step ((fail)) | (refine wpQuiet_step (fun K hK => ?_); go_simp; split <;> (refine hK _ ?_; clear hK K))))
          all_goals (refine wpQuiet_nil ?_; intro w1 hw'; replace hw' := Kept.regrown hw')
          all_goals try (exfalso; omega)
          have Hk9 := Lib.hid ((Kept.box _ _).then (Hkw.out.then hw'))
          clear hw'
          go_wp2_with fail
          go_ret
          exact ⟨ret_bool (by rw [Hbad.out (by rw [Hnext.out]; simp; omega)]), Hk9.out⟩
        · have hd4 : decide (x ≤ y) = false := by simp; omega
          go_wp2_with fail
          refine wp_region_quiet_below (by kernel_rfl) (by kernel_rfl) ?_
          repeat (any_goals (first | go_big_quiet_step ((fail)) | quiet_step ((fail)) | (refine wpQuiet_step (fun K hK => ?_); go_simp; split <;> (refine hK _ ?_; clear hK K))))
          all_goals (refine wpQuiet_nil ?_; intro w1 hw'; replace hw' := Kept.regrown hw')
          all_goals try (exfalso; omega)
          have Hk9 := Lib.hid (Hkw.out.then hw')
          clear hw'
          go_wp2_with fail
          have HR : Hid (∃ j : Nat, j ≤ n ∧ (Value.int .i64 ((k : Int) + 1)) = .int .i64 j ∧ Hid (Kept (w.alloc (.cells #[.slice (some a) n c, .int .u64 (L : Nat)] 64)) w1) ∧ Hid (okUpto xs j = true)) := ⟨k + 1, by omega, by simp, Hk9.out, by show _ = _; rw [Hnext.out]; simp; omega⟩
          go_roundw
          case rel => exact HR.out
          case measure => simp [intOf]; omega
      · have hd3 : decide ((0 : Int) < k) = false := by simp; omega
        go_wp2_with fail
        refine wp_region_quiet_below (by kernel_rfl) (by kernel_rfl) ?_
        repeat (any_goals (first | go_big_quiet_step ((fail)) | quiet_step ((fail)) | (refine wpQuiet_step (fun K hK => ?_); go_simp; split <;> (refine hK _ ?_; clear hK K))))
        all_goals (refine wpQuiet_nil ?_; intro w1 hw'; replace hw' := Kept.regrown hw')
        all_goals try (exfalso; omega)
        have Hk9 := Lib.hid (Hkw.out.then hw')
        clear hw'
        go_wp2_with fail
        have HR : Hid (∃ j : Nat, j ≤ n ∧ (Value.int .i64 ((k : Int) + 1)) = .int .i64 j ∧ Hid (Kept (w.alloc (.cells #[.slice (some a) n c, .int .u64 (L : Nat)] 64)) w1) ∧ Hid (okUpto xs j = true)) := ⟨k + 1, by omega, by simp, Hk9.out, by show _ = _; rw [Hnext.out]; simp; omega⟩
        go_roundw
        case rel => exact HR.out
        case measure => simp [intOf]; omega
    · have e : k = n := by omega
      subst e
      go_wp2_with fail
      go_loopw [4, 5] (fun u v wr => ∃ (k' : Nat) (z : Nat), k' ≤ k ∧ v = .int .i64 k' ∧ u = .int .u64 (z : Nat) ∧ Hid (z < 2 ^ 64) ∧ Hid (k' < 64 → z = 2 ^ k') ∧ Hid (Kept (w.alloc (.cells #[.slice A k c, .int .u64 (L : Nat)] 64)) wr)) (fun _ v _ => k - (intOf v).toNat)
      case atStart => exact ⟨0, 1, Nat.zero_le _, rfl, rfl, by show 1 < 2 ^ 64; decide, fun _ => rfl, Hkw.out⟩
      case round =>
        obtain ⟨k', z, hk', rfl, rfl, Hz, Hz2, Hkw2⟩ := hrel
        rename_i wq
        have hbk := HB.out _ Hkw2.out
        have hb0 := cell_at hbk 0
        have hb1 := cell_at hbk 1
        simp only [List.getElem?_toArray, List.getElem?_cons_zero, List.getElem?_cons_succ] at hb0 hb1
        clear hbk
        have Hm : Hid (mayB xs L = decide (L < 2 ^ k)) := by
          show _ = _
          have h1 := Hok.out
          have h2 := Hlen.out
          unfold mayB
          rw [h2, h1]
          have : decide (k ≤ 64) = true := by simp; omega
          rw [this]; simp
        by_cases hlt2 : k' < k
        · obtain ⟨z', hz'⟩ : ∃ z' : Nat, z' = 2 * z % 18446744073709551616 := ⟨_, rfl⟩
          have hw : IntKind.u64.wrap (2 * (z : Int)) = (z' : Int) := by rw [IntKind.wrap_u64]; omega
          have hw2 : (2 * (z : Int)) % 18446744073709551616 = (z' : Int) := by omega
          have Hz1 : Hid (z' < 2 ^ 64) := by show z' < 18446744073709551616; omega
          have Hz3 : Hid (k' + 1 < 64 → z' = 2 ^ (k' + 1)) := fun h => by
            have h1 := Hz2.out (by omega)
            have h2 : 2 ^ (k' + 1) < 2 ^ 64 := Nat.pow_lt_pow_right (by decide) h
            rw [Nat.pow_succ] at h2 ⊢
            have h3 : (2 : Nat) ^ 64 = 18446744073709551616 := by decide
            omega
          clear hz'
          go_wp2_with fail
          go_roundw
          case rel => exact ⟨k' + 1, z', by omega, by go_num, rfl, Hz1.out, Hz3.out, Hkw2.out⟩
          case measure => simp [intOf]; omega
        · have e : k' = k := by omega
          subst e
          by_cases g : (k' : Int) = 64
          · have hd5 : ((k' : Int) == 64) = true := by simp [g]
            have e : k' = 64 := by omega
            subst e
            go_wp2_with fail
            go_ret
            exact ⟨ret_bool (by rw [Hm.out]; simpa using hL), (Kept.box _ _).then Hkw2.out⟩
          · have hd5 : ((k' : Int) == 64) = false := by simp; omega
            have Hzz := Lib.hid (Hz2.out (by omega))
            go_wp2_with fail
            go_ret
            exact ⟨ret_bool (by rw [Hm.out, ← Hzz.out]), (Kept.box _ _).then Hkw2.out⟩

theorem own_empty {w : World} {base g : Nat} {e : TypeId} {size : Nat} (h : w.heap[g]? = some (.cells #[] e (0, 0))) (hb : base ≤ g) : w.ownsRow base e size (.slice (some ⟨g, 0, Option.none⟩) 0 0) 0 [] :=
  ⟨by simp, .inr ⟨g, 0, #[], rfl, hb, h, Nat.le_refl 0, by unfold maxLen; omega, by simp, by simp⟩⟩

/-- The values that are left, up to a place. -/
def valsUpto (xs : List Int) (L k : Nat) : List Int := ((upto L k).map Int.ofNat).map fun i => xs.getD i.toNat 0
theorem valsUpto_succ (xs : List Int) (L k : Nat) : valsUpto xs L (k + 1) = valsUpto xs L k ++ (if L.testBit k then [xs.getD k 0] else []) := by
  unfold valsUpto
  rw [upto_succ]
  split <;> simp
theorem valsUpto_all {xs : List Int} {L : Nat} (h : mayB xs L = true) : valsUpto xs L xs.length = valsOf xs L := by
  unfold valsUpto valsOf elemsI
  rw [elems_of_lt (mayB_lt h) (mayB_len h)]

theorem rdlist_any (A : Option Addr) (n c L : Nat) (xs : List Int) (w : World) (hS : Ints w A n xs) (hL : L < 2 ^ 64) :
    Calls Tryd.prog 39 #[.agg #[.slice A n c, .int .u64 L]] w (ListPost (listB xs L) w) := by
  obtain ⟨i0, hi, hz0, hz1, hz2⟩ := info_parts info_int
  have HS := Lib.hid hS
  have HL := Lib.hid hL
  have Hlen := Lib.hid hS.len
  have hsm := hS.small
  have hmay : Hid (∀ W, Ints W A n xs → Calls Tryd.prog 66 #[.agg #[.slice A n c, .int .u64 L]] W fun e w' => e = .returned (.bool (mayB xs L)) ∧ Kept W w') := fun W hW => rmay_any A n c L xs W hW HL.out
  have HB : Hid (∀ wr, Kept (w.alloc (.cells #[.slice A n c, .int .u64 (L : Nat)] 64)) wr → wr.heap[w.heap.size]? = some (.cells #[.slice A n c, .int .u64 (L : Nat)] 64)) := fun wr h => h.heapAt (heap_new _ _)
  clear hS hL
  by_cases hm : mayB xs L = true
  · have hl : listB xs L = valsOf xs L := if_pos hm
    rw [hl]
    rw [hm] at hmay
    have Hm := Lib.hid hm
    have Hrng := Lib.hid (valsOf_rng hm)
    have hn64 : n ≤ 64 := by have := mayB_len hm; have := Hlen.out; omega
    clear hm hl
    go_enter Tryd.func39, Tryd.ntmps39
    go_wp2_with fail
    refine (hmay.out _ (HS.out.kept ((Kept.box _ _).newBlock _))).mono ?_
    rintro e w1 ⟨rfl, hk⟩
    have HK1 := Lib.hid ((Kept.box (w.alloc (.cells #[.slice A n c, .int .u64 (L : Nat)] 64)) (.cells #[] 3)).then hk)
    have Hown1 : Hid (w1.ownsRow (w.heap.size + 1) 3 1 (.slice (some ⟨w.heap.size + 1, 0, Option.none⟩) 0 0) 0 []) := own_empty (hk.heapAt (heap_new2 _ _ _)) (Nat.le_refl _)
    have hbk := HB.out _ HK1.out
    have hb0 := cell_at hbk 0
    have hb1 := cell_at hbk 1
    simp only [List.getElem?_toArray, List.getElem?_cons_zero, List.getElem?_cons_succ] at hb0 hb1
    clear hbk hk hmay
    go_wp2_with fail
    clear hb0 hb1
    go_loopw [3, 4, 5] (fun u x v wr => ∃ (k z : Nat), k ≤ n ∧ v = .int .i64 k ∧ x = .int .u64 (z : Nat) ∧ Hid (z = L / 2 ^ k) ∧ wr.ownsRow (w.heap.size + 1) 3 1 u (valsUpto xs L k).length ((valsUpto xs L k).map (Value.int .i64)) ∧ Hid (Kept (w.alloc (.cells #[.slice A n c, .int .u64 (L : Nat)] 64)) wr)) (fun _ _ v _ => n - (intOf v).toNat)
    case atStart => exact ⟨0, L, Nat.zero_le _, rfl, rfl, by show L = L / 2 ^ 0; simp, Hown1.out, HK1.out⟩
    case round =>
      obtain ⟨k, z, hk, rfl, rfl, Hz, hown, Hkw⟩ := hrel
      have hbk := HB.out _ Hkw.out
      have hb0 := cell_at hbk 0
      have hb1 := cell_at hbk 1
      simp only [List.getElem?_toArray, List.getElem?_cons_zero, List.getElem?_cons_succ] at hb0 hb1
      have hszr := Hkw.out.size
      simp only [World.size_alloc] at hszr
      clear hbk
      by_cases hlt : k < n
      · have hSr := HS.out.kept ((Kept.box _ _).then Hkw.out)
        obtain ⟨a, rfl, hblk⟩ := hSr.addr (by omega)
        obtain ⟨x, Hx, hcx, hx1, hx2⟩ := hSr.named k hlt
        have hzL : z ≤ L := by rw [Hz.out]; exact Nat.div_le_self _ _
        have hwz : IntKind.u64.wrap ((z : Int) / 2) = (z : Int) / 2 := by rw [IntKind.wrap_u64]; have := HL.out; omega
        have Hnz : Hid (z / 2 = L / 2 ^ (k + 1)) := by show _ = _; rw [Hz.out, Nat.div_div_eq_div_mul, Nat.pow_succ]
        have Hvl : Hid ((valsUpto xs L k).length ≤ k) := by
          show _ ≤ _
          unfold valsUpto
          rw [List.length_map]
          exact uptoI_length_le L k
        have hvl := Hvl.out
        have Hsucc := Lib.hid (valsUpto_succ xs L k)
        have Hbit : Hid (L.testBit k = decide (z % 2 = 1)) := by show _ = _; rw [testBit_div, Hz.out]
        clear hSr
        by_cases hbit : z % 2 = 1
        · have hd : ((z : Int) % 2 == 1) = true := by simp; omega
          have Hs2 : Hid (valsUpto xs L (k + 1) = valsUpto xs L k ++ [x]) := by
            show _ = _
            rw [Hsucc.out, Hbit.out, Hx.out]; simp [hbit]
          clear Hsucc Hbit Hvl
          generalize valsUpto xs L k = ys at *
          go_wp2_with (at_builtin; refine wpList_append_own _ rfl _ _ 22 rfl (w.heap.size + 1) 3 i0 (.int .i64 0) 1 8 Tryd.underlying22 hi hz0 hz1 hz2 rfl (by decide) _ _ _ rfl (hown.alloc _) ⟨wr.heap.size, 0, none⟩ 1 1 [.int .i64 x] rfl rfl (cell_one_new _ _ _) (by simp [Value.oneCell']) (by unfold maxLen; omega) (by omega) (by simp; omega) ?_; intro v' w2 hown' hgrow _; clear hcx hb0 hb1)
          go_roundw
          case rel => exact ⟨k + 1, z / 2, by omega, by go_num, by simp, Hnz.out, by rw [Hs2.out]; simpa using hown', Hkw.out.appended hown (by simp) hgrow⟩
          case measure => simp [intOf]; omega
        · have hd : ((z : Int) % 2 == 1) = false := by simp; omega
          have Hs2 : Hid (valsUpto xs L (k + 1) = valsUpto xs L k) := by
            show _ = _
            rw [Hsucc.out, Hbit.out]; simp [hbit]
          clear Hsucc Hbit Hvl
          go_wp2_with fail
          go_roundw
          case rel => exact ⟨k + 1, z / 2, by omega, by go_num, by simp, Hnz.out, by rw [Hs2.out]; exact hown, Hkw.out⟩
          case measure => simp [intOf]; omega
      · have e : k = n := by omega
        subst e
        have e2 : valsUpto xs L k = valsOf xs L := by rw [← Hlen.out]; exact valsUpto_all Hm.out
        rw [e2] at hown
        obtain ⟨A', c', rfl, hI, hfr⟩ := Ints.of_own hown (fun x hx => by have := Hrng.out x hx; omega)
        have HI := Lib.hid hI
        have Hfr : Hid (Fresh w A') := fun a ha => by have := hfr a ha; omega
        clear hfr hI hown e2
        go_wp2_with fail
        go_ret
        exact ⟨A', c', rfl, HI.out, (Kept.box _ _).then Hkw.out, Hfr.out⟩
  · have hl : listB xs L = [] := if_neg hm
    rw [hl]
    rw [Bool.eq_false_iff.2 hm] at hmay
    clear hm hl
    go_enter Tryd.func39, Tryd.ntmps39
    go_wp2_with fail
    refine (hmay.out _ (HS.out.kept ((Kept.box _ _).newBlock _))).mono ?_
    rintro e w1 ⟨rfl, hk⟩
    have HK1 := Lib.hid (((Kept.box _ _).newBlock _).then hk)
    clear hk hmay
    go_wp2_with fail
    go_ret
    exact ⟨_, _, rfl, ⟨rfl, by decide, by simp, fun h => by simp at h⟩, HK1.out, fun a ha => by cases ha; simp⟩
end Go.Proofs.YtjmegicopdbkdaaDoor

set_option maxHeartbeats 1000000
set_option maxRecDepth 10000
namespace Go.Proofs.YtjmegicopdbkdaaDoor
open Go Go.RowKit Pl

def leftUpto (row : List Int) (ds : List DomB) (k : Nat) : Bool := (List.range k).all fun i => (listB (ds.getD i nilD).1 (ds.getD i nilD).2).contains (row.getD i 0)
/-- Is each value of a row left? -/
def leftL (row : List Int) (ds : List DomB) : Bool := decide (row.length = ds.length) && leftUpto row ds ds.length
theorem leftUpto_succ (row : List Int) (ds : List DomB) (k : Nat) : leftUpto row ds (k + 1) = (leftUpto row ds k && (listB (ds.getD k nilD).1 (ds.getD k nilD).2).contains (row.getD k 0)) := by
  unfold leftUpto
  rw [List.range_succ, List.all_append]
  simp
theorem leftUpto_bad {row : List Int} {ds : List DomB} {m n : Nat} (h : leftUpto row ds m = false) (hm : m ≤ n) : leftUpto row ds n = false := by
  cases e : leftUpto row ds n with
  | false => rfl
  | true =>
    unfold leftUpto at *
    rw [List.all_eq_true] at e
    have : (List.range m).all (fun i => (listB (ds.getD i nilD).1 (ds.getD i nilD).2).contains (row.getD i 0)) = true := List.all_eq_true.2 fun i hi => e i (List.mem_range.2 (by have := List.mem_range.1 hi; omega))
    rw [h] at this
    cases this
theorem contains_snoc (l : List Int) (v x : Int) : (l ++ [v]).contains x = (l.contains x || decide (v = x)) := by
  rw [Bool.eq_iff_iff, Bool.or_eq_true, List.contains_iff_mem, List.contains_iff_mem, List.mem_append, decide_eq_true_eq, List.mem_singleton]
  constructor
  · rintro (h | h)
    · exact Or.inl h
    · exact Or.inr h.symm
  · rintro (h | h)
    · exact Or.inl h
    · exact Or.inr h.symm

theorem left_any (A B : Option Addr) (n c m d : Nat) (row : List Int) (ds : List DomB) (w : World) (hR : Ints w A n row) (hS : Doms w B m ds) :
    Calls Tryd.prog 18 #[.slice A n c, .slice B m d] w fun e w' => e = .returned (.bool (leftL row ds)) ∧ Kept w w' := by
  have HR := Lib.hid hR
  have HS := Lib.hid hS
  have hsm := hR.small
  have hsm2 := hS.small
  have hla := hR.len
  have hlb := hS.len
  by_cases g1 : ¬ (n : Int) = m
  · have hd : ((n : Int) != m) = true := by simpa using g1
    have hw : leftL row ds = false := by unfold leftL; rw [hla, hlb]; simp; omega
    rw [hw]
    clear hR hS hla hlb
    go_enter Tryd.func18, Tryd.ntmps18
    go_wp2_with fail
    go_ret
    exact ⟨rfl, Kept.same _⟩
  have e : n = m := by omega
  subst e
  have hw : Hid (leftL row ds = leftUpto row ds n) := by show _ = _; unfold leftL; rw [hla, hlb]; simp
  clear hR hS hla hlb g1
  go_enter Tryd.func18, Tryd.ntmps18
  go_wp2_with fail
  go_loopw [17] (fun v wr => ∃ k : Nat, k ≤ n ∧ v = .int .i64 k ∧ Hid (Kept w wr) ∧ Hid (leftUpto row ds k = true)) (fun v _ => n - (intOf v).toNat)
  case atStart => exact ⟨0, Nat.zero_le _, rfl, Kept.same _, rfl⟩
  case round =>
    obtain ⟨k, hk, rfl, Hkw, Hok⟩ := hrel
    by_cases hlt : k < n
    · have hSr := HS.out.kept Hkw.out
      have hRr := HR.out.kept Hkw.out
      obtain ⟨b, rfl, hblk⟩ := hSr.addr (by omega)
      obtain ⟨a, rfl, hblk2⟩ := hRr.addr (by omega)
      obtain ⟨xs, L, Bx, mx, cx, Hdx, hc1, hc2, HIx, hLx⟩ := hSr.named k hlt
      obtain ⟨x, Hx, _, hx1, hx2⟩ := hRr.named k hlt
      have Hnext : Hid (leftUpto row ds (k + 1) = (listB xs L).contains x) := by
        show _ = _
        rw [leftUpto_succ, Hok.out, Hdx.out, Hx.out, Bool.true_and]
      clear hSr hRr
      go_wp2_with fail
      refine (rdlist_any Bx mx cx L xs _ (HIx.out.kept (Kept.box _ _)) hLx).mono ?_
      rintro e w1 ⟨Bl, cl, rfl, hIl, hk1, _⟩
      have HK1 := Lib.hid (Hkw.out.then ((Kept.box _ _).then hk1))
      have HIl := Lib.hid hIl
      have hel := listB_length xs L
      clear hIl hk1
      generalize listB xs L = l at *
      generalize hm : l.length = mm at *
      have Hmm := Lib.hid hm
      clear hm
      go_wp2_with fail
      go_loopw [7, 25] (fun u v wr => ∃ j : Nat, j ≤ mm ∧ v = .int .i64 j ∧ u = .bool ((l.take j).contains x) ∧ Hid (Kept w1 wr)) (fun _ v _ => mm - (intOf v).toNat)
      case atStart => exact ⟨0, Nat.zero_le _, rfl, by simp, Kept.same _⟩
      case round =>
        obtain ⟨j, hj, rfl, rfl, Hkw2⟩ := hrel
        by_cases hlt2 : j < mm
        · have hIr := HIl.out.kept Hkw2.out
          obtain ⟨bl, rfl, hbl⟩ := hIr.addr (by omega)
          obtain ⟨y, Hy, hcy, _, _⟩ := hIr.named j hlt2
          obtain ⟨x', Hx', hcx, _, _⟩ := (HR.out.kept (HK1.out.then Hkw2.out)).named k hlt
          have ex : x' = x := Hx'.out.symm.trans Hx.out
          subst ex
          have Hs : Hid ((l.take (j + 1)).contains x' = ((l.take j).contains x' || decide (y = x'))) := by
            show _ = _
            rw [take_succ_getD (by have := Hmm.out; omega) Hy.out]
            exact contains_snoc _ _ _
          clear hIr
          generalize (l.take j).contains x' = b1 at *
          cases b1 with
          | true =>
            go_wp2_with fail
            go_roundw
            case rel => exact ⟨j + 1, by omega, by go_num, by rw [Hs.out]; rfl, Hkw2.out⟩
            case measure => simp [intOf]; omega
          | false =>
            go_wp2_with fail
            go_roundw
            case rel => exact ⟨j + 1, by omega, by go_num, by rw [Hs.out]; rfl, Hkw2.out⟩
            case measure => simp [intOf]; omega
        · have e : j = mm := by omega
          subst e
          have e2 : l.take j = l := List.take_of_length_le (by have := Hmm.out; omega)
          rw [e2]
          clear e2
          have Hk2 := Lib.hid (HK1.out.then Hkw2.out)
          generalize l.contains x = b1 at *
          cases b1 with
          | true =>
            go_wp2_with fail
            go_roundw
            case rel => exact ⟨k + 1, by omega, by go_num, Hk2.out, Hnext.out⟩
            case measure => simp [intOf]; omega
          | false =>
            go_wp2_with fail
            go_ret
            exact ⟨ret_bool (by rw [hw.out, leftUpto_bad Hnext.out hlt]), Hk2.out⟩
    · have e : k = n := by omega
      subst e
      go_wp2_with fail
      go_ret
      exact ⟨ret_bool (by rw [hw.out, Hok.out]), Hkw.out⟩
end Go.Proofs.YtjmegicopdbkdaaDoor

/-
  Contracts and plain laws that the card rests on, part 11.
-/
import Derived.Test.YtjmegicopdbkdaaDoorL3
import Derived.Test.YtjmegicopdbkdaaDoorL2
import Derived.Test.YtjmegicopdbkdaaDoorL4
import Derived.Deep.RegionHeld3
import Derived.Test.YtjmegicopdbkdaaDoorL8
import Derived.Test.YtjmegicopdbkdaaDoorL7
import Derived.Test.YtjmegicopdbkdaaDoorL6
import Derived.Maps.OwnOps
import Derived.StillTailTactics
import Derived.Test.YtjmegicopdbkdaaDoorL5
set_option maxHeartbeats 1000000
set_option maxRecDepth 10000
namespace Go.Proofs.YtjmegicopdbkdaaDoor
open Go Go.RowKit Pl

theorem diff_not_any (A : Option Addr) (n c L : Nat) (xs : List Int) (w : World) (hS : Ints w A n xs) (hL : L < 2 ^ 64) :
    Calls Tryd.prog 42 #[.agg #[.slice A n c, .int .u64 L]] w fun e w' => e = .returned (.bool (!mayB xs L)) ∧ Kept w w' := by
  have HS := Lib.hid hS
  have HL := Lib.hid hL
  clear hS hL
  go_enter Tryd.func42, Tryd.ntmps42
  go_wp2_with fail
  refine (may_any A n c L xs _ (HS.out.kept (Kept.box _ _)) HL.out).mono ?_
  rintro e w1 ⟨rfl, hk⟩
  have Hk := Lib.hid ((Kept.box _ _).then hk)
  clear hk
  generalize hb : mayB xs L = b
  go_wp2
  go_ret
  subst hb
  exact ⟨ret_bool rfl, Hk.out⟩

/-- Where the first one that may not be stands. -/
theorem diff_index_any (A : Option Addr) (n c : Nat) (ds : List DomB) (w : World) (hS : Doms w A n ds) :
    Calls Tryd.prog 58 #[.slice A n c, .func (.func 42) #[] #[]] w fun e w' => ∃ i : Int, e = .returned (.int .i64 i) ∧ (decide (0 ≤ i) = !allMay ds) ∧ Kept w w' := by
  have HS := Lib.hid hS
  have hsm := hS.small
  have Hlen := Lib.hid hS.len
  clear hS
  go_enter Tryd.func58, Tryd.ntmps58
  go_wp2_with fail
  go_loopw [8] (fun v wr => ∃ k : Nat, k ≤ n ∧ v = .int .i64 k ∧ Hid (Kept w wr) ∧ Hid (allMay (ds.take k) = true)) (fun v _ => n - (intOf v).toNat)
  case atStart => exact ⟨0, Nat.zero_le _, rfl, Below.refl _ _, rfl⟩
  case round =>
    obtain ⟨k, hk, rfl, Hkw, Hok⟩ := hrel
    by_cases hlt : k < n
    · have hSr := HS.out.kept Hkw.out
      obtain ⟨a, rfl, hblk⟩ := hSr.addr (by omega)
      obtain ⟨xs, L, B, m, cB, Hd, hc1, hc2, HI, hL⟩ := hSr.named k hlt
      have Hnext : Hid (allMay (ds.take (k + 1)) = mayB xs L) := allMay_take (by have := Hlen.out; omega) Hd.out Hok.out
      have HQ := Lib.hid (diff_not_any B m cB L xs wr HI.out hL)
      clear hSr
      generalize hm : mayB xs L = b at HQ Hnext
      clear hm
      go_wp2_with fail
      refine HQ.out.mono ?_
      rintro e w1 ⟨rfl, hk1⟩
      have Hk1 := Lib.hid (Hkw.out.then hk1)
      clear hk1 HQ
      cases b with
      | true =>
        simp only [Bool.not_true]
        go_wp2
        go_roundw
        case rel => exact ⟨k + 1, by omega, by go_num, Hk1.out, Hnext.out⟩
        case measure => simp [intOf]; omega
      | false =>
        simp only [Bool.not_false]
        go_wp2
        go_ret
        refine ⟨k, rfl, ?_, Hk1.out⟩
        rw [allMay_bad Hnext.out]
        simp
    · have e : k = n := by omega
      subst e
      have h2 : allMay ds = true := by have := Hok.out; rwa [List.take_of_length_le (by have := Hlen.out; omega)] at this
      go_wp2
      go_ret
      exact ⟨-1, rfl, by rw [h2]; decide, Hkw.out⟩

theorem diff_contains_any (A : Option Addr) (n c : Nat) (ds : List DomB) (w : World) (hS : Doms w A n ds) :
    Calls Tryd.prog 26 #[.slice A n c, .func (.func 42) #[] #[]] w fun e w' => e = .returned (.bool (!allMay ds)) ∧ Kept w w' := by
  have HS := Lib.hid hS
  clear hS
  go_enter Tryd.func26, Tryd.ntmps26
  go_wp2_with fail
  refine (diff_index_any A n c ds _ HS.out).mono ?_
  rintro e w1 ⟨i, rfl, hi, hk⟩
  have Hi := Lib.hid hi
  clear hi
  go_wp2
  go_ret
  exact ⟨ret_bool Hi.out, hk⟩
end Go.Proofs.YtjmegicopdbkdaaDoor

set_option maxHeartbeats 1000000
set_option maxRecDepth 10000
namespace Go.Proofs.YtjmegicopdbkdaaDoor
open Go Go.RowKit Pl

theorem listB_len {xs : List Int} {L : Nat} (h : mayB xs L = true) : (listB xs L).length = (elems L).length := by
  rw [show listB xs L = valsOf xs L from if_pos h, valsOf_length]; unfold elemsI; rw [List.length_map]
theorem listB_none {xs : List Int} {L : Nat} (h : mayB xs L = false) : listB xs L = [] := if_neg (by rw [h]; simp)

theorem size1_any (A : Option Addr) (n c L : Nat) (w : World) (hL : L < 2 ^ 64) :
    Calls Tryd.prog 84 #[.agg #[.slice A n c, .int .u64 L]] w fun e w' => e = .returned (.int .i64 ((elems L).length : Nat)) ∧ Kept w w' := by
  have HL := Lib.hid hL
  clear hL
  go_enter Tryd.func84, Tryd.ntmps84
  go_wp2_with (go_at_call 85; refine (count_any L _ HL.out).mono ?_; rintro e w' ⟨rfl, rfl⟩)
  go_ret
  exact ⟨rfl, Kept.box _ _⟩

theorem size_any (A : Option Addr) (n c L : Nat) (xs : List Int) (w : World) (hS : Ints w A n xs) (hL : L < 2 ^ 64) :
    Calls Tryd.prog 70 #[.agg #[.slice A n c, .int .u64 L]] w fun e w' => e = .returned (.int .i64 ((listB xs L).length : Nat)) ∧ Kept w w' := by
  have HS := Lib.hid hS
  have HL := Lib.hid hL
  clear hS hL
  have hmay : Hid (∀ W, Ints W A n xs → Calls Tryd.prog 28 #[.agg #[.slice A n c, .int .u64 L]] W fun e w' => e = .returned (.bool (mayB xs L)) ∧ Kept W w') := fun W hW => may_any A n c L xs W hW HL.out
  obtain ⟨q, hq⟩ : ∃ q, q = (listB xs L).length := ⟨_, rfl⟩
  rw [← hq]
  cases hm : mayB xs L with
  | true =>
    rw [listB_len hm] at hq
    rw [hm] at hmay
    have Hq := Lib.hid hq
    clear hm hq
    go_enter Tryd.func70, Tryd.ntmps70
    go_wp2_with (first
      | (go_at_call 28; refine (hmay.out _ (HS.out.kept ((Kept.box _ _).then (Kept.box _ _)))).mono ?_; rintro e w1 ⟨rfl, hk⟩; have hb1 := hk.cellAt (box2_0 (w.alloc _) (.slice A n c) (.int .u64 L) _); have hb2 := hk.cellAt (box2_1 (w.alloc _) (.slice A n c) (.int .u64 L) _); simp only [World.size_alloc] at hb1 hb2; have Hk := Lib.hid (((Kept.box _ _).then (Kept.box _ _)).then hk); clear hk)
      | (go_at_call 84; refine (size1_any A n c L _ HL.out).mono ?_; rintro e w2 ⟨rfl, hk2⟩; have Hk2 := Lib.hid (Hk.out.then hk2); clear hk2)
      | go_in)
    go_ret
    exact ⟨by rw [Hq.out]; rfl, Hk2.out⟩
  | false =>
    rw [listB_none hm] at hq
    rw [hm] at hmay
    subst hq
    clear hm
    go_enter Tryd.func70, Tryd.ntmps70
    go_wp2_with (first
      | (go_at_call 28; refine (hmay.out _ (HS.out.kept ((Kept.box _ _).then (Kept.box _ _)))).mono ?_; rintro e w1 ⟨rfl, hk⟩; have Hk := Lib.hid (((Kept.box _ _).then (Kept.box _ _)).then hk); clear hk)
      | go_in)
    go_ret
    exact ⟨rfl, Hk.out⟩

theorem at_any (a : Addr) (n c L k : Nat) (xs : List Int) (w : World) (hS : Ints w (some a) n xs) (hk : k < n) :
    Calls Tryd.prog 86 #[.agg #[.slice (some a) n c, .int .u64 L], .int .i64 k] w fun e w' => e = .returned (.tuple #[.int .i64 (xs.getD k 0), .bool true]) ∧ Kept w w' := by
  obtain ⟨x, Hx, hcx, hx1, hx2⟩ := (hS.kept (Kept.box w (.cells #[.slice (some a) n c, .int .u64 L] 47))).named k hk
  obtain ⟨a', ha', hab⟩ := (hS.kept (Kept.box w (.cells #[.slice (some a) n c, .int .u64 L] 47))).addr (by omega)
  cases ha'
  clear hS
  rw [Hx.out]
  go_enter Tryd.func86, Tryd.ntmps86
  go_wp2_with fail
  go_ret2
  exact ⟨rfl, Kept.box _ _⟩
theorem elems_one {L : Nat} (hL : L < 2 ^ 64) (h : (elems L).length = 1) : L ≠ 0 ∧ elems L = [Lib.ctz 64 L] := by
  have h0 : L ≠ 0 := fun e => by rw [e, elems_zero] at h; simp at h
  refine ⟨h0, ?_⟩
  rw [elems_cons h0 hL] at h ⊢
  rw [List.length_cons] at h
  rw [List.eq_nil_of_length_eq_zero (by omega : (elems (L &&& (L - 1))).length = 0)]

theorem single_any (A : Option Addr) (n c L : Nat) (xs : List Int) (w : World) (hS : Ints w A n xs) (hL : L < 2 ^ 64) (hT : Tab w) :
    Calls Tryd.prog 48 #[.agg #[.slice A n c, .int .u64 L]] w fun e w' => ∃ x : Int, e = .returned (.tuple #[.int .i64 x, .bool (decide ((listB xs L).length = 1))]) ∧ ((listB xs L).length = 1 → listB xs L = [x]) ∧ Kept w w' := by
  have HS := Lib.hid hS
  have HL := Lib.hid hL
  have HT := Lib.hid hT
  have Hlen := Lib.hid hS.len
  clear hS hL hT
  have HQ : Hid (∀ W, Ints W A n xs → Calls Tryd.prog 70 #[.agg #[.slice A n c, .int .u64 L]] W fun e w' => e = .returned (.int .i64 ((listB xs L).length : Nat)) ∧ Kept W w') := fun W hW => size_any A n c L xs W hW HL.out
  have hmay : Hid (∀ W, Ints W A n xs → Calls Tryd.prog 28 #[.agg #[.slice A n c, .int .u64 L]] W fun e w' => e = .returned (.bool (mayB xs L)) ∧ Kept W w') := fun W hW => may_any A n c L xs W hW HL.out
  by_cases h1 : (listB xs L).length = 1
  · have hm : mayB xs L = true := by
      cases h : mayB xs L with
      | true => rfl
      | false => rw [listB_none h] at h1; simp at h1
    obtain ⟨h0, he⟩ := elems_one HL.out (by rw [← listB_len hm]; exact h1)
    have hv : listB xs L = [xs.getD (Lib.ctz 64 L) 0] := by
      rw [show listB xs L = valsOf xs L from if_pos hm]; unfold valsOf elemsI; rw [he]; simp
    have hlo : lo L = (Lib.ctz 64 L : Nat) := if_neg h0
    have hk : Lib.ctz 64 L < n := by
      have h2 := (ctz_testBit h0 HL.out).2.1
      have h3 := mayB_lt hm
      rw [Hlen.out] at h3
      refine Nat.lt_of_not_le fun hle => ?_
      rw [Nat.testBit_lt_two_pow (Nat.lt_of_lt_of_le h3 (Nat.pow_le_pow_right (by omega) hle))] at h2
      cases h2
    rw [h1] at HQ
    rw [hm] at hmay
    have HQL : Hid (∀ W, Tab W → Calls Tryd.prog 87 #[.int .u64 L] W fun e w' => e = .returned (.int .i64 (Lib.ctz 64 L : Nat)) ∧ Kept W w') := fun W hW => by rw [← hlo]; exact (least_any L W HL.out hW).mono fun _ _ ⟨h1, h2⟩ => ⟨h1, h2 ▸ Kept.same _⟩
    obtain ⟨a, ha, _⟩ := HS.out.addr (by omega)
    subst ha
    rw [decide_eq_true h1]
    have HV := Lib.hid hv
    clear hv h1 hm h0 he hlo
    generalize Lib.ctz 64 L = k at *
    have HA : Hid (∀ W, Ints W (some a) n xs → Calls Tryd.prog 86 #[.agg #[.slice (some a) n c, .int .u64 L], .int .i64 k] W fun e w' => e = .returned (.tuple #[.int .i64 (xs.getD k 0), .bool true]) ∧ Kept W w') := fun W hW => at_any a n c L k xs W hW hk
    generalize xs.getD k 0 = x at *
    have HLe : Hid (∀ W, Ints W (some a) n xs → Tab W → Calls Tryd.prog 72 #[.agg #[.slice (some a) n c, .int .u64 L]] W fun e w' => e = .returned (.tuple #[.int .i64 x, .bool true]) ∧ Kept W w') := by
      intro W hW hTW
      have HW := Lib.hid hW
      have HTW := Lib.hid hTW
      clear hW hTW HS HT HQ
      go_enter Tryd.func72, Tryd.ntmps72
      go_wp2_with (first
        | (go_at_call 28; refine (hmay.out _ (HW.out.kept (Kept.box _ _))).mono ?_; rintro e w1 ⟨rfl, hk⟩; have hb1 := hk.cellAt (box2_0 W (.slice (some a) n c) (.int .u64 L) _); have hb2 := hk.cellAt (box2_1 W (.slice (some a) n c) (.int .u64 L) _); have Hk := Lib.hid ((Kept.box _ _).then hk); clear hk))
      go_region_held3 (fun V => V.cell? ⟨W.heap.size, 0, Option.none⟩ = some (.slice (some a) n c) ∧ V.cell? ⟨W.heap.size, 1, Option.none⟩ = some (.int .u64 L)) (first | go_keep | exact ⟨((Kept.drewn _).then hk4).cellAt hb1, ((Kept.drewn _).then hk4).cellAt hb2⟩ | exact ⟨(((Kept.drewn _).then hk4).then hk5).cellAt hb1, (((Kept.drewn _).then hk4).then hk5).cellAt hb2⟩)
          (first
          | (go_at_call 87; refine (HQL.out _ ((HTW.out.kept Hk.out).kept (Kept.drewn _))).mono ?_; rintro e W4 ⟨rfl, hk4⟩)
          | (go_at_call 86; refine (HA.out _ ((HW.out.kept Hk.out).kept ((Kept.drewn _).then hk4))).mono ?_; rintro e W5 ⟨rfl, hk5⟩))
      have Hk2 := Lib.hid (Hk.out.then (((Kept.drewn _).then hk4).then hk5))
      clear hk4 hk5
      go_wp2_with fail
      go_ret2
      exact ⟨rfl, Hk2.out⟩
    go_enter Tryd.func48, Tryd.ntmps48
    go_wp2_with (first
      | (go_at_call 72; refine (HLe.out _ (HS.out.kept Hk.out) (HT.out.kept Hk.out)).mono ?_; rintro e w2 ⟨rfl, hk2⟩; have Hk2 := Lib.hid (Hk.out.then hk2); clear hk2)
      | (go_at_call 70; refine (HQ.out _ (HS.out.kept (Kept.box _ _))).mono ?_; rintro e w1 ⟨rfl, hk⟩; have hb1 := hk.cellAt (box2_0 w (.slice (some a) n c) (.int .u64 L) _); have hb2 := hk.cellAt (box2_1 w (.slice (some a) n c) (.int .u64 L) _); have Hk := Lib.hid ((Kept.box _ _).then hk); clear hk))
    go_ret2
    exact ⟨x, rfl, fun _ => HV.out, Hk2.out⟩
  · rw [decide_eq_false h1]
    generalize hq : (listB xs L).length = q at *
    have hne : ((q : Int) != 1) = true := by simp; omega
    have Hq := Lib.hid h1
    clear hq h1
    go_enter Tryd.func48, Tryd.ntmps48
    go_wp2_with (first
      | (go_at_call 70; refine (HQ.out _ (HS.out.kept (Kept.box _ _))).mono ?_; rintro e w1 ⟨rfl, hk⟩; have Hk := Lib.hid ((Kept.box _ _).then hk); clear hk))
    go_ret2
    exact ⟨0, rfl, fun h => absurd h Hq.out, Hk.out⟩
end Go.Proofs.YtjmegicopdbkdaaDoor

set_option maxHeartbeats 1000000
set_option maxRecDepth 10000
namespace Go.Proofs.YtjmegicopdbkdaaDoor
open Go Go.RowKit Go.Maps Pl

/-- Is v the only value of another variable? -/
def onlyB (ds : List DomB) (x v y : Int) : Bool := !decide (y = x) && (listB (ds.getD y.toNat nilD).1 (ds.getD y.toNat nilD).2 == [v])
theorem soleB_only (C : ConB) (ds : List DomB) (i : Nat) (v : Int) : soleB C ds i v = (List.range C.vars.length).any fun k => onlyB ds (C.vars.getD i 0) v (C.vars.getD k 0) := rfl

theorem diff21_any (y x v : Int) (Bl Bx Bv : Nat) (Al : Option Addr) (nl cl : Nat) (ds : List DomB) (w : World) (hl : w.cell? ⟨Bl, 0, none⟩ = some (.slice Al nl cl)) (hD : Doms w Al nl ds)
    (hx : w.cell? ⟨Bx, 0, none⟩ = some (.int .i64 x)) (hv : w.cell? ⟨Bv, 0, none⟩ = some (.int .i64 v)) (hT : Tab w) (h0 : 0 ≤ y) (h1 : y < nl) :
    Calls Tryd.prog 47 #[.int .i64 y, .pointer (some ⟨Bl, 0, none⟩), .pointer (some ⟨Bx, 0, none⟩), .pointer (some ⟨Bv, 0, none⟩)] w
      fun e w' => e = .returned (.bool (onlyB ds x v y)) ∧ Kept w w' := by
  obtain ⟨p, rfl⟩ := Int.eq_ofNat_of_zero_le h0
  have hpn : p < nl := by omega
  obtain ⟨al, rfl, hbl⟩ := hD.addr (by omega)
  obtain ⟨xs, L, B, m, cB, Hd, hc1, hc2, HI, hL⟩ := hD.named p hpn
  have HQ : Hid (∃ (q : Int) (b : Bool), Calls Tryd.prog 48 #[.agg #[.slice B m cB, .int .u64 L]] w (fun e w' => ∃ z : Int, e = .returned (.tuple #[.int .i64 z, .bool b]) ∧ (b = true → z = q) ∧ Kept w w') ∧ (b = true → listB xs L = [q]) ∧ (b = false → (listB xs L).length ≠ 1)) := by
    show _
    by_cases h : (listB xs L).length = 1
    · obtain ⟨q, hq⟩ := List.length_eq_one_iff.1 h
      refine ⟨q, true, (single_any B m cB L xs w HI.out hL hT).mono ?_, fun _ => hq, fun h => by cases h⟩
      rintro e w' ⟨z, rfl, hz, hk⟩
      refine ⟨z, by rw [decide_eq_true h], fun _ => ?_, hk⟩
      have := hz h
      rw [hq] at this
      injection this with a b
      exact a.symm
    · refine ⟨0, false, (single_any B m cB L xs w HI.out hL hT).mono ?_, fun h => (by cases h), fun _ => h⟩
      rintro e w' ⟨z, rfl, hz, hk⟩
      exact ⟨z, by rw [decide_eq_false h], fun h => (by cases h), hk⟩
  obtain ⟨q, b, HC, Hb1, Hb2⟩ := HQ.out
  have Hcall := Lib.hid HC
  have Hres : Hid (onlyB ds x v (p : Int) = (!decide ((p : Int) = x) && (b && decide (q = v)))) := by
    show _ = _
    unfold onlyB
    rw [Int.toNat_natCast, Hd.out]
    cases b with
    | true =>
      rw [Hb1 rfl]
      congr 1
      rw [Bool.eq_iff_iff]
      simp
    | false =>
      have : (listB (xs, L).1 (xs, L).2 == [v]) = false := by
        rw [beq_eq_false_iff_ne]
        intro h
        exact Hb2 rfl (by rw [show listB xs L = [v] from h]; rfl)
      rw [this]; simp
  rw [Hres.out]
  have Hx := Lib.hid hx
  have Hv := Lib.hid hv
  clear HQ HC Hb1 Hb2 Hres hD hx hv hT h0 h1
  cases b with
  | false =>
    by_cases hpx : (p : Int) = x
    · have hne : ((p : Int) != x) = false := by simp [hpx]
      have Hpx := Lib.hid hpx
      clear hpx
      go_enter Tryd.func47, Tryd.ntmps47
      go_wp2_with fail
      refine Hcall.out.mono ?_
      rintro e w1 ⟨z, rfl, _, hk⟩
      have hx1 := hk.cellAt Hx.out
      have hv1 := hk.cellAt Hv.out
      have Hk := Lib.hid hk
      clear hk
      go_wp2_with fail
      go_ret
      exact ⟨ret_bool (by simp), Hk.out⟩
    · have hne : ((p : Int) != x) = true := by simp [hpx]
      go_enter Tryd.func47, Tryd.ntmps47
      go_wp2_with fail
      refine Hcall.out.mono ?_
      rintro e w1 ⟨z, rfl, _, hk⟩
      have hx1 := hk.cellAt Hx.out
      have hv1 := hk.cellAt Hv.out
      have Hk := Lib.hid hk
      clear hk
      go_wp2_with fail
      go_ret
      exact ⟨ret_bool (by simp), Hk.out⟩
  | true =>
    by_cases hpx : (p : Int) = x
    · have hne : ((p : Int) != x) = false := by simp [hpx]
      have hd : decide ((p : Int) = x) = true := by simp [hpx]
      rw [hd]
      clear hd hpx
      go_enter Tryd.func47, Tryd.ntmps47
      go_wp2_with fail
      refine Hcall.out.mono ?_
      rintro e w1 ⟨z, rfl, hz, hk⟩
      have hx1 := hk.cellAt Hx.out
      have hv1 := hk.cellAt Hv.out
      have Hk := Lib.hid hk
      clear hk
      go_wp2_with fail
      go_ret
      exact ⟨ret_bool (by simp), Hk.out⟩
    · have hne : ((p : Int) != x) = true := by simp [hpx]
      have hd : decide ((p : Int) = x) = false := by simp [hpx]
      rw [hd]
      go_enter Tryd.func47, Tryd.ntmps47
      go_wp2_with fail
      refine Hcall.out.mono ?_
      rintro e w1 ⟨z, rfl, hz, hk⟩
      have hzq : z = q := hz trivial
      subst hzq
      have hx1 := hk.cellAt Hx.out
      have hv1 := hk.cellAt Hv.out
      have Hk := Lib.hid hk
      clear hk hz
      go_wp2_with fail
      go_ret
      exact ⟨ret_bool (by rw [Bool.eq_iff_iff]; simp), Hk.out⟩
theorem any_bad {xs : List Int} {g : Int → Bool} {k : Nat} {x : Int} (hk : k < xs.length) (hx : xs.getD k 0 = x) (h : g x = true) : xs.any g = true := by
  rw [List.any_eq_true]
  refine ⟨x, ?_, h⟩
  rw [← hx, List.getD_eq_getElem?_getD, List.getElem?_eq_getElem hk]
  exact List.getElem_mem _

theorem ints_index_any (A : Option Addr) (n c : Nat) (xs : List Int) (p0 p1 p2 : Value) (g : Int → Bool) (w : World) (hS : Ints w A n xs)
    (hF : ∀ (x : Int) (W : World), x ∈ xs → Kept w W → Calls Tryd.prog 47 #[.int .i64 x, p0, p1, p2] W fun e w' => e = .returned (.bool (g x)) ∧ Kept W w') :
    Calls Tryd.prog 71 #[.slice A n c, .func (.func 47) #[] #[p0, p1, p2]] w fun e w' => ∃ i : Int, e = .returned (.int .i64 i) ∧ (decide (0 ≤ i) = xs.any g) ∧ Kept w w' := by
  have HS := Lib.hid hS
  have hsm := hS.small
  have Hlen := Lib.hid hS.len
  have HF := Lib.hid hF
  clear hS hF
  go_enter Tryd.func71, Tryd.ntmps71
  go_wp2_with fail
  go_loopw [8] (fun v wr => ∃ k : Nat, k ≤ n ∧ v = .int .i64 k ∧ Hid (Kept w wr) ∧ Hid ((xs.take k).any g = false)) (fun v _ => n - (intOf v).toNat)
  case atStart => exact ⟨0, Nat.zero_le _, rfl, Below.refl _ _, rfl⟩
  case round =>
    obtain ⟨k, hk, rfl, Hkw, Hok⟩ := hrel
    by_cases hlt : k < n
    · have hSr := HS.out.kept Hkw.out
      obtain ⟨a, rfl, hblk⟩ := hSr.addr (by omega)
      obtain ⟨x, Hx, hcx, _, _⟩ := hSr.named k hlt
      have hkl : k < xs.length := by have := Hlen.out; omega
      have hmem : x ∈ xs := by
        rw [← Hx.out, List.getD_eq_getElem?_getD, List.getElem?_eq_getElem hkl]
        exact List.getElem_mem _
      have HQ := Lib.hid (HF.out x wr hmem Hkw.out)
      have Hbad : Hid (g x = true → xs.any g = true) := any_bad hkl Hx.out
      have Hnext : Hid (g x = false → (xs.take (k + 1)).any g = false) := fun h => by
        rw [take_succ_getD hkl Hx.out, List.any_append, Hok.out]
        simp [h]
      clear hSr hmem
      generalize g x = b at HQ Hbad Hnext
      go_wp2_with fail
      refine HQ.out.mono ?_
      rintro e w1 ⟨rfl, hk1⟩
      have Hk1 := Lib.hid (Hkw.out.then hk1)
      clear hk1 HQ
      cases b with
      | false =>
        go_wp2
        go_roundw
        case rel => exact ⟨k + 1, by omega, by go_num, Hk1.out, Hnext.out (by first | rfl | trivial)⟩
        case measure => simp [intOf]; omega
      | true =>
        go_wp2
        go_ret
        refine ⟨k, rfl, ?_, Hk1.out⟩
        rw [Hbad.out (by first | rfl | trivial)]
        simp
    · have e : k = n := by omega
      subst e
      have h2 : xs.any g = false := by have := Hok.out; rwa [List.take_of_length_le (by have := Hlen.out; omega)] at this
      go_wp2
      go_ret
      exact ⟨-1, rfl, by rw [h2]; decide, Hkw.out⟩

theorem ints_contains_any (A : Option Addr) (n c : Nat) (xs : List Int) (p0 p1 p2 : Value) (g : Int → Bool) (w : World) (hS : Ints w A n xs)
    (hF : ∀ (x : Int) (W : World), x ∈ xs → Kept w W → Calls Tryd.prog 47 #[.int .i64 x, p0, p1, p2] W fun e w' => e = .returned (.bool (g x)) ∧ Kept W w') :
    Calls Tryd.prog 46 #[.slice A n c, .func (.func 47) #[] #[p0, p1, p2]] w fun e w' => e = .returned (.bool (xs.any g)) ∧ Kept w w' := by
  have HS := Lib.hid hS
  have HF := Lib.hid hF
  clear hS hF
  go_enter Tryd.func46, Tryd.ntmps46
  go_wp2_with fail
  refine (ints_index_any A n c xs p0 p1 p2 g _ HS.out HF.out).mono ?_
  rintro e w1 ⟨i, rfl, hi, hk⟩
  have Hi := Lib.hid hi
  clear hi
  go_wp2
  go_ret
  exact ⟨ret_bool Hi.out, hk⟩

/-- What Step's question reads. -/
structure DiffBox (w : World) (Bn Bc Bl Bx : Nat) (A1 : Option Addr) (n1 c1 : Nat) (Al : Option Addr) (nl cl : Nat) (vars : List Int) (ds : List DomB) (b : Bool) (x : Int) : Prop where
  non : w.cell? ⟨Bn, 0, none⟩ = some (.bool b)
  con : w.cell? ⟨Bc, 1, none⟩ = some (.slice A1 n1 c1)
  ints : Ints w A1 n1 vars
  lst : w.cell? ⟨Bl, 0, none⟩ = some (.slice Al nl cl)
  doms : Doms w Al nl ds
  val : w.cell? ⟨Bx, 0, none⟩ = some (.int .i64 x)
  rng : ∀ y ∈ vars, 0 ≤ y ∧ y < nl

theorem DiffBox.kept {w w' : World} {Bn Bc Bl Bx : Nat} {A1 : Option Addr} {n1 c1 : Nat} {Al : Option Addr} {nl cl : Nat} {vars : List Int} {ds : List DomB} {b : Bool} {x : Int} (h : DiffBox w Bn Bc Bl Bx A1 n1 c1 Al nl cl vars ds b x) (hk : Kept w w') : DiffBox w' Bn Bc Bl Bx A1 n1 c1 Al nl cl vars ds b x :=
  ⟨hk.cellAt h.non, hk.cellAt h.con, h.ints.kept hk, hk.cellAt h.lst, h.doms.kept hk, hk.cellAt h.val, h.rng⟩

theorem diff2_any (v : Int) (Bn Bc Bl Bx : Nat) (A1 : Option Addr) (n1 c1 : Nat) (Al : Option Addr) (nl cl : Nat) (vars : List Int) (ds : List DomB) (b : Bool) (x : Int) (w : World) (hE : DiffBox w Bn Bc Bl Bx A1 n1 c1 Al nl cl vars ds b x) (hT : Tab w) :
    Calls Tryd.prog 45 #[.int .i64 v, .pointer (some ⟨Bn, 0, none⟩), .pointer (some ⟨Bc, 0, none⟩), .pointer (some ⟨Bl, 0, none⟩), .pointer (some ⟨Bx, 0, none⟩)] w
      fun e w' => e = .returned (.bool (!b && !(vars.any (onlyB ds x v)))) ∧ Kept w w' := by
  have HE := Lib.hid hE
  have HT := Lib.hid hT
  have hnon := (Kept.box w (.cells #[.int .i64 v] 3)).cellAt hE.non
  have hcon := (Kept.box w (.cells #[.int .i64 v] 3)).cellAt hE.con
  have hln : Bn < (w.alloc (.cells #[.int .i64 v] 3)).heap.size := World.block_lt_of_cell? _ _ hnon
  have hlc : Bc < (w.alloc (.cells #[.int .i64 v] 3)).heap.size := World.block_lt_of_cell? _ _ hcon
  have hvv : (w.alloc (.cells #[.int .i64 v] 3)).cell? ⟨w.heap.size, 0, none⟩ = some (.int .i64 v) := by simp [go_sem]
  have HQ : Hid (Calls Tryd.prog 46 #[.slice A1 n1 c1, .func (.func 47) #[] #[.pointer (some ⟨Bl, 0, none⟩), .pointer (some ⟨Bx, 0, none⟩), .pointer (some ⟨w.heap.size, 0, none⟩)]] (w.alloc (.cells #[.int .i64 v] 3)) fun e w' => e = .returned (.bool (vars.any (onlyB ds x v))) ∧ Kept (w.alloc (.cells #[.int .i64 v] 3)) w') := by
    refine ints_contains_any A1 n1 c1 vars _ _ _ (onlyB ds x v) _ (hE.ints.kept (Kept.box _ _)) fun y W hy hW => ?_
    have hk : Kept w W := (Kept.box _ _).then hW
    exact diff21_any y x v Bl Bx w.heap.size Al nl cl ds W (hk.cellAt hE.lst) (hE.doms.kept hk) (hk.cellAt hE.val) (hW.cellAt hvv) (hT.kept hk) (hE.rng y hy).1 (hE.rng y hy).2
  clear hE hT hvv
  cases b with
  | true =>
    go_enter Tryd.func45, Tryd.ntmps45
    go_wp2_with fail
    go_ret
    exact ⟨rfl, Kept.box _ _⟩
  | false =>
    generalize vars.any (onlyB ds x v) = g at HQ
    go_enter Tryd.func45, Tryd.ntmps45
    go_wp2_with fail
    refine HQ.out.mono ?_
    rintro e w1 ⟨rfl, hk⟩
    have Hk := Lib.hid ((Kept.box _ _).then hk)
    clear hk
    go_wp2_with fail
    go_ret
    exact ⟨ret_bool (by simp), Hk.out⟩
end Go.Proofs.YtjmegicopdbkdaaDoor

set_option maxHeartbeats 1000000
set_option maxRecDepth 10000
namespace Go.Proofs.YtjmegicopdbkdaaDoor
open Go Go.RowKit Pl

end Go.Proofs.YtjmegicopdbkdaaDoor

set_option maxHeartbeats 1000000
set_option maxRecDepth 10000
namespace Go.Proofs.YtjmegicopdbkdaaDoor
open Go Go.RowKit Go.Maps Pl

theorem lawInt : Keyed Tryd.prog 3 := int_keyed Tryd.underlying3
theorem zeroInt (w : World) : (zeroValue 3).run Tryd.prog w = .ok (.int .i64 0) w := by kernel_rfl

/-- Whether a place's number may stand. -/
def isE (nums vals : List Int) (i : Int) : Bool := decide (0 ≤ i) && decide (i < nums.length) && vals.contains (nums.getD i.toNat 0)
/-- How often a number has been counted. -/
def cntE (nums vals l : List Int) (x : Int) : Nat := (l.filter fun i => isE nums vals i && (nums.getD i.toNat 0 == x)).length
/-- A map of counts. -/
def Counts (w : World) (M n : Nat) (f : Int → Nat) : Prop :=
  ∃ D : DataW Unit, w.ownsMap Tryd.prog 3 (plainElem Tryd.prog 3) M n D ∧ ∀ x, D.atKey (.int .i64 x) (.lit (.int .i64 0)) = .lit (.int .i64 (f x : Nat))

theorem Counts.made (w : World) : Counts (w.alloc (.map #[] 0)) w.heap.size 0 (fun _ => 0) := ⟨_, World.ownsMap_made _ _ _ _, fun _ => rfl⟩

/-- What Step's first question reads. -/
structure ElemBox (w : World) (Bc Bl Bv Bm M : Nat) (Al : Option Addr) (nl cl : Nat) (A3 : Option Addr) (n3 c3 : Nat) (nums : List Int) (ds : List DomB) (pv : Nat) : Prop where
  con : w.cell? ⟨Bc, 5, none⟩ = some (.slice A3 n3 c3)
  nums : Ints w A3 n3 nums
  lst : w.cell? ⟨Bl, 0, none⟩ = some (.slice Al nl cl)
  doms : Doms w Al nl ds
  val : w.cell? ⟨Bv, 0, none⟩ = some (.int .i64 (pv : Nat))
  lt : pv < nl
  map : w.cell? ⟨Bm, 0, none⟩ = some (.map (some M))
  may : mayB (ds.getD pv nilD).1 (ds.getD pv nilD).2 = true

theorem Counts.kept {w w' : World} {M n : Nat} {f : Int → Nat} (h : Counts w M n f) (hk : Kept w w') : Counts w' M n f := by
  obtain ⟨D, ⟨es, clock, hb, F, hs, hD⟩, hx⟩ := h
  exact ⟨D, ⟨es, clock, hk.heapAt hb, F, hs, hD⟩, hx⟩
theorem KeptBut.grown {M : Nat} {w w' : World} (h : w.grownBy w' (some M)) : KeptBut M w w' :=
  ⟨h.os, h.tape, h.output, h.size, fun k hk hB => h.block k hk (by simpa using hB)⟩
theorem isMap_of {w : World} {P : Program} {k : TypeId} {R : Value → Option (DataW Unit × List MemPlace)} {b n : Nat} {D : DataW Unit} (h : w.ownsMap P k R b n D) : IsMap D := by
  obtain ⟨es, clock, _, _, _, hD⟩ := h
  exact ⟨_, hD⟩
theorem Counts.same {w : World} {M n : Nat} {f : Int → Nat} (h : Counts w M n f) {b : Bool} (p : Int → Bool) (hb : b = false) : Counts w M (n + 1) (fun v => f v + if b && p v then 1 else 0) := by
  obtain ⟨D, hown, hx⟩ := h
  subst hb
  exact ⟨D, hown.mono (Nat.le_succ _), by simpa using hx⟩

end Go.Proofs.YtjmegicopdbkdaaDoor

set_option maxHeartbeats 1000000
set_option maxRecDepth 10000
namespace Go.Proofs.YtjmegicopdbkdaaDoor
open Go Go.RowKit Pl

theorem heap_newAt {w : World} {o : Obj} {n : Nat} (hn : n = w.heap.size) : (w.alloc o).heap[n]? = some o := by subst hn; exact heap_new w o
theorem Doms.of_heap {w : World} {O n : Nat} {cs : Array Value} {t : TypeId} {fr : Nat × Nat} {ds : List DomB} (h : w.heap[O]? = some (.cells cs t fr)) (hn : ds.length = n) (hs : n ≤ 1000) (hl : ∀ j, j < n → (ds.getD j nilD).2 < 2 ^ 64)
    (hd : ∀ j, j < n → ∃ B m c, cs[j * 2]? = some (.slice B m c) ∧ cs[j * 2 + 1]? = some (.int .u64 ((ds.getD j nilD).2 : Nat)) ∧ Ints w B m (ds.getD j nilD).1) : Doms w (some ⟨O, 0, Option.none⟩) n ds :=
  ⟨hn, by omega, hl, fun _ => ⟨_, rfl, fun j hj => by
    obtain ⟨B, m, c, h1, h2, h3⟩ := hd j hj
    refine ⟨B, m, c, ?_, ?_, h3⟩
    · rw [add_plain, Nat.zero_add, cell_at h]; exact h1
    · rw [add_plain, Nat.zero_add, cell_at h]; exact h2⟩⟩
theorem Doms.plain {w : World} {A : Option Addr} {n : Nat} {ds : List DomB} (h : Doms w A n ds) (hn : 0 < n) : ∃ b off, A = some ⟨b, off, Option.none⟩ ∧ ∀ j, j < n → w.cell? ⟨b, off + j * 2 + 1, Option.none⟩ = some (.int .u64 ((ds.getD j nilD).2 : Nat)) := by
  obtain ⟨a, rfl, hc⟩ := h.cell hn
  obtain ⟨_, _, _, h0, _, _⟩ := hc 0 hn
  have e0 : a.add (0 * 2) = a := by unfold Addr.add; simp
  rw [e0] at h0
  have hp := plain_of_cell h0
  refine ⟨a.block, a.off, by rw [← hp], fun j hj => ?_⟩
  obtain ⟨_, _, _, _, h2, _⟩ := hc j hj
  rw [hp, add_plain] at h2
  exact h2

/-- Blocks laid one behind the other. -/
def allocs (w : World) (os : List Obj) : World := os.foldl World.alloc w
theorem heap_allocs : ∀ (os : List Obj) (w : World) (k : Nat) (o : Obj), os[k]? = some o → (allocs w os).heap[w.heap.size + k]? = some o ∧ Kept w (allocs w os)
  | [], w, k, o, h => by simp at h
  | x :: os, w, 0, o, h => by
    have e : x = o := by simpa using h
    subst e
    have hk : Kept (w.alloc x) (allocs (w.alloc x) os) := kept_allocs os _
    exact ⟨hk.heapAt (heap_new w x), (Kept.box w x).then hk⟩
  | x :: os, w, k + 1, o, h => by
    have h' : os[k]? = some o := by simpa using h
    obtain ⟨h1, h2⟩ := heap_allocs os (w.alloc x) k o h'
    rw [World.size_alloc] at h1
    refine ⟨?_, (Kept.box w x).then h2⟩
    have e : w.heap.size + (k + 1) = w.heap.size + 1 + k := by omega
    rw [e]
    exact h1
where kept_allocs : ∀ (os : List Obj) (w : World), Kept w (allocs w os)
  | [], w => Kept.same w
  | x :: os, w => (Kept.box w x).then (kept_allocs os (w.alloc x))

end Go.Proofs.YtjmegicopdbkdaaDoor

set_option maxHeartbeats 2000000
set_option maxRecDepth 10000
namespace Go.Proofs.YtjmegicopdbkdaaDoor
open Go Go.RowKit Go.Maps Pl

theorem bs_any (A : Option Addr) (n c : Nat) (zs : List Int) (x : Int) (w : World) (hI : Ints w A n zs) (hn : n ≤ 100000) (hs : zs.Pairwise (· ≤ ·)) :
    Calls Tryd.prog 60 #[.slice A n c, .int .i64 x] w fun e w' => ∃ i : Int, e = .returned (.tuple #[.int .i64 i, .bool (zs.contains x)]) ∧ Kept w w' := by
  by_cases h0 : 0 < n
  · obtain ⟨b, off, rfl, hc⟩ := hI.plain h0
    have hl := hI.len
    refine (Tryd.slices_BinarySearch_int b off n c zs x w (by omega) (by omega) (fun j hj => hc j (by omega)) (by rw [← hl, List.take_length]; exact hs)).mono ?_
    rintro e w' ⟨he, q, rfl⟩
    rw [← hl, List.take_length] at he
    exact ⟨_, he, (Kept.same w).drewN q⟩
  · have h1 : n = 0 := by omega
    subst h1
    have hz : zs = [] := List.eq_nil_of_length_eq_zero hI.len
    subst hz
    refine (Tryd.slices_BinarySearch_int_empty A c x w).mono ?_
    rintro e w' ⟨he, rfl⟩
    exact ⟨0, he, Kept.same _⟩

/-- A map in which the numbers of a list stand. -/
def Marks (w : World) (M n : Nat) (K : List Int) : Prop := Counts w M n (fun x => if K.contains x = true then 1 else 0)
theorem Marks.made (w : World) : Marks (w.alloc (.map #[] 0)) w.heap.size 0 [] := ⟨_, World.ownsMap_made _ _ _ _, fun _ => rfl⟩
theorem Marks.of_heap {w : World} {M : Nat} (h : w.heap[M]? = some (.map #[] 0)) : Marks w M 0 [] := by
  obtain ⟨D, ⟨es, clock, hb, F, hs, hD⟩, hx⟩ := Marks.made w
  rw [heap_new] at hb
  cases hb
  exact ⟨D, ⟨_, _, h, F, hs, hD⟩, hx⟩
theorem Marks.kept {w w' : World} {M n : Nat} {K : List Int} (h : Marks w M n K) (hk : Kept w w') : Marks w' M n K := Counts.kept h hk
theorem Marks.but {w w' : World} {M O n : Nat} {K : List Int} (h : Marks w M n K) (hk : KeptBut O w w') (hne : M ≠ O) : Marks w' M n K := by
  obtain ⟨D, ⟨es, clock, hb, F, hs, hD⟩, hx⟩ := h
  exact ⟨D, ⟨es, clock, hk.heapAt hb hne, F, hs, hD⟩, hx⟩
theorem Marks.grown {w w' : World} {M M' n : Nat} {K : List Int} (h : Marks w M n K) (hk : w.grownBy w' (some M')) (hne : M ≠ M') : Marks w' M n K := by
  obtain ⟨D, ⟨es, clock, hb, F, hs, hD⟩, hx⟩ := h
  exact ⟨D, ⟨es, clock, (hk.block M (lt_at hb) (by simpa using hne)).trans hb, F, hs, hD⟩, hx⟩
theorem own_grown {w w' : World} {M M' n : Nat} {D : DataW Unit} (h : w.ownsMap Tryd.prog 3 (plainElem Tryd.prog 3) M n D) (hk : w.grownBy w' (some M')) (hne : M ≠ M') : w'.ownsMap Tryd.prog 3 (plainElem Tryd.prog 3) M n D := by
  obtain ⟨es, clock, hb, F, hs, hD⟩ := h
  exact ⟨es, clock, (hk.block M (lt_at hb) (by simpa using hne)).trans hb, F, hs, hD⟩
theorem KeptX.grown {X : Nat → Prop} {M : Nat} {w w' : World} (h : w.grownBy w' (some M)) (hX : X M) : KeptX X w w' := KeptX.ofBut (KeptBut.grown h) hX
theorem keyI {y : Int} (h : -9223372036854775808 ≤ y ∧ y ≤ 9223372036854775807) : keyOf Tryd.prog 3 (.int .i64 y) = some (.int .i64 y) := keyOf_int_mk Tryd.underlying3 (WalkArith.wf_i64 (by omega))
theorem marks_put {w w' : World} {M n : Nat} {K : List Int} {y : Int} {D : DataW Unit} (hown : w.ownsMap Tryd.prog 3 (plainElem Tryd.prog 3) M n D)
    (hD : ∀ x, D.atKey (.int .i64 x) (.lit (.int .i64 0)) = .lit (.int .i64 ((if K.contains x = true then 1 else 0 : Nat) : Int))) (hy : -9223372036854775808 ≤ y ∧ y ≤ 9223372036854775807)
    (hown2 : w'.ownsMap Tryd.prog 3 (plainElem Tryd.prog 3) M (n + 1) (D.put (.int .i64 y) (.lit (.int .i64 1)))) : Marks w' M (n + 1) (K ++ [y]) := by
  refine ⟨_, hown2, fun v => ?_⟩
  by_cases hv : y = v
  · subst hv
    rw [atKey_put_same (isMap_of hown) (lawInt.key (keyI hy))]
    simp
  · rw [atKey_put_other (by intro e; cases e; exact hv rfl), hD v]
    have : (K ++ [y]).contains v = K.contains v := by
      rw [Bool.eq_iff_iff, List.contains_iff_mem, List.contains_iff_mem, List.mem_append, List.mem_singleton]
      exact ⟨fun h => h.resolve_right (fun e => hv e.symm), .inl⟩
    show _ = DataW.lit (.int .i64 ((if (K ++ [y]).contains v = true then 1 else 0 : Nat) : Int))
    rw [this]

/-- The pairs whose product is among Z, of the first values of X. -/
def pairsOf (Y Z : List Int) (a : Int) (j : Nat) : List (Int × Int) := ((Y.take j).filter fun b => Z.contains (a * b)).map fun b => (a, b)
def pairsU (X Y Z : List Int) : Nat → List (Int × Int)
  | 0 => []
  | i + 1 => pairsU X Y Z i ++ pairsOf Y Z (X.getD i 0) Y.length
theorem mem_pairsU {X Y Z : List Int} {i : Nat} (hi : i ≤ X.length) {p : Int × Int} : p ∈ pairsU X Y Z i ↔ p.1 ∈ X.take i ∧ p.2 ∈ Y ∧ p.1 * p.2 ∈ Z := by
  induction i with
  | zero => simp [pairsU]
  | succ i ih =>
    simp only [pairsU]
    rw [List.mem_append, ih (by omega), take_one (by omega) rfl, List.mem_append, List.mem_singleton]
    unfold pairsOf
    rw [List.take_length, List.mem_map]
    constructor
    · rintro (⟨h1, h2, h3⟩ | ⟨b, hb, rfl⟩)
      · exact ⟨.inl h1, h2, h3⟩
      · rw [List.mem_filter, List.contains_iff_mem] at hb
        exact ⟨.inr rfl, hb.1, hb.2⟩
    · rintro ⟨h1 | h1, h2, h3⟩
      · exact .inl ⟨h1, h2, h3⟩
      · right
        refine ⟨p.2, ?_, by rw [← h1]⟩
        rw [List.mem_filter, List.contains_iff_mem, ← h1]
        exact ⟨h2, h3⟩
theorem pairsOf_len (Y Z : List Int) (a : Int) (j : Nat) : (pairsOf Y Z a j).length ≤ j := by
  unfold pairsOf
  rw [List.length_map]
  exact Nat.le_trans (List.length_filter_le _ _) (by rw [List.length_take]; exact Nat.min_le_left _ _)
theorem pairsU_len (X Y Z : List Int) (i : Nat) : (pairsU X Y Z i).length ≤ i * Y.length := by
  induction i with
  | zero => simp [pairsU]
  | succ i ih =>
    simp only [pairsU]
    rw [List.length_append, Nat.add_mul, Nat.one_mul]
    have := pairsOf_len Y Z (X.getD i 0) Y.length
    omega
theorem pairsOf_succ {Y Z : List Int} {a : Int} {j : Nat} {b : Int} (hj : j < Y.length) (hb : Y.getD j 0 = b) : pairsOf Y Z a (j + 1) = pairsOf Y Z a j ++ (if Z.contains (a * b) = true then [(a, b)] else []) := by
  unfold pairsOf
  rw [take_one hj hb, List.filter_append, List.map_append]
  congr 1
  by_cases h : Z.contains (a * b) = true
  · rw [if_pos h, List.filter_cons, if_pos h]; rfl
  · rw [if_neg h, List.filter_cons, if_neg h]; rfl

/-- The three maps. -/
def Keeps (w : World) (M0 M1 M2 n : Nat) (P : List (Int × Int)) : Prop := Marks w M0 n (P.map (·.1)) ∧ Marks w M1 n (P.map (·.2)) ∧ Marks w M2 n (P.map fun p => p.1 * p.2)
/-- What try hands back. -/
def TryPost (P : List (Int × Int)) (w : World) (e : Ending) (w' : World) : Prop :=
  ∃ M0 M1 M2 n, e = .returned (.agg #[.map (some M0), .map (some M1), .map (some M2)]) ∧ Keeps w' M0 M1 M2 n P ∧ w.heap.size ≤ M0 ∧ w.heap.size ≤ M1 ∧ w.heap.size ≤ M2 ∧ Kept w w'

theorem mul_rng {a b : Int} (ha : -1048576 ≤ a ∧ a ≤ 1048576) (hb : -1048576 ≤ b ∧ b ≤ 1048576) : -9223372036854775808 ≤ a * b ∧ a * b ≤ 9223372036854775807 := by
  have h1 : (a * b).natAbs ≤ 1048576 * 1048576 := by
    rw [Int.natAbs_mul]
    exact Nat.mul_le_mul (by omega) (by omega)
  omega

theorem try_any (A B D : Option Addr) (n m q c d f : Nat) (X Y Z : List Int) (w : World) (hX : Ints w A n X) (hY : Ints w B m Y) (hZ : Ints w D q Z) (hn : n ≤ 64) (hm : m ≤ 64) (hq : q ≤ 64)
    (hrX : ∀ x ∈ X, -1048576 ≤ x ∧ x ≤ 1048576) (hrY : ∀ x ∈ Y, -1048576 ≤ x ∧ x ≤ 1048576) (hs : Z.Pairwise (· ≤ ·)) :
    Calls Tryd.prog 30 #[.slice A n c, .slice B m d, .slice D q f] w (TryPost (pairsU X Y Z n) w) := by
  have HX := Lib.hid hX
  have HY := Lib.hid hY
  have HZ := Lib.hid hZ
  have HrX := Lib.hid hrX
  have HrY := Lib.hid hrY
  have Hs := Lib.hid hs
  have HlX := Lib.hid hX.len
  have HlY := Lib.hid hY.len
  clear hX hY hZ hrX hrY hs
  have hmm := @run_makeMap Tryd.prog
  go_enter Tryd.func30, Tryd.ntmps30
  go_wp2_with fail
  have HF := fun k o h => (heap_allocs [.cells #[.map none, .map none, .map none] 54, .map #[] 0, .map #[] 0, .map #[] 0,
    .cells #[.map (some (w.heap.size + 1)), .map (some (w.heap.size + 1 + 1)), .map (some (w.heap.size + 1 + 1 + 1))] 54] w k o h).1
  have HR0 : Hid ((allocs w [.cells #[.map none, .map none, .map none] 54, .map #[] 0, .map #[] 0, .map #[] 0,
    .cells #[.map (some (w.heap.size + 1)), .map (some (w.heap.size + 1 + 1)), .map (some (w.heap.size + 1 + 1 + 1))] 54]).heap[w.heap.size]? = some (.cells #[.map none, .map none, .map none] 54)) := HF 0 _ rfl
  have F1 := HF 1 _ rfl
  have F2 := HF 2 _ rfl
  have F3 := HF 3 _ rfl
  have Hb0 : Hid ((allocs w [.cells #[.map none, .map none, .map none] 54, .map #[] 0, .map #[] 0, .map #[] 0,
    .cells #[.map (some (w.heap.size + 1)), .map (some (w.heap.size + 1 + 1)), .map (some (w.heap.size + 1 + 1 + 1))] 54]).heap[w.heap.size + 1 + 1 + 1 + 1]? = some (.cells #[.map (some (w.heap.size + 1)), .map (some (w.heap.size + 1 + 1)), .map (some (w.heap.size + 1 + 1 + 1))] 54)) := HF 4 _ rfl
  have HK0 := Lib.hid (heap_allocs.kept_allocs [.cells #[.map none, .map none, .map none] 54, .map #[] 0, .map #[] 0, .map #[] 0,
    .cells #[.map (some (w.heap.size + 1)), .map (some (w.heap.size + 1 + 1)), .map (some (w.heap.size + 1 + 1 + 1))] 54] w)
  have hsz0 : (allocs w [.cells #[.map none, .map none, .map none] 54, .map #[] 0, .map #[] 0, .map #[] 0,
    .cells #[.map (some (w.heap.size + 1)), .map (some (w.heap.size + 1 + 1)), .map (some (w.heap.size + 1 + 1 + 1))] 54]).heap.size = w.heap.size + 5 := by simp [allocs]
  have Hs0 := Lib.hid hsz0
  change Code.wp _ _ _ _ (allocs w [.cells #[.map none, .map none, .map none] 54, .map #[] 0, .map #[] 0, .map #[] 0,
    .cells #[.map (some (w.heap.size + 1)), .map (some (w.heap.size + 1 + 1)), .map (some (w.heap.size + 1 + 1 + 1))] 54])
  generalize allocs w [.cells #[.map none, .map none, .map none] 54, .map #[] 0, .map #[] 0, .map #[] 0,
    .cells #[.map (some (w.heap.size + 1)), .map (some (w.heap.size + 1 + 1)), .map (some (w.heap.size + 1 + 1 + 1))] 54] = W0 at *
  have HM0 : Hid (Keeps W0 (w.heap.size + 1) (w.heap.size + 1 + 1) (w.heap.size + 1 + 1 + 1) 0 []) := ⟨Marks.of_heap F1, Marks.of_heap F2, Marks.of_heap F3⟩
  clear HF F1 F2 F3 hsz0 hmm
  go_loopw [20] (fun u wr => ∃ i : Nat, i ≤ n ∧ u = .int .i64 i ∧ Hid (Keeps wr (w.heap.size + 1) (w.heap.size + 1 + 1) (w.heap.size + 1 + 1 + 1) (pairsU X Y Z i).length (pairsU X Y Z i)) ∧ Hid (KeptX (fun b => b = w.heap.size + 1 ∨ b = w.heap.size + 1 + 1 ∨ b = w.heap.size + 1 + 1 + 1) W0 wr)) (fun u _ => n - (intOf u).toNat)
  case atStart => exact ⟨0, Nat.zero_le _, rfl, HM0.out, KeptX.refl _ _⟩
  case round =>
    obtain ⟨i, hi, rfl, HMi, Hki⟩ := hrel
    obtain ⟨wi, hwi⟩ : ∃ wi : World, wi = wr := ⟨_, rfl⟩
    subst hwi
    by_cases hlt : i < n
    · have HKi := Lib.hid (Hki.out.below HK0.out (fun b hb => by omega))
      obtain ⟨aX, haX, hbX⟩ := (HX.out.kept HKi.out).addr (by omega)
      subst haX
      obtain ⟨a, Ha, hca, _, _⟩ := (HX.out.kept HKi.out).named i hlt
      have hra : -1048576 ≤ a ∧ a ≤ 1048576 := HrX.out a (by rw [← Ha.out, List.getD_eq_getElem?_getD, List.getElem?_eq_getElem (by have := HlX.out; omega)]; exact List.getElem_mem _)
      go_wp2_with fail
      go_step3
      go_wp2_with fail
      go_step3
      go_wp2_with fail
      go_loopw [26] (fun u wq => ∃ j : Nat, j ≤ m ∧ u = .int .i64 j ∧ Hid (Keeps wq (w.heap.size + 1) (w.heap.size + 1 + 1) (w.heap.size + 1 + 1 + 1) (pairsU X Y Z i ++ pairsOf Y Z a j).length (pairsU X Y Z i ++ pairsOf Y Z a j)) ∧ Hid (KeptX (fun b => b = w.heap.size + 1 ∨ b = w.heap.size + 1 + 1 ∨ b = w.heap.size + 1 + 1 + 1) W0 wq)) (fun u _ => m - (intOf u).toNat)
      case atStart => exact ⟨0, Nat.zero_le _, rfl, by rw [show pairsOf Y Z a 0 = [] from rfl, List.append_nil]; exact HMi.out, Hki.out⟩
      case round =>
        obtain ⟨j, hj, rfl, HMj, Hkj⟩ := hrel
        have HKj := Lib.hid (Hkj.out.below HK0.out (fun b hb => by omega))
        by_cases hltj : j < m
        · obtain ⟨bY, hbYe, hbY⟩ := (HY.out.kept HKj.out).addr (by omega)
          subst hbYe
          obtain ⟨b, Hb, hcb, _, _⟩ := (HY.out.kept HKj.out).named j hltj
          have hrb : -1048576 ≤ b ∧ b ≤ 1048576 := HrY.out b (by rw [← Hb.out, List.getD_eq_getElem?_getD, List.getElem?_eq_getElem (by have := HlY.out; omega)]; exact List.getElem_mem _)
          obtain ⟨y, hy⟩ : ∃ y, y = a * b := ⟨_, rfl⟩
          have hyr : -9223372036854775808 ≤ y ∧ y ≤ 9223372036854775807 := by rw [hy]; exact mul_rng hra hrb
          have hyw : IntKind.i64.wrap (a * b) = y := by rw [← hy]; exact IntWalk.i64_in _ (by omega)
          have Hsucc : Hid (pairsOf Y Z a (j + 1) = pairsOf Y Z a j ++ (if Z.contains y = true then [(a, b)] else [])) := by rw [hy]; exact pairsOf_succ (by have := HlY.out; omega) Hb.out
          have HQ := Lib.hid (bs_any D q f Z y wr (HZ.out.kept HKj.out) (by omega) Hs.out)
          have hlen : (pairsU X Y Z i ++ pairsOf Y Z a j).length ≤ 64 * 64 + 64 := by
            rw [List.length_append]
            have h1 := pairsU_len X Y Z i
            have h2 := pairsOf_len Y Z a j
            have h3 : i * Y.length ≤ 64 * 64 := Nat.mul_le_mul (by omega) (by have := HlY.out; omega)
            omega
          have Hy := Lib.hid hy
          clear hy
          have HP : Hid (pairsU X Y Z i ++ pairsOf Y Z a (j + 1) = (pairsU X Y Z i ++ pairsOf Y Z a j) ++ (if Z.contains y = true then [(a, b)] else [])) := by show _ = _; rw [Hsucc.out, List.append_assoc]
          clear Hsucc
          generalize Z.contains y = g at HQ HP
          generalize pairsU X Y Z i ++ pairsOf Y Z a j = P at *
          go_wp2_with fail
          refine HQ.out.mono ?_
          rintro e w1 ⟨q1, rfl, hk1⟩
          have Hk1 := Lib.hid hk1
          have HX1 := Lib.hid (Hkj.out.then (KeptX.of hk1 _))
          clear hk1 HQ
          cases g with
          | false =>
            go_wp2_with fail
            go_roundw
            case rel => exact ⟨j + 1, by omega, by go_num, by show Keeps _ _ _ _ _ _; rw [HP.out]; simpa [Keeps] using ⟨HMj.out.1.kept Hk1.out, HMj.out.2.1.kept Hk1.out, HMj.out.2.2.kept Hk1.out⟩, HX1.out⟩
            case measure => simp [intOf]; omega
          | true =>
            have hb4 := HX1.out.heapAt Hb0.out (by omega)
            have c0 := cell_at hb4 0
            have c1 := cell_at hb4 1
            have c2 := cell_at hb4 2
            simp only [List.getElem?_toArray, List.getElem?_cons_zero, List.getElem?_cons_succ] at c0 c1 c2
            obtain ⟨hm0, hm1, hm2⟩ := HMj.out
            obtain ⟨D0, o0, q0⟩ := hm0.kept (Hk1.out.then (Kept.drewn _))
            obtain ⟨D1, o1, q1'⟩ := hm1.kept (Hk1.out.then (Kept.drewn _))
            obtain ⟨D2, o2, q2'⟩ := hm2.kept (Hk1.out.then (Kept.drewn _))
            have HQ0 := Lib.hid q0
            have HQ1 := Lib.hid q1'
            have HQ2 := Lib.hid q2'
            have O0 := Lib.hid o0
            have O1 := Lib.hid o1
            have O2 := Lib.hid o2
            have HX1d := Lib.hid (HX1.out.then (KeptX.of (Kept.drewn w1) _))
            have Hb4 := Lib.hid hb4
            obtain ⟨w2, r0, p0, g0⟩ := o0.update lawInt Tryd.underlying52 (by unfold maxLen; omega) (keyI (y := a) (by omega)) (plainElem_int Tryd.underlying3 (a := 1) (WalkArith.wf_i64 (by omega)))
            obtain ⟨w3, r1, p1, g1⟩ := (own_grown o1 g0 (by omega)).update lawInt Tryd.underlying52 (by unfold maxLen; omega) (keyI (y := b) (by omega)) (plainElem_int Tryd.underlying3 (a := 1) (WalkArith.wf_i64 (by omega)))
            obtain ⟨w4, r2, p2, g2⟩ := (own_grown (own_grown o2 g0 (by omega)) g1 (by omega)).update lawInt Tryd.underlying52 (by unfold maxLen; omega) (keyI (y := y) hyr) (plainElem_int Tryd.underlying3 (a := 1) (WalkArith.wf_i64 (by omega)))
            have HX2 := Lib.hid (HX1d.out.then (KeptX.grown g0 (Or.inl rfl)))
            have HX3 := Lib.hid (HX2.out.then (KeptX.grown g1 (Or.inr (Or.inl rfl))))
            have HX4 := Lib.hid (HX3.out.then (KeptX.grown g2 (Or.inr (Or.inr rfl))))
            have HKs : Hid (Keeps w4 (w.heap.size + 1) (w.heap.size + 1 + 1) (w.heap.size + 1 + 1 + 1) (P.length + 1) (P ++ [(a, b)])) := by
              refine ⟨?_, ?_, ?_⟩
              · rw [List.map_append]
                exact ((marks_put o0 HQ0.out (by omega) p0).grown g1 (by omega)).grown g2 (by omega)
              · rw [List.map_append]
                exact (marks_put (own_grown o1 g0 (by omega)) HQ1.out (by omega) p1).grown g2 (by omega)
              · rw [List.map_append]
                show Marks _ _ _ (_ ++ [a * b])
                rw [← Hy.out]
                exact marks_put (own_grown (own_grown o2 g0 (by omega)) g1 (by omega)) HQ2.out hyr p2
            have HSf : Hid (∀ W, KeptX (fun b => b = w.heap.size + 1 ∨ b = w.heap.size + 1 + 1 ∨ b = w.heap.size + 1 + 1 + 1) W0 W → W.cell? ⟨w.heap.size + 1 + 1 + 1 + 1, 0, Option.none⟩ = some (.map (some (w.heap.size + 1))) ∧ W.cell? ⟨w.heap.size + 1 + 1 + 1 + 1, 1, Option.none⟩ = some (.map (some (w.heap.size + 1 + 1))) ∧ W.cell? ⟨w.heap.size + 1 + 1 + 1 + 1, 2, Option.none⟩ = some (.map (some (w.heap.size + 1 + 1 + 1)))) := fun W hW =>
              ⟨cell_at (hW.heapAt Hb0.out (by omega)) 0, cell_at (hW.heapAt Hb0.out (by omega)) 1, cell_at (hW.heapAt Hb0.out (by omega)) 2⟩
            clear hm0 hm1 hm2 o0 o1 o2 q0 q1' q2' hb4 p0 p1 p2 g0 g1 g2 HQ0 HQ1 HQ2 O0 O1 O2 hcb
            go_wp2_with fail
            go_region_held3 (fun W => W.cell? ⟨w.heap.size + 1 + 1 + 1 + 1, 0, Option.none⟩ = some (.map (some (w.heap.size + 1))) ∧ W.cell? ⟨w.heap.size + 1 + 1 + 1 + 1, 1, Option.none⟩ = some (.map (some (w.heap.size + 1 + 1))) ∧ W.cell? ⟨w.heap.size + 1 + 1 + 1 + 1, 2, Option.none⟩ = some (.map (some (w.heap.size + 1 + 1 + 1))))
              (first | exact HSf.out _ HX4.out | exact HSf.out _ HX3.out | exact HSf.out _ HX2.out | exact HSf.out _ HX1d.out | exact HSf.out _ HX1.out) (fail)
            go_wp2_with fail
            go_roundw
            case rel => exact ⟨j + 1, by omega, by go_num, by show Keeps _ _ _ _ _ _; rw [HP.out]; simpa using HKs.out, HX4.out⟩
            case measure => simp [intOf]; omega
        · have e : j = m := by omega
          subst e
          go_wp2_with fail
          simp only [Exit.noGoto]
          go_wp2_with fail
          have HMe : Hid (Keeps wr (w.heap.size + 1) (w.heap.size + 1 + 1) (w.heap.size + 1 + 1 + 1) (pairsU X Y Z (i + 1)).length (pairsU X Y Z (i + 1))) := by
            have h : pairsU X Y Z (i + 1) = pairsU X Y Z i ++ pairsOf Y Z a j := by
              simp only [pairsU]
              rw [Ha.out, HlY.out]
            show Keeps _ _ _ _ _ _
            rw [h]; exact HMj.out
          go_roundw
          case rel => exact ⟨i + 1, by omega, by go_num, HMe.out, Hkj.out⟩
          case measure => simp [intOf]; omega
    · have e : i = n := by omega
      subst e
      have HKi := Lib.hid (Hki.out.below HK0.out (fun b hb => by omega))
      have hb4 := Hki.out.heapAt Hb0.out (by omega)
      have c0 := cell_at hb4 0
      have c1 := cell_at hb4 1
      have c2 := cell_at hb4 2
      have hR := Hki.out.heapAt HR0.out (by omega)
      have r0 := cell_at hR 0
      have r1 := cell_at hR 1
      have r2 := cell_at hR 2
      have f0 := frozen_at hR 0
      have f1 := frozen_at hR 1
      have f2 := frozen_at hR 2
      simp only [List.getElem?_toArray, List.getElem?_cons_zero, List.getElem?_cons_succ] at c0 c1 c2 r0 r1 r2
      have hlR : w.heap.size < wi.heap.size := lt_at hR
      clear hb4 hR
      go_wp2_with fail
      have hB3 : ∀ x0 x1 x2 : Value, KeptBut w.heap.size wi (((wi.setCell ⟨w.heap.size, 0, Option.none⟩ x0).setCell ⟨w.heap.size, 1, Option.none⟩ x1).setCell ⟨w.heap.size, 2, Option.none⟩ x2) := fun x0 x1 x2 =>
        ((KeptBut.set _ (a := ⟨w.heap.size, 0, Option.none⟩) rfl _).then (KeptBut.set _ (a := ⟨w.heap.size, 1, Option.none⟩) rfl _)).then (KeptBut.set _ (a := ⟨w.heap.size, 2, Option.none⟩) rfl _)
      refine bodyPost_ret (v := .agg #[.map (some (w.heap.size + 1)), .map (some (w.heap.size + 1 + 1)), .map (some (w.heap.size + 1 + 1 + 1))]) (by simp [results, Tryd.results30, go_sem, r0, r1, r2]) rfl ⟨_, _, _, _, rfl, ⟨HMi.out.1.but (hB3 _ _ _) (by omega), HMi.out.2.1.but (hB3 _ _ _) (by omega), HMi.out.2.2.but (hB3 _ _ _) (by omega)⟩, by omega, by omega, by omega, ((KeptBut.of HKi.out w.heap.size).then (hB3 _ _ _)).kept (Nat.le_refl _)⟩
end Go.Proofs.YtjmegicopdbkdaaDoor

/-
  Contracts and plain laws that the card rests on, part 3.
-/
import Derived.Test.YtekcenacpklpgaaDoorMTells2
import Derived.Test.YtekcenacpklpgaaDoorMTells1
import Derived.Deep.RegionHeld3
import Derived.Laws.OwnMore
set_option maxHeartbeats 1000000
set_option maxRecDepth 10000
namespace Go.Proofs.YtekcenacpklpgaaDoor
open Go Go.RowKit Pl

/-- A constraint, as it is read. -/
structure ConIn (w : World) (K R Ct : Int) (A1 A2 A3 : Option Addr) (n1 c1 n2 c2 n3 c3 : Nat) (C : ConB) : Prop where
  kind : C.kind = K
  rel : C.rel = R
  const : C.const = Ct
  vars : Ints w A1 n1 C.vars
  coefs : Ints w A2 n2 C.coefs
  nums : Ints w A3 n3 C.nums
  cap1 : n1 ≤ c1
  cap3 : n3 ≤ c3
  rk : -9223372036854775808 ≤ K ∧ K ≤ 9223372036854775807
  rr : -9223372036854775808 ≤ R ∧ R ≤ 9223372036854775807
  rc : -9223372036854775808 ≤ Ct ∧ Ct ≤ 9223372036854775807
theorem ConIn.kept {w w' : World} {K R Ct : Int} {A1 A2 A3 : Option Addr} {n1 c1 n2 c2 n3 c3 : Nat} {C : ConB} (h : ConIn w K R Ct A1 A2 A3 n1 c1 n2 c2 n3 c3 C) (hk : Kept w w') : ConIn w' K R Ct A1 A2 A3 n1 c1 n2 c2 n3 c3 C :=
  ⟨h.kind, h.rel, h.const, h.vars.kept hk, h.coefs.kept hk, h.nums.kept hk, h.cap1, h.cap3, h.rk, h.rr, h.rc⟩

theorem Ints.taken {w : World} {A : Option Addr} {n : Nat} {xs : List Int} (h : Ints w A n xs) {k : Nat} (hk : k ≤ n) : Ints w A k (xs.take k) :=
  ⟨by rw [List.length_take, h.len]; omega, by have := h.small; omega, fun x hx => h.rng x (List.mem_of_mem_take hx), fun h0 => by
    obtain ⟨a, e, hc⟩ := h.cell (by omega)
    refine ⟨a, e, fun j hj => ?_⟩
    rw [hc j (by omega)]
    simp [List.getD_eq_getElem?_getD, hj]⟩

theorem variables_any (K R Ct : Int) (A1 A2 A3 : Option Addr) (n1 c1 n2 c2 n3 c3 : Nat) (C : ConB) (V least most : Int) (w : World) (hC : ConIn w K R Ct A1 A2 A3 n1 c1 n2 c2 n3 c3 C) :
    Calls Tryd.prog 69 #[.agg #[.int .i64 K, .slice A1 n1 c1, .slice A2 n2 c2, .int .i64 R, .int .i64 Ct, .slice A3 n3 c3, .int .i64 V], .int .i64 least, .int .i64 most] w fun e w' => e = .returned (.bool (variablesB C V least most)) ∧ Kept w w' := by
  have HV := Lib.hid hC.vars
  have Hlen := Lib.hid hC.vars.len
  have hsm := hC.vars.small
  have hcap := hC.cap1
  clear hC
  by_cases h1 : (n1 : Int) < least
  · have hd : decide ((n1 : Int) < least) = true := by simp [h1]
    go_enter Tryd.func69, Tryd.ntmps69
    go_wp2_with fail
    go_ret
    exact ⟨ret_bool (by unfold variablesB; rw [Hlen.out]; simp; omega), Kept.box _ _⟩
  by_cases h2 : most < (n1 : Int)
  · have hd : decide ((n1 : Int) < least) = false := by simp; omega
    have hd2 : decide (most < (n1 : Int)) = true := by simp [h2]
    go_enter Tryd.func69, Tryd.ntmps69
    go_wp2_with fail
    go_ret
    exact ⟨ret_bool (by unfold variablesB; rw [Hlen.out]; simp; omega), Kept.box _ _⟩
  have hd : decide ((n1 : Int) < least) = false := by simp; omega
  have hd2 : decide (most < (n1 : Int)) = false := by simp; omega
  have hB : Hid (variablesB C V least most = varsOk C.vars V) := by
    show _ = _
    unfold variablesB; rw [Hlen.out]
    have e1 : decide (least ≤ (n1 : Int)) = true := by simp; omega
    have e2 : decide ((n1 : Int) ≤ most) = true := by simp; omega
    rw [e1, e2]; simp
  go_enter Tryd.func69, Tryd.ntmps69
  go_wp2_with fail
  have HB : Hid (∀ wr, Kept (w.alloc (.cells #[.int .i64 K, .slice A1 n1 c1, .slice A2 n2 c2, .int .i64 R, .int .i64 Ct, .slice A3 n3 c3, .int .i64 V] 77)) wr → wr.heap[w.heap.size]? = some (.cells #[.int .i64 K, .slice A1 n1 c1, .slice A2 n2 c2, .int .i64 R, .int .i64 Ct, .slice A3 n3 c3, .int .i64 V] 77)) := fun wr h => h.heapAt (heap_new _ _)
  go_loopw [26] (fun v wr => ∃ k : Nat, k ≤ n1 ∧ v = .int .i64 k ∧ Hid (Kept (w.alloc (.cells #[.int .i64 K, .slice A1 n1 c1, .slice A2 n2 c2, .int .i64 R, .int .i64 Ct, .slice A3 n3 c3, .int .i64 V] 77)) wr) ∧ Hid (vUpto C.vars V k = true)) (fun v _ => n1 - (intOf v).toNat)
  case atStart => exact ⟨0, Nat.zero_le _, rfl, Below.refl _ _, rfl⟩
  case round =>
    obtain ⟨k, hk, rfl, Hkw, Hok⟩ := hrel
    have hbk := HB.out wr Hkw.out
    have hb1 := cell_at hbk 1
    have hb6 := cell_at hbk 6
    simp only [List.getElem?_toArray, List.getElem?_cons_zero, List.getElem?_cons_succ] at hb1 hb6
    clear hbk
    by_cases hlt : k < n1
    · have hSr := HV.out.kept ((Kept.box _ _).then Hkw.out)
      obtain ⟨a, rfl, hblk⟩ := hSr.addr (by omega)
      obtain ⟨x, Hx, hcx, hx1, hx2⟩ := hSr.named k hlt
      have Hnext : Hid (vUpto C.vars V (k + 1) = (decide (0 ≤ x) && decide (x < V) && !((C.vars.take k).contains x))) := by
        show _ = _
        rw [vUpto_succ, Hok.out, vOk_named Hx.out, Bool.true_and]
      have HQ := Lib.hid (contains_any (some a) k c1 (C.vars.take k) x wr (hSr.taken (by omega)))
      clear hSr
      generalize hb : (C.vars.take k).contains x = b at HQ Hnext
      clear hb
      have hkc : (k : Int) ≤ (c1 : Int) := by omega
      have Hbad : Hid (vUpto C.vars V (k + 1) = false → varsOk C.vars V = false) := fun h => by
        unfold varsOk
        rw [vUpto_succ, Hok.out, Bool.true_and] at h
        exact vUpto_bad h (by have := Hlen.out; omega)
      by_cases h3 : x < 0
      · have hd3 : decide (x < 0) = true := by simp [h3]
        go_wp2_with fail
        go_ret
        exact ⟨ret_bool (by rw [hB.out, Hbad.out (by rw [Hnext.out]; simp; omega)]), (Kept.box _ _).then Hkw.out⟩
      have hd3 : decide (x < 0) = false := by simp; omega
      by_cases h4 : V ≤ x
      · have hd4 : decide (V ≤ x) = true := by simp [h4]
        go_wp2_with fail
        go_ret
        exact ⟨ret_bool (by rw [hB.out, Hbad.out (by rw [Hnext.out]; simp; omega)]), (Kept.box _ _).then Hkw.out⟩
      have hd4 : decide (V ≤ x) = false := by simp; omega
      go_wp2_with fail
      refine HQ.out.mono ?_
      rintro e w1 ⟨rfl, rfl⟩
      clear HQ
      cases b with
      | true =>
        go_wp2_with fail
        go_ret
        exact ⟨ret_bool (by rw [hB.out, Hbad.out (by rw [Hnext.out]; simp)]), (Kept.box _ _).then Hkw.out⟩
      | false =>
        go_wp2_with fail
        go_roundw
        case rel => exact ⟨k + 1, by omega, by go_num, Hkw.out, by show _ = _; rw [Hnext.out]; simp; omega⟩
        case measure => simp [intOf]; omega
    · have e : k = n1 := by omega
      subst e
      have h2 : varsOk C.vars V = true := by have := Hok.out; rwa [← Hlen.out] at this
      go_wp2
      go_ret
      exact ⟨ret_bool (by rw [hB.out, h2]), (Kept.box _ _).then Hkw.out⟩

theorem bare_any (K R Ct : Int) (A1 A2 A3 : Option Addr) (n1 c1 n2 c2 n3 c3 : Nat) (C : ConB) (V least most : Int) (w : World) (hC : ConIn w K R Ct A1 A2 A3 n1 c1 n2 c2 n3 c3 C) :
    Calls Tryd.prog 71 #[.agg #[.int .i64 K, .slice A1 n1 c1, .slice A2 n2 c2, .int .i64 R, .int .i64 Ct, .slice A3 n3 c3, .int .i64 V], .int .i64 least, .int .i64 most] w fun e w' => e = .returned (.bool (bareB C least most)) ∧ Kept w w' := by
  have HN := Lib.hid hC.nums
  have h2l := hC.coefs.len
  have h3l := hC.nums.len
  have hsm := hC.nums.small
  have hsm2 := hC.coefs.small
  have hB : Hid (bareB C least most = (decide ((n2 : Int) = 0) && decide (R = 0) && decide (Ct = 0) && decide (least ≤ (n3 : Int)) && decide ((n3 : Int) ≤ most) && withinB C.nums 1048576)) := by
    show _ = _
    unfold bareB; rw [h2l, h3l, hC.rel, hC.const]
    have : decide (n2 = 0) = decide ((n2 : Int) = 0) := by simp
    rw [this]
  clear hC
  by_cases g1 : ¬ ((n2 : Int) = 0)
  · have hd : ((n2 : Int) == 0) = false := by simp; omega
    go_enter Tryd.func71, Tryd.ntmps71
    go_wp2_with fail
    go_ret
    exact ⟨ret_bool (by rw [hB.out]; simp; omega), (Kept.box _ _).newBlock _⟩
  have g1 := Classical.not_not.1 g1
  have h1 : n2 = 0 := by omega
  subst h1
  by_cases g2 : ¬ (R = 0)
  · have hd : (R == 0) = false := by simp; omega
    go_enter Tryd.func71, Tryd.ntmps71
    go_wp2_with fail
    go_ret
    exact ⟨ret_bool (by rw [hB.out]; simp; omega), (Kept.box _ _).newBlock _⟩
  have g2 := Classical.not_not.1 g2
  subst g2
  by_cases g3 : ¬ (Ct = 0)
  · have hd : (Ct == 0) = false := by simp; omega
    go_enter Tryd.func71, Tryd.ntmps71
    go_wp2_with fail
    go_ret
    exact ⟨ret_bool (by rw [hB.out]; simp; omega), (Kept.box _ _).newBlock _⟩
  have g3 := Classical.not_not.1 g3
  subst g3
  by_cases g4 : ¬ (least ≤ (n3 : Int))
  · have hd : (decide (least ≤ (n3 : Int))) = false := by simp; omega
    go_enter Tryd.func71, Tryd.ntmps71
    go_wp2_with fail
    go_ret
    exact ⟨ret_bool (by rw [hB.out]; simp; omega), (Kept.box _ _).newBlock _⟩
  have g4 := Classical.not_not.1 g4
  have e4 : decide (least ≤ (n3 : Int)) = true := by simp [g4]
  by_cases g5 : ¬ ((n3 : Int) ≤ most)
  · have hd : (decide ((n3 : Int) ≤ most)) = false := by simp; omega
    go_enter Tryd.func71, Tryd.ntmps71
    go_wp2_with fail
    go_ret
    exact ⟨ret_bool (by rw [hB.out]; simp; omega), (Kept.box _ _).newBlock _⟩
  have g5 := Classical.not_not.1 g5
  have e5 : decide ((n3 : Int) ≤ most) = true := by simp [g5]
  have hB2 : Hid (bareB C least most = withinB C.nums 1048576) := by
    show _ = _
    rw [hB.out, e4, e5]; simp
  go_enter Tryd.func71, Tryd.ntmps71
  go_wp2_with fail
  refine (mwithin_any A3 n3 c3 C.nums 1048576 _ (HN.out.kept ((Kept.box _ _).newBlock _)) (by decide)).mono ?_
  rintro e w1 ⟨rfl, hk⟩
  have Hk := Lib.hid (((Kept.box _ _).newBlock _).then hk)
  clear hk
  generalize hb : withinB C.nums 1048576 = b at hB2
  clear hb
  go_wp2_with fail
  go_ret
  exact ⟨ret_bool (by rw [hB2.out]), Hk.out⟩

theorem box_look (w : World) (K R Ct V : Int) (A1 A2 A3 : Option Addr) (n1 c1 n2 c2 n3 c3 : Nat) : (w.alloc (.cells #[.int .i64 K, .slice A1 n1 c1, .slice A2 n2 c2, .int .i64 R, .int .i64 Ct, .slice A3 n3 c3, .int .i64 V] 77)).heap[w.heap.size]? = some (.cells #[.int .i64 K, .slice A1 n1 c1, .slice A2 n2 c2, .int .i64 R, .int .i64 Ct, .slice A3 n3 c3, .int .i64 V] 77) := heap_new _ _

theorem lookelem_any (K R Ct : Int) (A1 A2 A3 : Option Addr) (n1 c1 n2 c2 n3 c3 : Nat) (C : ConB) (V : Int) (w : World) (hC : ConIn w K R Ct A1 A2 A3 n1 c1 n2 c2 n3 c3 C) :
    Calls Tryd.prog 48 #[.agg #[.int .i64 K, .slice A1 n1 c1, .slice A2 n2 c2, .int .i64 R, .int .i64 Ct, .slice A3 n3 c3, .int .i64 V]] w fun e w' => e = .returned (.bool (elemB C V)) ∧ Kept w w' := by
  have HC := Lib.hid hC
  clear hC
  go_enter Tryd.func48, Tryd.ntmps48
  go_wp2_with fail
  refine (variables_any K R Ct A1 A2 A3 n1 c1 n2 c2 n3 c3 C V 2 2 _ (HC.out.kept (Kept.box _ _))).mono ?_
  rintro e w1 ⟨rfl, hk⟩
  have Hb := Lib.hid (hk.heapAt (box_look w K R Ct V A1 A2 A3 n1 c1 n2 c2 n3 c3))
  have Hk := Lib.hid ((Kept.box _ _).then hk)
  have hb0 := cell_at Hb.out 0
  have hb1 := cell_at Hb.out 1
  have hb2 := cell_at Hb.out 2
  have hb3 := cell_at Hb.out 3
  have hb4 := cell_at Hb.out 4
  have hb5 := cell_at Hb.out 5
  have hb6 := cell_at Hb.out 6
  simp only [List.getElem?_toArray, List.getElem?_cons_zero, List.getElem?_cons_succ] at hb0 hb1 hb2 hb3 hb4 hb5 hb6
  have HB : Hid (elemB C V = (variablesB C V 2 2 && bareB C 1 96)) := rfl
  clear hk
  generalize variablesB C V 2 2 = b at HB
  cases b with
  | false =>
    go_wp2_with fail
    go_ret
    exact ⟨ret_bool (by rw [HB.out]; simp), Hk.out⟩
  | true =>
    go_wp2_with fail
    refine (bare_any K R Ct A1 A2 A3 n1 c1 n2 c2 n3 c3 C V 1 96 _ (HC.out.kept Hk.out)).mono ?_
    rintro e w2 ⟨rfl, hk2⟩
    have Hk2 := Lib.hid (Hk.out.then hk2)
    clear hk2 hb0 hb1 hb2 hb3 hb4 hb5 hb6
    generalize bareB C 1 96 = d at HB
    go_wp2_with fail
    go_ret
    exact ⟨ret_bool (by rw [HB.out]; simp), Hk2.out⟩
end Go.Proofs.YtekcenacpklpgaaDoor

set_option maxHeartbeats 1000000
set_option maxRecDepth 10000
namespace Go.Proofs.YtekcenacpklpgaaDoor
open Go Go.RowKit Pl

abbrev nilD : DomB := ([], 0)

/-- 'A', n: a slice's address and length: it reads as the domains ds. -/
structure Doms (w : World) (A : Option Addr) (n : Nat) (ds : List DomB) : Prop where
  len : ds.length = n
  small : n ≤ 9223372036854775807
  live : ∀ j, j < n → (ds.getD j nilD).2 < 2 ^ 64
  cell : 0 < n → ∃ a, A = some a ∧ ∀ j, j < n → ∃ B m c, w.cell? (a.add (j * 2)) = some (.slice B m c) ∧ w.cell? ⟨a.block, (a.add (j * 2)).off + 1, Option.none⟩ = some (.int .u64 ((ds.getD j nilD).2 : Nat)) ∧ Ints w B m (ds.getD j nilD).1

theorem Doms.kept {w w' : World} {A : Option Addr} {n : Nat} {ds : List DomB} (h : Doms w A n ds) (hk : Kept w w') : Doms w' A n ds :=
  ⟨h.len, h.small, h.live, fun hn => by
    obtain ⟨a, e, hc⟩ := h.cell hn
    refine ⟨a, e, fun j hj => ?_⟩
    obtain ⟨B, m, c, h1, h2, h3⟩ := hc j hj
    exact ⟨B, m, c, hk.cellAt h1, hk.cellAt h2, h3.kept hk⟩⟩
theorem Doms.none (w : World) : Doms w Option.none 0 [] := ⟨rfl, by omega, fun j hj => by omega, fun h => by omega⟩
theorem Doms.addr {w : World} {A : Option Addr} {n : Nat} {ds : List DomB} (h : Doms w A n ds) (hn : 0 < n) : ∃ a, A = some a ∧ a.block < w.heap.size := by
  obtain ⟨a, rfl, hc⟩ := h.cell hn
  obtain ⟨B, m, c, h1, _⟩ := hc 0 hn
  have := World.block_lt_of_cell? w _ h1
  exact ⟨a, rfl, by rwa [add_block'] at this⟩
/-- The domain at a place, behind names. -/
theorem Doms.named {w : World} {a : Addr} {n : Nat} {ds : List DomB} (h : Doms w (some a) n ds) (k : Nat) (hk : k < n) :
    ∃ (xs : List Int) (L : Nat) (B : Option Addr) (m c : Nat), Hid (ds.getD k nilD = (xs, L)) ∧ w.cell? (a.add (k * 2)) = some (.slice B m c) ∧ w.cell? ⟨a.block, (a.add (k * 2)).off + 1, Option.none⟩ = some (.int .u64 (L : Nat)) ∧ Hid (Ints w B m xs) ∧ L < 2 ^ 64 := by
  obtain ⟨b, e, hc⟩ := h.cell (by omega)
  cases e
  obtain ⟨B, m, c, h1, h2, h3⟩ := hc k hk
  exact ⟨_, _, B, m, c, rfl, h1, h2, h3, h.live k hk⟩
theorem take_dom {ds : List DomB} {k : Nat} {d : DomB} (hk : k < ds.length) (hd : ds.getD k nilD = d) : ds.take (k + 1) = ds.take k ++ [d] := by
  rw [List.take_succ_eq_append_getElem hk]
  rw [List.getD_eq_getElem?_getD, List.getElem?_eq_getElem hk] at hd
  simp only [Option.getD_some] at hd
  rw [hd]
theorem allMay_take {ds : List DomB} {k : Nat} {xs : List Int} {L : Nat} (hk : k < ds.length) (hd : ds.getD k nilD = (xs, L)) (h : allMay (ds.take k) = true) : allMay (ds.take (k + 1)) = mayB xs L := by
  rw [take_dom hk hd]
  unfold allMay at *
  rw [List.all_append, h]
  simp
theorem allMay_bad {ds : List DomB} {k : Nat} (h : allMay (ds.take k) = false) : allMay ds = false := by
  cases e : allMay ds with
  | false => rfl
  | true =>
    unfold allMay at *
    rw [List.all_eq_true] at e
    have : (ds.take k).all (fun d => mayB d.1 d.2) = true := List.all_eq_true.2 fun d hd => e d (List.mem_of_mem_take hd)
    rw [h] at this
    cases this
end Go.Proofs.YtekcenacpklpgaaDoor

set_option maxHeartbeats 1000000
set_option maxRecDepth 10000
namespace Go.Proofs.YtekcenacpklpgaaDoor
open Go Go.RowKit Pl

namespace Pop
/-- A byte, n times. -/
def rep (m : Nat) : Nat → Nat
  | 0 => 0
  | n + 1 => m + 256 * rep m n

theorem and_split (x y : Nat) : x &&& y = (x % 256 &&& y % 256) + 256 * (x / 256 &&& y / 256) := by
  have h1 : (x &&& y) % 256 = x % 256 &&& y % 256 := Nat.and_mod_two_pow (n := 8)
  have h2 : (x &&& y) / 256 = x / 256 &&& y / 256 := Nat.and_div_two_pow (n := 8)
  rw [← h1, ← h2]
  omega
theorem and_rep (x m n : Nat) (hm : m < 256) : x &&& rep m (n + 1) = (x % 256 &&& m) + 256 * (x / 256 &&& rep m n) := by
  rw [and_split]
  have h1 : rep m (n + 1) % 256 = m := by simp only [rep]; omega
  have h2 : rep m (n + 1) / 256 = rep m n := by simp only [rep]; omega
  rw [h1, h2]

def g1 (v : Nat) : Nat := (v / 2 &&& 85) + (v &&& 85)
def g2 (v : Nat) : Nat := (v / 4 &&& 51) + (v &&& 51)
def pop8 (v : Nat) : Nat := v % 2 + v / 2 % 2 + v / 4 % 2 + v / 8 % 2 + v / 16 % 2 + v / 32 % 2 + v / 64 % 2 + v / 128 % 2

theorem t1 : ∀ v : Fin 512, ((v.val / 2 % 256 &&& 85) + (v.val % 256 &&& 85)) = g1 (v.val % 256) := by decide +kernel
theorem t2 : ∀ v : Fin 1024, ((v.val / 4 % 256 &&& 51) + (v.val % 256 &&& 51)) = g2 (v.val % 256) := by decide +kernel
theorem g1_le : ∀ v : Fin 256, g1 v.val < 256 := by decide +kernel
theorem g2_le : ∀ v : Fin 256, g2 (g1 v.val) ≤ 68 ∧ g2 (g1 v.val) % 16 ≤ 4 := by decide +kernel
theorem t3 : ∀ v : Fin 256, ∀ z : Fin 5, (g2 (g1 v.val) / 16 + g2 (g1 v.val) + 16 * z.val &&& 15) = pop8 v.val := by decide +kernel

def s1 (n x : Nat) : Nat := (x / 2 &&& rep 85 n) + (x &&& rep 85 n)
def s2 (n x : Nat) : Nat := (x / 4 &&& rep 51 n) + (x &&& rep 51 n)
def s3 (n x : Nat) : Nat := (x / 16 + x) &&& rep 15 n

theorem s1_succ (n x : Nat) : s1 (n + 1) x = g1 (x % 256) + 256 * s1 n (x / 256) := by
  unfold s1
  rw [and_rep _ _ _ (by decide), and_rep _ _ _ (by decide)]
  have h := t1 ⟨x % 512, by omega⟩
  simp only at h
  have e1 : x % 512 / 2 % 256 = x / 2 % 256 := by omega
  have e2 : x % 512 % 256 = x % 256 := by omega
  rw [e1, e2] at h
  have e3 : x / 2 / 256 = x / 256 / 2 := by omega
  rw [e3]
  omega
theorem s2_succ (n x : Nat) : s2 (n + 1) x = g2 (x % 256) + 256 * s2 n (x / 256) := by
  unfold s2
  rw [and_rep _ _ _ (by decide), and_rep _ _ _ (by decide)]
  have h := t2 ⟨x % 1024, by omega⟩
  simp only at h
  have e1 : x % 1024 / 4 % 256 = x / 4 % 256 := by omega
  have e2 : x % 1024 % 256 = x % 256 := by omega
  rw [e1, e2] at h
  have e3 : x / 4 / 256 = x / 256 / 4 := by omega
  rw [e3]
  omega
theorem s1_div (n x : Nat) : s1 (n + 1) x % 256 = g1 (x % 256) ∧ s1 (n + 1) x / 256 = s1 n (x / 256) := by
  rw [s1_succ]
  have := g1_le ⟨x % 256, by omega⟩
  simp only at this
  omega
theorem s2_low (n x : Nat) : s2 n (s1 n x) % 16 ≤ 4 := by
  cases n with
  | zero => simp [s2, rep]
  | succ n =>
    obtain ⟨h1, h2⟩ := s1_div n x
    rw [s2_succ, h1]
    have := (g2_le ⟨x % 256, by omega⟩).2
    simp only at this
    omega
def sum3 (n x : Nat) : Nat := s3 n (s2 n (s1 n x))
theorem sum3_succ (n x : Nat) : sum3 (n + 1) x = pop8 (x % 256) + 256 * sum3 n (x / 256) := by
  unfold sum3
  obtain ⟨h1, h2⟩ := s1_div n x
  have e : s2 (n + 1) (s1 (n + 1) x) = g2 (g1 (x % 256)) + 256 * s2 n (s1 n (x / 256)) := by rw [s2_succ, h1, h2]
  rw [e]
  have hg := g2_le ⟨x % 256, by omega⟩
  simp only at hg
  have hz := s2_low n (x / 256)
  have ht := t3 ⟨x % 256, by omega⟩ ⟨s2 n (s1 n (x / 256)) % 16, by omega⟩
  simp only at ht
  generalize g2 (g1 (x % 256)) = a at *
  generalize s2 n (s1 n (x / 256)) = z at *
  unfold s3
  rw [and_rep _ _ _ (by decide)]
  have e1 : ((a + 256 * z) / 16 + (a + 256 * z)) % 256 = a / 16 + a + 16 * (z % 16) := by omega
  have e2 : ((a + 256 * z) / 16 + (a + 256 * z)) / 256 = z / 16 + z := by omega
  rw [e1, e2, ht]
theorem sum3_zero (x : Nat) : sum3 0 x = 0 := by simp [sum3, s3, rep]

/-- How many of the lowest n bits are set. -/
def cnt (n x : Nat) : Nat := (upto x n).length
theorem cnt_succ (n x : Nat) : cnt (n + 1) x = x % 2 + cnt n (x / 2) := by
  unfold cnt upto
  rw [List.range_succ_eq_map, List.filter_cons, List.filter_map]
  have e : (x.testBit ∘ Nat.succ) = (x / 2).testBit := by
    funext i
    simp [Nat.testBit_succ]
  rw [e]
  have h0 : x.testBit 0 = decide (x % 2 = 1) := Nat.testBit_zero x
  rw [h0]
  by_cases h : x % 2 = 1
  · simp [h]; omega
  · have : x % 2 = 0 := by omega
    simp [this]
theorem cnt_zero (x : Nat) : cnt 0 x = 0 := by simp [cnt, upto]
theorem cnt_8 (n x : Nat) : cnt (n + 8) x = pop8 (x % 256) + cnt n (x / 256) := by
  have e : x / 2 / 2 / 2 / 2 / 2 / 2 / 2 / 2 = x / 256 := by omega
  show cnt (n + 7 + 1) x = _
  rw [cnt_succ, show n + 7 = n + 6 + 1 from rfl, cnt_succ, show n + 6 = n + 5 + 1 from rfl, cnt_succ, show n + 5 = n + 4 + 1 from rfl, cnt_succ, show n + 4 = n + 3 + 1 from rfl, cnt_succ, show n + 3 = n + 2 + 1 from rfl, cnt_succ, show n + 2 = n + 1 + 1 from rfl, cnt_succ, cnt_succ, e]
  unfold pop8
  omega
theorem pop8_le (v : Nat) : pop8 v ≤ 8 := by unfold pop8; omega

/-- The digits of the sum, and how many there are. -/
theorem whole (x : Nat) : ∃ p0 p1 p2 p3 p4 p5 p6 p7 : Nat, p0 ≤ 8 ∧ p1 ≤ 8 ∧ p2 ≤ 8 ∧ p3 ≤ 8 ∧ p4 ≤ 8 ∧ p5 ≤ 8 ∧ p6 ≤ 8 ∧ p7 ≤ 8 ∧
    sum3 8 x = p0 + 256 * (p1 + 256 * (p2 + 256 * (p3 + 256 * (p4 + 256 * (p5 + 256 * (p6 + 256 * p7)))))) ∧ (elems x).length = p0 + p1 + p2 + p3 + p4 + p5 + p6 + p7 := by
  refine ⟨pop8 (x % 256), pop8 (x / 256 % 256), pop8 (x / 256 / 256 % 256), pop8 (x / 256 / 256 / 256 % 256), pop8 (x / 256 / 256 / 256 / 256 % 256), pop8 (x / 256 / 256 / 256 / 256 / 256 % 256), pop8 (x / 256 / 256 / 256 / 256 / 256 / 256 % 256), pop8 (x / 256 / 256 / 256 / 256 / 256 / 256 / 256 % 256),
    pop8_le _, pop8_le _, pop8_le _, pop8_le _, pop8_le _, pop8_le _, pop8_le _, pop8_le _, ?_, ?_⟩
  · simp only [sum3_succ, sum3_zero, Nat.mul_zero, Nat.add_zero]
  · show cnt 64 x = _
    rw [show 64 = 56 + 8 from rfl, cnt_8, show 56 = 48 + 8 from rfl, cnt_8, show 48 = 40 + 8 from rfl, cnt_8, show 40 = 32 + 8 from rfl, cnt_8, show 32 = 24 + 8 from rfl, cnt_8, show 24 = 16 + 8 from rfl, cnt_8, show 16 = 8 + 8 from rfl, cnt_8, show 8 = 0 + 8 from rfl, cnt_8, cnt_zero]
    omega
theorem r85 : rep 85 8 = 6148914691236517205 := by decide
theorem r51 : rep 51 8 = 3689348814741910323 := by decide
theorem r15 : rep 15 8 = 1085102592571150095 := by decide
end Pop

theorem ones_1 {b : Nat} (hb : b < 2 ^ 64) : IntKind.u64.wrap (bits BinOp.and IntKind.u64 ((b : Int) / 2) 6148914691236517205 + bits BinOp.and IntKind.u64 (b : Int) 6148914691236517205) = ((Pop.s1 8 b : Nat) : Int) ∧ Pop.s1 8 b < 2 ^ 64 := by
  have e2 : (b : Int) / 2 = ((b / 2 : Nat) : Int) := by omega
  have h1 := u64_and_nat (b / 2) 6148914691236517205 (by omega) (by decide)
  have h2 := u64_and_nat b 6148914691236517205 hb (by decide)
  have l1 : b / 2 &&& 6148914691236517205 ≤ 6148914691236517205 := Nat.and_le_right
  have l2 : b &&& 6148914691236517205 ≤ 6148914691236517205 := Nat.and_le_right
  have e : Pop.s1 8 b = (b / 2 &&& 6148914691236517205) + (b &&& 6148914691236517205) := by unfold Pop.s1; rw [Pop.r85]
  rw [e2]
  erw [h1, h2]
  rw [IntKind.wrap_u64, e]
  omega
theorem ones_2 {b : Nat} (hb : b < 2 ^ 64) : IntKind.u64.wrap (bits BinOp.and IntKind.u64 ((b : Int) / 4) 3689348814741910323 + bits BinOp.and IntKind.u64 (b : Int) 3689348814741910323) = ((Pop.s2 8 b : Nat) : Int) ∧ Pop.s2 8 b ≤ 7378697629483820646 := by
  have e2 : (b : Int) / 4 = ((b / 4 : Nat) : Int) := by omega
  have h1 := u64_and_nat (b / 4) 3689348814741910323 (by omega) (by decide)
  have h2 := u64_and_nat b 3689348814741910323 hb (by decide)
  have l1 : b / 4 &&& 3689348814741910323 ≤ 3689348814741910323 := Nat.and_le_right
  have l2 : b &&& 3689348814741910323 ≤ 3689348814741910323 := Nat.and_le_right
  have e : Pop.s2 8 b = (b / 4 &&& 3689348814741910323) + (b &&& 3689348814741910323) := by unfold Pop.s2; rw [Pop.r51]
  rw [e2]
  erw [h1, h2]
  rw [IntKind.wrap_u64, e]
  omega
theorem ones_3 {b : Nat} (hb : b ≤ 7378697629483820646) : bits BinOp.and IntKind.u64 (IntKind.u64.wrap ((b : Int) / 16 + (b : Int))) 1085102592571150095 = ((Pop.s3 8 b : Nat) : Int) := by
  have e2 : IntKind.u64.wrap ((b : Int) / 16 + (b : Int)) = ((b / 16 + b : Nat) : Int) := by rw [IntKind.wrap_u64]; omega
  have h1 := u64_and_nat (b / 16 + b) 1085102592571150095 (by omega) (by decide)
  have e : Pop.s3 8 b = (b / 16 + b) &&& 1085102592571150095 := by unfold Pop.s3; rw [Pop.r15]
  rw [e2, e]
  exact h1
theorem sh_8 {s lo t : Nat} (h : s = lo + 256 * t) (hl : lo < 256) (hb : s + t < 2 ^ 64) : IntKind.u64.wrap ((s : Int) + (s : Int) / 256) = ((s + t : Nat) : Int) := by
  rw [IntKind.wrap_u64]; omega
theorem sh_16 {s lo t : Nat} (h : s = lo + 65536 * t) (hl : lo < 65536) (hb : s + t < 2 ^ 64) : IntKind.u64.wrap ((s : Int) + (s : Int) / 65536) = ((s + t : Nat) : Int) := by
  rw [IntKind.wrap_u64]; omega
theorem sh_32 {s lo t : Nat} (h : s = lo + 4294967296 * t) (hl : lo < 4294967296) (hb : s + t < 2 ^ 64) : IntKind.u64.wrap ((s : Int) + (s : Int) / 4294967296) = ((s + t : Nat) : Int) := by
  rw [IntKind.wrap_u64]; omega
theorem mod_low {x lo t : Nat} (h : x = lo + 256 * t) (hl : lo < 128) : x % 128 = lo := by omega
theorem ones_4 {s p0 p1 p2 p3 p4 p5 p6 p7 : Nat} (h0 : p0 ≤ 8) (h1 : p1 ≤ 8) (h2 : p2 ≤ 8) (h3 : p3 ≤ 8) (h4 : p4 ≤ 8) (h5 : p5 ≤ 8) (h6 : p6 ≤ 8) (h7 : p7 ≤ 8)
    (hs : s = p0 + 256 * (p1 + 256 * (p2 + 256 * (p3 + 256 * (p4 + 256 * (p5 + 256 * (p6 + 256 * p7))))))) :
    ∃ x : Nat, IntKind.u64.wrap (IntKind.u64.wrap (IntKind.u64.wrap ((s : Int) + (s : Int) / 256) + IntKind.u64.wrap ((s : Int) + (s : Int) / 256) / 65536) + IntKind.u64.wrap (IntKind.u64.wrap ((s : Int) + (s : Int) / 256) + IntKind.u64.wrap ((s : Int) + (s : Int) / 256) / 65536) / 4294967296) = (x : Int) ∧ x < 2 ^ 63 ∧ x % 128 = p0 + p1 + p2 + p3 + p4 + p5 + p6 + p7 := by
  rw [sh_8 hs (by omega) (by omega)]
  have e1 : s + (p1 + 256 * (p2 + 256 * (p3 + 256 * (p4 + 256 * (p5 + 256 * (p6 + 256 * p7)))))) = (p0 + p1) + 256 * (p1 + p2) + 65536 * ((p2 + p3) + 256 * ((p3 + p4) + 256 * ((p4 + p5) + 256 * ((p5 + p6) + 256 * ((p6 + p7) + 256 * p7))))) := by omega
  rw [sh_16 e1 (by omega) (by omega)]
  have e2 : s + (p1 + 256 * (p2 + 256 * (p3 + 256 * (p4 + 256 * (p5 + 256 * (p6 + 256 * p7)))))) + ((p2 + p3) + 256 * ((p3 + p4) + 256 * ((p4 + p5) + 256 * ((p5 + p6) + 256 * ((p6 + p7) + 256 * p7))))) = (p0 + p1 + p2 + p3) + 256 * ((p1 + p2 + p3 + p4) + 256 * ((p2 + p3 + p4 + p5) + 256 * (p3 + p4 + p5 + p6))) + 4294967296 * ((p4 + p5 + p6 + p7) + 256 * ((p5 + p6 + p7) + 256 * ((p6 + p7) + 256 * p7))) := by omega
  rw [sh_32 e2 (by omega) (by omega)]
  refine ⟨_, rfl, by omega, ?_⟩
  refine mod_low (t := (p1 + p2 + p3 + p4) + 256 * ((p2 + p3 + p4 + p5) + 256 * (p3 + p4 + p5 + p6)) + 16777216 * ((p4 + p5 + p6 + p7) + 256 * ((p5 + p6 + p7) + 256 * ((p6 + p7) + 256 * p7))) + ((p5 + p6 + p7) + 256 * ((p6 + p7) + 256 * p7))) ?_ (by omega)
  omega
theorem and_127 {x : Nat} (h : x < 2 ^ 63) : bits BinOp.and IntKind.i64 (wrap64 (x : Int)) 127 = ((x % 128 : Nat) : Int) := by
  have e : wrap64 (x : Int) = (x : Int) := by unfold wrap64; omega
  rw [e]
  have ha : x &&& 127 = x % 128 := Nat.and_two_pow_sub_one_eq_mod x 7
  have hi : IntKind.i64.wrap ((x % 128 : Nat) : Int) = ((x % 128 : Nat) : Int) := by
    have h8 : x % 128 < 128 := Nat.mod_lt _ (by decide)
    generalize x % 128 = y at *
    simp only [IntKind.wrap, IntKind.signed, IntKind.bits]
    simp
    omega
  show IntKind.i64.wrap ((BitVec.ofInt 64 (x : Int) &&& BitVec.ofInt 64 ((127 : Nat) : Int)).toNat : Int) = _
  rw [BitVec.toNat_and, ofInt_u64 x (by omega), ofInt_u64 127 (by decide), ha, hi]

theorem ones_any (b : Nat) (w : World) (hb : b < 2 ^ 64) :
    Calls Tryd.prog 72 #[.int .u64 b] w fun e w' => e = .returned (.int .i64 ((elems b).length : Nat)) ∧ w = w' := by
  go_enter Tryd.func72, Tryd.ntmps72
  go_wp2
  go_ret
  refine ⟨ret_i64 ?_, rfl⟩
  obtain ⟨h1, l1⟩ := ones_1 hb
  obtain ⟨h2, l2⟩ := ones_2 l1
  have h3 := ones_3 l2
  rw [h1, h2, h3]
  obtain ⟨p0, p1, p2, p3, p4, p5, p6, p7, q0, q1, q2, q3, q4, q5, q6, q7, hs, hl⟩ := Pop.whole b
  obtain ⟨x, hx, hx1, hx2⟩ := ones_4 q0 q1 q2 q3 q4 q5 q6 q7 hs
  rw [hl, ← hx2, ← and_127 hx1, ← hx]
  rfl
theorem count_any (b : Nat) (w : World) (hb : b < 2 ^ 64) :
    Calls Tryd.prog 56 #[.int .u64 b] w fun e w' => e = .returned (.int .i64 ((elems b).length : Nat)) ∧ w = w' := by
  have H := Lib.hid hb
  clear hb
  go_enter Tryd.func56, Tryd.ntmps56
  go_wp2_with (go_at_call 72; refine (ones_any b _ H.out).mono ?_; rintro e w' ⟨rfl, rfl⟩)
  go_ret
  exact ⟨rfl, rfl⟩
end Go.Proofs.YtekcenacpklpgaaDoor

set_option maxHeartbeats 1000000
set_option maxRecDepth 10000
namespace Go.Proofs.YtekcenacpklpgaaDoor
open Go Go.RowKit Pl

theorem testBit_div (b k : Nat) : b.testBit k = decide (b / 2 ^ k % 2 = 1) := by
  rw [Nat.testBit, Nat.shiftRight_eq_div_pow, Nat.one_and_eq_mod_two]
  have : b / 2 ^ k % 2 = 0 ∨ b / 2 ^ k % 2 = 1 := by omega
  rcases this with h | h <;> simp [h]

/-- Is k in the set b? -/
def hasI (b : Nat) (k : Int) : Bool := decide (0 ≤ k) && decide (k ≤ 63) && b.testBit k.toNat

theorem hasI_nat (b k : Nat) (h : k < 64) : hasI b (k : Int) = b.testBit k := by
  unfold hasI
  have : (k : Int) ≤ 63 := by omega
  simp [this]
theorem upto_rng {b n : Nat} (h : n ≤ 64) : ∀ x ∈ (upto b n).map Int.ofNat, 0 ≤ x ∧ x ≤ 63 := by
  intro x hx
  rw [List.mem_map] at hx
  obtain ⟨k, hk, rfl⟩ := hx
  have := (mem_upto.1 hk).1
  simp
  omega
theorem uptoI_length_le (b n : Nat) : ((upto b n).map Int.ofNat).length ≤ n := by rw [List.length_map]; exact upto_length_le b n

/-- The least of a list from a number on; -1, if there is none. -/
def from? : List Int → Int → Int
  | [], _ => -1
  | x :: l, at' => if at' ≤ x then x else from? l at'
theorem from_drop {l : List Int} {k : Nat} {x a : Int} (hk : k < l.length) (hx : l.getD k 0 = x) : from? (l.drop k) a = if a ≤ x then x else from? (l.drop (k + 1)) a := by
  rw [List.drop_eq_getElem_cons hk]
  rw [List.getD_eq_getElem?_getD, List.getElem?_eq_getElem hk] at hx
  have hx' : l[k] = x := by simpa using hx
  rw [hx']
  rfl

theorem same_drop {l m : List Int} {k : Nat} (h : l.length = m.length) (hk : k < l.length) (he : l.take k = m.take k) {x y : Int} (hx : l.getD k 0 = x) (hy : m.getD k 0 = y) :
    (x = y → l.take (k + 1) = m.take (k + 1)) ∧ (¬ x = y → ¬ l = m) := by
  refine ⟨fun e => ?_, fun hn e => hn ?_⟩
  · rw [take_succ_getD hk hx, take_succ_getD (by omega) hy, he, e]
  · rw [← hx, ← hy, e]

theorem rsame_any (A B : Option Addr) (n m c d : Nat) (xs ys : List Int) (w : World) (hA : Ints w A n xs) (hB : Ints w B m ys) :
    Calls Tryd.prog 67 #[.slice A n c, .slice B m d] w fun e w' => e = .returned (.bool (decide (xs = ys))) ∧ Kept w w' := by
  have hs1 := hA.small
  have hs2 := hB.small
  have HA := Lib.hid hA
  have HB := Lib.hid hB
  have Hla := Lib.hid hA.len
  have Hlb := Lib.hid hB.len
  clear hA hB
  by_cases hnm : n = m
  · subst hnm
    go_enter Tryd.func67, Tryd.ntmps67
    go_wp2
    go_loopw [5] (fun v wr => ∃ k : Nat, k ≤ n ∧ v = .int .i64 k ∧ Hid (xs.take k = ys.take k) ∧ Hid (Kept w wr)) (fun v _ => n - (intOf v).toNat)
    case atStart => exact ⟨0, Nat.zero_le _, rfl, rfl, Below.refl _ _⟩
    case round =>
      obtain ⟨k, hk, rfl, Hf, Hk⟩ := hrel
      by_cases hlt : k < n
      · have hAr := HA.out.kept Hk.out
        have hBr := HB.out.kept Hk.out
        obtain ⟨a, rfl, hba⟩ := hAr.addr (by omega)
        obtain ⟨a2, rfl, hba2⟩ := hBr.addr (by omega)
        obtain ⟨x, Hx, hcx, hx1, hx2⟩ := hAr.named k hlt
        obtain ⟨y, Hy, hcy, hy1, hy2⟩ := hBr.named k hlt
        clear hAr hBr
        have Hd := Lib.hid (same_drop (by rw [Hla.out, Hlb.out]) (by have := Hla.out; omega) Hf.out Hx.out Hy.out)
        by_cases hxy : x = y
        · subst hxy
          go_wp2
          refine wp_region_quiet_below (by kernel_rfl) (by kernel_rfl) ?_
          repeat (any_goals (first | go_big_quiet_step ((fail)) | quiet_step ((fail)) | (refine wpQuiet_step (fun K hK => ?_); go_simp; split <;> (refine hK _ ?_; clear hK K))))
          all_goals (refine wpQuiet_nil ?_; intro w1 hw'; replace hw' := Kept.regrown hw')
          have Hk2 := Lib.hid (Hk.out.then hw')
          clear hw'
          go_wp2
          go_roundw
          case rel => exact ⟨k + 1, by omega, by go_num, Hd.out.1 trivial, Hk2.out⟩
          case measure => simp [intOf]; omega
        · have hb : ((x != y) = true) := by simp [hxy]
          go_wp2
          refine wp_region_quiet_below (by kernel_rfl) (by kernel_rfl) ?_
          repeat (any_goals (first | go_big_quiet_step ((fail)) | quiet_step ((fail)) | (refine wpQuiet_step (fun K hK => ?_); go_simp; split <;> (refine hK _ ?_; clear hK K))))
          all_goals (refine wpQuiet_nil ?_; intro w1 hw'; replace hw' := Kept.regrown hw')
          have Hk2 := Lib.hid (Hk.out.then hw')
          clear hw'
          go_wp2
          go_ret
          exact ⟨ret_bool (by simp [Hd.out.2 hxy]), Hk2.out⟩
      · have e : k = n := by omega
        subst e
        go_wp2
        go_ret
        have hf := Hf.out
        rw [List.take_of_length_le (by rw [Hla.out]; exact Nat.le_refl _), List.take_of_length_le (by rw [Hlb.out]; exact Nat.le_refl _)] at hf
        exact ⟨ret_bool (by simp [hf]), Hk.out⟩
  · have hne : ¬ xs = ys := fun h => hnm (by rw [← Hla.out, ← Hlb.out, h])
    have He := Lib.hid hne
    clear hne
    go_enter Tryd.func67, Tryd.ntmps67
    go_wp2
    go_ret
    exact ⟨ret_bool (by simp [He.out]), Kept.same _⟩
end Go.Proofs.YtekcenacpklpgaaDoor

set_option maxHeartbeats 1000000
set_option maxRecDepth 10000
namespace Go.Proofs.YtekcenacpklpgaaDoor
open Go Go.RowKit Pl

theorem andNot_gen {L M : Nat} (hL : L < 2 ^ 64) (hM : M < 2 ^ 64) : bits BinOp.andNot IntKind.u64 (L : Int) (M : Int) = ((less L M : Nat) : Int) :=
  u64_andNot_nat L M hL hM

theorem rdsame_any (A B : Option Addr) (n m c d L M : Nat) (xs ys : List Int) (w : World) (hA : Ints w A n xs) (hB : Ints w B m ys) :
    Calls Tryd.prog 41 #[.agg #[.slice A n c, .int .u64 L], .agg #[.slice B m d, .int .u64 M]] w fun e w' => e = .returned (.bool (decide (L = M) && decide (xs = ys))) ∧ Kept w w' := by
  have HA := Lib.hid hA
  have HB := Lib.hid hB
  clear hA hB
  by_cases h : (L : Int) = M
  · have hd : ((L : Int) == M) = true := by simp [h]
    have e : L = M := by omega
    subst e
    go_enter Tryd.func41, Tryd.ntmps41
    go_wp2_with fail
    refine (rsame_any A B n m c d xs ys _ (HA.out.kept ((Kept.box _ _).newBlock _)) (HB.out.kept ((Kept.box _ _).newBlock _))).mono ?_
    rintro e w1 ⟨rfl, hk⟩
    have Hk := Lib.hid (((Kept.box _ _).newBlock _).then hk)
    generalize hb : decide (xs = ys) = bb
    clear hk
    go_wp2_with fail
    go_ret
    subst hb
    exact ⟨ret_bool (by simp), Hk.out⟩
  · have hd : ((L : Int) == M) = false := by simp; omega
    go_enter Tryd.func41, Tryd.ntmps41
    go_wp2_with fail
    go_ret
    exact ⟨ret_bool (by simp; omega), (Kept.box _ _).newBlock _⟩

/-- Some answer; where it is no, there are few. -/
def LargePost (n : Nat) (w : World) (e : Ending) (w' : World) : Prop := ∃ b : Bool, e = .returned (.bool b) ∧ (b = false → n ≤ 20) ∧ Kept w w'

theorem large_any (K R Ct : Int) (A1 A2 A3 : Option Addr) (n1 c1 n2 c2 n3 c3 : Nat) (C : ConB) (A : Option Addr) (n c : Nat) (ds : List DomB) (w : World) (hC : ConIn w K R Ct A1 A2 A3 n1 c1 n2 c2 n3 c3 C) (hS : Doms w A n ds) :
    Calls Tryd.prog 9 #[.agg #[.int .i64 K, .slice A1 n1 c1, .slice A2 n2 c2, .int .i64 R, .int .i64 Ct, .slice A3 n3 c3], .slice A n c] w (LargePost n w) := by
  have HS := Lib.hid hS
  have hsm := hS.small
  have hs1 := hC.vars.small
  have hs2 := hC.coefs.small
  have hs3 := hC.nums.small
  clear hC hS
  by_cases g1 : (20 : Int) < n
  · have hd : decide ((20 : Int) < n) = true := by simp; omega
    go_enter Tryd.func9, Tryd.ntmps9
    go_wp2_with fail
    go_ret
    exact ⟨true, rfl, by simp, Kept.box _ _⟩
  have hn : n ≤ 20 := by omega
  have hd1 : decide ((20 : Int) < n) = false := by simp; omega
  by_cases g2 : (150 : Int) < n1
  · have hd : decide ((150 : Int) < n1) = true := by simp; omega
    go_enter Tryd.func9, Tryd.ntmps9
    go_wp2_with fail
    go_ret
    exact ⟨true, rfl, by simp, Kept.box _ _⟩
  have hd2 : decide ((150 : Int) < n1) = false := by simp; omega
  by_cases g3 : (150 : Int) < n2
  · have hd : decide ((150 : Int) < n2) = true := by simp; omega
    go_enter Tryd.func9, Tryd.ntmps9
    go_wp2_with fail
    go_ret
    exact ⟨true, rfl, by simp, Kept.box _ _⟩
  have hd3 : decide ((150 : Int) < n2) = false := by simp; omega
  by_cases g4 : (150 : Int) < n3
  · have hd : decide ((150 : Int) < n3) = true := by simp; omega
    go_enter Tryd.func9, Tryd.ntmps9
    go_wp2_with fail
    go_ret
    exact ⟨true, rfl, by simp, Kept.box _ _⟩
  have hd4 : decide ((150 : Int) < n3) = false := by simp; omega
  go_enter Tryd.func9, Tryd.ntmps9
  go_wp2_with fail
  go_loopw [30] (fun v wr => ∃ k : Nat, k ≤ n ∧ v = .int .i64 k ∧ Hid (Kept w wr)) (fun v _ => n - (intOf v).toNat)
  case atStart => exact ⟨0, Nat.zero_le _, rfl, Kept.box _ _⟩
  case round =>
    obtain ⟨k, hk, rfl, Hkw⟩ := hrel
    by_cases hlt : k < n
    · have hSr := HS.out.kept Hkw.out
      obtain ⟨a, rfl, hblk⟩ := hSr.addr (by omega)
      obtain ⟨xs, L, B, m, cB, Hd, hc1, hc2, HI, hL⟩ := hSr.named k hlt
      have hm := HI.out.small
      clear hSr
      by_cases g5 : (150 : Int) < m
      · have hd5 : decide ((150 : Int) < m) = true := by simp; omega
        go_wp2_with fail
        go_ret
        exact ⟨true, rfl, by simp, Hkw.out.newBlock _⟩
      · have hd5 : decide ((150 : Int) < m) = false := by simp; omega
        go_wp2_with fail
        go_roundw
        case rel => exact ⟨k + 1, by omega, by go_num, Hkw.out.newBlock _⟩
        case measure => simp [intOf]; omega
    · go_wp2_with fail
      go_ret
      exact ⟨false, rfl, fun _ => hn, Hkw.out⟩

/-- Is all that is left of the one left of the other, of the same values? -/
def withinD (a b : DomB) : Bool := decide (a.1 = b.1) && decide (less a.2 b.2 = 0)
def withinUpto (us bs : List DomB) (k : Nat) : Bool := (List.range k).all fun i => withinD (us.getD i nilD) (bs.getD i nilD)
theorem withinUpto_succ (us bs : List DomB) (k : Nat) : withinUpto us bs (k + 1) = (withinUpto us bs k && withinD (us.getD k nilD) (bs.getD k nilD)) := by
  unfold withinUpto
  rw [List.range_succ, List.all_append]
  simp
theorem withinUpto_bad {us bs : List DomB} {m n : Nat} (h : withinUpto us bs m = false) (hm : m ≤ n) : withinUpto us bs n = false := by
  cases e : withinUpto us bs n with
  | false => rfl
  | true =>
    unfold withinUpto at *
    rw [List.all_eq_true] at e
    have : (List.range m).all (fun i => withinD (us.getD i nilD) (bs.getD i nilD)) = true := List.all_eq_true.2 fun i hi => e i (List.mem_range.2 (by have := List.mem_range.1 hi; omega))
    rw [h] at this
    cases this
def withinL (us bs : List DomB) : Bool := decide (us.length = bs.length) && withinUpto us bs us.length

theorem within_any (A B : Option Addr) (n m c d : Nat) (us bs : List DomB) (w : World) (hA : Doms w A n us) (hB : Doms w B m bs) :
    Calls Tryd.prog 14 #[.slice A n c, .slice B m d] w fun e w' => e = .returned (.bool (withinL us bs)) ∧ Kept w w' := by
  have HA := Lib.hid hA
  have HB := Lib.hid hB
  have hsm := hA.small
  have hsm2 := hB.small
  have hla := hA.len
  have hlb := hB.len
  have Hla := Lib.hid hla
  by_cases g1 : ¬ (n : Int) = m
  · have hd : ((n : Int) != m) = true := by simpa using g1
    have hw : withinL us bs = false := by unfold withinL; rw [hla, hlb]; simp; omega
    rw [hw]
    clear hA hB hla hlb
    go_enter Tryd.func14, Tryd.ntmps14
    go_wp2_with fail
    go_ret
    exact ⟨rfl, Kept.same _⟩
  have e : n = m := by omega
  subst e
  have hw : Hid (withinL us bs = withinUpto us bs n) := by show _ = _; unfold withinL; rw [hla, hlb]; simp
  clear hA hB hla hlb g1
  go_enter Tryd.func14, Tryd.ntmps14
  go_wp2_with fail
  go_loopw [15] (fun v wr => ∃ k : Nat, k ≤ n ∧ v = .int .i64 k ∧ Hid (Kept w wr) ∧ Hid (withinUpto us bs k = true)) (fun v _ => n - (intOf v).toNat)
  case atStart => exact ⟨0, Nat.zero_le _, rfl, Kept.same _, rfl⟩
  case round =>
    obtain ⟨k, hk, rfl, Hkw, Hok⟩ := hrel
    by_cases hlt : k < n
    · have hSr := HA.out.kept Hkw.out
      have hSb := HB.out.kept Hkw.out
      obtain ⟨a, rfl, hblk⟩ := hSr.addr (by omega)
      obtain ⟨b, rfl, hblk2⟩ := hSb.addr (by omega)
      obtain ⟨xs, L, Bx, mx, cx, Hdx, hc1, hc2, HIx, hLx⟩ := hSr.named k hlt
      obtain ⟨ys, M, By, my, cy, Hdy, hc3, hc4, HIy, hLy⟩ := hSb.named k hlt
      have hn1 := World.new_ne wr _ hc1
      have hn2 := World.new_ne wr _ hc2
      have hn3 := World.new_ne wr _ hc3
      have hn4 := World.new_ne wr _ hc4
      have HQ : Hid (∀ W, Kept wr W → Calls Tryd.prog 41 #[.agg #[.slice Bx mx cx, .int .u64 0], .agg #[.slice By my cy, .int .u64 0]] W fun e w' => e = .returned (.bool (decide (xs = ys))) ∧ Kept W w') := fun W hW => by
        have := rdsame_any Bx By mx my cx cy 0 0 xs ys W (HIx.out.kept hW) (HIy.out.kept hW)
        simpa using this
      have Hnext : Hid (withinUpto us bs (k + 1) = (decide (xs = ys) && decide (less L M = 0))) := by
        show _ = _
        rw [withinUpto_succ, Hok.out, Hdx.out, Hdy.out]
        rfl
      have hbit : (bits BinOp.andNot IntKind.u64 (L : Int) (M : Int) != 0) = !decide (less L M = 0) := by
        rw [andNot_gen hLx hLy]
        generalize less L M = z
        by_cases h : z = 0
        · subst h; rfl
        · rw [decide_eq_false h]
          have h2 : (z : Int) ≠ 0 := by omega
          simpa using h
      generalize hb1 : decide (xs = ys) = b1 at HQ Hnext
      generalize hb2 : decide (less L M = 0) = b2 at hbit Hnext
      have hl1 := World.block_lt_of_cell? wr _ hc1
      have hl2 := World.block_lt_of_cell? wr _ hc2
      have hl3 := World.block_lt_of_cell? wr _ hc3
      have hl4 := World.block_lt_of_cell? wr _ hc4
      clear hSr hSb hb1 hb2
      go_wp2_with fail
      go_region_held3 (fun W => W.cell? (a.add (k * 2)) = some (.slice Bx mx cx) ∧ W.cell? ⟨a.block, (a.add (k * 2)).off + 1, Option.none⟩ = some (.int .u64 L) ∧ W.cell? (b.add (k * 2)) = some (.slice By my cy) ∧ W.cell? ⟨b.block, (b.add (k * 2)).off + 1, Option.none⟩ = some (.int .u64 M)) (go_keep) (fail)
      · go_wp2_with fail
        have HkW : Hid (Kept wr ((wr.alloc (.cells #[.slice Bx mx cx, .int .u64 0] 47)).alloc (.cells #[.slice By my cy, .int .u64 0] 47)).drew) := ((Kept.box _ _).newBlock _).then (Kept.drewn _)
        have hA := Kept.heapAt (Kept.drewn _) ((Kept.box _ (.cells #[.slice By my cy, .int .u64 0] 47)).heapAt (heap_new wr (.cells #[.slice Bx mx cx, .int .u64 0] 47)))
        have hB := Kept.heapAt (Kept.drewn _) (heap_new2 wr (.cells #[.slice Bx mx cx, .int .u64 0] 47) (.cells #[.slice By my cy, .int .u64 0] 47))
        generalize ((wr.alloc (.cells #[.slice Bx mx cx, .int .u64 0] 47)).alloc (.cells #[.slice By my cy, .int .u64 0] 47)).drew = W8 at *
        have e1 := cell_at hA 0
        have e2 := cell_at hA 1
        have e3 := cell_at hB 0
        have e4 := cell_at hB 1
        simp only [List.getElem?_toArray, List.getElem?_cons_zero, List.getElem?_cons_succ] at e1 e2 e3 e4
        have l1 : wr.heap.size < W8.heap.size := lt_at hA
        have l2 : wr.heap.size + 1 < W8.heap.size := lt_at hB
        have f1 := HkW.out.cellAt hc1
        have f2 := HkW.out.cellAt hc2
        have f3 := HkW.out.cellAt hc3
        have f4 := HkW.out.cellAt hc4
        have m1 := World.block_lt_of_cell? W8 _ f1
        have m2 := World.block_lt_of_cell? W8 _ f2
        have m3 := World.block_lt_of_cell? W8 _ f3
        have m4 := World.block_lt_of_cell? W8 _ f4
        clear hA hB hc1 hc2 hc3 hc4 hl1 hl2 hl3 hl4 hn1 hn2 hn3 hn4
        cases b1 with
        | false =>
          refine wp_region_quiet_below (by kernel_rfl) (by kernel_rfl) ?_
          repeat (any_goals (first | go_big_quiet_step (((go_at_call 41; exact Calls.regrown_of (HQ.out _ (HkW.out.then (below_regrown _ _ _)))))) | quiet_step (((go_at_call 41; exact Calls.regrown_of (HQ.out _ (HkW.out.then (below_regrown _ _ _)))))) | (refine wpQuiet_step (fun K hK => ?_); go_simp; split <;> (refine hK _ ?_; clear hK K))))
          all_goals (refine wpQuiet_nil ?_; intro w1 hw'; replace hw' := Kept.regrown hw')
          have Hk9 := Lib.hid (Hkw.out.then (HkW.out.then hw'))
          clear hw'
          go_wp2_with fail
          go_ret
          exact ⟨ret_bool (by rw [hw.out, withinUpto_bad (m := k + 1) (by rw [Hnext.out]; simp) hlt]), Hk9.out⟩
        | true =>
          cases b2 with
          | false =>
            refine wp_region_quiet_below (by kernel_rfl) (by kernel_rfl) ?_
            repeat (any_goals (first | go_big_quiet_step (((go_at_call 41; exact Calls.regrown_of (HQ.out _ (HkW.out.then (below_regrown _ _ _)))))) | quiet_step (((go_at_call 41; exact Calls.regrown_of (HQ.out _ (HkW.out.then (below_regrown _ _ _)))))) | (refine wpQuiet_step (fun K hK => ?_); go_simp; split <;> (refine hK _ ?_; clear hK K))))
            all_goals (refine wpQuiet_nil ?_; intro w1 hw'; replace hw' := Kept.regrown hw')
            have Hk9 := Lib.hid (Hkw.out.then (HkW.out.then hw'))
            clear hw'
            go_wp2_with fail
            go_ret
            exact ⟨ret_bool (by rw [hw.out, withinUpto_bad (m := k + 1) (by rw [Hnext.out]; simp) hlt]), Hk9.out⟩
          | true =>
            refine wp_region_quiet_below (by kernel_rfl) (by kernel_rfl) ?_
            repeat (any_goals (first | go_big_quiet_step (((go_at_call 41; exact Calls.regrown_of (HQ.out _ (HkW.out.then (below_regrown _ _ _)))))) | quiet_step (((go_at_call 41; exact Calls.regrown_of (HQ.out _ (HkW.out.then (below_regrown _ _ _)))))) | (refine wpQuiet_step (fun K hK => ?_); go_simp; split <;> (refine hK _ ?_; clear hK K))))
            all_goals (refine wpQuiet_nil ?_; intro w1 hw'; replace hw' := Kept.regrown hw')
            have Hk9 := Lib.hid (Hkw.out.then (HkW.out.then hw'))
            clear hw'
            go_wp2_with fail
            go_roundw
            case rel => exact ⟨k + 1, by omega, by go_num, Hk9.out, by show _ = _; rw [Hnext.out]; rfl⟩
            case measure => simp [intOf]; omega
      · go_wp2_with fail
        have HkW : Hid (Kept wr ((wr.alloc (.cells #[.slice By my cy, .int .u64 0] 47)).alloc (.cells #[.slice Bx mx cx, .int .u64 0] 47)).drew) := ((Kept.box _ _).newBlock _).then (Kept.drewn _)
        have hA := Kept.heapAt (Kept.drewn _) ((Kept.box _ (.cells #[.slice Bx mx cx, .int .u64 0] 47)).heapAt (heap_new wr (.cells #[.slice By my cy, .int .u64 0] 47)))
        have hB := Kept.heapAt (Kept.drewn _) (heap_new2 wr (.cells #[.slice By my cy, .int .u64 0] 47) (.cells #[.slice Bx mx cx, .int .u64 0] 47))
        generalize ((wr.alloc (.cells #[.slice By my cy, .int .u64 0] 47)).alloc (.cells #[.slice Bx mx cx, .int .u64 0] 47)).drew = W8 at *
        have e1 := cell_at hA 0
        have e2 := cell_at hA 1
        have e3 := cell_at hB 0
        have e4 := cell_at hB 1
        simp only [List.getElem?_toArray, List.getElem?_cons_zero, List.getElem?_cons_succ] at e1 e2 e3 e4
        have l1 : wr.heap.size < W8.heap.size := lt_at hA
        have l2 : wr.heap.size + 1 < W8.heap.size := lt_at hB
        have f1 := HkW.out.cellAt hc1
        have f2 := HkW.out.cellAt hc2
        have f3 := HkW.out.cellAt hc3
        have f4 := HkW.out.cellAt hc4
        have m1 := World.block_lt_of_cell? W8 _ f1
        have m2 := World.block_lt_of_cell? W8 _ f2
        have m3 := World.block_lt_of_cell? W8 _ f3
        have m4 := World.block_lt_of_cell? W8 _ f4
        clear hA hB hc1 hc2 hc3 hc4 hl1 hl2 hl3 hl4 hn1 hn2 hn3 hn4
        cases b1 with
        | false =>
          refine wp_region_quiet_below (by kernel_rfl) (by kernel_rfl) ?_
          repeat (any_goals (first | go_big_quiet_step (((go_at_call 41; exact Calls.regrown_of (HQ.out _ (HkW.out.then (below_regrown _ _ _)))))) | quiet_step (((go_at_call 41; exact Calls.regrown_of (HQ.out _ (HkW.out.then (below_regrown _ _ _)))))) | (refine wpQuiet_step (fun K hK => ?_); go_simp; split <;> (refine hK _ ?_; clear hK K))))
          all_goals (refine wpQuiet_nil ?_; intro w1 hw'; replace hw' := Kept.regrown hw')
          have Hk9 := Lib.hid (Hkw.out.then (HkW.out.then hw'))
          clear hw'
          go_wp2_with fail
          go_ret
          exact ⟨ret_bool (by rw [hw.out, withinUpto_bad (m := k + 1) (by rw [Hnext.out]; simp) hlt]), Hk9.out⟩
        | true =>
          cases b2 with
          | false =>
            refine wp_region_quiet_below (by kernel_rfl) (by kernel_rfl) ?_
            repeat (any_goals (first | go_big_quiet_step (((go_at_call 41; exact Calls.regrown_of (HQ.out _ (HkW.out.then (below_regrown _ _ _)))))) | quiet_step (((go_at_call 41; exact Calls.regrown_of (HQ.out _ (HkW.out.then (below_regrown _ _ _)))))) | (refine wpQuiet_step (fun K hK => ?_); go_simp; split <;> (refine hK _ ?_; clear hK K))))
            all_goals (refine wpQuiet_nil ?_; intro w1 hw'; replace hw' := Kept.regrown hw')
            have Hk9 := Lib.hid (Hkw.out.then (HkW.out.then hw'))
            clear hw'
            go_wp2_with fail
            go_ret
            exact ⟨ret_bool (by rw [hw.out, withinUpto_bad (m := k + 1) (by rw [Hnext.out]; simp) hlt]), Hk9.out⟩
          | true =>
            refine wp_region_quiet_below (by kernel_rfl) (by kernel_rfl) ?_
            repeat (any_goals (first | go_big_quiet_step (((go_at_call 41; exact Calls.regrown_of (HQ.out _ (HkW.out.then (below_regrown _ _ _)))))) | quiet_step (((go_at_call 41; exact Calls.regrown_of (HQ.out _ (HkW.out.then (below_regrown _ _ _)))))) | (refine wpQuiet_step (fun K hK => ?_); go_simp; split <;> (refine hK _ ?_; clear hK K))))
            all_goals (refine wpQuiet_nil ?_; intro w1 hw'; replace hw' := Kept.regrown hw')
            have Hk9 := Lib.hid (Hkw.out.then (HkW.out.then hw'))
            clear hw'
            go_wp2_with fail
            go_roundw
            case rel => exact ⟨k + 1, by omega, by go_num, Hk9.out, by show _ = _; rw [Hnext.out]; rfl⟩
            case measure => simp [intOf]; omega
    · have e : k = n := by omega
      subst e
      go_wp2_with fail
      go_ret
      exact ⟨ret_bool (by rw [hw.out, Hok.out]), Hkw.out⟩
end Go.Proofs.YtekcenacpklpgaaDoor

namespace Go.Proofs.YtekcenacpklpgaaDoor
open Go Go.RowKit Pl

/-- All that was there but the blocks of X has not turned. -/
structure KeptX (X : Nat → Prop) (w w' : World) : Prop where
  os : w'.os = w.os
  tape : w'.tape = w.tape
  output : w'.output = w.output
  size : w.heap.size ≤ w'.heap.size
  block : ∀ k, k < w.heap.size → ¬ X k → w'.heap[k]? = w.heap[k]?
theorem KeptX.refl (X : Nat → Prop) (w : World) : KeptX X w w := ⟨rfl, rfl, rfl, Nat.le_refl _, fun _ _ _ => rfl⟩
theorem KeptX.then {X : Nat → Prop} {a b c : World} (h : KeptX X a b) (k : KeptX X b c) : KeptX X a c :=
  ⟨k.os.trans h.os, k.tape.trans h.tape, k.output.trans h.output, Nat.le_trans h.size k.size, fun i hi hB => (k.block i (Nat.lt_of_lt_of_le hi h.size) hB).trans (h.block i hi hB)⟩
theorem KeptX.of {w w' : World} (h : Kept w w') (X : Nat → Prop) : KeptX X w w' := ⟨h.os, h.tape, h.output, h.size, fun k hk _ => h.block k hk⟩
theorem KeptX.ofBut {B : Nat} {w w' : World} (h : KeptBut B w w') {X : Nat → Prop} (hX : X B) : KeptX X w w' :=
  ⟨h.os, h.tape, h.output, h.size, fun k hk hn => h.block k hk (fun e => hn (e ▸ hX))⟩
theorem KeptX.heapAt {X : Nat → Prop} {w w' : World} (h : KeptX X w w') {O : Nat} {o : Obj} (hO : w.heap[O]? = some o) (hn : ¬ X O) : w'.heap[O]? = some o := (h.block O (lt_at hO) hn).trans hO
theorem KeptX.cellAt {X : Nat → Prop} {w w' : World} (h : KeptX X w w') {a : Addr} {v : Value} (hc : w.cell? a = some v) (hn : ¬ X a.block) : w'.cell? a = some v :=
  (World.cell?_of_block (w := w) (h.block a.block (World.block_lt_of_cell? w a hc) hn)).trans hc
/-- .. below a world whose blocks are none of X. -/
theorem KeptX.below {X : Nat → Prop} {w0 w w' : World} (h0 : Kept w0 w) (h : KeptX X w w') (hX : ∀ k, X k → w0.heap.size ≤ k) : Kept w0 w' :=
  ⟨h.os.trans h0.os, h.tape.trans h0.tape, h.output.trans h0.output, Nat.le_trans h0.size h.size, fun k hk => (h.block k (Nat.lt_of_lt_of_le hk h0.size) (fun e => by have := hX k e; omega)).trans (h0.block k hk)⟩
theorem KeptX.but {X : Nat → Prop} {B : Nat} {w0 w w' : World} (h0 : Kept w0 w) (h : KeptX X w w') (hX : ∀ k, X k → k = B ∨ w0.heap.size ≤ k) : KeptBut B w0 w' :=
  ⟨h.os.trans h0.os, h.tape.trans h0.tape, h.output.trans h0.output, Nat.le_trans h0.size h.size, fun k hk hB => (h.block k (Nat.lt_of_lt_of_le hk h0.size) (fun e => by have := hX k e; omega)).trans (h0.block k hk)⟩
theorem Ints.keptX {X : Nat → Prop} {w w' : World} {A : Option Addr} {n : Nat} {xs : List Int} (h : Ints w A n xs) (hk : KeptX X w w') (hB : 0 < n → ∀ a, A = some a → ¬ X a.block) : Ints w' A n xs :=
  ⟨h.len, h.small, h.rng, fun hn => by
    obtain ⟨a, e, hc⟩ := h.cell hn
    exact ⟨a, e, fun j hj => hk.cellAt (hc j hj) (by rw [add_block']; exact hB hn a e)⟩⟩
end Go.Proofs.YtekcenacpklpgaaDoor

set_option maxHeartbeats 1000000
namespace Go.Proofs.YtekcenacpklpgaaDoor
open Go Go.RowKit Pl

/-- The slice u, in blocks from base on, owns the domains ds; their values do not lie in its own block. -/
def OwnD (w : World) (base : Nat) (u : Value) (ds : List DomB) : Prop :=
  ∃ vs : List Value, w.ownsRow base 47 2 u ds.length vs ∧ ∀ j, j < ds.length → (ds.getD j nilD).2 < 2 ^ 64 ∧
    ∃ B m c, vs[j * 2]? = some (.slice B m c) ∧ vs[j * 2 + 1]? = some (.int .u64 ((ds.getD j nilD).2 : Nat)) ∧ Ints w B m (ds.getD j nilD).1 ∧ (0 < m → ∀ a, B = some a → u.ownBlock ≠ some a.block)

theorem OwnD.nil (w : World) (base : Nat) : OwnD w base (.slice Option.none 0 0) [] :=
  ⟨[], World.ownsRow_nil _ _ _ _, fun j hj => by simp at hj⟩

theorem own_kept {w w' : World} {base : Nat} {e : TypeId} {size n : Nat} {v : Value} {xs : List Value} (h : w.ownsRow base e size v n xs) (hk : Kept w w') : w'.ownsRow base e size v n xs :=
  h.kept (row := Option.none) ⟨hk.os, hk.tape, hk.output, hk.size, fun k hk' _ => hk.block k hk'⟩ (by cases v.ownBlock <;> simp)

theorem OwnD.kept {w w' : World} {base : Nat} {u : Value} {ds : List DomB} (h : OwnD w base u ds) (hk : Kept w w') : OwnD w' base u ds := by
  obtain ⟨vs, hown, hd⟩ := h
  refine ⟨vs, hown.kept (row := Option.none) ⟨hk.os, hk.tape, hk.output, hk.size, fun k hk' _ => hk.block k hk'⟩ ?_, fun j hj => ?_⟩
  · cases u.ownBlock <;> simp
  · obtain ⟨hl, B, m, c, h1, h2, h3, h4⟩ := hd j hj
    exact ⟨hl, B, m, c, h1, h2, h3.kept hk, h4⟩

theorem getD_snoc {ds : List DomB} {d : DomB} {j : Nat} (hj : j < ds.length) : (ds ++ [d]).getD j nilD = ds.getD j nilD := by
  simp only [List.getD_eq_getElem?_getD, List.getElem?_append_left hj]
theorem getD_last (ds : List DomB) (d : DomB) : (ds ++ [d]).getD ds.length nilD = d := by
  simp [List.getD_eq_getElem?_getD]

/-- One more: behind the copy of its values and the append. w1: where the append begins (its element laid in a block of its own). -/
theorem OwnD.snoc {w1 w2 : World} {base g cap : Nat} {u : Value} {ds : List DomB} {d : DomB} {B : Option Addr} {m c : Nat} {vs : List Value}
    (hown : w1.ownsRow base 47 2 u ds.length vs) (hd : ∀ j, j < ds.length → (ds.getD j nilD).2 < 2 ^ 64 ∧ ∃ B m c, vs[j * 2]? = some (.slice B m c) ∧ vs[j * 2 + 1]? = some (.int .u64 ((ds.getD j nilD).2 : Nat)) ∧ Ints w1 B m (ds.getD j nilD).1 ∧ (0 < m → ∀ a, B = some a → u.ownBlock ≠ some a.block))
    (hI : Ints w1 B m d.1) (hB : 0 < m → ∀ a, B = some a → u.ownBlock ≠ some a.block) (hL : d.2 < 2 ^ 64)
    (h2 : w2.ownsRow base 47 2 (.slice (some ⟨g, 0, Option.none⟩) (ds.length + 1) cap) (ds.length + 1) (vs ++ [.slice B m c, .int .u64 (d.2 : Nat)]))
    (hg : w1.grownBy w2 u.ownBlock) (hat : u.ownBlock = some g ∨ w1.heap.size ≤ g) : OwnD w2 base (.slice (some ⟨g, 0, Option.none⟩) (ds.length + 1) cap) (ds ++ [d]) := by
  have hlen : vs.length = ds.length * 2 := hown.1
  have hne : ∀ a : Addr, a.block < w1.heap.size → u.ownBlock ≠ some a.block → Value.ownBlock (.slice (some ⟨g, 0, Option.none⟩) (ds.length + 1) cap) ≠ some a.block := by
    intro a h1 h2 e
    simp only [Value.ownBlock, Option.some.injEq] at e
    rcases hat with h | h
    · rw [h, e] at h2; exact h2 rfl
    · omega
  have hint : ∀ {B : Option Addr} {m : Nat} {xs : List Int}, Ints w1 B m xs → (0 < m → ∀ a, B = some a → u.ownBlock ≠ some a.block) → Ints w2 B m xs := by
    intro B m xs h hb
    refine ⟨h.len, h.small, h.rng, fun hn => ?_⟩
    obtain ⟨a, e, hc⟩ := h.cell hn
    exact ⟨a, e, fun j hj => hg.cell (hc j hj) (by rw [add_block']; exact fun e' => hb hn a e e'.symm)⟩
  have hblk : ∀ {B : Option Addr} {m : Nat} {xs : List Int}, Ints w1 B m xs → 0 < m → ∀ a, B = some a → a.block < w1.heap.size := by
    intro B m xs h hn a ha
    subst ha
    exact h.block hn
  refine ⟨vs ++ [.slice B m c, .int .u64 (d.2 : Nat)], by rw [List.length_append]; exact h2, fun j hj => ?_⟩
  rw [List.length_append] at hj
  simp only [List.length_cons, List.length_nil] at hj
  by_cases hlt : j < ds.length
  · rw [getD_snoc hlt]
    obtain ⟨hl, B', m', c', e1, e2, e3, e4⟩ := hd j hlt
    refine ⟨hl, B', m', c', ?_, ?_, hint e3 e4, fun hn a ha => hne a (hblk e3 hn a ha) (e4 hn a ha)⟩
    · rw [List.getElem?_append_left (by omega)]; exact e1
    · rw [List.getElem?_append_left (by omega)]; exact e2
  · have e : j = ds.length := by omega
    subst e
    rw [getD_last]
    refine ⟨hL, B, m, c, ?_, ?_, hint hI hB, fun hn a ha => hne a (hblk hI hn a ha) (hB hn a ha)⟩
    · rw [List.getElem?_append_right (by omega), hlen]; simp
    · rw [List.getElem?_append_right (by omega), hlen]
      have : ds.length * 2 + 1 - ds.length * 2 = 1 := by omega
      rw [this]; rfl

theorem OwnD.parts {w : World} {base : Nat} {u : Value} {ds : List DomB} (h : OwnD w base u ds) : ∃ A c, u = .slice A ds.length c := by
  obtain ⟨vs, hown, _⟩ := h
  rcases hown.2 with ⟨rfl, h0⟩ | ⟨g, cap, cur, rfl, _⟩
  · rw [h0]; exact ⟨_, _, rfl⟩
  · exact ⟨_, _, rfl⟩

theorem OwnD.doms {w : World} {base c : Nat} {A : Option Addr} {n : Nat} {ds : List DomB} (h : OwnD w base (.slice A n c) ds) (hn : ds.length = n) (hs : n ≤ 9223372036854775807) : Doms w A n ds := by
  obtain ⟨vs, hown, hd⟩ := h
  subst hn
  refine ⟨rfl, hs, fun j hj => (hd j hj).1, fun h0 => ?_⟩
  obtain ⟨g, cap, e, hb, hlt⟩ := hown.form h0
  cases e
  refine ⟨_, rfl, fun j hj => ?_⟩
  obtain ⟨_, B, m, c, e1, e2, e3, _⟩ := hd j hj
  refine ⟨B, m, c, hown.cells (g := g) rfl _ _ e1, ?_, e3⟩
  have := hown.cells (g := g) rfl _ _ e2
  rw [add_plain] at this ⊢
  exact this

/-- A domain of the row is turned. -/
theorem OwnD.set {w : World} {base g n cap p : Nat} {ds : List DomB} {d : DomB} {B : Option Addr} {m c : Nat} (h : OwnD w base (.slice (some ⟨g, 0, Option.none⟩) n cap) ds) (hn : ds.length = n) (_hp : p < n) (hI : Ints w B m d.1) (hB : 0 < m → ∀ a, B = some a → a.block ≠ g) (hL : d.2 < 2 ^ 64) :
    OwnD ((w.setCell ⟨g, p * 2, Option.none⟩ (.slice B m c)).setCell ⟨g, p * 2 + 1, Option.none⟩ (.int .u64 (d.2 : Nat))) base (.slice (some ⟨g, 0, Option.none⟩) n cap) (ds.set p d) := by
  obtain ⟨vs, hown, hd⟩ := h
  subst hn
  have hlen : vs.length = ds.length * 2 := hown.1
  have h2 := (((hown.stored (p * 2) (.slice B m c)).1).stored (p * 2 + 1) (.int .u64 (d.2 : Nat))).1
  have hk : KeptBut g w ((w.setCell ⟨g, p * 2, Option.none⟩ (.slice B m c)).setCell ⟨g, p * 2 + 1, Option.none⟩ (.int .u64 (d.2 : Nat))) := (KeptBut.set _ (a := ⟨g, p * 2, Option.none⟩) rfl _).then (KeptBut.set _ (a := ⟨g, p * 2 + 1, Option.none⟩) rfl _)
  refine ⟨_, by rw [List.length_set]; exact h2, fun j hj => ?_⟩
  rw [List.length_set] at hj
  rw [getD_set ds p j d (by omega)]
  by_cases e : j = p
  · subst e
    rw [if_pos rfl]
    refine ⟨hL, B, m, c, ?_, ?_, hI.keptBut0 hk hB, fun hn a ha e => hB hn a ha (by simpa [Value.ownBlock] using e.symm)⟩
    · rw [List.getElem?_set_ne (by omega), List.getElem?_set_self (by omega)]
    · rw [List.getElem?_set_self (by rw [List.length_set]; omega)]
  · rw [if_neg e]
    obtain ⟨hl, B', m', c', e1, e2, e3, e4⟩ := hd j hj
    refine ⟨hl, B', m', c', ?_, ?_, e3.keptBut0 hk (fun hn a ha e => e4 hn a ha (by simp [Value.ownBlock, e])), e4⟩
    · rw [List.getElem?_set_ne (by omega), List.getElem?_set_ne (by omega)]; exact e1
    · rw [List.getElem?_set_ne (by omega), List.getElem?_set_ne (by omega)]; exact e2

/-- What is left of a domain of the row is turned. -/
theorem OwnD.setLive {w : World} {base g n cap p L : Nat} {ds : List DomB} (h : OwnD w base (.slice (some ⟨g, 0, Option.none⟩) n cap) ds) (hn : ds.length = n) (_hp : p < n) (hL : L < 2 ^ 64) :
    OwnD (w.setCell ⟨g, p * 2 + 1, Option.none⟩ (.int .u64 (L : Nat))) base (.slice (some ⟨g, 0, Option.none⟩) n cap) (ds.set p ((ds.getD p nilD).1, L)) := by
  obtain ⟨vs, hown, hd⟩ := h
  subst hn
  have hlen : vs.length = ds.length * 2 := hown.1
  have h2 := (hown.stored (p * 2 + 1) (.int .u64 (L : Nat))).1
  have hk : KeptBut g w (w.setCell ⟨g, p * 2 + 1, Option.none⟩ (.int .u64 (L : Nat))) := KeptBut.set _ (a := ⟨g, p * 2 + 1, Option.none⟩) rfl _
  refine ⟨_, by rw [List.length_set]; exact h2, fun j hj => ?_⟩
  rw [List.length_set] at hj
  rw [getD_set ds p j _ (by omega)]
  obtain ⟨hl, B', m', c', e1, e2, e3, e4⟩ := hd j hj
  have e3' := e3.keptBut0 hk (fun hn a ha e => e4 hn a ha (by simp [Value.ownBlock, e]))
  by_cases e : j = p
  · subst e
    rw [if_pos rfl]
    refine ⟨hL, B', m', c', ?_, ?_, e3', e4⟩
    · rw [List.getElem?_set_ne (by omega)]; exact e1
    · rw [List.getElem?_set_self (by omega)]
  · rw [if_neg e]
    refine ⟨hl, B', m', c', ?_, ?_, e3', e4⟩
    · rw [List.getElem?_set_ne (by omega)]; exact e1
    · rw [List.getElem?_set_ne (by omega)]; exact e2

/-- The domain at a place of the row, behind names; where it lies; that it may be written. -/
theorem OwnD.named {w : World} {base g n cap : Nat} {ds : List DomB} (h : OwnD w base (.slice (some ⟨g, 0, Option.none⟩) n cap) ds) (hn : ds.length = n) (p : Nat) (hp : p < n) :
    ∃ (xs : List Int) (L : Nat) (B : Option Addr) (m c : Nat), Hid (ds.getD p nilD = (xs, L)) ∧ w.cell? ⟨g, p * 2, Option.none⟩ = some (.slice B m c) ∧ w.cell? ⟨g, p * 2 + 1, Option.none⟩ = some (.int .u64 (L : Nat)) ∧ Hid (Ints w B m xs) ∧ L < 2 ^ 64 ∧
      Hid (0 < m → ∀ a, B = some a → a.block ≠ g) ∧ w.frozen? ⟨g, p * 2, Option.none⟩ = false ∧ w.frozen? ⟨g, p * 2 + 1, Option.none⟩ = false := by
  obtain ⟨vs, hown, hd⟩ := h
  subst hn
  obtain ⟨hl, B, m, c, e1, e2, e3, e4⟩ := hd p hp
  refine ⟨_, _, B, m, c, rfl, ?_, ?_, e3, hl, fun hn a ha e => e4 hn a ha (by simp [Value.ownBlock, e]), hown.frozenAt _, hown.frozenAt _⟩
  · rw [hown.cellAt _ (by omega)]; exact e1
  · rw [hown.cellAt _ (by omega)]; exact e2
end Go.Proofs.YtekcenacpklpgaaDoor

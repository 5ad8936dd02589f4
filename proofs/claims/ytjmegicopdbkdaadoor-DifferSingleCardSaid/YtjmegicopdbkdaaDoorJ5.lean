/-
  Contracts and plain laws that the card rests on, part 5.
-/
import Derived.Test.YtjmegicopdbkdaaDoorJ4
import Derived.Test.YtjmegicopdbkdaaDoorJ2
import Derived.Test.YtjmegicopdbkdaaDoorJ3
set_option maxHeartbeats 1000000
set_option maxRecDepth 10000
namespace Go.Proofs.YtjmegicopdbkdaaDoor
open Go Go.RowKit Pl

/-- A constraint, as it is read. -/
structure ConIn (w : World) (K R Ct : Int) (A1 A2 A3 : Option Addr) (n1 c1 n2 c2 n3 c3 : Nat) (C : ConB) : Prop where
  kind : C.kind = K
  rel : C.rel = R
  const : C.const = Ct
  vars : Ints w A1 n1 C.vars
  coefs : Ints w A2 n2 C.coefs
  nums : Ints w A3 n3 C.nums
  cap1 : n1 ≤ c1
  cap3 : n3 ≤ c3
  rk : -9223372036854775808 ≤ K ∧ K ≤ 9223372036854775807
  rr : -9223372036854775808 ≤ R ∧ R ≤ 9223372036854775807
  rc : -9223372036854775808 ≤ Ct ∧ Ct ≤ 9223372036854775807
theorem ConIn.kept {w w' : World} {K R Ct : Int} {A1 A2 A3 : Option Addr} {n1 c1 n2 c2 n3 c3 : Nat} {C : ConB} (h : ConIn w K R Ct A1 A2 A3 n1 c1 n2 c2 n3 c3 C) (hk : Kept w w') : ConIn w' K R Ct A1 A2 A3 n1 c1 n2 c2 n3 c3 C :=
  ⟨h.kind, h.rel, h.const, h.vars.kept hk, h.coefs.kept hk, h.nums.kept hk, h.cap1, h.cap3, h.rk, h.rr, h.rc⟩

theorem Ints.taken {w : World} {A : Option Addr} {n : Nat} {xs : List Int} (h : Ints w A n xs) {k : Nat} (hk : k ≤ n) : Ints w A k (xs.take k) :=
  ⟨by rw [List.length_take, h.len]; omega, by have := h.small; omega, fun x hx => h.rng x (List.mem_of_mem_take hx), fun h0 => by
    obtain ⟨a, e, hc⟩ := h.cell (by omega)
    refine ⟨a, e, fun j hj => ?_⟩
    rw [hc j (by omega)]
    simp [List.getD_eq_getElem?_getD, hj]⟩

theorem variables_any (K R Ct : Int) (A1 A2 A3 : Option Addr) (n1 c1 n2 c2 n3 c3 : Nat) (C : ConB) (V least most : Int) (w : World) (hC : ConIn w K R Ct A1 A2 A3 n1 c1 n2 c2 n3 c3 C) :
    Calls Tryd.prog 73 #[.agg #[.int .i64 K, .slice A1 n1 c1, .slice A2 n2 c2, .int .i64 R, .int .i64 Ct, .slice A3 n3 c3, .int .i64 V], .int .i64 least, .int .i64 most] w fun e w' => e = .returned (.bool (variablesB C V least most)) ∧ Kept w w' := by
  have HV := Lib.hid hC.vars
  have Hlen := Lib.hid hC.vars.len
  have hsm := hC.vars.small
  have hcap := hC.cap1
  clear hC
  by_cases h1 : (n1 : Int) < least
  · have hd : decide ((n1 : Int) < least) = true := by simp [h1]
    go_enter Tryd.func73, Tryd.ntmps73
    go_wp2_with fail
    go_ret
    exact ⟨ret_bool (by unfold variablesB; rw [Hlen.out]; simp; omega), Kept.box _ _⟩
  by_cases h2 : most < (n1 : Int)
  · have hd : decide ((n1 : Int) < least) = false := by simp; omega
    have hd2 : decide (most < (n1 : Int)) = true := by simp [h2]
    go_enter Tryd.func73, Tryd.ntmps73
    go_wp2_with fail
    go_ret
    exact ⟨ret_bool (by unfold variablesB; rw [Hlen.out]; simp; omega), Kept.box _ _⟩
  have hd : decide ((n1 : Int) < least) = false := by simp; omega
  have hd2 : decide (most < (n1 : Int)) = false := by simp; omega
  have hB : Hid (variablesB C V least most = varsOk C.vars V) := by
    show _ = _
    unfold variablesB; rw [Hlen.out]
    have e1 : decide (least ≤ (n1 : Int)) = true := by simp; omega
    have e2 : decide ((n1 : Int) ≤ most) = true := by simp; omega
    rw [e1, e2]; simp
  go_enter Tryd.func73, Tryd.ntmps73
  go_wp2_with fail
  have HB : Hid (∀ wr, Kept (w.alloc (.cells #[.int .i64 K, .slice A1 n1 c1, .slice A2 n2 c2, .int .i64 R, .int .i64 Ct, .slice A3 n3 c3, .int .i64 V] 79)) wr → wr.heap[w.heap.size]? = some (.cells #[.int .i64 K, .slice A1 n1 c1, .slice A2 n2 c2, .int .i64 R, .int .i64 Ct, .slice A3 n3 c3, .int .i64 V] 79)) := fun wr h => h.heapAt (heap_new _ _)
  go_loopw [26] (fun v wr => ∃ k : Nat, k ≤ n1 ∧ v = .int .i64 k ∧ Hid (Kept (w.alloc (.cells #[.int .i64 K, .slice A1 n1 c1, .slice A2 n2 c2, .int .i64 R, .int .i64 Ct, .slice A3 n3 c3, .int .i64 V] 79)) wr) ∧ Hid (vUpto C.vars V k = true)) (fun v _ => n1 - (intOf v).toNat)
  case atStart => exact ⟨0, Nat.zero_le _, rfl, Below.refl _ _, rfl⟩
  case round =>
    obtain ⟨k, hk, rfl, Hkw, Hok⟩ := hrel
    have hbk := HB.out wr Hkw.out
    have hb1 := cell_at hbk 1
    have hb6 := cell_at hbk 6
    simp only [List.getElem?_toArray, List.getElem?_cons_zero, List.getElem?_cons_succ] at hb1 hb6
    clear hbk
    by_cases hlt : k < n1
    · have hSr := HV.out.kept ((Kept.box _ _).then Hkw.out)
      obtain ⟨a, rfl, hblk⟩ := hSr.addr (by omega)
      obtain ⟨x, Hx, hcx, hx1, hx2⟩ := hSr.named k hlt
      have Hnext : Hid (vUpto C.vars V (k + 1) = (decide (0 ≤ x) && decide (x < V) && !((C.vars.take k).contains x))) := by
        show _ = _
        rw [vUpto_succ, Hok.out, vOk_named Hx.out, Bool.true_and]
      have HQ := Lib.hid (contains_any (some a) k c1 (C.vars.take k) x wr (hSr.taken (by omega)))
      clear hSr
      generalize hb : (C.vars.take k).contains x = b at HQ Hnext
      clear hb
      have hkc : (k : Int) ≤ (c1 : Int) := by omega
      have Hbad : Hid (vUpto C.vars V (k + 1) = false → varsOk C.vars V = false) := fun h => by
        unfold varsOk
        rw [vUpto_succ, Hok.out, Bool.true_and] at h
        exact vUpto_bad h (by have := Hlen.out; omega)
      by_cases h3 : x < 0
      · have hd3 : decide (x < 0) = true := by simp [h3]
        go_wp2_with fail
        go_ret
        exact ⟨ret_bool (by rw [hB.out, Hbad.out (by rw [Hnext.out]; simp; omega)]), (Kept.box _ _).then Hkw.out⟩
      have hd3 : decide (x < 0) = false := by simp; omega
      by_cases h4 : V ≤ x
      · have hd4 : decide (V ≤ x) = true := by simp [h4]
        go_wp2_with fail
        go_ret
        exact ⟨ret_bool (by rw [hB.out, Hbad.out (by rw [Hnext.out]; simp; omega)]), (Kept.box _ _).then Hkw.out⟩
      have hd4 : decide (V ≤ x) = false := by simp; omega
      go_wp2_with fail
      refine HQ.out.mono ?_
      rintro e w1 ⟨rfl, rfl⟩
      clear HQ
      cases b with
      | true =>
        go_wp2_with fail
        go_ret
        exact ⟨ret_bool (by rw [hB.out, Hbad.out (by rw [Hnext.out]; simp)]), (Kept.box _ _).then Hkw.out⟩
      | false =>
        go_wp2_with fail
        go_roundw
        case rel => exact ⟨k + 1, by omega, by go_num, Hkw.out, by show _ = _; rw [Hnext.out]; simp; omega⟩
        case measure => simp [intOf]; omega
    · have e : k = n1 := by omega
      subst e
      have h2 : varsOk C.vars V = true := by have := Hok.out; rwa [← Hlen.out] at this
      go_wp2
      go_ret
      exact ⟨ret_bool (by rw [hB.out, h2]), (Kept.box _ _).then Hkw.out⟩

theorem bare_any (K R Ct : Int) (A1 A2 A3 : Option Addr) (n1 c1 n2 c2 n3 c3 : Nat) (C : ConB) (V least most : Int) (w : World) (hC : ConIn w K R Ct A1 A2 A3 n1 c1 n2 c2 n3 c3 C) :
    Calls Tryd.prog 75 #[.agg #[.int .i64 K, .slice A1 n1 c1, .slice A2 n2 c2, .int .i64 R, .int .i64 Ct, .slice A3 n3 c3, .int .i64 V], .int .i64 least, .int .i64 most] w fun e w' => e = .returned (.bool (bareB C least most)) ∧ Kept w w' := by
  have HN := Lib.hid hC.nums
  have h2l := hC.coefs.len
  have h3l := hC.nums.len
  have hsm := hC.nums.small
  have hsm2 := hC.coefs.small
  have hB : Hid (bareB C least most = (decide ((n2 : Int) = 0) && decide (R = 0) && decide (Ct = 0) && decide (least ≤ (n3 : Int)) && decide ((n3 : Int) ≤ most) && withinB C.nums 1048576)) := by
    show _ = _
    unfold bareB; rw [h2l, h3l, hC.rel, hC.const]
    have : decide (n2 = 0) = decide ((n2 : Int) = 0) := by simp
    rw [this]
  clear hC
  by_cases g1 : ¬ ((n2 : Int) = 0)
  · have hd : ((n2 : Int) == 0) = false := by simp; omega
    go_enter Tryd.func75, Tryd.ntmps75
    go_wp2_with fail
    go_ret
    exact ⟨ret_bool (by rw [hB.out]; simp; omega), (Kept.box _ _).newBlock _⟩
  have g1 := Classical.not_not.1 g1
  have h1 : n2 = 0 := by omega
  subst h1
  by_cases g2 : ¬ (R = 0)
  · have hd : (R == 0) = false := by simp; omega
    go_enter Tryd.func75, Tryd.ntmps75
    go_wp2_with fail
    go_ret
    exact ⟨ret_bool (by rw [hB.out]; simp; omega), (Kept.box _ _).newBlock _⟩
  have g2 := Classical.not_not.1 g2
  subst g2
  by_cases g3 : ¬ (Ct = 0)
  · have hd : (Ct == 0) = false := by simp; omega
    go_enter Tryd.func75, Tryd.ntmps75
    go_wp2_with fail
    go_ret
    exact ⟨ret_bool (by rw [hB.out]; simp; omega), (Kept.box _ _).newBlock _⟩
  have g3 := Classical.not_not.1 g3
  subst g3
  by_cases g4 : ¬ (least ≤ (n3 : Int))
  · have hd : (decide (least ≤ (n3 : Int))) = false := by simp; omega
    go_enter Tryd.func75, Tryd.ntmps75
    go_wp2_with fail
    go_ret
    exact ⟨ret_bool (by rw [hB.out]; simp; omega), (Kept.box _ _).newBlock _⟩
  have g4 := Classical.not_not.1 g4
  have e4 : decide (least ≤ (n3 : Int)) = true := by simp [g4]
  by_cases g5 : ¬ ((n3 : Int) ≤ most)
  · have hd : (decide ((n3 : Int) ≤ most)) = false := by simp; omega
    go_enter Tryd.func75, Tryd.ntmps75
    go_wp2_with fail
    go_ret
    exact ⟨ret_bool (by rw [hB.out]; simp; omega), (Kept.box _ _).newBlock _⟩
  have g5 := Classical.not_not.1 g5
  have e5 : decide ((n3 : Int) ≤ most) = true := by simp [g5]
  have hB2 : Hid (bareB C least most = withinB C.nums 1048576) := by
    show _ = _
    rw [hB.out, e4, e5]; simp
  go_enter Tryd.func75, Tryd.ntmps75
  go_wp2_with fail
  refine (mwithin_any A3 n3 c3 C.nums 1048576 _ (HN.out.kept ((Kept.box _ _).newBlock _)) (by decide)).mono ?_
  rintro e w1 ⟨rfl, hk⟩
  have Hk := Lib.hid (((Kept.box _ _).newBlock _).then hk)
  clear hk
  generalize hb : withinB C.nums 1048576 = b at hB2
  clear hb
  go_wp2_with fail
  go_ret
  exact ⟨ret_bool (by rw [hB2.out]), Hk.out⟩

theorem box_look (w : World) (K R Ct V : Int) (A1 A2 A3 : Option Addr) (n1 c1 n2 c2 n3 c3 : Nat) : (w.alloc (.cells #[.int .i64 K, .slice A1 n1 c1, .slice A2 n2 c2, .int .i64 R, .int .i64 Ct, .slice A3 n3 c3, .int .i64 V] 79)).heap[w.heap.size]? = some (.cells #[.int .i64 K, .slice A1 n1 c1, .slice A2 n2 c2, .int .i64 R, .int .i64 Ct, .slice A3 n3 c3, .int .i64 V] 79) := heap_new _ _

theorem lookelem_any (K R Ct : Int) (A1 A2 A3 : Option Addr) (n1 c1 n2 c2 n3 c3 : Nat) (C : ConB) (V : Int) (w : World) (hC : ConIn w K R Ct A1 A2 A3 n1 c1 n2 c2 n3 c3 C) :
    Calls Tryd.prog 55 #[.agg #[.int .i64 K, .slice A1 n1 c1, .slice A2 n2 c2, .int .i64 R, .int .i64 Ct, .slice A3 n3 c3, .int .i64 V]] w fun e w' => e = .returned (.bool (elemB C V)) ∧ Kept w w' := by
  have HC := Lib.hid hC
  clear hC
  go_enter Tryd.func55, Tryd.ntmps55
  go_wp2_with fail
  refine (variables_any K R Ct A1 A2 A3 n1 c1 n2 c2 n3 c3 C V 2 2 _ (HC.out.kept (Kept.box _ _))).mono ?_
  rintro e w1 ⟨rfl, hk⟩
  have Hb := Lib.hid (hk.heapAt (box_look w K R Ct V A1 A2 A3 n1 c1 n2 c2 n3 c3))
  have Hk := Lib.hid ((Kept.box _ _).then hk)
  have hb0 := cell_at Hb.out 0
  have hb1 := cell_at Hb.out 1
  have hb2 := cell_at Hb.out 2
  have hb3 := cell_at Hb.out 3
  have hb4 := cell_at Hb.out 4
  have hb5 := cell_at Hb.out 5
  have hb6 := cell_at Hb.out 6
  simp only [List.getElem?_toArray, List.getElem?_cons_zero, List.getElem?_cons_succ] at hb0 hb1 hb2 hb3 hb4 hb5 hb6
  have HB : Hid (elemB C V = (variablesB C V 2 2 && bareB C 1 96)) := rfl
  clear hk
  generalize variablesB C V 2 2 = b at HB
  cases b with
  | false =>
    go_wp2_with fail
    go_ret
    exact ⟨ret_bool (by rw [HB.out]; simp), Hk.out⟩
  | true =>
    go_wp2_with fail
    refine (bare_any K R Ct A1 A2 A3 n1 c1 n2 c2 n3 c3 C V 1 96 _ (HC.out.kept Hk.out)).mono ?_
    rintro e w2 ⟨rfl, hk2⟩
    have Hk2 := Lib.hid (Hk.out.then hk2)
    clear hk2 hb0 hb1 hb2 hb3 hb4 hb5 hb6
    generalize bareB C 1 96 = d at HB
    go_wp2_with fail
    go_ret
    exact ⟨ret_bool (by rw [HB.out]; simp), Hk2.out⟩
end Go.Proofs.YtjmegicopdbkdaaDoor

set_option maxHeartbeats 1000000
set_option maxRecDepth 10000
namespace Go.Proofs.YtjmegicopdbkdaaDoor
open Go Go.RowKit Pl

abbrev nilD : DomB := ([], 0)

/-- 'A', n: a slice's address and length: it reads as the domains ds. -/
structure Doms (w : World) (A : Option Addr) (n : Nat) (ds : List DomB) : Prop where
  len : ds.length = n
  small : n ≤ 9223372036854775807
  live : ∀ j, j < n → (ds.getD j nilD).2 < 2 ^ 64
  cell : 0 < n → ∃ a, A = some a ∧ ∀ j, j < n → ∃ B m c, w.cell? (a.add (j * 2)) = some (.slice B m c) ∧ w.cell? ⟨a.block, (a.add (j * 2)).off + 1, Option.none⟩ = some (.int .u64 ((ds.getD j nilD).2 : Nat)) ∧ Ints w B m (ds.getD j nilD).1

theorem Doms.kept {w w' : World} {A : Option Addr} {n : Nat} {ds : List DomB} (h : Doms w A n ds) (hk : Kept w w') : Doms w' A n ds :=
  ⟨h.len, h.small, h.live, fun hn => by
    obtain ⟨a, e, hc⟩ := h.cell hn
    refine ⟨a, e, fun j hj => ?_⟩
    obtain ⟨B, m, c, h1, h2, h3⟩ := hc j hj
    exact ⟨B, m, c, hk.cellAt h1, hk.cellAt h2, h3.kept hk⟩⟩
theorem Doms.none (w : World) : Doms w Option.none 0 [] := ⟨rfl, by omega, fun j hj => by omega, fun h => by omega⟩
theorem Doms.addr {w : World} {A : Option Addr} {n : Nat} {ds : List DomB} (h : Doms w A n ds) (hn : 0 < n) : ∃ a, A = some a ∧ a.block < w.heap.size := by
  obtain ⟨a, rfl, hc⟩ := h.cell hn
  obtain ⟨B, m, c, h1, _⟩ := hc 0 hn
  have := World.block_lt_of_cell? w _ h1
  exact ⟨a, rfl, by rwa [add_block'] at this⟩
/-- The domain at a place, behind names. -/
theorem Doms.named {w : World} {a : Addr} {n : Nat} {ds : List DomB} (h : Doms w (some a) n ds) (k : Nat) (hk : k < n) :
    ∃ (xs : List Int) (L : Nat) (B : Option Addr) (m c : Nat), Hid (ds.getD k nilD = (xs, L)) ∧ w.cell? (a.add (k * 2)) = some (.slice B m c) ∧ w.cell? ⟨a.block, (a.add (k * 2)).off + 1, Option.none⟩ = some (.int .u64 (L : Nat)) ∧ Hid (Ints w B m xs) ∧ L < 2 ^ 64 := by
  obtain ⟨b, e, hc⟩ := h.cell (by omega)
  cases e
  obtain ⟨B, m, c, h1, h2, h3⟩ := hc k hk
  exact ⟨_, _, B, m, c, rfl, h1, h2, h3, h.live k hk⟩
theorem take_dom {ds : List DomB} {k : Nat} {d : DomB} (hk : k < ds.length) (hd : ds.getD k nilD = d) : ds.take (k + 1) = ds.take k ++ [d] := by
  rw [List.take_succ_eq_append_getElem hk]
  rw [List.getD_eq_getElem?_getD, List.getElem?_eq_getElem hk] at hd
  simp only [Option.getD_some] at hd
  rw [hd]
theorem allMay_take {ds : List DomB} {k : Nat} {xs : List Int} {L : Nat} (hk : k < ds.length) (hd : ds.getD k nilD = (xs, L)) (h : allMay (ds.take k) = true) : allMay (ds.take (k + 1)) = mayB xs L := by
  rw [take_dom hk hd]
  unfold allMay at *
  rw [List.all_append, h]
  simp
theorem allMay_bad {ds : List DomB} {k : Nat} (h : allMay (ds.take k) = false) : allMay ds = false := by
  cases e : allMay ds with
  | false => rfl
  | true =>
    unfold allMay at *
    rw [List.all_eq_true] at e
    have : (ds.take k).all (fun d => mayB d.1 d.2) = true := List.all_eq_true.2 fun d hd => e d (List.mem_of_mem_take hd)
    rw [h] at this
    cases this
end Go.Proofs.YtjmegicopdbkdaaDoor

set_option maxHeartbeats 1000000
set_option maxRecDepth 10000
namespace Go.Proofs.YtjmegicopdbkdaaDoor
open Go Go.RowKit Pl

namespace Pop
/-- A byte, n times. -/
def rep (m : Nat) : Nat → Nat
  | 0 => 0
  | n + 1 => m + 256 * rep m n

theorem and_split (x y : Nat) : x &&& y = (x % 256 &&& y % 256) + 256 * (x / 256 &&& y / 256) := by
  have h1 : (x &&& y) % 256 = x % 256 &&& y % 256 := Nat.and_mod_two_pow (n := 8)
  have h2 : (x &&& y) / 256 = x / 256 &&& y / 256 := Nat.and_div_two_pow (n := 8)
  rw [← h1, ← h2]
  omega
theorem and_rep (x m n : Nat) (hm : m < 256) : x &&& rep m (n + 1) = (x % 256 &&& m) + 256 * (x / 256 &&& rep m n) := by
  rw [and_split]
  have h1 : rep m (n + 1) % 256 = m := by simp only [rep]; omega
  have h2 : rep m (n + 1) / 256 = rep m n := by simp only [rep]; omega
  rw [h1, h2]

def g1 (v : Nat) : Nat := (v / 2 &&& 85) + (v &&& 85)
def g2 (v : Nat) : Nat := (v / 4 &&& 51) + (v &&& 51)
def pop8 (v : Nat) : Nat := v % 2 + v / 2 % 2 + v / 4 % 2 + v / 8 % 2 + v / 16 % 2 + v / 32 % 2 + v / 64 % 2 + v / 128 % 2

theorem t1 : ∀ v : Fin 512, ((v.val / 2 % 256 &&& 85) + (v.val % 256 &&& 85)) = g1 (v.val % 256) := by decide +kernel
theorem t2 : ∀ v : Fin 1024, ((v.val / 4 % 256 &&& 51) + (v.val % 256 &&& 51)) = g2 (v.val % 256) := by decide +kernel
theorem g1_le : ∀ v : Fin 256, g1 v.val < 256 := by decide +kernel
theorem g2_le : ∀ v : Fin 256, g2 (g1 v.val) ≤ 68 ∧ g2 (g1 v.val) % 16 ≤ 4 := by decide +kernel
theorem t3 : ∀ v : Fin 256, ∀ z : Fin 5, (g2 (g1 v.val) / 16 + g2 (g1 v.val) + 16 * z.val &&& 15) = pop8 v.val := by decide +kernel

def s1 (n x : Nat) : Nat := (x / 2 &&& rep 85 n) + (x &&& rep 85 n)
def s2 (n x : Nat) : Nat := (x / 4 &&& rep 51 n) + (x &&& rep 51 n)
def s3 (n x : Nat) : Nat := (x / 16 + x) &&& rep 15 n

theorem s1_succ (n x : Nat) : s1 (n + 1) x = g1 (x % 256) + 256 * s1 n (x / 256) := by
  unfold s1
  rw [and_rep _ _ _ (by decide), and_rep _ _ _ (by decide)]
  have h := t1 ⟨x % 512, by omega⟩
  simp only at h
  have e1 : x % 512 / 2 % 256 = x / 2 % 256 := by omega
  have e2 : x % 512 % 256 = x % 256 := by omega
  rw [e1, e2] at h
  have e3 : x / 2 / 256 = x / 256 / 2 := by omega
  rw [e3]
  omega
theorem s2_succ (n x : Nat) : s2 (n + 1) x = g2 (x % 256) + 256 * s2 n (x / 256) := by
  unfold s2
  rw [and_rep _ _ _ (by decide), and_rep _ _ _ (by decide)]
  have h := t2 ⟨x % 1024, by omega⟩
  simp only at h
  have e1 : x % 1024 / 4 % 256 = x / 4 % 256 := by omega
  have e2 : x % 1024 % 256 = x % 256 := by omega
  rw [e1, e2] at h
  have e3 : x / 4 / 256 = x / 256 / 4 := by omega
  rw [e3]
  omega
theorem s1_div (n x : Nat) : s1 (n + 1) x % 256 = g1 (x % 256) ∧ s1 (n + 1) x / 256 = s1 n (x / 256) := by
  rw [s1_succ]
  have := g1_le ⟨x % 256, by omega⟩
  simp only at this
  omega
theorem s2_low (n x : Nat) : s2 n (s1 n x) % 16 ≤ 4 := by
  cases n with
  | zero => simp [s2, rep]
  | succ n =>
    obtain ⟨h1, h2⟩ := s1_div n x
    rw [s2_succ, h1]
    have := (g2_le ⟨x % 256, by omega⟩).2
    simp only at this
    omega
def sum3 (n x : Nat) : Nat := s3 n (s2 n (s1 n x))
theorem sum3_succ (n x : Nat) : sum3 (n + 1) x = pop8 (x % 256) + 256 * sum3 n (x / 256) := by
  unfold sum3
  obtain ⟨h1, h2⟩ := s1_div n x
  have e : s2 (n + 1) (s1 (n + 1) x) = g2 (g1 (x % 256)) + 256 * s2 n (s1 n (x / 256)) := by rw [s2_succ, h1, h2]
  rw [e]
  have hg := g2_le ⟨x % 256, by omega⟩
  simp only at hg
  have hz := s2_low n (x / 256)
  have ht := t3 ⟨x % 256, by omega⟩ ⟨s2 n (s1 n (x / 256)) % 16, by omega⟩
  simp only at ht
  generalize g2 (g1 (x % 256)) = a at *
  generalize s2 n (s1 n (x / 256)) = z at *
  unfold s3
  rw [and_rep _ _ _ (by decide)]
  have e1 : ((a + 256 * z) / 16 + (a + 256 * z)) % 256 = a / 16 + a + 16 * (z % 16) := by omega
  have e2 : ((a + 256 * z) / 16 + (a + 256 * z)) / 256 = z / 16 + z := by omega
  rw [e1, e2, ht]
theorem sum3_zero (x : Nat) : sum3 0 x = 0 := by simp [sum3, s3, rep]

/-- How many of the lowest n bits are set. -/
def cnt (n x : Nat) : Nat := (upto x n).length
theorem cnt_succ (n x : Nat) : cnt (n + 1) x = x % 2 + cnt n (x / 2) := by
  unfold cnt upto
  rw [List.range_succ_eq_map, List.filter_cons, List.filter_map]
  have e : (x.testBit ∘ Nat.succ) = (x / 2).testBit := by
    funext i
    simp [Nat.testBit_succ]
  rw [e]
  have h0 : x.testBit 0 = decide (x % 2 = 1) := Nat.testBit_zero x
  rw [h0]
  by_cases h : x % 2 = 1
  · simp [h]; omega
  · have : x % 2 = 0 := by omega
    simp [this]
theorem cnt_zero (x : Nat) : cnt 0 x = 0 := by simp [cnt, upto]
theorem cnt_8 (n x : Nat) : cnt (n + 8) x = pop8 (x % 256) + cnt n (x / 256) := by
  have e : x / 2 / 2 / 2 / 2 / 2 / 2 / 2 / 2 = x / 256 := by omega
  show cnt (n + 7 + 1) x = _
  rw [cnt_succ, show n + 7 = n + 6 + 1 from rfl, cnt_succ, show n + 6 = n + 5 + 1 from rfl, cnt_succ, show n + 5 = n + 4 + 1 from rfl, cnt_succ, show n + 4 = n + 3 + 1 from rfl, cnt_succ, show n + 3 = n + 2 + 1 from rfl, cnt_succ, show n + 2 = n + 1 + 1 from rfl, cnt_succ, cnt_succ, e]
  unfold pop8
  omega
theorem pop8_le (v : Nat) : pop8 v ≤ 8 := by unfold pop8; omega

/-- The digits of the sum, and how many there are. -/
theorem whole (x : Nat) : ∃ p0 p1 p2 p3 p4 p5 p6 p7 : Nat, p0 ≤ 8 ∧ p1 ≤ 8 ∧ p2 ≤ 8 ∧ p3 ≤ 8 ∧ p4 ≤ 8 ∧ p5 ≤ 8 ∧ p6 ≤ 8 ∧ p7 ≤ 8 ∧
    sum3 8 x = p0 + 256 * (p1 + 256 * (p2 + 256 * (p3 + 256 * (p4 + 256 * (p5 + 256 * (p6 + 256 * p7)))))) ∧ (elems x).length = p0 + p1 + p2 + p3 + p4 + p5 + p6 + p7 := by
  refine ⟨pop8 (x % 256), pop8 (x / 256 % 256), pop8 (x / 256 / 256 % 256), pop8 (x / 256 / 256 / 256 % 256), pop8 (x / 256 / 256 / 256 / 256 % 256), pop8 (x / 256 / 256 / 256 / 256 / 256 % 256), pop8 (x / 256 / 256 / 256 / 256 / 256 / 256 % 256), pop8 (x / 256 / 256 / 256 / 256 / 256 / 256 / 256 % 256),
    pop8_le _, pop8_le _, pop8_le _, pop8_le _, pop8_le _, pop8_le _, pop8_le _, pop8_le _, ?_, ?_⟩
  · simp only [sum3_succ, sum3_zero, Nat.mul_zero, Nat.add_zero]
  · show cnt 64 x = _
    rw [show 64 = 56 + 8 from rfl, cnt_8, show 56 = 48 + 8 from rfl, cnt_8, show 48 = 40 + 8 from rfl, cnt_8, show 40 = 32 + 8 from rfl, cnt_8, show 32 = 24 + 8 from rfl, cnt_8, show 24 = 16 + 8 from rfl, cnt_8, show 16 = 8 + 8 from rfl, cnt_8, show 8 = 0 + 8 from rfl, cnt_8, cnt_zero]
    omega
theorem r85 : rep 85 8 = 6148914691236517205 := by decide
theorem r51 : rep 51 8 = 3689348814741910323 := by decide
theorem r15 : rep 15 8 = 1085102592571150095 := by decide
end Pop

theorem ones_1 {b : Nat} (hb : b < 2 ^ 64) : IntKind.u64.wrap (bits BinOp.and IntKind.u64 ((b : Int) / 2) 6148914691236517205 + bits BinOp.and IntKind.u64 (b : Int) 6148914691236517205) = ((Pop.s1 8 b : Nat) : Int) ∧ Pop.s1 8 b < 2 ^ 64 := by
  have e2 : (b : Int) / 2 = ((b / 2 : Nat) : Int) := by omega
  have h1 := u64_and_nat (b / 2) 6148914691236517205 (by omega) (by decide)
  have h2 := u64_and_nat b 6148914691236517205 hb (by decide)
  have l1 : b / 2 &&& 6148914691236517205 ≤ 6148914691236517205 := Nat.and_le_right
  have l2 : b &&& 6148914691236517205 ≤ 6148914691236517205 := Nat.and_le_right
  have e : Pop.s1 8 b = (b / 2 &&& 6148914691236517205) + (b &&& 6148914691236517205) := by unfold Pop.s1; rw [Pop.r85]
  rw [e2]
  erw [h1, h2]
  rw [IntKind.wrap_u64, e]
  omega
theorem ones_2 {b : Nat} (hb : b < 2 ^ 64) : IntKind.u64.wrap (bits BinOp.and IntKind.u64 ((b : Int) / 4) 3689348814741910323 + bits BinOp.and IntKind.u64 (b : Int) 3689348814741910323) = ((Pop.s2 8 b : Nat) : Int) ∧ Pop.s2 8 b ≤ 7378697629483820646 := by
  have e2 : (b : Int) / 4 = ((b / 4 : Nat) : Int) := by omega
  have h1 := u64_and_nat (b / 4) 3689348814741910323 (by omega) (by decide)
  have h2 := u64_and_nat b 3689348814741910323 hb (by decide)
  have l1 : b / 4 &&& 3689348814741910323 ≤ 3689348814741910323 := Nat.and_le_right
  have l2 : b &&& 3689348814741910323 ≤ 3689348814741910323 := Nat.and_le_right
  have e : Pop.s2 8 b = (b / 4 &&& 3689348814741910323) + (b &&& 3689348814741910323) := by unfold Pop.s2; rw [Pop.r51]
  rw [e2]
  erw [h1, h2]
  rw [IntKind.wrap_u64, e]
  omega
theorem ones_3 {b : Nat} (hb : b ≤ 7378697629483820646) : bits BinOp.and IntKind.u64 (IntKind.u64.wrap ((b : Int) / 16 + (b : Int))) 1085102592571150095 = ((Pop.s3 8 b : Nat) : Int) := by
  have e2 : IntKind.u64.wrap ((b : Int) / 16 + (b : Int)) = ((b / 16 + b : Nat) : Int) := by rw [IntKind.wrap_u64]; omega
  have h1 := u64_and_nat (b / 16 + b) 1085102592571150095 (by omega) (by decide)
  have e : Pop.s3 8 b = (b / 16 + b) &&& 1085102592571150095 := by unfold Pop.s3; rw [Pop.r15]
  rw [e2, e]
  exact h1
theorem sh_8 {s lo t : Nat} (h : s = lo + 256 * t) (hl : lo < 256) (hb : s + t < 2 ^ 64) : IntKind.u64.wrap ((s : Int) + (s : Int) / 256) = ((s + t : Nat) : Int) := by
  rw [IntKind.wrap_u64]; omega
theorem sh_16 {s lo t : Nat} (h : s = lo + 65536 * t) (hl : lo < 65536) (hb : s + t < 2 ^ 64) : IntKind.u64.wrap ((s : Int) + (s : Int) / 65536) = ((s + t : Nat) : Int) := by
  rw [IntKind.wrap_u64]; omega
theorem sh_32 {s lo t : Nat} (h : s = lo + 4294967296 * t) (hl : lo < 4294967296) (hb : s + t < 2 ^ 64) : IntKind.u64.wrap ((s : Int) + (s : Int) / 4294967296) = ((s + t : Nat) : Int) := by
  rw [IntKind.wrap_u64]; omega
theorem mod_low {x lo t : Nat} (h : x = lo + 256 * t) (hl : lo < 128) : x % 128 = lo := by omega
theorem ones_4 {s p0 p1 p2 p3 p4 p5 p6 p7 : Nat} (h0 : p0 ≤ 8) (h1 : p1 ≤ 8) (h2 : p2 ≤ 8) (h3 : p3 ≤ 8) (h4 : p4 ≤ 8) (h5 : p5 ≤ 8) (h6 : p6 ≤ 8) (h7 : p7 ≤ 8)
    (hs : s = p0 + 256 * (p1 + 256 * (p2 + 256 * (p3 + 256 * (p4 + 256 * (p5 + 256 * (p6 + 256 * p7))))))) :
    ∃ x : Nat, IntKind.u64.wrap (IntKind.u64.wrap (IntKind.u64.wrap ((s : Int) + (s : Int) / 256) + IntKind.u64.wrap ((s : Int) + (s : Int) / 256) / 65536) + IntKind.u64.wrap (IntKind.u64.wrap ((s : Int) + (s : Int) / 256) + IntKind.u64.wrap ((s : Int) + (s : Int) / 256) / 65536) / 4294967296) = (x : Int) ∧ x < 2 ^ 63 ∧ x % 128 = p0 + p1 + p2 + p3 + p4 + p5 + p6 + p7 := by
  rw [sh_8 hs (by omega) (by omega)]
  have e1 : s + (p1 + 256 * (p2 + 256 * (p3 + 256 * (p4 + 256 * (p5 + 256 * (p6 + 256 * p7)))))) = (p0 + p1) + 256 * (p1 + p2) + 65536 * ((p2 + p3) + 256 * ((p3 + p4) + 256 * ((p4 + p5) + 256 * ((p5 + p6) + 256 * ((p6 + p7) + 256 * p7))))) := by omega
  rw [sh_16 e1 (by omega) (by omega)]
  have e2 : s + (p1 + 256 * (p2 + 256 * (p3 + 256 * (p4 + 256 * (p5 + 256 * (p6 + 256 * p7)))))) + ((p2 + p3) + 256 * ((p3 + p4) + 256 * ((p4 + p5) + 256 * ((p5 + p6) + 256 * ((p6 + p7) + 256 * p7))))) = (p0 + p1 + p2 + p3) + 256 * ((p1 + p2 + p3 + p4) + 256 * ((p2 + p3 + p4 + p5) + 256 * (p3 + p4 + p5 + p6))) + 4294967296 * ((p4 + p5 + p6 + p7) + 256 * ((p5 + p6 + p7) + 256 * ((p6 + p7) + 256 * p7))) := by omega
  rw [sh_32 e2 (by omega) (by omega)]
  refine ⟨_, rfl, by omega, ?_⟩
  refine mod_low (t := (p1 + p2 + p3 + p4) + 256 * ((p2 + p3 + p4 + p5) + 256 * (p3 + p4 + p5 + p6)) + 16777216 * ((p4 + p5 + p6 + p7) + 256 * ((p5 + p6 + p7) + 256 * ((p6 + p7) + 256 * p7))) + ((p5 + p6 + p7) + 256 * ((p6 + p7) + 256 * p7))) ?_ (by omega)
  omega
theorem and_127 {x : Nat} (h : x < 2 ^ 63) : bits BinOp.and IntKind.i64 (wrap64 (x : Int)) 127 = ((x % 128 : Nat) : Int) := by
  have e : wrap64 (x : Int) = (x : Int) := by unfold wrap64; omega
  rw [e]
  have ha : x &&& 127 = x % 128 := Nat.and_two_pow_sub_one_eq_mod x 7
  have hi : IntKind.i64.wrap ((x % 128 : Nat) : Int) = ((x % 128 : Nat) : Int) := by
    have h8 : x % 128 < 128 := Nat.mod_lt _ (by decide)
    generalize x % 128 = y at *
    simp only [IntKind.wrap, IntKind.signed, IntKind.bits]
    simp
    omega
  show IntKind.i64.wrap ((BitVec.ofInt 64 (x : Int) &&& BitVec.ofInt 64 ((127 : Nat) : Int)).toNat : Int) = _
  rw [BitVec.toNat_and, ofInt_u64 x (by omega), ofInt_u64 127 (by decide), ha, hi]

theorem ones_any (b : Nat) (w : World) (hb : b < 2 ^ 64) :
    Calls Tryd.prog 92 #[.int .u64 b] w fun e w' => e = .returned (.int .i64 ((elems b).length : Nat)) ∧ w = w' := by
  go_enter Tryd.func92, Tryd.ntmps92
  go_wp2
  go_ret
  refine ⟨ret_i64 ?_, rfl⟩
  obtain ⟨h1, l1⟩ := ones_1 hb
  obtain ⟨h2, l2⟩ := ones_2 l1
  have h3 := ones_3 l2
  rw [h1, h2, h3]
  obtain ⟨p0, p1, p2, p3, p4, p5, p6, p7, q0, q1, q2, q3, q4, q5, q6, q7, hs, hl⟩ := Pop.whole b
  obtain ⟨x, hx, hx1, hx2⟩ := ones_4 q0 q1 q2 q3 q4 q5 q6 q7 hs
  rw [hl, ← hx2, ← and_127 hx1, ← hx]
  rfl
theorem count_any (b : Nat) (w : World) (hb : b < 2 ^ 64) :
    Calls Tryd.prog 85 #[.int .u64 b] w fun e w' => e = .returned (.int .i64 ((elems b).length : Nat)) ∧ w = w' := by
  have H := Lib.hid hb
  clear hb
  go_enter Tryd.func85, Tryd.ntmps85
  go_wp2_with (go_at_call 92; refine (ones_any b _ H.out).mono ?_; rintro e w' ⟨rfl, rfl⟩)
  go_ret
  exact ⟨rfl, rfl⟩
end Go.Proofs.YtjmegicopdbkdaaDoor

set_option maxHeartbeats 1000000
set_option maxRecDepth 10000
namespace Go.Proofs.YtjmegicopdbkdaaDoor
open Go Go.RowKit Pl

theorem testBit_div (b k : Nat) : b.testBit k = decide (b / 2 ^ k % 2 = 1) := by
  rw [Nat.testBit, Nat.shiftRight_eq_div_pow, Nat.one_and_eq_mod_two]
  have : b / 2 ^ k % 2 = 0 ∨ b / 2 ^ k % 2 = 1 := by omega
  rcases this with h | h <;> simp [h]

/-- Is k in the set b? -/
def hasI (b : Nat) (k : Int) : Bool := decide (0 ≤ k) && decide (k ≤ 63) && b.testBit k.toNat

theorem hasI_nat (b k : Nat) (h : k < 64) : hasI b (k : Int) = b.testBit k := by
  unfold hasI
  have : (k : Int) ≤ 63 := by omega
  simp [this]
theorem upto_rng {b n : Nat} (h : n ≤ 64) : ∀ x ∈ (upto b n).map Int.ofNat, 0 ≤ x ∧ x ≤ 63 := by
  intro x hx
  rw [List.mem_map] at hx
  obtain ⟨k, hk, rfl⟩ := hx
  have := (mem_upto.1 hk).1
  simp
  omega
theorem uptoI_length_le (b n : Nat) : ((upto b n).map Int.ofNat).length ≤ n := by rw [List.length_map]; exact upto_length_le b n

/-- The least of a list from a number on; -1, if there is none. -/
def from? : List Int → Int → Int
  | [], _ => -1
  | x :: l, at' => if at' ≤ x then x else from? l at'
theorem from_drop {l : List Int} {k : Nat} {x a : Int} (hk : k < l.length) (hx : l.getD k 0 = x) : from? (l.drop k) a = if a ≤ x then x else from? (l.drop (k + 1)) a := by
  rw [List.drop_eq_getElem_cons hk]
  rw [List.getD_eq_getElem?_getD, List.getElem?_eq_getElem hk] at hx
  have hx' : l[k] = x := by simpa using hx
  rw [hx']
  rfl

theorem same_drop {l m : List Int} {k : Nat} (h : l.length = m.length) (hk : k < l.length) (he : l.take k = m.take k) {x y : Int} (hx : l.getD k 0 = x) (hy : m.getD k 0 = y) :
    (x = y → l.take (k + 1) = m.take (k + 1)) ∧ (¬ x = y → ¬ l = m) := by
  refine ⟨fun e => ?_, fun hn e => hn ?_⟩
  · rw [take_succ_getD hk hx, take_succ_getD (by omega) hy, he, e]
  · rw [← hx, ← hy, e]

theorem rsame_any (A B : Option Addr) (n m c d : Nat) (xs ys : List Int) (w : World) (hA : Ints w A n xs) (hB : Ints w B m ys) :
    Calls Tryd.prog 68 #[.slice A n c, .slice B m d] w fun e w' => e = .returned (.bool (decide (xs = ys))) ∧ Kept w w' := by
  have hs1 := hA.small
  have hs2 := hB.small
  have HA := Lib.hid hA
  have HB := Lib.hid hB
  have Hla := Lib.hid hA.len
  have Hlb := Lib.hid hB.len
  clear hA hB
  by_cases hnm : n = m
  · subst hnm
    go_enter Tryd.func68, Tryd.ntmps68
    go_wp2
    go_loopw [5] (fun v wr => ∃ k : Nat, k ≤ n ∧ v = .int .i64 k ∧ Hid (xs.take k = ys.take k) ∧ Hid (Kept w wr)) (fun v _ => n - (intOf v).toNat)
    case atStart => exact ⟨0, Nat.zero_le _, rfl, rfl, Below.refl _ _⟩
    case round =>
      obtain ⟨k, hk, rfl, Hf, Hk⟩ := hrel
      by_cases hlt : k < n
      · have hAr := HA.out.kept Hk.out
        have hBr := HB.out.kept Hk.out
        obtain ⟨a, rfl, hba⟩ := hAr.addr (by omega)
        obtain ⟨a2, rfl, hba2⟩ := hBr.addr (by omega)
        obtain ⟨x, Hx, hcx, hx1, hx2⟩ := hAr.named k hlt
        obtain ⟨y, Hy, hcy, hy1, hy2⟩ := hBr.named k hlt
        clear hAr hBr
        have Hd := Lib.hid (same_drop (by rw [Hla.out, Hlb.out]) (by have := Hla.out; omega) Hf.out Hx.out Hy.out)
        by_cases hxy : x = y
        · subst hxy
          go_wp2
          refine wp_region_quiet_below (by kernel_rfl) (by kernel_rfl) ?_
          repeat (any_goals (first | go_big_quiet_step ((fail)) | quiet_step ((fail)) | (refine wpQuiet_step (fun K hK => ?_); go_simp; split <;> (refine hK _ ?_; clear hK K))))
          all_goals (refine wpQuiet_nil ?_; intro w1 hw'; replace hw' := Kept.regrown hw')
          have Hk2 := Lib.hid (Hk.out.then hw')
          clear hw'
          go_wp2
          go_roundw
          case rel => exact ⟨k + 1, by omega, by go_num, Hd.out.1 trivial, Hk2.out⟩
          case measure => simp [intOf]; omega
        · have hb : ((x != y) = true) := by simp [hxy]
          go_wp2
          refine wp_region_quiet_below (by kernel_rfl) (by kernel_rfl) ?_
          repeat (any_goals (first | go_big_quiet_step ((fail)) | quiet_step ((fail)) | (refine wpQuiet_step (fun K hK => ?_); go_simp; split <;> (refine hK _ ?_; clear hK K))))
          all_goals (refine wpQuiet_nil ?_; intro w1 hw'; replace hw' := Kept.regrown hw')
          have Hk2 := Lib.hid (Hk.out.then hw')
          clear hw'
          go_wp2
          go_ret
          exact ⟨ret_bool (by simp [Hd.out.2 hxy]), Hk2.out⟩
      · have e : k = n := by omega
        subst e
        go_wp2
        go_ret
        have hf := Hf.out
        rw [List.take_of_length_le (by rw [Hla.out]; exact Nat.le_refl _), List.take_of_length_le (by rw [Hlb.out]; exact Nat.le_refl _)] at hf
        exact ⟨ret_bool (by simp [hf]), Hk.out⟩
  · have hne : ¬ xs = ys := fun h => hnm (by rw [← Hla.out, ← Hlb.out, h])
    have He := Lib.hid hne
    clear hne
    go_enter Tryd.func68, Tryd.ntmps68
    go_wp2
    go_ret
    exact ⟨ret_bool (by simp [He.out]), Kept.same _⟩
end Go.Proofs.YtjmegicopdbkdaaDoor

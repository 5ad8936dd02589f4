/-
  Contracts of the package model: variables, bare, what an element and a table may be.
-/
import Derived.Test.YtjmegicopdbkdaaDoorModel
set_option maxHeartbeats 1000000
set_option maxRecDepth 10000
namespace Go.Proofs.YtjmegicopdbkdaaDoor
open Go Go.RowKit Pl

/-- A constraint, as it is read. -/
structure ConIn (w : World) (K R Ct : Int) (A1 A2 A3 : Option Addr) (n1 c1 n2 c2 n3 c3 : Nat) (C : ConB) : Prop where
  kind : C.kind = K
  rel : C.rel = R
  const : C.const = Ct
  vars : Ints w A1 n1 C.vars
  coefs : Ints w A2 n2 C.coefs
  nums : Ints w A3 n3 C.nums
  cap1 : n1 ≤ c1
  cap3 : n3 ≤ c3
  rk : -9223372036854775808 ≤ K ∧ K ≤ 9223372036854775807
  rr : -9223372036854775808 ≤ R ∧ R ≤ 9223372036854775807
  rc : -9223372036854775808 ≤ Ct ∧ Ct ≤ 9223372036854775807
theorem ConIn.kept {w w' : World} {K R Ct : Int} {A1 A2 A3 : Option Addr} {n1 c1 n2 c2 n3 c3 : Nat} {C : ConB} (h : ConIn w K R Ct A1 A2 A3 n1 c1 n2 c2 n3 c3 C) (hk : Kept w w') : ConIn w' K R Ct A1 A2 A3 n1 c1 n2 c2 n3 c3 C :=
  ⟨h.kind, h.rel, h.const, h.vars.kept hk, h.coefs.kept hk, h.nums.kept hk, h.cap1, h.cap3, h.rk, h.rr, h.rc⟩

theorem Ints.taken {w : World} {A : Option Addr} {n : Nat} {xs : List Int} (h : Ints w A n xs) {k : Nat} (hk : k ≤ n) : Ints w A k (xs.take k) :=
  ⟨by rw [List.length_take, h.len]; omega, by have := h.small; omega, fun x hx => h.rng x (List.mem_of_mem_take hx), fun h0 => by
    obtain ⟨a, e, hc⟩ := h.cell (by omega)
    refine ⟨a, e, fun j hj => ?_⟩
    rw [hc j (by omega)]
    simp [List.getD_eq_getElem?_getD, hj]⟩

theorem variables_any (K R Ct : Int) (A1 A2 A3 : Option Addr) (n1 c1 n2 c2 n3 c3 : Nat) (C : ConB) (V least most : Int) (w : World) (hC : ConIn w K R Ct A1 A2 A3 n1 c1 n2 c2 n3 c3 C) :
    Calls Tryd.prog 73 #[.agg #[.int .i64 K, .slice A1 n1 c1, .slice A2 n2 c2, .int .i64 R, .int .i64 Ct, .slice A3 n3 c3, .int .i64 V], .int .i64 least, .int .i64 most] w fun e w' => e = .returned (.bool (variablesB C V least most)) ∧ Kept w w' := by
  have HV := Lib.hid hC.vars
  have Hlen := Lib.hid hC.vars.len
  have hsm := hC.vars.small
  have hcap := hC.cap1
  clear hC
  by_cases h1 : (n1 : Int) < least
  · have hd : decide ((n1 : Int) < least) = true := by simp [h1]
    go_enter Tryd.func73, Tryd.ntmps73
    go_wp2_with fail
    go_ret
    exact ⟨ret_bool (by unfold variablesB; rw [Hlen.out]; simp; omega), Kept.box _ _⟩
  by_cases h2 : most < (n1 : Int)
  · have hd : decide ((n1 : Int) < least) = false := by simp; omega
    have hd2 : decide (most < (n1 : Int)) = true := by simp [h2]
    go_enter Tryd.func73, Tryd.ntmps73
    go_wp2_with fail
    go_ret
    exact ⟨ret_bool (by unfold variablesB; rw [Hlen.out]; simp; omega), Kept.box _ _⟩
  have hd : decide ((n1 : Int) < least) = false := by simp; omega
  have hd2 : decide (most < (n1 : Int)) = false := by simp; omega
  have hB : Hid (variablesB C V least most = varsOk C.vars V) := by
    show _ = _
    unfold variablesB; rw [Hlen.out]
    have e1 : decide (least ≤ (n1 : Int)) = true := by simp; omega
    have e2 : decide ((n1 : Int) ≤ most) = true := by simp; omega
    rw [e1, e2]; simp
  go_enter Tryd.func73, Tryd.ntmps73
  go_wp2_with fail
  have HB : Hid (∀ wr, Kept (w.alloc (.cells #[.int .i64 K, .slice A1 n1 c1, .slice A2 n2 c2, .int .i64 R, .int .i64 Ct, .slice A3 n3 c3, .int .i64 V] 79)) wr → wr.heap[w.heap.size]? = some (.cells #[.int .i64 K, .slice A1 n1 c1, .slice A2 n2 c2, .int .i64 R, .int .i64 Ct, .slice A3 n3 c3, .int .i64 V] 79)) := fun wr h => h.heapAt (heap_new _ _)
  go_loopw [26] (fun v wr => ∃ k : Nat, k ≤ n1 ∧ v = .int .i64 k ∧ Hid (Kept (w.alloc (.cells #[.int .i64 K, .slice A1 n1 c1, .slice A2 n2 c2, .int .i64 R, .int .i64 Ct, .slice A3 n3 c3, .int .i64 V] 79)) wr) ∧ Hid (vUpto C.vars V k = true)) (fun v _ => n1 - (intOf v).toNat)
  case atStart => exact ⟨0, Nat.zero_le _, rfl, Below.refl _ _, rfl⟩
  case round =>
    obtain ⟨k, hk, rfl, Hkw, Hok⟩ := hrel
    have hbk := HB.out wr Hkw.out
    have hb1 := cell_at hbk 1
    have hb6 := cell_at hbk 6
    simp only [List.getElem?_toArray, List.getElem?_cons_zero, List.getElem?_cons_succ] at hb1 hb6
    clear hbk
    by_cases hlt : k < n1
    · have hSr := HV.out.kept ((Kept.box _ _).then Hkw.out)
      obtain ⟨a, rfl, hblk⟩ := hSr.addr (by omega)
      obtain ⟨x, Hx, hcx, hx1, hx2⟩ := hSr.named k hlt
      have Hnext : Hid (vUpto C.vars V (k + 1) = (decide (0 ≤ x) && decide (x < V) && !((C.vars.take k).contains x))) := by
        show _ = _
        rw [vUpto_succ, Hok.out, vOk_named Hx.out, Bool.true_and]
      have HQ := Lib.hid (contains_any (some a) k c1 (C.vars.take k) x wr (hSr.taken (by omega)))
      clear hSr
      generalize hb : (C.vars.take k).contains x = b at HQ Hnext
      clear hb
      have hkc : (k : Int) ≤ (c1 : Int) := by omega
      have Hbad : Hid (vUpto C.vars V (k + 1) = false → varsOk C.vars V = false) := fun h => by
        unfold varsOk
        rw [vUpto_succ, Hok.out, Bool.true_and] at h
        exact vUpto_bad h (by have := Hlen.out; omega)
      by_cases h3 : x < 0
      · have hd3 : decide (x < 0) = true := by simp [h3]
        go_wp2_with fail
        go_ret
        exact ⟨ret_bool (by rw [hB.out, Hbad.out (by rw [Hnext.out]; simp; omega)]), (Kept.box _ _).then Hkw.out⟩
      have hd3 : decide (x < 0) = false := by simp; omega
      by_cases h4 : V ≤ x
      · have hd4 : decide (V ≤ x) = true := by simp [h4]
        go_wp2_with fail
        go_ret
        exact ⟨ret_bool (by rw [hB.out, Hbad.out (by rw [Hnext.out]; simp; omega)]), (Kept.box _ _).then Hkw.out⟩
      have hd4 : decide (V ≤ x) = false := by simp; omega
      go_wp2_with fail
      refine HQ.out.mono ?_
      rintro e w1 ⟨rfl, rfl⟩
      clear HQ
      cases b with
      | true =>
        go_wp2_with fail
        go_ret
        exact ⟨ret_bool (by rw [hB.out, Hbad.out (by rw [Hnext.out]; simp)]), (Kept.box _ _).then Hkw.out⟩
      | false =>
        go_wp2_with fail
        go_roundw
        case rel => exact ⟨k + 1, by omega, by go_num, Hkw.out, by show _ = _; rw [Hnext.out]; simp; omega⟩
        case measure => simp [intOf]; omega
    · have e : k = n1 := by omega
      subst e
      have h2 : varsOk C.vars V = true := by have := Hok.out; rwa [← Hlen.out] at this
      go_wp2
      go_ret
      exact ⟨ret_bool (by rw [hB.out, h2]), (Kept.box _ _).then Hkw.out⟩

theorem bare_any (K R Ct : Int) (A1 A2 A3 : Option Addr) (n1 c1 n2 c2 n3 c3 : Nat) (C : ConB) (V least most : Int) (w : World) (hC : ConIn w K R Ct A1 A2 A3 n1 c1 n2 c2 n3 c3 C) :
    Calls Tryd.prog 75 #[.agg #[.int .i64 K, .slice A1 n1 c1, .slice A2 n2 c2, .int .i64 R, .int .i64 Ct, .slice A3 n3 c3, .int .i64 V], .int .i64 least, .int .i64 most] w fun e w' => e = .returned (.bool (bareB C least most)) ∧ Kept w w' := by
  have HN := Lib.hid hC.nums
  have h2l := hC.coefs.len
  have h3l := hC.nums.len
  have hsm := hC.nums.small
  have hsm2 := hC.coefs.small
  have hB : Hid (bareB C least most = (decide ((n2 : Int) = 0) && decide (R = 0) && decide (Ct = 0) && decide (least ≤ (n3 : Int)) && decide ((n3 : Int) ≤ most) && withinB C.nums 1048576)) := by
    show _ = _
    unfold bareB; rw [h2l, h3l, hC.rel, hC.const]
    have : decide (n2 = 0) = decide ((n2 : Int) = 0) := by simp
    rw [this]
  clear hC
  by_cases g1 : ¬ ((n2 : Int) = 0)
  · have hd : ((n2 : Int) == 0) = false := by simp; omega
    go_enter Tryd.func75, Tryd.ntmps75
    go_wp2_with fail
    go_ret
    exact ⟨ret_bool (by rw [hB.out]; simp; omega), (Kept.box _ _).newBlock _⟩
  have g1 := Classical.not_not.1 g1
  have h1 : n2 = 0 := by omega
  subst h1
  by_cases g2 : ¬ (R = 0)
  · have hd : (R == 0) = false := by simp; omega
    go_enter Tryd.func75, Tryd.ntmps75
    go_wp2_with fail
    go_ret
    exact ⟨ret_bool (by rw [hB.out]; simp; omega), (Kept.box _ _).newBlock _⟩
  have g2 := Classical.not_not.1 g2
  subst g2
  by_cases g3 : ¬ (Ct = 0)
  · have hd : (Ct == 0) = false := by simp; omega
    go_enter Tryd.func75, Tryd.ntmps75
    go_wp2_with fail
    go_ret
    exact ⟨ret_bool (by rw [hB.out]; simp; omega), (Kept.box _ _).newBlock _⟩
  have g3 := Classical.not_not.1 g3
  subst g3
  by_cases g4 : ¬ (least ≤ (n3 : Int))
  · have hd : (decide (least ≤ (n3 : Int))) = false := by simp; omega
    go_enter Tryd.func75, Tryd.ntmps75
    go_wp2_with fail
    go_ret
    exact ⟨ret_bool (by rw [hB.out]; simp; omega), (Kept.box _ _).newBlock _⟩
  have g4 := Classical.not_not.1 g4
  have e4 : decide (least ≤ (n3 : Int)) = true := by simp [g4]
  by_cases g5 : ¬ ((n3 : Int) ≤ most)
  · have hd : (decide ((n3 : Int) ≤ most)) = false := by simp; omega
    go_enter Tryd.func75, Tryd.ntmps75
    go_wp2_with fail
    go_ret
    exact ⟨ret_bool (by rw [hB.out]; simp; omega), (Kept.box _ _).newBlock _⟩
  have g5 := Classical.not_not.1 g5
  have e5 : decide ((n3 : Int) ≤ most) = true := by simp [g5]
  have hB2 : Hid (bareB C least most = withinB C.nums 1048576) := by
    show _ = _
    rw [hB.out, e4, e5]; simp
  go_enter Tryd.func75, Tryd.ntmps75
  go_wp2_with fail
  refine (mwithin_any A3 n3 c3 C.nums 1048576 _ (HN.out.kept ((Kept.box _ _).newBlock _)) (by decide)).mono ?_
  rintro e w1 ⟨rfl, hk⟩
  have Hk := Lib.hid (((Kept.box _ _).newBlock _).then hk)
  clear hk
  generalize hb : withinB C.nums 1048576 = b at hB2
  clear hb
  go_wp2_with fail
  go_ret
  exact ⟨ret_bool (by rw [hB2.out]), Hk.out⟩

theorem box_look (w : World) (K R Ct V : Int) (A1 A2 A3 : Option Addr) (n1 c1 n2 c2 n3 c3 : Nat) : (w.alloc (.cells #[.int .i64 K, .slice A1 n1 c1, .slice A2 n2 c2, .int .i64 R, .int .i64 Ct, .slice A3 n3 c3, .int .i64 V] 79)).heap[w.heap.size]? = some (.cells #[.int .i64 K, .slice A1 n1 c1, .slice A2 n2 c2, .int .i64 R, .int .i64 Ct, .slice A3 n3 c3, .int .i64 V] 79) := heap_new _ _

theorem lookelem_any (K R Ct : Int) (A1 A2 A3 : Option Addr) (n1 c1 n2 c2 n3 c3 : Nat) (C : ConB) (V : Int) (w : World) (hC : ConIn w K R Ct A1 A2 A3 n1 c1 n2 c2 n3 c3 C) :
    Calls Tryd.prog 55 #[.agg #[.int .i64 K, .slice A1 n1 c1, .slice A2 n2 c2, .int .i64 R, .int .i64 Ct, .slice A3 n3 c3, .int .i64 V]] w fun e w' => e = .returned (.bool (elemB C V)) ∧ Kept w w' := by
  have HC := Lib.hid hC
  clear hC
  go_enter Tryd.func55, Tryd.ntmps55
  go_wp2_with fail
  refine (variables_any K R Ct A1 A2 A3 n1 c1 n2 c2 n3 c3 C V 2 2 _ (HC.out.kept (Kept.box _ _))).mono ?_
  rintro e w1 ⟨rfl, hk⟩
  have Hb := Lib.hid (hk.heapAt (box_look w K R Ct V A1 A2 A3 n1 c1 n2 c2 n3 c3))
  have Hk := Lib.hid ((Kept.box _ _).then hk)
  have hb0 := cell_at Hb.out 0
  have hb1 := cell_at Hb.out 1
  have hb2 := cell_at Hb.out 2
  have hb3 := cell_at Hb.out 3
  have hb4 := cell_at Hb.out 4
  have hb5 := cell_at Hb.out 5
  have hb6 := cell_at Hb.out 6
  simp only [List.getElem?_toArray, List.getElem?_cons_zero, List.getElem?_cons_succ] at hb0 hb1 hb2 hb3 hb4 hb5 hb6
  have HB : Hid (elemB C V = (variablesB C V 2 2 && bareB C 1 96)) := rfl
  clear hk
  generalize variablesB C V 2 2 = b at HB
  cases b with
  | false =>
    go_wp2_with fail
    go_ret
    exact ⟨ret_bool (by rw [HB.out]; simp), Hk.out⟩
  | true =>
    go_wp2_with fail
    refine (bare_any K R Ct A1 A2 A3 n1 c1 n2 c2 n3 c3 C V 1 96 _ (HC.out.kept Hk.out)).mono ?_
    rintro e w2 ⟨rfl, hk2⟩
    have Hk2 := Lib.hid (Hk.out.then hk2)
    clear hk2 hb0 hb1 hb2 hb3 hb4 hb5 hb6
    generalize bareB C 1 96 = d at HB
    go_wp2_with fail
    go_ret
    exact ⟨ret_bool (by rw [HB.out]; simp), Hk2.out⟩
end Go.Proofs.YtjmegicopdbkdaaDoor

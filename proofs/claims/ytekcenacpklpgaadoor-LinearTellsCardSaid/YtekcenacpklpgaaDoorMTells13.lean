/-
  Contracts and plain laws that the card rests on, part 13.
-/
import Derived.Test.YtekcenacpklpgaaDoorMTells7
import Derived.Test.YtekcenacpklpgaaDoorMTells8
import Derived.Test.YtekcenacpklpgaaDoorMTells3
import Derived.Test.YtekcenacpklpgaaDoorMTells5
import Derived.Test.YtekcenacpklpgaaDoorMTells4
import Derived.Test.YtekcenacpklpgaaDoorMTells12
import Derived.Test.YtekcenacpklpgaaDoorMTells11
set_option maxHeartbeats 1000000
set_option maxRecDepth 10000
namespace Go.Proofs.YtekcenacpklpgaaDoor
open Go Go.RowKit Go.Maps Pl

/-- Is nothing left of a variable? -/
def emptyB (ds : List DomB) (y : Int) : Bool := decide ((listB (ds.getD y.toNat nilD).1 (ds.getD y.toNat nilD).2).length = 0)
theorem wiped_any (C : ConB) (ds : List DomB) : C.vars.any (emptyB ds) = wipedB C ds C.vars.length := by
  unfold wipedB
  rw [Bool.eq_iff_iff, List.any_eq_true, List.any_eq_true]
  constructor
  · rintro ⟨x, hx, h⟩
    obtain ⟨k, hk, e⟩ := List.getElem_of_mem hx
    refine ⟨k, List.mem_range.2 hk, ?_⟩
    unfold leftOf
    rw [List.getD_eq_getElem?_getD (l := C.vars), List.getElem?_eq_getElem hk]
    subst e
    exact h
  · rintro ⟨k, hk, h⟩
    refine ⟨C.vars.getD k 0, ?_, h⟩
    rw [List.getD_eq_getElem?_getD, List.getElem?_eq_getElem (List.mem_range.1 hk)]
    exact List.getElem_mem _
theorem lin2_any (y : Int) (Bl : Nat) (Al : Option Addr) (nl cl : Nat) (ds : List DomB) (w : World) (hl : w.cell? ⟨Bl, 0, none⟩ = some (.slice Al nl cl)) (hD : Doms w Al nl ds) (h0 : 0 ≤ y) (h1 : y < nl) :
    Calls Tryd.prog 26 #[.int .i64 y, .pointer (some ⟨Bl, 0, none⟩)] w fun e w' => e = .returned (.bool (emptyB ds y)) ∧ Kept w w' := by
  obtain ⟨p, rfl⟩ := Int.eq_ofNat_of_zero_le h0
  have hpn : p < nl := by omega
  obtain ⟨al, rfl, hbl⟩ := hD.addr (by omega)
  obtain ⟨xs, L, B, m, cB, Hd, hc1, hc2, HI, hL⟩ := hD.named p hpn
  have HQ := Lib.hid (size_any B m cB L xs w HI.out hL)
  have He : Hid (emptyB ds (p : Int) = decide ((listB xs L).length = 0)) := by show _ = _; unfold emptyB; rw [Int.toNat_natCast, Hd.out]
  generalize (listB xs L).length = q at *
  have hlB := World.block_lt_of_cell? w _ hl
  clear hD h0 h1
  go_enter Tryd.func26, Tryd.ntmps26
  go_wp2_with fail
  refine HQ.out.mono ?_
  rintro e w1 ⟨rfl, hk⟩
  have Hk := Lib.hid hk
  clear hk
  by_cases hq : q = 0
  · have hd : ((q : Int) == 0) = true := by simp [hq]
    have Hq := Lib.hid hq
    clear hq
    go_wp2_with fail
    go_ret
    exact ⟨ret_bool (by rw [He.out, decide_eq_true Hq.out]), Hk.out⟩
  · have hd : ((q : Int) == 0) = false := by simp; omega
    have Hq := Lib.hid hq
    clear hq
    go_wp2_with fail
    go_ret
    exact ⟨ret_bool (by rw [He.out, decide_eq_false Hq.out]), Hk.out⟩

theorem lany_bad {xs : List Int} {g : Int → Bool} {k : Nat} {x : Int} (hk : k < xs.length) (hx : xs.getD k 0 = x) (h : g x = true) : xs.any g = true := by
  rw [List.any_eq_true]
  refine ⟨x, ?_, h⟩
  rw [← hx, List.getD_eq_getElem?_getD, List.getElem?_eq_getElem hk]
  exact List.getElem_mem _

theorem lints_index_any (A : Option Addr) (n c : Nat) (xs : List Int) (p0 : Value) (g : Int → Bool) (w : World) (hS : Ints w A n xs)
    (hF : ∀ (x : Int) (W : World), x ∈ xs → Kept w W → Calls Tryd.prog 26 #[.int .i64 x, p0] W fun e w' => e = .returned (.bool (g x)) ∧ Kept W w') :
    Calls Tryd.prog 53 #[.slice A n c, .func (.func 26) #[] #[p0]] w fun e w' => ∃ i : Int, e = .returned (.int .i64 i) ∧ (decide (0 ≤ i) = xs.any g) ∧ Kept w w' := by
  have HS := Lib.hid hS
  have hsm := hS.small
  have Hlen := Lib.hid hS.len
  have HF := Lib.hid hF
  clear hS hF
  go_enter Tryd.func53, Tryd.ntmps53
  go_wp2_with fail
  go_loopw [8] (fun v wr => ∃ k : Nat, k ≤ n ∧ v = .int .i64 k ∧ Hid (Kept w wr) ∧ Hid ((xs.take k).any g = false)) (fun v _ => n - (intOf v).toNat)
  case atStart => exact ⟨0, Nat.zero_le _, rfl, Below.refl _ _, rfl⟩
  case round =>
    obtain ⟨k, hk, rfl, Hkw, Hok⟩ := hrel
    by_cases hlt : k < n
    · have hSr := HS.out.kept Hkw.out
      obtain ⟨a, rfl, hblk⟩ := hSr.addr (by omega)
      obtain ⟨x, Hx, hcx, _, _⟩ := hSr.named k hlt
      have hkl : k < xs.length := by have := Hlen.out; omega
      have hmem : x ∈ xs := by
        rw [← Hx.out, List.getD_eq_getElem?_getD, List.getElem?_eq_getElem hkl]
        exact List.getElem_mem _
      have HQ := Lib.hid (HF.out x wr hmem Hkw.out)
      have Hbad : Hid (g x = true → xs.any g = true) := lany_bad hkl Hx.out
      have Hnext : Hid (g x = false → (xs.take (k + 1)).any g = false) := fun h => by
        rw [take_succ_getD hkl Hx.out, List.any_append, Hok.out]
        simp [h]
      clear hSr hmem
      generalize g x = b at HQ Hbad Hnext
      go_wp2_with fail
      refine HQ.out.mono ?_
      rintro e w1 ⟨rfl, hk1⟩
      have Hk1 := Lib.hid (Hkw.out.then hk1)
      clear hk1 HQ
      cases b with
      | false =>
        go_wp2
        go_roundw
        case rel => exact ⟨k + 1, by omega, by go_num, Hk1.out, Hnext.out (by first | rfl | trivial)⟩
        case measure => simp [intOf]; omega
      | true =>
        go_wp2
        go_ret
        refine ⟨k, rfl, ?_, Hk1.out⟩
        rw [Hbad.out (by first | rfl | trivial)]
        simp
    · have e : k = n := by omega
      subst e
      have h2 : xs.any g = false := by have := Hok.out; rwa [List.take_of_length_le (by have := Hlen.out; omega)] at this
      go_wp2
      go_ret
      exact ⟨-1, rfl, by rw [h2]; decide, Hkw.out⟩

theorem lints_contains_any (A : Option Addr) (n c : Nat) (xs : List Int) (p0 : Value) (g : Int → Bool) (w : World) (hS : Ints w A n xs)
    (hF : ∀ (x : Int) (W : World), x ∈ xs → Kept w W → Calls Tryd.prog 26 #[.int .i64 x, p0] W fun e w' => e = .returned (.bool (g x)) ∧ Kept W w') :
    Calls Tryd.prog 25 #[.slice A n c, .func (.func 26) #[] #[p0]] w fun e w' => e = .returned (.bool (xs.any g)) ∧ Kept w w' := by
  have HS := Lib.hid hS
  have HF := Lib.hid hF
  clear hS hF
  go_enter Tryd.func25, Tryd.ntmps25
  go_wp2_with fail
  refine (lints_index_any A n c xs p0 g _ HS.out HF.out).mono ?_
  rintro e w1 ⟨i, rfl, hi, hk⟩
  have Hi := Lib.hid hi
  clear hi
  go_wp2
  go_ret
  exact ⟨ret_bool Hi.out, hk⟩

end Go.Proofs.YtekcenacpklpgaaDoor

set_option maxHeartbeats 1000000
set_option maxRecDepth 10000
namespace Go.Proofs.YtekcenacpklpgaaDoor
open Go Go.RowKit Pl

def lsumB (C : ConB) (but : Int) : Bool := decide ((C.coefs.length : Int) = (C.vars.length : Int) - but) && withinB C.coefs 1048576 && !C.coefs.contains 0 && decide (0 ≤ C.rel) && decide (C.rel ≤ 5) && withinB [C.const] 1099511627776 && decide ((C.nums.length : Int) = 0)
def linB (C : ConB) (V : Int) : Bool := variablesB C V 1 8 && lsumB C 0
def iffB (C : ConB) (V : Int) : Bool := variablesB C V 2 9 && lsumB C 1

theorem looksum_any (K R Ct : Int) (A1 A2 A3 : Option Addr) (n1 c1 n2 c2 n3 c3 : Nat) (C : ConB) (V but : Int) (w : World) (hC : ConIn w K R Ct A1 A2 A3 n1 c1 n2 c2 n3 c3 C) (hbut : 0 ≤ but ∧ but ≤ 1) :
    Calls Tryd.prog 70 #[.agg #[.int .i64 K, .slice A1 n1 c1, .slice A2 n2 c2, .int .i64 R, .int .i64 Ct, .slice A3 n3 c3, .int .i64 V], .int .i64 but] w fun e w' => e = .returned (.bool (lsumB C but)) ∧ Kept w w' := by
  have HC := Lib.hid hC
  have h1l := hC.vars.len
  have h2l := hC.coefs.len
  have h3l := hC.nums.len
  have hs1 := hC.vars.small
  have hs2 := hC.coefs.small
  have hs3 := hC.nums.small
  have hB : Hid (lsumB C but = (decide ((n2 : Int) = (n1 : Int) - but) && withinB C.coefs 1048576 && !C.coefs.contains 0 && decide (0 ≤ R) && decide (R ≤ 5) && withinB [Ct] 1099511627776 && decide ((n3 : Int) = 0))) := by
    show _ = _
    unfold lsumB; rw [h1l, h2l, h3l, hC.rel, hC.const]
  have HCt : Hid (-9223372036854775808 ≤ Ct ∧ Ct ≤ 9223372036854775807) := hC.rc
  clear hC h1l h2l h3l
  obtain ⟨hb0, hb1⟩ := hbut
  by_cases g1 : ¬ ((n2 : Int) = (n1 : Int) - but)
  · have hd : ((n2 : Int) == (n1 : Int) - but) = false := by simp; omega
    go_enter Tryd.func70, Tryd.ntmps70
    go_wp2_with fail
    go_ret
    exact ⟨ret_bool (by rw [hB.out]; simp; omega), (Kept.box _ _).newBlock _⟩
  have g1 := Classical.not_not.1 g1
  have hd : ((n2 : Int) == (n1 : Int) - but) = true := by simp [g1]
  have hB1 : Hid (lsumB C but = (withinB C.coefs 1048576 && !C.coefs.contains 0 && decide (0 ≤ R) && decide (R ≤ 5) && withinB [Ct] 1099511627776 && decide ((n3 : Int) = 0))) := by
    show _ = _
    rw [hB.out, decide_eq_true g1]; simp
  clear g1 hB
  go_enter Tryd.func70, Tryd.ntmps70
  go_wp2_with fail
  refine (mwithin_any A2 n2 c2 C.coefs 1048576 _ (HC.out.coefs.kept ((Kept.box _ _).newBlock _)) (by decide)).mono ?_
  rintro e w1 ⟨rfl, hk⟩
  have HK1 := Lib.hid (((Kept.box _ _).newBlock _).then hk)
  have HB1 := Lib.hid (hk.heapAt (heap_new2 w (.cells #[.int .i64 K, .slice A1 n1 c1, .slice A2 n2 c2, .int .i64 R, .int .i64 Ct, .slice A3 n3 c3, .int .i64 V] 77) (.cells #[.int .i64 K, .slice A1 n1 c1, .slice A2 n2 c2, .int .i64 R, .int .i64 Ct, .slice A3 n3 c3] 24)))
  generalize withinB C.coefs 1048576 = q1 at hB1
  clear hk
  cases q1 with
  | false =>
    go_wp2_with fail
    go_ret
    exact ⟨ret_bool (by rw [hB1.out]; simp), HK1.out⟩
  | true =>
    have hb := HB1.out
    have b0 := cell_at hb 0
    have b1 := cell_at hb 1
    have b2 := cell_at hb 2
    have b3 := cell_at hb 3
    have b4 := cell_at hb 4
    have b5 := cell_at hb 5
    simp only [List.getElem?_toArray, List.getElem?_cons_zero, List.getElem?_cons_succ] at b0 b1 b2 b3 b4 b5
    clear hb
    have hlb : w.heap.size + 1 < w1.heap.size := lt_at HB1.out
    go_wp2_with fail
    refine (contains_any A2 n2 c2 C.coefs 0 _ (HC.out.coefs.kept HK1.out)).mono ?_
    rintro e w2 ⟨rfl, rfl⟩
    generalize C.coefs.contains 0 = q2 at hB1
    cases q2 with
    | true =>
      go_wp2_with fail
      go_ret
      exact ⟨ret_bool (by rw [hB1.out]; simp), HK1.out⟩
    | false =>
      by_cases g2 : ¬ (0 ≤ R)
      · have hd2 : decide (0 ≤ R) = false := by simp; omega
        go_wp2_with fail
        go_ret
        exact ⟨ret_bool (by rw [hB1.out]; simp; omega), HK1.out⟩
      have g2 := Classical.not_not.1 g2
      have hd2 : decide (0 ≤ R) = true := by simp [g2]
      by_cases g3 : ¬ (R ≤ 5)
      · have hd3 : decide (R ≤ 5) = false := by simp; omega
        go_wp2_with fail
        go_ret
        exact ⟨ret_bool (by rw [hB1.out]; simp; omega), HK1.out⟩
      have g3 := Classical.not_not.1 g3
      have hd3 : decide (R ≤ 5) = true := by simp [g3]
      have hB2 : Hid (lsumB C but = (withinB [Ct] 1099511627776 && decide ((n3 : Int) = 0))) := by
        show _ = _
        rw [hB1.out, hd2, hd3]; simp
      go_wp2_with fail
      refine (mwithin_any (some ⟨w1.heap.size, 0, Option.none⟩) 1 1 [Ct] 1099511627776 _ (lit1 w1 Ct _ _ HCt.out) (by decide)).mono ?_
      rintro e w3 ⟨rfl, hk⟩
      have HK3 := Lib.hid ((HK1.out.newBlock _).then hk)
      have HB3 := Lib.hid (hk.heapAt ((Kept.box _ _).heapAt HB1.out))
      generalize withinB [Ct] 1099511627776 = q3 at hB2
      clear hk b0 b1 b2 b3 b4 b5 hlb
      cases q3 with
      | false =>
        go_wp2_with fail
        go_ret
        exact ⟨ret_bool (by rw [hB2.out]; simp), HK3.out⟩
      | true =>
        have hb := HB3.out
        have b0 := cell_at hb 0
        have b1 := cell_at hb 1
        have b2 := cell_at hb 2
        have b3 := cell_at hb 3
        have b4 := cell_at hb 4
        have b5 := cell_at hb 5
        simp only [List.getElem?_toArray, List.getElem?_cons_zero, List.getElem?_cons_succ] at b0 b1 b2 b3 b4 b5
        clear hb
        have hlb : w.heap.size + 1 < w3.heap.size := lt_at HB3.out
        go_wp2_with fail
        go_ret
        exact ⟨ret_bool (by rw [hB2.out]; rfl), HK3.out⟩
theorem looklin_any (K R Ct : Int) (A1 A2 A3 : Option Addr) (n1 c1 n2 c2 n3 c3 : Nat) (C : ConB) (V : Int) (w : World) (hC : ConIn w K R Ct A1 A2 A3 n1 c1 n2 c2 n3 c3 C) :
    Calls Tryd.prog 45 #[.agg #[.int .i64 K, .slice A1 n1 c1, .slice A2 n2 c2, .int .i64 R, .int .i64 Ct, .slice A3 n3 c3, .int .i64 V]] w fun e w' => e = .returned (.bool (linB C V)) ∧ Kept w w' := by
  have HC := Lib.hid hC
  clear hC
  go_enter Tryd.func45, Tryd.ntmps45
  go_wp2_with fail
  refine (variables_any K R Ct A1 A2 A3 n1 c1 n2 c2 n3 c3 C V 1 8 _ (HC.out.kept (Kept.box _ _))).mono ?_
  rintro e w1 ⟨rfl, hk⟩
  have Hb := Lib.hid (hk.heapAt (box_look w K R Ct V A1 A2 A3 n1 c1 n2 c2 n3 c3))
  have Hk := Lib.hid ((Kept.box _ _).then hk)
  have hb0 := cell_at Hb.out 0
  have hb1 := cell_at Hb.out 1
  have hb2 := cell_at Hb.out 2
  have hb3 := cell_at Hb.out 3
  have hb4 := cell_at Hb.out 4
  have hb5 := cell_at Hb.out 5
  have hb6 := cell_at Hb.out 6
  simp only [List.getElem?_toArray, List.getElem?_cons_zero, List.getElem?_cons_succ] at hb0 hb1 hb2 hb3 hb4 hb5 hb6
  have HB : Hid (linB C V = (variablesB C V 1 8 && lsumB C 0)) := rfl
  clear hk
  generalize variablesB C V 1 8 = b at HB
  cases b with
  | false =>
    go_wp2_with fail
    go_ret
    exact ⟨ret_bool (by rw [HB.out]; simp), Hk.out⟩
  | true =>
    go_wp2_with fail
    refine (looksum_any K R Ct A1 A2 A3 n1 c1 n2 c2 n3 c3 C V 0 _ (HC.out.kept Hk.out) (by decide)).mono ?_
    rintro e w2 ⟨rfl, hk2⟩
    have Hk2 := Lib.hid (Hk.out.then hk2)
    clear hk2 hb0 hb1 hb2 hb3 hb4 hb5 hb6
    generalize lsumB C 0 = d at HB
    go_wp2_with fail
    go_ret
    exact ⟨ret_bool (by rw [HB.out]; simp), Hk2.out⟩
theorem looklinear_q {R Ct V : Int} {A1 A2 A3 : Option Addr} {n1 c1 n2 c2 n3 c3 : Nat} {C : ConB} (W : World) (h : ConIn W 1 R Ct A1 A2 A3 n1 c1 n2 c2 n3 c3 C) : Calls Tryd.prog 45 #[.agg #[.int .i64 1, .slice A1 n1 c1, .slice A2 n2 c2, .int .i64 R, .int .i64 Ct, .slice A3 n3 c3, .int .i64 V]] W fun e w' => e = .returned (.bool (linB C V)) ∧ Kept W w' := looklin_any 1 R Ct A1 A2 A3 n1 c1 n2 c2 n3 c3 C V W h
theorem right_looklin (K R Ct : Int) (A1 A2 A3 : Option Addr) (n1 c1 n2 c2 n3 c3 : Nat) (C : ConB) (V : Int) (w : World) (hC : ConIn w K R Ct A1 A2 A3 n1 c1 n2 c2 n3 c3 C) (hK : K = 1) :
    Calls Tryd.prog 20 #[.agg #[.int .i64 K, .slice A1 n1 c1, .slice A2 n2 c2, .int .i64 R, .int .i64 Ct, .slice A3 n3 c3], .int .i64 V] w fun e w' => e = .returned (.bool (linB C V)) ∧ Kept w w' := by
  subst hK
  have HC := Lib.hid hC
  clear hC
  go_enter Tryd.func20, Tryd.ntmps20
  go_wp2_with fail
  have HQ : Hid (∀ W, ConIn W 1 R Ct A1 A2 A3 n1 c1 n2 c2 n3 c3 C → Calls Tryd.prog 45 #[.agg #[.int .i64 1, .slice A1 n1 c1, .slice A2 n2 c2, .int .i64 R, .int .i64 Ct, .slice A3 n3 c3, .int .i64 V]] W fun e w' => e = .returned (.bool (linB C V)) ∧ Kept W w') := fun W h => looklinear_q W h
  generalize hb : linB C V = b at HQ
  have HC2 := Lib.hid (HC.out.kept ((Kept.box w (.cells #[.int .i64 1, .slice A1 n1 c1, .slice A2 n2 c2, .int .i64 R, .int .i64 Ct, .slice A3 n3 c3] 24)).newBlock (.cells #[.func (.func 45) #[] #[], .func (.func 46) #[] #[], .func (.func 47) #[] #[], .func (.func 48) #[] #[], .func (.func 49) #[] #[], .func (.func 50) #[] #[]] 75)))
  refine wp_region_quiet_below (by kernel_rfl) (by kernel_rfl) ?_
  repeat (any_goals (first | go_big_quiet_step (((go_at_call 45; exact Calls.regrown_of (HQ.out _ (HC2.out.kept (below_regrown _ _ _)))))) | quiet_step (((go_at_call 45; exact Calls.regrown_of (HQ.out _ (HC2.out.kept (below_regrown _ _ _)))))) | (refine wpQuiet_step (fun K hK => ?_); go_simp; split <;> (refine hK _ ?_; clear hK K))))
  all_goals (refine wpQuiet_nil ?_; intro w1 hw'; replace hw' := Kept.regrown hw')
  have Hk := Lib.hid (((Kept.box _ _).newBlock _).then hw')
  clear hw'
  go_wp2_with fail
  go_ret
  subst hb
  exact ⟨ret_bool (by simp), Hk.out⟩


theorem lookif_any (K R Ct : Int) (A1 A2 A3 : Option Addr) (n1 c1 n2 c2 n3 c3 : Nat) (C : ConB) (V : Int) (w : World) (hC : ConIn w K R Ct A1 A2 A3 n1 c1 n2 c2 n3 c3 C) :
    Calls Tryd.prog 47 #[.agg #[.int .i64 K, .slice A1 n1 c1, .slice A2 n2 c2, .int .i64 R, .int .i64 Ct, .slice A3 n3 c3, .int .i64 V]] w fun e w' => e = .returned (.bool (iffB C V)) ∧ Kept w w' := by
  have HC := Lib.hid hC
  clear hC
  go_enter Tryd.func47, Tryd.ntmps47
  go_wp2_with fail
  refine (variables_any K R Ct A1 A2 A3 n1 c1 n2 c2 n3 c3 C V 2 9 _ (HC.out.kept (Kept.box _ _))).mono ?_
  rintro e w1 ⟨rfl, hk⟩
  have Hb := Lib.hid (hk.heapAt (box_look w K R Ct V A1 A2 A3 n1 c1 n2 c2 n3 c3))
  have Hk := Lib.hid ((Kept.box _ _).then hk)
  have hb0 := cell_at Hb.out 0
  have hb1 := cell_at Hb.out 1
  have hb2 := cell_at Hb.out 2
  have hb3 := cell_at Hb.out 3
  have hb4 := cell_at Hb.out 4
  have hb5 := cell_at Hb.out 5
  have hb6 := cell_at Hb.out 6
  simp only [List.getElem?_toArray, List.getElem?_cons_zero, List.getElem?_cons_succ] at hb0 hb1 hb2 hb3 hb4 hb5 hb6
  have HB : Hid (iffB C V = (variablesB C V 2 9 && lsumB C 1)) := rfl
  clear hk
  generalize variablesB C V 2 9 = b at HB
  cases b with
  | false =>
    go_wp2_with fail
    go_ret
    exact ⟨ret_bool (by rw [HB.out]; simp), Hk.out⟩
  | true =>
    go_wp2_with fail
    refine (looksum_any K R Ct A1 A2 A3 n1 c1 n2 c2 n3 c3 C V 1 _ (HC.out.kept Hk.out) (by decide)).mono ?_
    rintro e w2 ⟨rfl, hk2⟩
    have Hk2 := Lib.hid (Hk.out.then hk2)
    clear hk2 hb0 hb1 hb2 hb3 hb4 hb5 hb6
    generalize lsumB C 1 = d at HB
    go_wp2_with fail
    go_ret
    exact ⟨ret_bool (by rw [HB.out]; simp), Hk2.out⟩
theorem lookiff_q {R Ct V : Int} {A1 A2 A3 : Option Addr} {n1 c1 n2 c2 n3 c3 : Nat} {C : ConB} (W : World) (h : ConIn W 3 R Ct A1 A2 A3 n1 c1 n2 c2 n3 c3 C) : Calls Tryd.prog 47 #[.agg #[.int .i64 3, .slice A1 n1 c1, .slice A2 n2 c2, .int .i64 R, .int .i64 Ct, .slice A3 n3 c3, .int .i64 V]] W fun e w' => e = .returned (.bool (iffB C V)) ∧ Kept W w' := lookif_any 3 R Ct A1 A2 A3 n1 c1 n2 c2 n3 c3 C V W h
theorem right_lookif (K R Ct : Int) (A1 A2 A3 : Option Addr) (n1 c1 n2 c2 n3 c3 : Nat) (C : ConB) (V : Int) (w : World) (hC : ConIn w K R Ct A1 A2 A3 n1 c1 n2 c2 n3 c3 C) (hK : K = 3) :
    Calls Tryd.prog 20 #[.agg #[.int .i64 K, .slice A1 n1 c1, .slice A2 n2 c2, .int .i64 R, .int .i64 Ct, .slice A3 n3 c3], .int .i64 V] w fun e w' => e = .returned (.bool (iffB C V)) ∧ Kept w w' := by
  subst hK
  have HC := Lib.hid hC
  clear hC
  go_enter Tryd.func20, Tryd.ntmps20
  go_wp2_with fail
  have HQ : Hid (∀ W, ConIn W 3 R Ct A1 A2 A3 n1 c1 n2 c2 n3 c3 C → Calls Tryd.prog 47 #[.agg #[.int .i64 3, .slice A1 n1 c1, .slice A2 n2 c2, .int .i64 R, .int .i64 Ct, .slice A3 n3 c3, .int .i64 V]] W fun e w' => e = .returned (.bool (iffB C V)) ∧ Kept W w') := fun W h => lookiff_q W h
  generalize hb : iffB C V = b at HQ
  have HC2 := Lib.hid (HC.out.kept ((Kept.box w (.cells #[.int .i64 3, .slice A1 n1 c1, .slice A2 n2 c2, .int .i64 R, .int .i64 Ct, .slice A3 n3 c3] 24)).newBlock (.cells #[.func (.func 45) #[] #[], .func (.func 46) #[] #[], .func (.func 47) #[] #[], .func (.func 48) #[] #[], .func (.func 49) #[] #[], .func (.func 50) #[] #[]] 75)))
  refine wp_region_quiet_below (by kernel_rfl) (by kernel_rfl) ?_
  repeat (any_goals (first | go_big_quiet_step (((go_at_call 47; exact Calls.regrown_of (HQ.out _ (HC2.out.kept (below_regrown _ _ _)))))) | quiet_step (((go_at_call 47; exact Calls.regrown_of (HQ.out _ (HC2.out.kept (below_regrown _ _ _)))))) | (refine wpQuiet_step (fun K hK => ?_); go_simp; split <;> (refine hK _ ?_; clear hK K))))
  all_goals (refine wpQuiet_nil ?_; intro w1 hw'; replace hw' := Kept.regrown hw')
  have Hk := Lib.hid (((Kept.box _ _).newBlock _).then hw')
  clear hw'
  go_wp2_with fail
  go_ret
  subst hb
  exact ⟨ret_bool (by simp), Hk.out⟩



theorem linB_right {C : ConB} {V : Int} (hk : C.kind = 1) : linB C V = rightB C V := by
  unfold rightB
  rw [if_pos hk]
  unfold linB variablesB lsumB sumR
  rw [Bool.eq_iff_iff]
  simp only [Bool.and_eq_true, decide_eq_true_eq]
  constructor
  · rintro ⟨⟨⟨h1, h2⟩, h3⟩, ⟨⟨⟨⟨⟨h4, h5⟩, h6⟩, h7⟩, h8⟩, h9⟩, h10⟩
    exact ⟨h3, ⟨⟨⟨⟨⟨⟨⟨⟨h6, by omega⟩, by omega⟩, h4⟩, h5⟩, h7⟩, h8⟩, h9⟩, by omega⟩⟩
  · rintro ⟨h1, ⟨⟨⟨⟨⟨⟨⟨⟨h2, h3⟩, h4⟩, h5⟩, h6⟩, h7⟩, h8⟩, h9⟩, h10⟩⟩
    exact ⟨⟨⟨by omega, by omega⟩, h1⟩, ⟨⟨⟨⟨⟨h5, h6⟩, h2⟩, h7⟩, h8⟩, h9⟩, by omega⟩
theorem iffB_right {C : ConB} {V : Int} (hk : C.kind = 3) : iffB C V = rightB C V := by
  unfold rightB
  rw [if_neg (by rw [hk]; decide), if_pos hk]
  unfold iffB variablesB lsumB sumR
  rw [Bool.eq_iff_iff]
  simp only [Bool.and_eq_true, decide_eq_true_eq]
  constructor
  · rintro ⟨⟨⟨h1, h2⟩, h3⟩, ⟨⟨⟨⟨⟨h4, h5⟩, h6⟩, h7⟩, h8⟩, h9⟩, h10⟩
    exact ⟨h3, ⟨⟨⟨⟨⟨⟨⟨⟨h6, by omega⟩, by omega⟩, h4⟩, h5⟩, h7⟩, h8⟩, h9⟩, by omega⟩⟩
  · rintro ⟨h1, ⟨⟨⟨⟨⟨⟨⟨⟨h2, h3⟩, h4⟩, h5⟩, h6⟩, h7⟩, h8⟩, h9⟩, h10⟩⟩
    exact ⟨⟨⟨by omega, by omega⟩, h1⟩, ⟨⟨⟨⟨⟨h5, h6⟩, h2⟩, h7⟩, h8⟩, h9⟩, by omega⟩
theorem right1_any (K R Ct : Int) (A1 A2 A3 : Option Addr) (n1 c1 n2 c2 n3 c3 : Nat) (C : ConB) (V : Int) (w : World) (hC : ConIn w K R Ct A1 A2 A3 n1 c1 n2 c2 n3 c3 C) (hK : K = 1) :
    Calls Tryd.prog 20 #[.agg #[.int .i64 K, .slice A1 n1 c1, .slice A2 n2 c2, .int .i64 R, .int .i64 Ct, .slice A3 n3 c3], .int .i64 V] w fun e w' => e = .returned (.bool (rightB C V)) ∧ Kept w w' := by
  have h := right_looklin K R Ct A1 A2 A3 n1 c1 n2 c2 n3 c3 C V w hC hK
  rwa [linB_right (hC.kind.trans hK)] at h
theorem right3_any (K R Ct : Int) (A1 A2 A3 : Option Addr) (n1 c1 n2 c2 n3 c3 : Nat) (C : ConB) (V : Int) (w : World) (hC : ConIn w K R Ct A1 A2 A3 n1 c1 n2 c2 n3 c3 C) (hK : K = 3) :
    Calls Tryd.prog 20 #[.agg #[.int .i64 K, .slice A1 n1 c1, .slice A2 n2 c2, .int .i64 R, .int .i64 Ct, .slice A3 n3 c3], .int .i64 V] w fun e w' => e = .returned (.bool (rightB C V)) ∧ Kept w w' := by
  have h := right_lookif K R Ct A1 A2 A3 n1 c1 n2 c2 n3 c3 C V w hC hK
  rwa [iffB_right (hC.kind.trans hK)] at h
end Go.Proofs.YtekcenacpklpgaaDoor

set_option maxHeartbeats 4000000
set_option maxRecDepth 10000
namespace Go.Proofs.YtekcenacpklpgaaDoor
open Go Go.RowKit Go.Maps Pl

theorem lin_wiped {C : ConB} {ds : List DomB} {n1 : Nat} (hl : C.vars.length = n1) (h : wipedB C ds n1 = true) : stepB (varsKp C.vars (fun _ _ => false) n1) ds = stepB (linKp C ds) ds := by
  subst hl
  unfold linKp
  congr 2
  funext i x
  unfold linG
  rw [if_pos h]
theorem lin_sum {C : ConB} {ds : List DomB} {n1 : Nat} (hl : C.vars.length = n1) (hk : C.kind = 1) (h : wipedB C ds n1 = false) : stepB (varsKp C.vars (sumG C.coefs (lsV C.vars ds) n1 C.rel C.const) n1) ds = stepB (linKp C ds) ds := by
  subst hl
  unfold linKp
  congr 2
  funext i x
  unfold linG
  rw [if_neg (by rw [h]; decide), if_pos hk]; rfl
theorem lin_iff {C : ConB} {ds : List DomB} {n1 : Nat} (hl : C.vars.length = n1) (hk : C.kind = 3) (h : wipedB C ds n1 = false) : stepB (varsKp C.vars (iffG C ds) n1) ds = stepB (linKp C ds) ds := by
  subst hl
  unfold linKp
  congr 2
  funext i x
  unfold linG
  rw [if_neg (by rw [h]; decide), if_neg (by rw [hk]; decide)]

theorem linstep1_any (K R Ct : Int) (A1 A2 A3 : Option Addr) (n1 c1 n2 c2 n3 c3 : Nat) (C : ConB) (A : Option Addr) (n c : Nat) (ds : List DomB) (w : World) (hC : ConIn w K R Ct A1 A2 A3 n1 c1 n2 c2 n3 c3 C) (hS : Doms w A n ds) (hT : Tab w) (hn : n ≤ 1000) (hK : K = 1) :
    Calls Tryd.prog 10 #[.agg #[.int .i64 K, .slice A1 n1 c1, .slice A2 n2 c2, .int .i64 R, .int .i64 Ct, .slice A3 n3 c3], .slice A n c] w (StepPost (if goK 1 C ds = true then some (stepB (linKp C ds) ds) else Option.none) w) := by
  subst hK
  have HC := Lib.hid hC
  have HS := Lib.hid hS
  have HT := Lib.hid hT
  have Hlen := Lib.hid hS.len
  have hKk := hC.kind
  clear hC hS hT
  have HR : Hid (∀ W, ConIn W 1 R Ct A1 A2 A3 n1 c1 n2 c2 n3 c3 C → Calls Tryd.prog 20 #[.agg #[.int .i64 1, .slice A1 n1 c1, .slice A2 n2 c2, .int .i64 R, .int .i64 Ct, .slice A3 n3 c3], .int .i64 n] W fun e w' => e = .returned (.bool (rightB C n)) ∧ Kept W w') := fun W hW => right1_any 1 R Ct A1 A2 A3 n1 c1 n2 c2 n3 c3 C n W hW rfl
  have HA : Hid (∀ W, Doms W A n ds → Calls Tryd.prog 21 #[.slice A n c, .func (.func 22) #[] #[]] W fun e w' => e = .returned (.bool (!allMay ds)) ∧ Kept W w') := fun W hW => lin_contains_any A n c ds W hW
  have Hgo : Hid (goK 1 C ds = (rightB C n && allMay ds)) := by
    show _ = _
    unfold goK; rw [hKk, Hlen.out]; simp
  generalize hb1 : rightB C n = b1 at HR Hgo
  generalize hb2 : allMay ds = b2 at HA Hgo
  have Hb1 := Lib.hid hb1
  have Hb2 := Lib.hid hb2
  have Hkk := Lib.hid hKk
  clear hb1 hb2 hKk
  rw [Hgo.out]
  clear Hgo
  cases b1 with
  | false =>
    go_enter Tryd.func10, Tryd.ntmps10
    go_wp2_with fail
    refine (HR.out _ (HC.out.kept ((Kept.box _ _).newBlock _))).mono ?_
    rintro e w1 ⟨rfl, hk⟩
    have Hk := Lib.hid (((Kept.box _ _).newBlock _).then hk)
    have Hlbx := Lib.hid (hk.heapAt (heap_new2 w _ _))
    have hl1 := cell_at Hlbx.out 0
    have hlb1 : w.heap.size + 1 < w1.heap.size := lt_at Hlbx.out
    simp only [List.getElem?_toArray, List.getElem?_cons_zero] at hl1
    clear hk
    go_wp2_with fail
    go_ret2
    exact ⟨rfl, Hk.out⟩
  | true =>
    cases b2 with
    | false =>
      go_enter Tryd.func10, Tryd.ntmps10
      go_wp2_with fail
      refine (HR.out _ (HC.out.kept ((Kept.box _ _).newBlock _))).mono ?_
      rintro e w1 ⟨rfl, hk⟩
      have Hk := Lib.hid (((Kept.box _ _).newBlock _).then hk)
      have Hlbx := Lib.hid (hk.heapAt (heap_new2 w _ _))
      have hl1 := cell_at Hlbx.out 0
      have hlb1 : w.heap.size + 1 < w1.heap.size := lt_at Hlbx.out
      simp only [List.getElem?_toArray, List.getElem?_cons_zero] at hl1
      clear hk
      go_wp2_with fail
      refine (HA.out _ (HS.out.kept Hk.out)).mono ?_
      rintro e w2 ⟨rfl, hk⟩
      have Hk2 := Lib.hid (Hk.out.then hk)
      clear hk
      go_wp2_with fail
      go_ret2
      exact ⟨rfl, Hk2.out⟩
    | true =>
      go_enter Tryd.func10, Tryd.ntmps10
      go_wp2_with fail
      refine (HR.out _ (HC.out.kept ((Kept.box _ _).newBlock _))).mono ?_
      rintro e w1 ⟨rfl, hk⟩
      have Hcon := Lib.hid (hk.heapAt ((Kept.box _ _).heapAt (heap_new w _)))
      have Hk := Lib.hid (((Kept.box _ _).newBlock _).then hk)
      have Hlbx := Lib.hid (hk.heapAt (heap_new2 w _ _))
      have hl1 := cell_at Hlbx.out 0
      have hlb1 : w.heap.size + 1 < w1.heap.size := lt_at Hlbx.out
      simp only [List.getElem?_toArray, List.getElem?_cons_zero] at hl1
      clear hk
      go_wp2_with fail
      refine (HA.out _ (HS.out.kept Hk.out)).mono ?_
      rintro e w2 ⟨rfl, hk⟩
      have Hcon2 := Lib.hid (hk.heapAt Hcon.out)
      have Hlb2 := Lib.hid (hk.heapAt Hlbx.out)
      have Hk2 := Lib.hid (Hk.out.then hk)
      clear hl1 hlb1
      have hl2 := cell_at Hlb2.out 0
      have hlb2 : w.heap.size + 1 < w2.heap.size := lt_at Hlb2.out
      simp only [List.getElem?_toArray, List.getElem?_cons_zero] at hl2
      clear hk
      go_wp2_with fail
      clear hl2 hlb2
      go_loopw [6, 30] (fun u v wr => ∃ k : Nat, k ≤ n ∧ v = .int .i64 k ∧ Hid (OwnD wr w2.heap.size u (ds.take k)) ∧ Hid (Kept w2 wr)) (fun _ v _ => n - (intOf v).toNat)
      case atStart => exact ⟨0, Nat.zero_le _, rfl, OwnD.nil _ _, Kept.same _⟩
      case round =>
        obtain ⟨k, hk, rfl, HO, Hkw⟩ := hrel
        by_cases hlt : k < n
        · have hSr := HS.out.kept (Hk2.out.then Hkw.out)
          obtain ⟨a, rfl, hblk⟩ := hSr.addr (by omega)
          obtain ⟨xs, L, B, m, cB, Hd, hc1, hc2, HI, hL⟩ := hSr.named k hlt
          have Hmay : Hid (mayB xs L = true) := by
            have := allMay_at Hb2.out (show k < ds.length by have := Hlen.out; omega)
            have h2 := Hd.out
            unfold nilD at h2
            rw [h2] at this
            exact this
          have hm64 : m ≤ 100000 := by have := mayB_len Hmay.out; have := HI.out.len; omega
          obtain ⟨vs, hown, hd⟩ := HO.out
          have hkl : (ds.take k).length = k := by rw [List.length_take]; have := Hlen.out; omega
          rw [hkl] at hown hd
          have Hown := Lib.hid hown
          have Hdd := Lib.hid hd
          have Hul : Hid (∀ i, u6.ownBlock = some i → w2.heap.size ≤ i ∧ i < wr.heap.size) := hown.lt
          have hszr := Hkw.out.size
          obtain ⟨i0, hi, hz0, hz1, hz2⟩ := info_parts info_dom
          clear hSr hown hd
          go_wp2_with fail
          have hlow : wr.heap.size < (wr.alloc (.cells #[.slice B m cB, .int .u64 L] 47)).heap.size := by simp
          go_region_held3 (fun W => W.cell? ⟨wr.heap.size, 0, none⟩ = some (.slice B m cB) ∧ W.cell? ⟨wr.heap.size, 1, none⟩ = some (.int .u64 L)) (first | go_keep | (exact ⟨hkC.cellAt (box2_0 _ _ _ _), hkC.cellAt (box2_1 _ _ _ _)⟩) | (exact ⟨hgrow.cell ((Kept.box _ _).cellAt (hkC.cellAt (box2_0 _ _ _ _))) (fun e => by have := Hul.out _ e.symm; simp at this), hgrow.cell ((Kept.box _ _).cellAt (hkC.cellAt (box2_1 _ _ _ _))) (fun e => by have := Hul.out _ e.symm; simp at this)⟩))
            (first
              | (go_at_call 24; refine (clone_any B m cB xs _ (HI.out.kept ((Kept.box _ _).then (Kept.drewn _))) hm64).mono ?_; rintro e wC ⟨B', c', rfl, hIB, hkC, hfB⟩)
              | (refine step_append_lies _ (by rfl) _ _ _ (by rfl) w2.heap.size 47 i0 _ 2 32 Tryd.underlying25 hi hz0 hz1 hz2 rfl (by omega) u6 k vs (by rfl) (own_kept Hown.out ((((Kept.box _ _).then (Kept.drewn _)).then hkC).newBlock _)) ⟨wC.heap.size, 0, none⟩ 1 1 [.slice B' m c', .int .u64 L] (by rfl) (by rfl) (World.news_of_block (cs := #[.slice B' m c', .int .u64 L]) (t := 47) (fr := (0, 0)) (heap_alloc_new wC _)) (by simp [Value.oneCell']) (by omega) (by unfold maxLen; omega) (by omega) (by have := hkC.size; simp at this ⊢; omega) (wC.heap.size + 1) (by simp) ?_; intro gg cap w3 hown3 hgrow hat hlt3))
          go_wp2
          go_roundw
          case rel =>
            refine ⟨k + 1, by omega, by go_num, ?_, ?_⟩
            · show OwnD w3 _ _ _
              rw [take_dom (by have := Hlen.out; omega) Hd.out]
              have hk2 := ((Kept.box wr (.cells #[.slice B m cB, .int .u64 L] 47)).then (Kept.drewn _)).then hkC
              have := OwnD.snoc (ds := ds.take k) (d := (xs, L)) (w1 := wC.alloc (.cells #[.slice B' m c', .int .u64 L] 47)) (B := B') (m := m) (c := c') (by rw [hkl]; exact own_kept Hown.out (hk2.newBlock _)) ?_ (hIB.kept (Kept.box _ _)) ?_ hL (by rw [hkl]; exact hown3) hgrow ?_
              · rw [hkl] at this; exact this
              · rw [hkl]
                intro j hj
                obtain ⟨hl, B1, m1, c1', e1, e2, e3, e4⟩ := Hdd.out j hj
                exact ⟨hl, B1, m1, c1', e1, e2, e3.kept (hk2.newBlock _), e4⟩
              · intro _ a' ha'
                have h5 := hfB a' ha'
                have h6 : wr.heap.size + 1 ≤ a'.block := by simpa using h5
                exact fun e => by have := Hul.out _ e; omega
              · rcases hat with h | h
                · exact Or.inl h
                · exact Or.inr (by rw [h]; simp)
            · show Kept w2 w3
              have hk2 := ((Kept.box wr (.cells #[.slice B m cB, .int .u64 L] 47)).then (Kept.drewn _)).then hkC
              exact (Hkw.out.then (hk2.newBlock _)).grown hgrow (by have := Hkw.out.size; have := hkC.size; simp at this ⊢; omega) (fun i hi => (Hul.out i hi).1)
          case measure => simp [intOf]; omega
        · have e : k = n := by omega
          subst e
          have HOn : Hid (OwnD wr w2.heap.size u6 ds) := by
            have := HO.out
            rwa [List.take_of_length_le (by have := Hlen.out; omega)] at this
          clear HO HA HR
          have hso := linear_parts Hkk.out Hb1.out
          have Hso := Lib.hid hso
          have Hvo := Lib.hid (rightB_vars Hb1.out)
          have Hvl := Lib.hid HC.out.vars.len
          have Hcl := Lib.hid HC.out.coefs.len
          have hn12 : 1 ≤ n1 ∧ n1 ≤ 9 := by have := Hvl.out; have := hso.least; have := hso.most; omega
          have HKr := Lib.hid (Hk2.out.then Hkw.out)
          have hkp : 0 < k := by have h1 := varsOk_rng Hvo.out (i := 0) (by have := Hvl.out; omega); omega
          obtain ⟨A6, c6, rfl⟩ := HOn.out.parts
          obtain ⟨vs, hown, _⟩ := HOn.out
          obtain ⟨g, cap, hg, hgb, hglr⟩ := hown.form (by have := Hlen.out; omega)
          cases hg
          rw [Hlen.out] at HOn ⊢
          have hgw : w.heap.size ≤ g := by have := Hk2.out.size; omega
          have Hlx := Lib.hid (Hkw.out.heapAt Hlb2.out)
          have Hcx := Lib.hid (Hkw.out.heapAt Hcon2.out)
          have HW : Hid (∀ W, Kept wr W → Calls Tryd.prog 25 #[.slice A1 n1 c1, .func (.func 26) #[] #[.pointer (some ⟨w.heap.size + 1, 0, Option.none⟩)]] W fun e w' => e = .returned (.bool (wipedB C ds n1)) ∧ Kept W w') := fun W hW => by
            have h := lints_contains_any A1 n1 c1 C.vars (.pointer (some ⟨w.heap.size + 1, 0, Option.none⟩)) (emptyB ds) W (HC.out.vars.kept (HKr.out.then hW))
              (fun x W' hx hW' => by
                obtain ⟨i, hi, e⟩ := List.getElem_of_mem hx
                have h9 := varsOk_rng Hvo.out (i := i) hi
                rw [List.getD_eq_getElem?_getD, List.getElem?_eq_getElem hi] at h9
                simp only [Option.getD_some, e] at h9
                exact lin2_any x (w.heap.size + 1) A k c ds W' (by rw [cell_at (hW'.heapAt (hW.heapAt Hlx.out)) 0]; rfl) (HS.out.kept ((HKr.out.then hW).then hW')) h9.1 h9.2)
            rwa [wiped_any, Hvl.out] at h
          have Hrl : Hid ((stepB (linKp C ds) ds).length = k) := by show _ = _; rw [stepB_length]; exact Hlen.out
          have Hr1 : Hid (wipedB C ds n1 = true → stepB (varsKp C.vars (fun _ _ => false) n1) ds = stepB (linKp C ds) ds) := fun h => lin_wiped Hvl.out h
          have Hr2 : Hid (wipedB C ds n1 = false → stepB (varsKp C.vars (sumG C.coefs (lsV C.vars ds) n1 R C.const) n1) ds = stepB (linKp C ds) ds) := fun h => by
            have h9 := lin_sum (n1 := n1) Hvl.out Hkk.out h
            rw [HC.out.rel] at h9
            exact h9
          have H0 : Hid (wipedB C ds n1 = false → ∀ i, i < n1 → 0 < (leftOf C ds i).length) := fun h => wipedB_iff.1 h
          generalize wipedB C ds n1 = q at *
          have hb := Hcx.out
          have b0 := cell_at hb 0
          have b1 := cell_at hb 1
          have b2 := cell_at hb 2
          have b3 := cell_at hb 3
          have b4 := cell_at hb 4
          have b5 := cell_at hb 5
          simp only [List.getElem?_toArray, List.getElem?_cons_zero, List.getElem?_cons_succ] at b0 b1 b2 b3 b4 b5
          clear hb
          have hl3 := cell_at Hlx.out 0
          have hlb3 : w.heap.size + 1 < wr.heap.size := lt_at Hlx.out
          simp only [List.getElem?_toArray, List.getElem?_cons_zero] at hl3
          clear hown hso
          go_wp2_with fail
          refine (HW.out _ (Kept.same _)).mono ?_
          rintro e W3 ⟨rfl, hk3⟩
          have HK3 := Lib.hid (HKr.out.then hk3)
          have HO3 := Lib.hid (HOn.out.kept hk3)
          have Hcon3 := Lib.hid (hk3.heapAt Hcx.out)
          have Hlb3 := Lib.hid (hk3.heapAt Hlx.out)
          have hg3 : g < W3.heap.size := by have := hk3.size; omega
          clear b0 b1 b2 b3 b4 b5 hl3 hlb3 hk3 HW
          have hb := Hcon3.out
          have b0 := cell_at hb 0
          have b1 := cell_at hb 1
          have b2 := cell_at hb 2
          have b3 := cell_at hb 3
          have b4 := cell_at hb 4
          have b5 := cell_at hb 5
          simp only [List.getElem?_toArray, List.getElem?_cons_zero, List.getElem?_cons_succ] at b0 b1 b2 b3 b4 b5
          clear hb
          have hl3 := cell_at Hlb3.out 0
          have hlb3 : w.heap.size + 1 < W3.heap.size := lt_at Hlb3.out
          simp only [List.getElem?_toArray, List.getElem?_cons_zero] at hl3
          cases q with
          | true =>
            have Hres := Lib.hid (Hr1.out (by first | rfl | trivial))
            go_wp2_with fail
            refine (linnone_any 1 R Ct A1 A2 A3 n1 c1 n2 c2 n3 c3 C w2.heap.size g k c6 ds w W3 HC.out HT.out HK3.out hgw hg3 HO3.out Hlen.out Hb2.out Hvo.out (by omega)).mono ?_
            rintro e W4 ⟨rfl, hO4, hk4⟩
            rw [Hres.out] at hO4
            have HD := Lib.hid (hO4.doms Hrl.out (by omega))
            have HK4 := Lib.hid (((KeptBut.of HK3.out g).then hk4).kept hgw)
            clear hO4 hk4 b0 b1 b2 b3 b4 b5 hl3 hlb3 HO3 HOn
            generalize stepB (linKp C ds) ds = res at *
            go_wp2_with fail
            go_ret2
            exact ⟨_, c6, by rw [Hrl.out]; rfl, by rw [Hrl.out]; exact HD.out, HK4.out⟩
          | false =>
            have Hres := Lib.hid (Hr2.out (by first | rfl | trivial))
            have H00 := Lib.hid (H0.out (by first | rfl | trivial))
            go_wp2_with fail
            refine (linsum_any 1 R Ct A1 A2 A3 n1 c1 n2 c2 n3 c3 C A1 n1 c1 C.vars A k c ds R w2.heap.size g c6 w W3 HC.out HC.out.vars HS.out HT.out HK3.out hgw hg3 HO3.out Hb2.out (by have := Hcl.out; have := Hso.out.len; have := Hvl.out; omega) (by have := Hso.out.most; have := Hvl.out; omega) Hso.out.bnd Hvo.out H00.out (by have := Hso.out.rel0; rwa [HC.out.rel] at this) (by have := Hso.out.rel5; rwa [HC.out.rel] at this)).mono ?_
            rintro e W4 ⟨rfl, hO4, hk4⟩
            rw [Hres.out] at hO4
            have HD := Lib.hid (hO4.doms Hrl.out (by omega))
            have HK4 := Lib.hid (((KeptBut.of HK3.out g).then hk4).kept hgw)
            clear hO4 hk4 b0 b1 b2 b3 b4 b5 hl3 hlb3 HO3 HOn
            generalize stepB (linKp C ds) ds = res at *
            go_wp2_with fail
            go_ret2
            exact ⟨_, c6, by rw [Hrl.out]; rfl, by rw [Hrl.out]; exact HD.out, HK4.out⟩

theorem linstep3_any (K R Ct : Int) (A1 A2 A3 : Option Addr) (n1 c1 n2 c2 n3 c3 : Nat) (C : ConB) (A : Option Addr) (n c : Nat) (ds : List DomB) (w : World) (hC : ConIn w K R Ct A1 A2 A3 n1 c1 n2 c2 n3 c3 C) (hS : Doms w A n ds) (hT : Tab w) (hn : n ≤ 1000) (hK : K = 3) :
    Calls Tryd.prog 10 #[.agg #[.int .i64 K, .slice A1 n1 c1, .slice A2 n2 c2, .int .i64 R, .int .i64 Ct, .slice A3 n3 c3], .slice A n c] w (StepPost (if goK 3 C ds = true then some (stepB (linKp C ds) ds) else Option.none) w) := by
  subst hK
  have HC := Lib.hid hC
  have HS := Lib.hid hS
  have HT := Lib.hid hT
  have Hlen := Lib.hid hS.len
  have hKk := hC.kind
  clear hC hS hT
  have HR : Hid (∀ W, ConIn W 3 R Ct A1 A2 A3 n1 c1 n2 c2 n3 c3 C → Calls Tryd.prog 20 #[.agg #[.int .i64 3, .slice A1 n1 c1, .slice A2 n2 c2, .int .i64 R, .int .i64 Ct, .slice A3 n3 c3], .int .i64 n] W fun e w' => e = .returned (.bool (rightB C n)) ∧ Kept W w') := fun W hW => right3_any 3 R Ct A1 A2 A3 n1 c1 n2 c2 n3 c3 C n W hW rfl
  have HA : Hid (∀ W, Doms W A n ds → Calls Tryd.prog 21 #[.slice A n c, .func (.func 22) #[] #[]] W fun e w' => e = .returned (.bool (!allMay ds)) ∧ Kept W w') := fun W hW => lin_contains_any A n c ds W hW
  have Hgo : Hid (goK 3 C ds = (rightB C n && allMay ds)) := by
    show _ = _
    unfold goK; rw [hKk, Hlen.out]; simp
  generalize hb1 : rightB C n = b1 at HR Hgo
  generalize hb2 : allMay ds = b2 at HA Hgo
  have Hb1 := Lib.hid hb1
  have Hb2 := Lib.hid hb2
  have Hkk := Lib.hid hKk
  clear hb1 hb2 hKk
  rw [Hgo.out]
  clear Hgo
  cases b1 with
  | false =>
    go_enter Tryd.func10, Tryd.ntmps10
    go_wp2_with fail
    refine (HR.out _ (HC.out.kept ((Kept.box _ _).newBlock _))).mono ?_
    rintro e w1 ⟨rfl, hk⟩
    have Hk := Lib.hid (((Kept.box _ _).newBlock _).then hk)
    have Hlbx := Lib.hid (hk.heapAt (heap_new2 w _ _))
    have hl1 := cell_at Hlbx.out 0
    have hlb1 : w.heap.size + 1 < w1.heap.size := lt_at Hlbx.out
    simp only [List.getElem?_toArray, List.getElem?_cons_zero] at hl1
    clear hk
    go_wp2_with fail
    go_ret2
    exact ⟨rfl, Hk.out⟩
  | true =>
    cases b2 with
    | false =>
      go_enter Tryd.func10, Tryd.ntmps10
      go_wp2_with fail
      refine (HR.out _ (HC.out.kept ((Kept.box _ _).newBlock _))).mono ?_
      rintro e w1 ⟨rfl, hk⟩
      have Hk := Lib.hid (((Kept.box _ _).newBlock _).then hk)
      have Hlbx := Lib.hid (hk.heapAt (heap_new2 w _ _))
      have hl1 := cell_at Hlbx.out 0
      have hlb1 : w.heap.size + 1 < w1.heap.size := lt_at Hlbx.out
      simp only [List.getElem?_toArray, List.getElem?_cons_zero] at hl1
      clear hk
      go_wp2_with fail
      refine (HA.out _ (HS.out.kept Hk.out)).mono ?_
      rintro e w2 ⟨rfl, hk⟩
      have Hk2 := Lib.hid (Hk.out.then hk)
      clear hk
      go_wp2_with fail
      go_ret2
      exact ⟨rfl, Hk2.out⟩
    | true =>
      go_enter Tryd.func10, Tryd.ntmps10
      go_wp2_with fail
      refine (HR.out _ (HC.out.kept ((Kept.box _ _).newBlock _))).mono ?_
      rintro e w1 ⟨rfl, hk⟩
      have Hcon := Lib.hid (hk.heapAt ((Kept.box _ _).heapAt (heap_new w _)))
      have Hk := Lib.hid (((Kept.box _ _).newBlock _).then hk)
      have Hlbx := Lib.hid (hk.heapAt (heap_new2 w _ _))
      have hl1 := cell_at Hlbx.out 0
      have hlb1 : w.heap.size + 1 < w1.heap.size := lt_at Hlbx.out
      simp only [List.getElem?_toArray, List.getElem?_cons_zero] at hl1
      clear hk
      go_wp2_with fail
      refine (HA.out _ (HS.out.kept Hk.out)).mono ?_
      rintro e w2 ⟨rfl, hk⟩
      have Hcon2 := Lib.hid (hk.heapAt Hcon.out)
      have Hlb2 := Lib.hid (hk.heapAt Hlbx.out)
      have Hk2 := Lib.hid (Hk.out.then hk)
      clear hl1 hlb1
      have hl2 := cell_at Hlb2.out 0
      have hlb2 : w.heap.size + 1 < w2.heap.size := lt_at Hlb2.out
      simp only [List.getElem?_toArray, List.getElem?_cons_zero] at hl2
      clear hk
      go_wp2_with fail
      clear hl2 hlb2
      go_loopw [6, 30] (fun u v wr => ∃ k : Nat, k ≤ n ∧ v = .int .i64 k ∧ Hid (OwnD wr w2.heap.size u (ds.take k)) ∧ Hid (Kept w2 wr)) (fun _ v _ => n - (intOf v).toNat)
      case atStart => exact ⟨0, Nat.zero_le _, rfl, OwnD.nil _ _, Kept.same _⟩
      case round =>
        obtain ⟨k, hk, rfl, HO, Hkw⟩ := hrel
        by_cases hlt : k < n
        · have hSr := HS.out.kept (Hk2.out.then Hkw.out)
          obtain ⟨a, rfl, hblk⟩ := hSr.addr (by omega)
          obtain ⟨xs, L, B, m, cB, Hd, hc1, hc2, HI, hL⟩ := hSr.named k hlt
          have Hmay : Hid (mayB xs L = true) := by
            have := allMay_at Hb2.out (show k < ds.length by have := Hlen.out; omega)
            have h2 := Hd.out
            unfold nilD at h2
            rw [h2] at this
            exact this
          have hm64 : m ≤ 100000 := by have := mayB_len Hmay.out; have := HI.out.len; omega
          obtain ⟨vs, hown, hd⟩ := HO.out
          have hkl : (ds.take k).length = k := by rw [List.length_take]; have := Hlen.out; omega
          rw [hkl] at hown hd
          have Hown := Lib.hid hown
          have Hdd := Lib.hid hd
          have Hul : Hid (∀ i, u6.ownBlock = some i → w2.heap.size ≤ i ∧ i < wr.heap.size) := hown.lt
          have hszr := Hkw.out.size
          obtain ⟨i0, hi, hz0, hz1, hz2⟩ := info_parts info_dom
          clear hSr hown hd
          go_wp2_with fail
          have hlow : wr.heap.size < (wr.alloc (.cells #[.slice B m cB, .int .u64 L] 47)).heap.size := by simp
          go_region_held3 (fun W => W.cell? ⟨wr.heap.size, 0, none⟩ = some (.slice B m cB) ∧ W.cell? ⟨wr.heap.size, 1, none⟩ = some (.int .u64 L)) (first | go_keep | (exact ⟨hkC.cellAt (box2_0 _ _ _ _), hkC.cellAt (box2_1 _ _ _ _)⟩) | (exact ⟨hgrow.cell ((Kept.box _ _).cellAt (hkC.cellAt (box2_0 _ _ _ _))) (fun e => by have := Hul.out _ e.symm; simp at this), hgrow.cell ((Kept.box _ _).cellAt (hkC.cellAt (box2_1 _ _ _ _))) (fun e => by have := Hul.out _ e.symm; simp at this)⟩))
            (first
              | (go_at_call 24; refine (clone_any B m cB xs _ (HI.out.kept ((Kept.box _ _).then (Kept.drewn _))) hm64).mono ?_; rintro e wC ⟨B', c', rfl, hIB, hkC, hfB⟩)
              | (refine step_append_lies _ (by rfl) _ _ _ (by rfl) w2.heap.size 47 i0 _ 2 32 Tryd.underlying25 hi hz0 hz1 hz2 rfl (by omega) u6 k vs (by rfl) (own_kept Hown.out ((((Kept.box _ _).then (Kept.drewn _)).then hkC).newBlock _)) ⟨wC.heap.size, 0, none⟩ 1 1 [.slice B' m c', .int .u64 L] (by rfl) (by rfl) (World.news_of_block (cs := #[.slice B' m c', .int .u64 L]) (t := 47) (fr := (0, 0)) (heap_alloc_new wC _)) (by simp [Value.oneCell']) (by omega) (by unfold maxLen; omega) (by omega) (by have := hkC.size; simp at this ⊢; omega) (wC.heap.size + 1) (by simp) ?_; intro gg cap w3 hown3 hgrow hat hlt3))
          go_wp2
          go_roundw
          case rel =>
            refine ⟨k + 1, by omega, by go_num, ?_, ?_⟩
            · show OwnD w3 _ _ _
              rw [take_dom (by have := Hlen.out; omega) Hd.out]
              have hk2 := ((Kept.box wr (.cells #[.slice B m cB, .int .u64 L] 47)).then (Kept.drewn _)).then hkC
              have := OwnD.snoc (ds := ds.take k) (d := (xs, L)) (w1 := wC.alloc (.cells #[.slice B' m c', .int .u64 L] 47)) (B := B') (m := m) (c := c') (by rw [hkl]; exact own_kept Hown.out (hk2.newBlock _)) ?_ (hIB.kept (Kept.box _ _)) ?_ hL (by rw [hkl]; exact hown3) hgrow ?_
              · rw [hkl] at this; exact this
              · rw [hkl]
                intro j hj
                obtain ⟨hl, B1, m1, c1', e1, e2, e3, e4⟩ := Hdd.out j hj
                exact ⟨hl, B1, m1, c1', e1, e2, e3.kept (hk2.newBlock _), e4⟩
              · intro _ a' ha'
                have h5 := hfB a' ha'
                have h6 : wr.heap.size + 1 ≤ a'.block := by simpa using h5
                exact fun e => by have := Hul.out _ e; omega
              · rcases hat with h | h
                · exact Or.inl h
                · exact Or.inr (by rw [h]; simp)
            · show Kept w2 w3
              have hk2 := ((Kept.box wr (.cells #[.slice B m cB, .int .u64 L] 47)).then (Kept.drewn _)).then hkC
              exact (Hkw.out.then (hk2.newBlock _)).grown hgrow (by have := Hkw.out.size; have := hkC.size; simp at this ⊢; omega) (fun i hi => (Hul.out i hi).1)
          case measure => simp [intOf]; omega
        · have e : k = n := by omega
          subst e
          have HOn : Hid (OwnD wr w2.heap.size u6 ds) := by
            have := HO.out
            rwa [List.take_of_length_le (by have := Hlen.out; omega)] at this
          clear HO HA HR
          have hso := iff_parts Hkk.out Hb1.out
          have Hso := Lib.hid hso
          have Hvo := Lib.hid (rightB_vars Hb1.out)
          have Hvl := Lib.hid HC.out.vars.len
          have Hcl := Lib.hid HC.out.coefs.len
          have hn12 : 1 ≤ n1 ∧ n1 ≤ 9 := by have := Hvl.out; have := hso.least; have := hso.most; omega
          have HKr := Lib.hid (Hk2.out.then Hkw.out)
          have hkp : 0 < k := by have h1 := varsOk_rng Hvo.out (i := 0) (by have := Hvl.out; omega); omega
          obtain ⟨A6, c6, rfl⟩ := HOn.out.parts
          obtain ⟨vs, hown, _⟩ := HOn.out
          obtain ⟨g, cap, hg, hgb, hglr⟩ := hown.form (by have := Hlen.out; omega)
          cases hg
          rw [Hlen.out] at HOn ⊢
          have hgw : w.heap.size ≤ g := by have := Hk2.out.size; omega
          have Hlx := Lib.hid (Hkw.out.heapAt Hlb2.out)
          have Hcx := Lib.hid (Hkw.out.heapAt Hcon2.out)
          have HW : Hid (∀ W, Kept wr W → Calls Tryd.prog 25 #[.slice A1 n1 c1, .func (.func 26) #[] #[.pointer (some ⟨w.heap.size + 1, 0, Option.none⟩)]] W fun e w' => e = .returned (.bool (wipedB C ds n1)) ∧ Kept W w') := fun W hW => by
            have h := lints_contains_any A1 n1 c1 C.vars (.pointer (some ⟨w.heap.size + 1, 0, Option.none⟩)) (emptyB ds) W (HC.out.vars.kept (HKr.out.then hW))
              (fun x W' hx hW' => by
                obtain ⟨i, hi, e⟩ := List.getElem_of_mem hx
                have h9 := varsOk_rng Hvo.out (i := i) hi
                rw [List.getD_eq_getElem?_getD, List.getElem?_eq_getElem hi] at h9
                simp only [Option.getD_some, e] at h9
                exact lin2_any x (w.heap.size + 1) A k c ds W' (by rw [cell_at (hW'.heapAt (hW.heapAt Hlx.out)) 0]; rfl) (HS.out.kept ((HKr.out.then hW).then hW')) h9.1 h9.2)
            rwa [wiped_any, Hvl.out] at h
          have Hrl : Hid ((stepB (linKp C ds) ds).length = k) := by show _ = _; rw [stepB_length]; exact Hlen.out
          have Hr1 : Hid (wipedB C ds n1 = true → stepB (varsKp C.vars (fun _ _ => false) n1) ds = stepB (linKp C ds) ds) := fun h => lin_wiped Hvl.out h
          have Hr2 : Hid (wipedB C ds n1 = false → stepB (varsKp C.vars (iffG C ds) n1) ds = stepB (linKp C ds) ds) := fun h => by
            have h9 := lin_iff (n1 := n1) Hvl.out Hkk.out h
            exact h9
          have H0 : Hid (wipedB C ds n1 = false → ∀ i, i < n1 → 0 < (leftOf C ds i).length) := fun h => wipedB_iff.1 h
          generalize wipedB C ds n1 = q at *
          have hb := Hcx.out
          have b0 := cell_at hb 0
          have b1 := cell_at hb 1
          have b2 := cell_at hb 2
          have b3 := cell_at hb 3
          have b4 := cell_at hb 4
          have b5 := cell_at hb 5
          simp only [List.getElem?_toArray, List.getElem?_cons_zero, List.getElem?_cons_succ] at b0 b1 b2 b3 b4 b5
          clear hb
          have hl3 := cell_at Hlx.out 0
          have hlb3 : w.heap.size + 1 < wr.heap.size := lt_at Hlx.out
          simp only [List.getElem?_toArray, List.getElem?_cons_zero] at hl3
          clear hown hso
          go_wp2_with fail
          refine (HW.out _ (Kept.same _)).mono ?_
          rintro e W3 ⟨rfl, hk3⟩
          have HK3 := Lib.hid (HKr.out.then hk3)
          have HO3 := Lib.hid (HOn.out.kept hk3)
          have Hcon3 := Lib.hid (hk3.heapAt Hcx.out)
          have Hlb3 := Lib.hid (hk3.heapAt Hlx.out)
          have hg3 : g < W3.heap.size := by have := hk3.size; omega
          clear b0 b1 b2 b3 b4 b5 hl3 hlb3 hk3 HW
          have hb := Hcon3.out
          have b0 := cell_at hb 0
          have b1 := cell_at hb 1
          have b2 := cell_at hb 2
          have b3 := cell_at hb 3
          have b4 := cell_at hb 4
          have b5 := cell_at hb 5
          simp only [List.getElem?_toArray, List.getElem?_cons_zero, List.getElem?_cons_succ] at b0 b1 b2 b3 b4 b5
          clear hb
          have hl3 := cell_at Hlb3.out 0
          have hlb3 : w.heap.size + 1 < W3.heap.size := lt_at Hlb3.out
          simp only [List.getElem?_toArray, List.getElem?_cons_zero] at hl3
          cases q with
          | true =>
            have Hres := Lib.hid (Hr1.out (by first | rfl | trivial))
            go_wp2_with fail
            refine (linnone_any 3 R Ct A1 A2 A3 n1 c1 n2 c2 n3 c3 C w2.heap.size g k c6 ds w W3 HC.out HT.out HK3.out hgw hg3 HO3.out Hlen.out Hb2.out Hvo.out (by omega)).mono ?_
            rintro e W4 ⟨rfl, hO4, hk4⟩
            rw [Hres.out] at hO4
            have HD := Lib.hid (hO4.doms Hrl.out (by omega))
            have HK4 := Lib.hid (((KeptBut.of HK3.out g).then hk4).kept hgw)
            clear hO4 hk4 b0 b1 b2 b3 b4 b5 hl3 hlb3 HO3 HOn
            generalize stepB (linKp C ds) ds = res at *
            go_wp2_with fail
            go_ret2
            exact ⟨_, c6, by rw [Hrl.out]; rfl, by rw [Hrl.out]; exact HD.out, HK4.out⟩
          | false =>
            have Hres := Lib.hid (Hr2.out (by first | rfl | trivial))
            have H00 := Lib.hid (H0.out (by first | rfl | trivial))
            go_wp2_with fail
            refine (liniff_any 3 R Ct A1 A2 A3 n1 c1 n2 c2 n3 c3 C A k c ds w2.heap.size g c6 w W3 HC.out HS.out HT.out HK3.out hgw hg3 HO3.out Hb2.out Hso.out Hvo.out H00.out (by omega)).mono ?_
            rintro e W4 ⟨rfl, hO4, hk4⟩
            rw [Hres.out] at hO4
            have HD := Lib.hid (hO4.doms Hrl.out (by omega))
            have HK4 := Lib.hid (((KeptBut.of HK3.out g).then hk4).kept hgw)
            clear hO4 hk4 b0 b1 b2 b3 b4 b5 hl3 hlb3 HO3 HOn
            generalize stepB (linKp C ds) ds = res at *
            go_wp2_with fail
            go_ret2
            exact ⟨_, c6, by rw [Hrl.out]; rfl, by rw [Hrl.out]; exact HD.out, HK4.out⟩

theorem linGo_k {C : ConB} {ds : List DomB} {K : Int} (hk : C.kind = K) (h : K = 1 ∨ K = 3) : linGo C ds = goK K C ds := by
  unfold linGo goK
  rw [hk]
  rcases h with rfl | rfl <;> simp
theorem linstep_law (K R Ct : Int) (A1 A2 A3 : Option Addr) (n1 c1 n2 c2 n3 c3 : Nat) (C : ConB) (A : Option Addr) (n c : Nat) (ds : List DomB) (w : World) (hC : ConIn w K R Ct A1 A2 A3 n1 c1 n2 c2 n3 c3 C) (hS : Doms w A n ds) (hT : Tab w) (hn : n ≤ 1000) :
    Calls Tryd.prog 10 #[.agg #[.int .i64 K, .slice A1 n1 c1, .slice A2 n2 c2, .int .i64 R, .int .i64 Ct, .slice A3 n3 c3], .slice A n c] w (StepPost (if linGo C ds = true then some (stepB (linKp C ds) ds) else Option.none) w) := by
  by_cases g1 : K = 1
  · rw [linGo_k hC.kind (.inl g1)]
    subst g1
    exact linstep1_any 1 R Ct A1 A2 A3 n1 c1 n2 c2 n3 c3 C A n c ds w hC hS hT hn rfl
  by_cases g3 : K = 3
  · rw [linGo_k hC.kind (.inr g3)]
    subst g3
    exact linstep3_any 3 R Ct A1 A2 A3 n1 c1 n2 c2 n3 c3 C A n c ds w hC hS hT hn rfl
  have hgo : linGo C ds = false := linGo_not (fun h => by rw [hC.kind] at h; omega)
  rw [hgo]
  have hd1 : (K != 1) = true := by simpa using g1
  have hd3 : (K != 3) = true := by simpa using g3
  clear hC hS hT hn g1 g3 hgo
  go_enter Tryd.func10, Tryd.ntmps10
  go_wp2_with fail
  go_ret2
  exact ⟨rfl, (Kept.box _ _).newBlock _⟩
end Go.Proofs.YtekcenacpklpgaaDoor

set_option maxHeartbeats 1000000
set_option maxRecDepth 10000
namespace Go.Proofs.YtekcenacpklpgaaDoor
open Go Go.RowKit Pl

theorem heap_newAt {w : World} {o : Obj} {n : Nat} (hn : n = w.heap.size) : (w.alloc o).heap[n]? = some o := by subst hn; exact heap_new w o
theorem Doms.of_heap {w : World} {O n : Nat} {cs : Array Value} {t : TypeId} {fr : Nat × Nat} {ds : List DomB} (h : w.heap[O]? = some (.cells cs t fr)) (hn : ds.length = n) (hs : n ≤ 1000) (hl : ∀ j, j < n → (ds.getD j nilD).2 < 2 ^ 64)
    (hd : ∀ j, j < n → ∃ B m c, cs[j * 2]? = some (.slice B m c) ∧ cs[j * 2 + 1]? = some (.int .u64 ((ds.getD j nilD).2 : Nat)) ∧ Ints w B m (ds.getD j nilD).1) : Doms w (some ⟨O, 0, Option.none⟩) n ds :=
  ⟨hn, by omega, hl, fun _ => ⟨_, rfl, fun j hj => by
    obtain ⟨B, m, c, h1, h2, h3⟩ := hd j hj
    refine ⟨B, m, c, ?_, ?_, h3⟩
    · rw [add_plain, Nat.zero_add, cell_at h]; exact h1
    · rw [add_plain, Nat.zero_add, cell_at h]; exact h2⟩⟩
theorem Doms.plain {w : World} {A : Option Addr} {n : Nat} {ds : List DomB} (h : Doms w A n ds) (hn : 0 < n) : ∃ b off, A = some ⟨b, off, Option.none⟩ ∧ ∀ j, j < n → w.cell? ⟨b, off + j * 2 + 1, Option.none⟩ = some (.int .u64 ((ds.getD j nilD).2 : Nat)) := by
  obtain ⟨a, rfl, hc⟩ := h.cell hn
  obtain ⟨_, _, _, h0, _, _⟩ := hc 0 hn
  have e0 : a.add (0 * 2) = a := by unfold Addr.add; simp
  rw [e0] at h0
  have hp := plain_of_cell h0
  refine ⟨a.block, a.off, by rw [← hp], fun j hj => ?_⟩
  obtain ⟨_, _, _, _, h2, _⟩ := hc j hj
  rw [hp, add_plain] at h2
  exact h2

/-- Blocks laid one behind the other. -/
def allocs (w : World) (os : List Obj) : World := os.foldl World.alloc w
theorem heap_allocs : ∀ (os : List Obj) (w : World) (k : Nat) (o : Obj), os[k]? = some o → (allocs w os).heap[w.heap.size + k]? = some o ∧ Kept w (allocs w os)
  | [], w, k, o, h => by simp at h
  | x :: os, w, 0, o, h => by
    have e : x = o := by simpa using h
    subst e
    have hk : Kept (w.alloc x) (allocs (w.alloc x) os) := kept_allocs os _
    exact ⟨hk.heapAt (heap_new w x), (Kept.box w x).then hk⟩
  | x :: os, w, k + 1, o, h => by
    have h' : os[k]? = some o := by simpa using h
    obtain ⟨h1, h2⟩ := heap_allocs os (w.alloc x) k o h'
    rw [World.size_alloc] at h1
    refine ⟨?_, (Kept.box w x).then h2⟩
    have e : w.heap.size + (k + 1) = w.heap.size + 1 + k := by omega
    rw [e]
    exact h1
where kept_allocs : ∀ (os : List Obj) (w : World), Kept w (allocs w os)
  | [], w => Kept.same w
  | x :: os, w => (Kept.box w x).then (kept_allocs os (w.alloc x))

end Go.Proofs.YtekcenacpklpgaaDoor

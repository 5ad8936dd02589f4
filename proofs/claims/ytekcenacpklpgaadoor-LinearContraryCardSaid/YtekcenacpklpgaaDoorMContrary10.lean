/-
  Contracts and plain laws that the card rests on, part 10.
-/
import Derived.Test.YtekcenacpklpgaaDoorMContrary9
import Derived.Test.YtekcenacpklpgaaDoorMContrary8
import Derived.Lib.MinMax
import Derived.Test.YtekcenacpklpgaaDoorMContrary3
import Derived.Test.YtekcenacpklpgaaDoorMContrary6
import Derived.Test.YtekcenacpklpgaaDoorMContrary5
import Derived.Maps.OwnOps
import Derived.StillTailTactics
set_option maxHeartbeats 1000000
set_option maxRecDepth 10000
namespace Go.Proofs.YtekcenacpklpgaaDoor
open Go Go.RowKit Pl

theorem lincontrary_any (rel : Int) (w : World) : Calls Tryd.prog 19 #[.int .i64 rel] w fun e w' => e = .returned (.int .i64 (contraB rel)) ∧ w = w' := by
  go_enter Tryd.func19, Tryd.ntmps19
  go_wp2
  all_goals
    go_ret
    refine ⟨ret_i64 ?_, rfl⟩
    simp only [beq_iff_eq, beq_eq_false_iff_ne] at *
    unfold contraB
    repeat (first | rw [if_pos (by assumption)] | rw [if_neg (by assumption)])
    try omega

theorem sumsholds_any (a rel b : Int) (w : World) (h0 : 0 ≤ rel) (h5 : rel ≤ 5) :
    Calls Tryd.prog 78 #[.int .i64 a, .int .i64 rel, .int .i64 b] w fun e w' => e = .returned (.bool (relB a rel b)) ∧ w = w' := by
  have hr : rel = 0 ∨ rel = 1 ∨ rel = 2 ∨ rel = 3 ∨ rel = 4 ∨ rel = 5 := by omega
  rcases hr with rfl | rfl | rfl | rfl | rfl | rfl
  all_goals
    go_enter Tryd.func78, Tryd.ntmps78
    go_wp2
    go_ret
    refine ⟨ret_bool ?_, rfl⟩
    unfold relB
    rw [Bool.eq_iff_iff]
    simp

theorem endsmay1_any (n rel c : Int) (Br Bc : Nat) (w : World) (h0 : 0 ≤ rel) (h5 : rel ≤ 5) (hr : w.cell? ⟨Br, 0, Option.none⟩ = some (.int .i64 rel)) (hc : w.cell? ⟨Bc, 0, Option.none⟩ = some (.int .i64 c)) :
    Calls Tryd.prog 77 #[.int .i64 n, .pointer (some ⟨Br, 0, Option.none⟩), .pointer (some ⟨Bc, 0, Option.none⟩)] w fun e w' => e = .returned (.bool (relB n rel c)) ∧ w = w' := by
  go_enter Tryd.func77, Tryd.ntmps77
  go_wp2_with (go_at_call 78; refine (sumsholds_any _ _ _ _ h0 h5).mono ?_; rintro e w' ⟨rfl, rfl⟩)
  go_ret
  exact ⟨rfl, rfl⟩

theorem mayL_ne (lo hi c : Int) : mayL lo hi 1 c = (relB lo 1 c || relB hi 1 c) := by unfold mayL relB; simp
theorem mayL_hi (lo hi rel c : Int) (h : rel = 4 ∨ rel = 5) : mayL lo hi rel c = relB hi rel c := by
  rcases h with rfl | rfl <;> (unfold mayL relB; simp)
theorem mayL_lo (lo hi rel c : Int) (h : rel = 2 ∨ rel = 3) : mayL lo hi rel c = relB lo rel c := by
  rcases h with rfl | rfl <;> (unfold mayL relB; simp)
theorem mayL_eq (lo hi c : Int) : mayL lo hi 0 c = (decide (lo ≤ c) && decide (c ≤ hi)) := by unfold mayL; simp

theorem endsmay_any (lo hi rel c : Int) (w : World) (h0 : 0 ≤ rel) (h5 : rel ≤ 5) :
    Calls Tryd.prog 62 #[.agg #[.int .i64 lo, .int .i64 hi], .int .i64 rel, .int .i64 c] w fun e w' => e = .returned (.bool (mayL lo hi rel c)) ∧ Kept w w' := by
  have HK : Hid (Kept w (((w.alloc (.cells #[.int .i64 lo, .int .i64 hi] 86)).alloc (.cells #[.int .i64 rel] 3)).alloc (.cells #[.int .i64 c] 3))) := ((Kept.box _ _).newBlock _).newBlock _
  have HQ : Hid (∀ n, Calls Tryd.prog 77 #[.int .i64 n, .pointer (some ⟨w.heap.size + 1, 0, Option.none⟩), .pointer (some ⟨w.heap.size + 1 + 1, 0, Option.none⟩)] (((w.alloc (.cells #[.int .i64 lo, .int .i64 hi] 86)).alloc (.cells #[.int .i64 rel] 3)).alloc (.cells #[.int .i64 c] 3)) fun e w' => e = .returned (.bool (relB n rel c)) ∧ (((w.alloc (.cells #[.int .i64 lo, .int .i64 hi] 86)).alloc (.cells #[.int .i64 rel] 3)).alloc (.cells #[.int .i64 c] 3)) = w') := fun n =>
    endsmay1_any n rel c _ _ _ h0 h5 ((Kept.box _ _).cellAt (by rw [cell_at (heap_new2 _ _ _) 0]; rfl)) (by rw [cell_at (heap_new3 _ _ _ _) 0]; rfl)
  have hr : rel = 0 ∨ rel = 1 ∨ (rel = 2 ∨ rel = 3) ∨ (rel = 4 ∨ rel = 5) := by omega
  rcases hr with rfl | rfl | hr | hr
  · rw [mayL_eq]
    by_cases g1 : lo ≤ c
    · have hd : decide (lo ≤ c) = true := by simp [g1]
      go_enter Tryd.func62, Tryd.ntmps62
      go_wp2_with fail
      go_ret
      exact ⟨ret_bool (by rw [hd]; rfl), HK.out⟩
    · have hd : decide (lo ≤ c) = false := by simp; omega
      go_enter Tryd.func62, Tryd.ntmps62
      go_wp2_with fail
      go_ret
      exact ⟨ret_bool (by first | rfl | (rw [hd]; rfl)), HK.out⟩
  · rw [mayL_ne]
    have HQl := Lib.hid (HQ.out lo)
    have HQh := Lib.hid (HQ.out hi)
    clear HQ
    generalize relB lo 1 c = b1 at *
    generalize relB hi 1 c = b2 at *
    cases b1 with
    | true =>
      go_enter Tryd.func62, Tryd.ntmps62
      go_wp2_with (go_at_call 77; refine HQl.out.mono ?_; rintro e w' ⟨rfl, rfl⟩)
      go_ret
      exact ⟨rfl, HK.out⟩
    | false =>
      have tok : True := trivial
      go_enter Tryd.func62, Tryd.ntmps62
      go_wp2_with (go_at_call 77; first | (have _t := tok; refine HQl.out.mono ?_; rintro e w' ⟨rfl, rfl⟩; clear tok) | (refine HQh.out.mono ?_; rintro e w' ⟨rfl, rfl⟩))
      go_ret
      exact ⟨rfl, HK.out⟩
  · rw [mayL_lo _ _ _ _ hr]
    rcases hr with rfl | rfl
    all_goals
      go_enter Tryd.func62, Tryd.ntmps62
      go_wp2_with (go_at_call 77; refine (HQ.out lo).mono ?_; rintro e w' ⟨rfl, rfl⟩)
      go_ret
      exact ⟨rfl, HK.out⟩
  · rw [mayL_hi _ _ _ _ hr]
    rcases hr with rfl | rfl
    all_goals
      go_enter Tryd.func62, Tryd.ntmps62
      go_wp2_with (go_at_call 77; refine (HQ.out hi).mono ?_; rintro e w' ⟨rfl, rfl⟩)
      go_ret
      exact ⟨rfl, HK.out⟩

theorem mul_small {n x : Int} (hn : -1048576 ≤ n ∧ n ≤ 1048576) (hx : -1048576 ≤ x ∧ x ≤ 1048576) : -1099511627776 ≤ n * x ∧ n * x ≤ 1099511627776 := by
  have h1 : n * x ≤ 1048576 * 1048576 ∧ -(1048576 * 1048576) ≤ n * x := by
    constructor
    · by_cases h : 0 ≤ n
      · have a := Int.mul_le_mul_of_nonneg_left hx.2 h
        have b := Int.mul_le_mul_of_nonneg_right hn.2 (show (0 : Int) ≤ 1048576 by decide)
        omega
      · have a := Int.mul_le_mul_of_nonpos_left (a := n) (by omega) hx.1
        have b : n * -1048576 ≤ 1048576 * 1048576 := by omega
        omega
    · by_cases h : 0 ≤ n
      · have a := Int.mul_le_mul_of_nonneg_left hx.1 h
        have b : -(1048576 * 1048576) ≤ n * -1048576 := by omega
        omega
      · have a := Int.mul_le_mul_of_nonpos_left (a := n) (by omega) hx.2
        have b : -(1048576 * 1048576) ≤ n * 1048576 := by omega
        omega
  omega
theorem mn_rng {n : Int} {l : List Int} (hn : -1048576 ≤ n ∧ n ≤ 1048576) (hl : ∀ x ∈ l, -1048576 ≤ x ∧ x ≤ 1048576) (h0 : 0 < l.length) : -1099511627776 ≤ mnB n l ∧ mxB n l ≤ 1099511627776 := by
  obtain ⟨a1, a2⟩ := head_mem h0
  have b1 := mul_small hn (hl _ a1)
  have b2 := mul_small hn (hl _ a2)
  unfold mnB mxB
  omega

theorem endsplus_any (lo hi n sg : Int) (a : Addr) (m c L : Nat) (xs : List Int) (w : World) (hS : Ints w (some a) m xs) (hL : L < 2 ^ 64) (hT : Tab w) (hm : mayB xs L = true) (h0 : 0 < (listB xs L).length)
    (hn : -1048576 ≤ n ∧ n ≤ 1048576) (hlo : -35184372088832 ≤ lo ∧ lo ≤ 35184372088832) (hhi : -35184372088832 ≤ hi ∧ hi ≤ 35184372088832) (hsg : sg = 1 ∨ sg = -1) :
    Calls Tryd.prog 60 #[.agg #[.int .i64 lo, .int .i64 hi], .int .i64 n, .agg #[.slice (some a) m c, .int .u64 L], .int .i64 sg] w
      fun e w' => e = .returned (.agg #[.int .i64 (lo + sg * mnB n (listB xs L)), .int .i64 (hi + sg * mxB n (listB xs L))]) ∧ Kept w w' := by
  have HLe : Hid (∀ W, Kept w W → Calls Tryd.prog 75 #[.agg #[.slice (some a) m c, .int .u64 L]] W fun e w' => e = .returned (.tuple #[.int .i64 ((listB xs L).getD 0 0), .bool true]) ∧ Kept W w') := fun W hW => least_dom a m c L xs W (hS.kept hW) hL (hT.kept hW) hm h0
  have HGr : Hid (∀ W, Kept w W → Calls Tryd.prog 76 #[.agg #[.slice (some a) m c, .int .u64 L]] W fun e w' => e = .returned (.tuple #[.int .i64 ((listB xs L).getD ((listB xs L).length - 1) 0), .bool true]) ∧ Kept W w') := fun W hW => greatest_dom a m c L xs W (hS.kept hW) hL hm h0
  have hrx := listB_rng xs L
  obtain ⟨a1, a2⟩ := head_mem h0
  have r1 := hrx _ a1
  have r2 := hrx _ a2
  unfold mnB mxB
  generalize (listB xs L).getD 0 0 = x at *
  generalize (listB xs L).getD ((listB xs L).length - 1) 0 = y at *
  have b1 := mul_small hn r1
  have b2 := mul_small hn r2
  obtain ⟨p, hp⟩ : ∃ p, p = n * x := ⟨_, rfl⟩
  obtain ⟨q, hq⟩ : ∃ q, q = n * y := ⟨_, rfl⟩
  rw [← hp] at b1
  rw [← hq] at b2
  have e1 : IntKind.i64.wrap (n * x) = p := by rw [← hp]; exact IntWalk.i64_in _ (by omega)
  have e2 : IntKind.i64.wrap (n * y) = q := by rw [← hq]; exact IntWalk.i64_in _ (by omega)
  obtain ⟨s, hs⟩ : ∃ s, s = sg * min p q := ⟨_, rfl⟩
  obtain ⟨t, ht⟩ : ∃ t, t = sg * max p q := ⟨_, rfl⟩
  have hsm : -1099511627776 ≤ s ∧ s ≤ 1099511627776 := by rw [hs]; rcases hsg with rfl | rfl <;> omega
  have hsx : -1099511627776 ≤ t ∧ t ≤ 1099511627776 := by rw [ht]; rcases hsg with rfl | rfl <;> omega
  have e3 : IntKind.i64.wrap (sg * min p q) = s := by rw [← hs]; exact IntWalk.i64_in _ (by omega)
  have e4 : IntKind.i64.wrap (sg * max p q) = t := by rw [← ht]; exact IntWalk.i64_in _ (by omega)
  have hlo1 := hlo.1
  have hlo2 := hlo.2
  have hhi1 := hhi.1
  have hhi2 := hhi.2
  have hs1 := hsm.1
  have hs2 := hsm.2
  have ht1 := hsx.1
  have ht2 := hsx.2
  rw [← hp, ← hq, ← hs, ← ht]
  clear hp hq hs ht b1 b2 hsm hsx hlo hhi
  clear hS hT hm h0 hrx a1 a2 r1 r2 hsg hn
  go_enter Tryd.func60, Tryd.ntmps60
  go_wp2_with fail
  refine (HLe.out _ (((Kept.box _ _).newBlock _).newBlock _)).mono ?_
  rintro e w1 ⟨rfl, hk⟩
  have HE1 := Lib.hid (hk.heapAt ((Kept.box _ _).heapAt ((Kept.box _ _).heapAt (heap_new w (.cells #[.int .i64 lo, .int .i64 hi] 86)))))
  have HD1 := Lib.hid (hk.heapAt ((Kept.box _ _).heapAt (heap_new2 w (.cells #[.int .i64 lo, .int .i64 hi] 86) (.cells #[.slice (some a) m c, .int .u64 L] 47))))
  have HR1 := Lib.hid (hk.heapAt (heap_new3 w (.cells #[.int .i64 lo, .int .i64 hi] 86) (.cells #[.slice (some a) m c, .int .u64 L] 47) (.cells #[.int .i64 0, .int .i64 0] 86)))
  have Hk1 := Lib.hid ((((Kept.box _ _).newBlock _).newBlock _).then hk)
  have d0 := cell_at HD1.out 0
  have d1 := cell_at HD1.out 1
  simp only [List.getElem?_toArray, List.getElem?_cons_zero, List.getElem?_cons_succ] at d0 d1
  have hl1 : w.heap.size + 1 < w1.heap.size := lt_at HD1.out
  clear hk HLe
  go_wp2_with fail
  refine (HGr.out _ Hk1.out).mono ?_
  rintro e w2 ⟨rfl, hk⟩
  have HE2 := Lib.hid (hk.heapAt HE1.out)
  have HR2 := Lib.hid (hk.heapAt HR1.out)
  have Hk2 := Lib.hid (Hk1.out.then hk)
  have c0 := cell_at HE2.out 0
  have c1 := cell_at HE2.out 1
  have r0 := cell_at HR2.out 0
  have r1 := cell_at HR2.out 1
  have f0 := frozen_at HR2.out 0
  have f1 := frozen_at HR2.out 1
  simp only [List.getElem?_toArray, List.getElem?_cons_zero, List.getElem?_cons_succ] at c0 c1 r0 r1
  have hl2 : w.heap.size < w2.heap.size := lt_at HE2.out
  clear hk HGr d0 d1 hl1
  go_wp2_with fail
  refine bodyPost_ret (v := .agg #[.int .i64 (lo + s), .int .i64 (hi + t)]) (by simp [results, Tryd.results60, go_sem, r0, r1]) rfl ?_
  refine ⟨rfl, ?_⟩
  have h2 : KeptBut (w.heap.size + 1 + 1) w2 ((w2.setCell ⟨w.heap.size + 1 + 1, 0, none⟩ (.int .i64 (lo + s))).setCell ⟨w.heap.size + 1 + 1, 1, none⟩ (.int .i64 (hi + t))) := (KeptBut.set _ (a := ⟨w.heap.size + 1 + 1, 0, none⟩) rfl _).then (KeptBut.set _ (a := ⟨w.heap.size + 1 + 1, 1, none⟩) rfl _)
  exact ((KeptBut.of Hk2.out (w.heap.size + 1 + 1)).then h2).kept (by omega)
end Go.Proofs.YtekcenacpklpgaaDoor

set_option maxHeartbeats 1000000
set_option maxRecDepth 10000
namespace Go.Proofs.YtekcenacpklpgaaDoor
open Go Go.RowKit Pl

theorem ends_bnd {cs : List Int} {ls : Nat → List Int} {but : Int} {m : Nat} (hc : ∀ i, -1048576 ≤ cs.getD i 0 ∧ cs.getD i 0 ≤ 1048576) (hl : ∀ i, i < m → 0 < (ls i).length ∧ ∀ x ∈ ls i, -1048576 ≤ x ∧ x ≤ 1048576) :
    ∀ j, j ≤ m → -(1099511627776 * (j : Int)) ≤ lowBut cs ls but j ∧ highBut cs ls but j ≤ 1099511627776 * (j : Int) := by
  intro j
  induction j with
  | zero => intro _; simp [lowBut, highBut]
  | succ j ih =>
    intro hj
    have h1 := ih (by omega)
    have h2 := mn_rng (hc j) (hl j (by omega)).2 (hl j (by omega)).1
    simp only [lowBut, highBut]
    have e : ((j + 1 : Nat) : Int) = (j : Int) + 1 := by omega
    rw [e]
    split <;> omega
theorem ends_all {cs : List Int} {ls : Nat → List Int} {but : Int} {m : Nat} (hc : ∀ i, -1048576 ≤ cs.getD i 0 ∧ cs.getD i 0 ≤ 1048576) (hl : ∀ i, i < m → 0 < (ls i).length ∧ ∀ x ∈ ls i, -1048576 ≤ x ∧ x ≤ 1048576) (h8 : m ≤ 8) {j : Nat} (hj : j ≤ m) :
    (-8796093022208 ≤ lowBut cs ls but j ∧ lowBut cs ls but j ≤ 8796093022208) ∧ (-8796093022208 ≤ highBut cs ls but j ∧ highBut cs ls but j ≤ 8796093022208) := by
  have h1 := ends_bnd (but := but) hc hl j hj
  have h2 := ends_le cs ls but j
  omega
theorem xs_pos {xs : List Int} {L : Nat} (hm : mayB xs L = true) (h : 0 < (listB xs L).length) : 0 < xs.length := by
  have h1 := live_pos hm h
  have h2 := mayB_lt hm
  refine Nat.pos_of_ne_zero fun e => ?_
  rw [e] at h2
  simp at h2
  exact h1 h2

theorem total_any (K R Ct : Int) (A1 A2 A3 : Option Addr) (n1 c1 n2 c2 n3 c3 : Nat) (C : ConB) (B : Option Addr) (m d : Nat) (vs : List Int) (A : Option Addr) (n c : Nat) (ds : List DomB) (w : World) (hC : ConIn w K R Ct A1 A2 A3 n1 c1 n2 c2 n3 c3 C) (hV : Ints w B m vs) (hS : Doms w A n ds) (hT : Tab w) (hm : allMay ds = true)
    (hl : n2 = m) (h8 : m ≤ 8) (hb : ∀ i, -1048576 ≤ C.coefs.getD i 0 ∧ C.coefs.getD i 0 ≤ 1048576) (hv : ∀ i, i < m → 0 ≤ vs.getD i 0 ∧ vs.getD i 0 < n) (h0 : ∀ i, i < m → 0 < (lsV vs ds i).length) :
    Calls Tryd.prog 59 #[.agg #[.int .i64 K, .slice A1 n1 c1, .slice A2 n2 c2, .int .i64 R, .int .i64 Ct, .slice A3 n3 c3], .slice B m d, .slice A n c] w fun e w' => e = .returned (.agg #[.int .i64 (lowBut C.coefs (lsV vs ds) (-1) m), .int .i64 (highBut C.coefs (lsV vs ds) (-1) m)]) ∧ Kept w w' := by
  subst hl
  have HC := Lib.hid hC
  have HV := Lib.hid hV
  have HS := Lib.hid hS
  have HT := Lib.hid hT
  have Hm := Lib.hid hm
  have Hb := Lib.hid hb
  have Hv := Lib.hid hv
  have H0 := Lib.hid h0
  have Hlen := Lib.hid hS.len
  have Hrng : Hid (∀ j, j ≤ n2 → (-8796093022208 ≤ lowBut C.coefs (lsV vs ds) (-1) j ∧ lowBut C.coefs (lsV vs ds) (-1) j ≤ 8796093022208) ∧ (-8796093022208 ≤ highBut C.coefs (lsV vs ds) (-1) j ∧ highBut C.coefs (lsV vs ds) (-1) j ≤ 8796093022208)) := fun j hj =>
    ends_all hb (fun i hi => ⟨h0 i hi, listB_rng _ _⟩) h8 hj
  clear hC hV hS hT hm hb hv h0
  go_enter Tryd.func59, Tryd.ntmps59
  go_wp2_with fail
  have HK0 : Hid (Kept w (((w.alloc (.cells #[.int .i64 K, .slice A1 n1 c1, .slice A2 n2 c2, .int .i64 R, .int .i64 Ct, .slice A3 n3 c3] 24)).alloc (.cells #[.int .i64 0, .int .i64 0] 86)).alloc (.cells #[.int .i64 0, .int .i64 0] 86))) := ((Kept.box _ _).newBlock _).newBlock _
  have HBc : Hid ((((w.alloc (.cells #[.int .i64 K, .slice A1 n1 c1, .slice A2 n2 c2, .int .i64 R, .int .i64 Ct, .slice A3 n3 c3] 24)).alloc (.cells #[.int .i64 0, .int .i64 0] 86)).alloc (.cells #[.int .i64 0, .int .i64 0] 86)).heap[w.heap.size]? = some (.cells #[.int .i64 K, .slice A1 n1 c1, .slice A2 n2 c2, .int .i64 R, .int .i64 Ct, .slice A3 n3 c3] 24)) := (Kept.box _ _).heapAt ((Kept.box _ _).heapAt (heap_new w _))
  have HBr : Hid ((((w.alloc (.cells #[.int .i64 K, .slice A1 n1 c1, .slice A2 n2 c2, .int .i64 R, .int .i64 Ct, .slice A3 n3 c3] 24)).alloc (.cells #[.int .i64 0, .int .i64 0] 86)).alloc (.cells #[.int .i64 0, .int .i64 0] 86)).heap[w.heap.size + 1]? = some (.cells #[.int .i64 0, .int .i64 0] 86 (0, 0))) := (Kept.box _ _).heapAt (heap_new2 w _ _)
  have HBe : Hid ((((w.alloc (.cells #[.int .i64 K, .slice A1 n1 c1, .slice A2 n2 c2, .int .i64 R, .int .i64 Ct, .slice A3 n3 c3] 24)).alloc (.cells #[.int .i64 0, .int .i64 0] 86)).alloc (.cells #[.int .i64 0, .int .i64 0] 86)).heap[w.heap.size + 1 + 1]? = some (.cells #[.int .i64 0, .int .i64 0] 86 (0, 0))) := heap_new3 w _ _ _
  generalize ((w.alloc (.cells #[.int .i64 K, .slice A1 n1 c1, .slice A2 n2 c2, .int .i64 R, .int .i64 Ct, .slice A3 n3 c3] 24)).alloc (.cells #[.int .i64 0, .int .i64 0] 86)).alloc (.cells #[.int .i64 0, .int .i64 0] 86) = W0 at *
  go_loopw [12] (fun u wr => ∃ k : Nat, k ≤ n2 ∧ u = .int .i64 k ∧ Hid (KeptBut (w.heap.size + 1 + 1) W0 wr) ∧ Hid (wr.heap[w.heap.size + 1 + 1]? = some (.cells #[.int .i64 (lowBut C.coefs (lsV vs ds) (-1) k), .int .i64 (highBut C.coefs (lsV vs ds) (-1) k)] 86 (0, 0)))) (fun u _ => n2 - (intOf u).toNat)
  case atStart => exact ⟨0, Nat.zero_le _, rfl, KeptBut.refl _ _, HBe.out⟩
  case round =>
    obtain ⟨k, hk, rfl, Hkw, HE⟩ := hrel
    have HK := Lib.hid (((KeptBut.of HK0.out (w.heap.size + 1 + 1)).then Hkw.out).kept (by omega))
    by_cases hlt : k < n2
    · obtain ⟨av, hav, hbv⟩ := (HV.out.kept HK.out).addr (by omega)
      subst hav
      obtain ⟨v, Hv1, hcv, _, _⟩ := (HV.out.kept HK.out).named k hlt
      obtain ⟨hv0, hv1⟩ := Hv.out k hlt
      rw [Hv1.out] at hv0 hv1
      obtain ⟨p, rfl⟩ := Int.eq_ofNat_of_zero_le hv0
      have hpn : p < n := by omega
      obtain ⟨aq, haq, hbq⟩ := (HC.out.coefs.kept HK.out).addr (by omega)
      subst haq
      obtain ⟨q, Hq1, hcq, _, _⟩ := (HC.out.coefs.kept HK.out).named k hlt
      obtain ⟨al, hal, hbal⟩ := (HS.out.kept HK.out).addr (by omega)
      subst hal
      obtain ⟨xs, L, Bx, mx, cx, Hd, hc1, hc2, HI, hL⟩ := (HS.out.kept HK.out).named p hpn
      have Hls : Hid (lsV vs ds k = listB xs L) := by show _ = _; unfold lsV; rw [Hv1.out, Int.toNat_natCast, Hd.out]
      have hmay : mayB xs L = true := by
        have := allMay_at Hm.out (show p < ds.length by have := Hlen.out; omega)
        have h2 := Hd.out
        unfold nilD at h2
        rw [h2] at this
        exact this
      have hpos : 0 < (listB xs L).length := by have := H0.out k hlt; rwa [Hls.out] at this
      obtain ⟨ax, hax, _⟩ := HI.out.addr (by have := xs_pos hmay hpos; have := HI.out.len; omega)
      subst hax
      have hqr := Hb.out k
      rw [Hq1.out] at hqr
      obtain ⟨hlo, hhi⟩ := Hrng.out k (by omega)
      have Hnl : Hid (lowBut C.coefs (lsV vs ds) (-1) (k + 1) = lowBut C.coefs (lsV vs ds) (-1) k + 1 * mnB q (listB xs L)) := by
        show _ = _
        simp only [lowBut]
        rw [if_neg (by omega), Hq1.out, Hls.out]; omega
      have Hnh : Hid (highBut C.coefs (lsV vs ds) (-1) (k + 1) = highBut C.coefs (lsV vs ds) (-1) k + 1 * mxB q (listB xs L)) := by
        show _ = _
        simp only [highBut]
        rw [if_neg (by omega), Hq1.out, Hls.out]; omega
      have HQ : Hid (∀ W, Kept wr W → Calls Tryd.prog 60 #[.agg #[.int .i64 (lowBut C.coefs (lsV vs ds) (-1) k), .int .i64 (highBut C.coefs (lsV vs ds) (-1) k)], .int .i64 q, .agg #[.slice (some ax) mx cx, .int .u64 L], .int .i64 1] W
          fun e w' => e = .returned (.agg #[.int .i64 (lowBut C.coefs (lsV vs ds) (-1) (k + 1)), .int .i64 (highBut C.coefs (lsV vs ds) (-1) (k + 1))]) ∧ Kept W w') := fun W hW => by
        rw [Hnl.out, Hnh.out]
        exact endsplus_any _ _ q 1 ax mx cx L xs W (HI.out.kept hW) hL (HT.out.kept (HK.out.then hW)) hmay hpos hqr (by omega) (by omega) (.inl rfl)
      have Hlow : Hid (lowBut C.coefs (lsV vs ds) (-1) (k + 1) = lowBut C.coefs (lsV vs ds) (-1) (k + 1)) := rfl
      generalize hlo' : lowBut C.coefs (lsV vs ds) (-1) (k + 1) = lo' at *
      generalize hhi' : highBut C.coefs (lsV vs ds) (-1) (k + 1) = hi' at *
      generalize lowBut C.coefs (lsV vs ds) (-1) k = lo at *
      generalize highBut C.coefs (lsV vs ds) (-1) k = hi at *
      have Hlo' := Lib.hid hlo'
      have Hhi' := Lib.hid hhi'
      have hb2 := cell_at (Hkw.out.heapAt HBc.out (by omega)) 2
      have e0 := cell_at HE.out 0
      have e1 := cell_at HE.out 1
      simp only [List.getElem?_toArray, List.getElem?_cons_zero, List.getElem?_cons_succ] at hb2 e0 e1
      have hlE : w.heap.size + 1 + 1 < wr.heap.size := lt_at HE.out
      have HF : Hid (∀ (W : World), Kept wr W → KeptBut (w.heap.size + 1 + 1) W0 ((W.setCell ⟨w.heap.size + 1 + 1, 0, none⟩ (.int .i64 lo')).setCell ⟨w.heap.size + 1 + 1, 1, none⟩ (.int .i64 hi')) ∧ ((W.setCell ⟨w.heap.size + 1 + 1, 0, none⟩ (.int .i64 lo')).setCell ⟨w.heap.size + 1 + 1, 1, none⟩ (.int .i64 hi')).heap[w.heap.size + 1 + 1]? = some (.cells #[.int .i64 lo', .int .i64 hi'] 86 (0, 0))) := fun W hW =>
        ⟨(Hkw.out.then (KeptBut.of hW _)).then ((KeptBut.set _ (a := ⟨w.heap.size + 1 + 1, 0, none⟩) rfl _).then (KeptBut.set _ (a := ⟨w.heap.size + 1 + 1, 1, none⟩) rfl _)), two_set01 (hW.heapAt HE.out) _ _⟩
      clear hlo' hhi' hlo hhi hqr hpos hmay Hnl Hnh Hlow hL
      go_wp2_with fail
      go_region_with (first
        | (go_at_call 60
           refine (HQ.out _ (Kept.drewn _)).mono ?_
           rintro e W7 ⟨rfl, hk7⟩
           have HK7 := Lib.hid ((Kept.drewn _).then hk7)
           have g0 := cell_at (HK7.out.heapAt HE.out) 0
           have g1 := cell_at (HK7.out.heapAt HE.out) 1
           have f0 := frozen_at (HK7.out.heapAt HE.out) 0
           have f1 := frozen_at (HK7.out.heapAt HE.out) 1
           simp only [List.getElem?_toArray, List.getElem?_cons_zero, List.getElem?_cons_succ] at g0 g1
           clear hk7))
      all_goals go_wp2_with fail
      all_goals (
        go_roundw
        case rel =>
          obtain ⟨h1, h2⟩ := HF.out _ HK7.out
          exact ⟨k + 1, by omega, by go_num, h1, by rw [Hlo'.out, Hhi'.out]; exact h2⟩
        case measure => simp [intOf]; omega)
    · have e : k = n2 := by omega
      subst e
      generalize hlo : lowBut C.coefs (lsV vs ds) (-1) k = lo at *
      generalize hhi : highBut C.coefs (lsV vs ds) (-1) k = hi at *
      have Hlo := Lib.hid hlo
      have Hhi := Lib.hid hhi
      clear hlo hhi
      have HR := Lib.hid (Hkw.out.heapAt HBr.out (by omega))
      have e0 := cell_at HE.out 0
      have e1 := cell_at HE.out 1
      have g0 := cell_at HR.out 0
      have g1 := cell_at HR.out 1
      have f0 := frozen_at HR.out 0
      have f1 := frozen_at HR.out 1
      simp only [List.getElem?_toArray, List.getElem?_cons_zero, List.getElem?_cons_succ] at e0 e1 g0 g1
      have hlE : w.heap.size + 1 + 1 < wr.heap.size := lt_at HE.out
      go_wp2_with fail
      refine bodyPost_ret (v := .agg #[.int .i64 lo, .int .i64 hi]) (by simp [results, Tryd.results59, go_sem, g0, g1]) rfl ?_
      refine ⟨by rw [Hlo.out, Hhi.out], ?_⟩
      have h2 : KeptBut (w.heap.size + 1) wr ((wr.setCell ⟨w.heap.size + 1, 0, none⟩ (.int .i64 lo)).setCell ⟨w.heap.size + 1, 1, none⟩ (.int .i64 hi)) := (KeptBut.set _ (a := ⟨w.heap.size + 1, 0, none⟩) rfl _).then (KeptBut.set _ (a := ⟨w.heap.size + 1, 1, none⟩) rfl _)
      exact ((KeptBut.of HK.out (w.heap.size + 1)).then h2).kept (by omega)

/-- What a sum's question reads. -/
structure SumBox (W : World) (Bc Bi Be Br : Nat) (A2 : Option Addr) (n2 c2 : Nat) (cs : List Int) (Ct i lo hi rel : Int) : Prop where
  c2 : W.cell? ⟨Bc, 2, Option.none⟩ = some (.slice A2 n2 c2)
  c4 : W.cell? ⟨Bc, 4, Option.none⟩ = some (.int .i64 Ct)
  ci : W.cell? ⟨Bi, 0, Option.none⟩ = some (.int .i64 i)
  e0 : W.cell? ⟨Be, 0, Option.none⟩ = some (.int .i64 lo)
  e1 : W.cell? ⟨Be, 1, Option.none⟩ = some (.int .i64 hi)
  r : W.cell? ⟨Br, 0, Option.none⟩ = some (.int .i64 rel)
  ints : Ints W A2 n2 cs

theorem linsum1_any (x : Int) (Bc Bi Be Br : Nat) (A2 : Option Addr) (n2 c2 : Nat) (cs : List Int) (Ct lo hi rel : Int) (i : Nat) (w : World) (hB : SumBox w Bc Bi Be Br A2 n2 c2 cs Ct i lo hi rel) (hi2 : i < n2) (h0 : 0 ≤ rel) (h5 : rel ≤ 5)
    (hx : -1048576 ≤ x ∧ x ≤ 1048576) (hc : -1048576 ≤ cs.getD i 0 ∧ cs.getD i 0 ≤ 1048576) (hlo : -8796093022208 ≤ lo ∧ lo ≤ 8796093022208) (hhi : -8796093022208 ≤ hi ∧ hi ≤ 8796093022208) :
    Calls Tryd.prog 61 #[.int .i64 x, .pointer (some ⟨Bc, 0, Option.none⟩), .pointer (some ⟨Bi, 0, Option.none⟩), .pointer (some ⟨Be, 0, Option.none⟩), .pointer (some ⟨Br, 0, Option.none⟩)] w
      fun e w' => e = .returned (.bool (mayL (lo + cs.getD i 0 * x) (hi + cs.getD i 0 * x) rel Ct)) ∧ Kept w w' := by
  obtain ⟨b2, b4, bi, be0, be1, br, hI⟩ := hB
  obtain ⟨aq, haq, hbq⟩ := hI.addr (by omega)
  subst haq
  obtain ⟨q, Hq1, hcq, _, _⟩ := hI.named i hi2
  rw [Hq1.out] at hc ⊢
  have hm := mul_small hc hx
  obtain ⟨p, hp⟩ : ∃ p, p = q * x := ⟨_, rfl⟩
  rw [← hp] at hm ⊢
  have hmw : IntKind.i64.wrap (q * x) = p := by rw [← hp]; exact IntWalk.i64_in _ (by omega)
  obtain ⟨h1, h2⟩ := hm
  obtain ⟨h3, h4⟩ := hlo
  obtain ⟨h6, h7⟩ := hhi
  have hi0 : (0 : Int) ≤ (i : Int) := by omega
  have hi3 : (i : Int) < (n2 : Int) := by omega
  have HQ : Hid (∀ W, Calls Tryd.prog 62 #[.agg #[.int .i64 (lo + p), .int .i64 (hi + p)], .int .i64 rel, .int .i64 Ct] W fun e w' => e = .returned (.bool (mayL (lo + p) (hi + p) rel Ct)) ∧ Kept W w') := fun W => endsmay_any _ _ _ _ W h0 h5
  have lb2 := World.block_lt_of_cell? w _ b2
  have lbi := World.block_lt_of_cell? w _ bi
  have lbe := World.block_lt_of_cell? w _ be0
  have lbr := World.block_lt_of_cell? w _ br
  clear hI hp hc hx
  go_enter Tryd.func61, Tryd.ntmps61
  go_wp2_with (go_at_call 62; refine (HQ.out _).mono ?_; rintro e w' ⟨rfl, hk⟩; have Hk := Lib.hid hk; clear hk)
  go_ret
  exact ⟨rfl, Hk.out⟩
end Go.Proofs.YtekcenacpklpgaaDoor

set_option maxHeartbeats 1000000
set_option maxRecDepth 10000
namespace Go.Proofs.YtekcenacpklpgaaDoor
open Go Go.RowKit Pl

end Go.Proofs.YtekcenacpklpgaaDoor

set_option maxHeartbeats 1000000
set_option maxRecDepth 10000
namespace Go.Proofs.YtekcenacpklpgaaDoor
open Go Go.RowKit Go.Maps Pl

theorem lawInt : Keyed Tryd.prog 3 := int_keyed Tryd.underlying3
theorem zeroInt (w : World) : (zeroValue 3).run Tryd.prog w = .ok (.int .i64 0) w := by kernel_rfl

/-- Whether a place's number may stand. -/
def isE (nums vals : List Int) (i : Int) : Bool := decide (0 ≤ i) && decide (i < nums.length) && vals.contains (nums.getD i.toNat 0)
/-- How often a number has been counted. -/
def cntE (nums vals l : List Int) (x : Int) : Nat := (l.filter fun i => isE nums vals i && (nums.getD i.toNat 0 == x)).length
/-- A map of counts. -/
def Counts (w : World) (M n : Nat) (f : Int → Nat) : Prop :=
  ∃ D : DataW Unit, w.ownsMap Tryd.prog 3 (plainElem Tryd.prog 3) M n D ∧ ∀ x, D.atKey (.int .i64 x) (.lit (.int .i64 0)) = .lit (.int .i64 (f x : Nat))

theorem Counts.made (w : World) : Counts (w.alloc (.map #[] 0)) w.heap.size 0 (fun _ => 0) := ⟨_, World.ownsMap_made _ _ _ _, fun _ => rfl⟩

/-- What Step's first question reads. -/
structure ElemBox (w : World) (Bc Bl Bv Bm M : Nat) (Al : Option Addr) (nl cl : Nat) (A3 : Option Addr) (n3 c3 : Nat) (nums : List Int) (ds : List DomB) (pv : Nat) : Prop where
  con : w.cell? ⟨Bc, 5, none⟩ = some (.slice A3 n3 c3)
  nums : Ints w A3 n3 nums
  lst : w.cell? ⟨Bl, 0, none⟩ = some (.slice Al nl cl)
  doms : Doms w Al nl ds
  val : w.cell? ⟨Bv, 0, none⟩ = some (.int .i64 (pv : Nat))
  lt : pv < nl
  map : w.cell? ⟨Bm, 0, none⟩ = some (.map (some M))
  may : mayB (ds.getD pv nilD).1 (ds.getD pv nilD).2 = true

theorem Counts.kept {w w' : World} {M n : Nat} {f : Int → Nat} (h : Counts w M n f) (hk : Kept w w') : Counts w' M n f := by
  obtain ⟨D, ⟨es, clock, hb, F, hs, hD⟩, hx⟩ := h
  exact ⟨D, ⟨es, clock, hk.heapAt hb, F, hs, hD⟩, hx⟩
theorem KeptBut.grown {M : Nat} {w w' : World} (h : w.grownBy w' (some M)) : KeptBut M w w' :=
  ⟨h.os, h.tape, h.output, h.size, fun k hk hB => h.block k hk (by simpa using hB)⟩
theorem isMap_of {w : World} {P : Program} {k : TypeId} {R : Value → Option (DataW Unit × List MemPlace)} {b n : Nat} {D : DataW Unit} (h : w.ownsMap P k R b n D) : IsMap D := by
  obtain ⟨es, clock, _, _, _, hD⟩ := h
  exact ⟨_, hD⟩
theorem Counts.same {w : World} {M n : Nat} {f : Int → Nat} (h : Counts w M n f) {b : Bool} (p : Int → Bool) (hb : b = false) : Counts w M (n + 1) (fun v => f v + if b && p v then 1 else 0) := by
  obtain ⟨D, hown, hx⟩ := h
  subst hb
  exact ⟨D, hown.mono (Nat.le_succ _), by simpa using hx⟩

end Go.Proofs.YtekcenacpklpgaaDoor

set_option maxHeartbeats 1000000
set_option maxRecDepth 10000
namespace Go.Proofs.YtekcenacpklpgaaDoor
open Go Go.RowKit Go.Maps Pl

/-- What is kept behind the first ones of a list. -/
def pk (g : Int → Bool) (l : List Int) (x : Int) : Bool := l.all fun v => x != v || g v
theorem pk_nil (g : Int → Bool) (d : DomB) (hm : mayB d.1 d.2 = true) : keepD (pk g []) d = d := keepD_all hm (fun _ _ => rfl)
theorem pk_yes {g : Int → Bool} {l : List Int} {v : Int} (hv : g v = true) : pk g (l ++ [v]) = pk g l := by
  funext x; unfold pk; rw [List.all_append]; simp [hv]
theorem pk_no {g : Int → Bool} {l : List Int} {v : Int} (hv : g v = false) (d : DomB) : keepD (fun x => x != v) (keepD (pk g l) d) = keepD (pk g (l ++ [v])) d := by
  rw [keepD_keepD]
  congr 1
  funext x; unfold pk; rw [List.all_append]; simp [hv]
theorem pk_all {g : Int → Bool} {d : DomB} (hm : mayB d.1 d.2 = true) : keepD (pk g (listB d.1 d.2)) d = keepD g d := by
  refine keepD_congr hm fun v hv => ?_
  unfold pk
  rw [Bool.eq_iff_iff, List.all_eq_true]
  constructor
  · intro h
    simpa using h v hv
  · intro h u _
    by_cases e : v = u
    · subst e; simp [h]
    · simp [e]

end Go.Proofs.YtekcenacpklpgaaDoor

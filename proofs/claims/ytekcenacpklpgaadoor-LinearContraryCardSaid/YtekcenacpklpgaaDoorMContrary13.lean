/-
  Contracts and plain laws that the card rests on, part 13.
-/
import Derived.Test.YtekcenacpklpgaaDoorMContrary5
import Derived.Test.YtekcenacpklpgaaDoorMContrary9
import Derived.Test.YtekcenacpklpgaaDoorMContrary12
import Derived.Test.YtekcenacpklpgaaDoorMContrary6
import Derived.Test.YtekcenacpklpgaaDoorMContrary3
import Derived.Test.YtekcenacpklpgaaDoorMContrary4
set_option maxHeartbeats 4000000
set_option maxRecDepth 10000
namespace Go.Proofs.YtekcenacpklpgaaDoor
open Go Go.RowKit Go.Maps Pl

theorem lin_wiped {C : ConB} {ds : List DomB} {n1 : Nat} (hl : C.vars.length = n1) (h : wipedB C ds n1 = true) : stepB (varsKp C.vars (fun _ _ => false) n1) ds = stepB (linKp C ds) ds := by
  subst hl
  unfold linKp
  congr 2
  funext i x
  unfold linG
  rw [if_pos h]
theorem lin_sum {C : ConB} {ds : List DomB} {n1 : Nat} (hl : C.vars.length = n1) (hk : C.kind = 1) (h : wipedB C ds n1 = false) : stepB (varsKp C.vars (sumG C.coefs (lsV C.vars ds) n1 C.rel C.const) n1) ds = stepB (linKp C ds) ds := by
  subst hl
  unfold linKp
  congr 2
  funext i x
  unfold linG
  rw [if_neg (by rw [h]; decide), if_pos hk]; rfl
theorem lin_iff {C : ConB} {ds : List DomB} {n1 : Nat} (hl : C.vars.length = n1) (hk : C.kind = 3) (h : wipedB C ds n1 = false) : stepB (varsKp C.vars (iffG C ds) n1) ds = stepB (linKp C ds) ds := by
  subst hl
  unfold linKp
  congr 2
  funext i x
  unfold linG
  rw [if_neg (by rw [h]; decide), if_neg (by rw [hk]; decide)]

theorem linstep1_any (K R Ct : Int) (A1 A2 A3 : Option Addr) (n1 c1 n2 c2 n3 c3 : Nat) (C : ConB) (A : Option Addr) (n c : Nat) (ds : List DomB) (w : World) (hC : ConIn w K R Ct A1 A2 A3 n1 c1 n2 c2 n3 c3 C) (hS : Doms w A n ds) (hT : Tab w) (hn : n ≤ 1000) (hK : K = 1) :
    Calls Tryd.prog 10 #[.agg #[.int .i64 K, .slice A1 n1 c1, .slice A2 n2 c2, .int .i64 R, .int .i64 Ct, .slice A3 n3 c3], .slice A n c] w (StepPost (if goK 1 C ds = true then some (stepB (linKp C ds) ds) else Option.none) w) := by
  subst hK
  have HC := Lib.hid hC
  have HS := Lib.hid hS
  have HT := Lib.hid hT
  have Hlen := Lib.hid hS.len
  have hKk := hC.kind
  clear hC hS hT
  have HR : Hid (∀ W, ConIn W 1 R Ct A1 A2 A3 n1 c1 n2 c2 n3 c3 C → Calls Tryd.prog 20 #[.agg #[.int .i64 1, .slice A1 n1 c1, .slice A2 n2 c2, .int .i64 R, .int .i64 Ct, .slice A3 n3 c3], .int .i64 n] W fun e w' => e = .returned (.bool (rightB C n)) ∧ Kept W w') := fun W hW => right1_any 1 R Ct A1 A2 A3 n1 c1 n2 c2 n3 c3 C n W hW rfl
  have HA : Hid (∀ W, Doms W A n ds → Calls Tryd.prog 21 #[.slice A n c, .func (.func 22) #[] #[]] W fun e w' => e = .returned (.bool (!allMay ds)) ∧ Kept W w') := fun W hW => lin_contains_any A n c ds W hW
  have Hgo : Hid (goK 1 C ds = (rightB C n && allMay ds)) := by
    show _ = _
    unfold goK; rw [hKk, Hlen.out]; simp
  generalize hb1 : rightB C n = b1 at HR Hgo
  generalize hb2 : allMay ds = b2 at HA Hgo
  have Hb1 := Lib.hid hb1
  have Hb2 := Lib.hid hb2
  have Hkk := Lib.hid hKk
  clear hb1 hb2 hKk
  rw [Hgo.out]
  clear Hgo
  cases b1 with
  | false =>
    go_enter Tryd.func10, Tryd.ntmps10
    go_wp2_with fail
    refine (HR.out _ (HC.out.kept ((Kept.box _ _).newBlock _))).mono ?_
    rintro e w1 ⟨rfl, hk⟩
    have Hk := Lib.hid (((Kept.box _ _).newBlock _).then hk)
    have Hlbx := Lib.hid (hk.heapAt (heap_new2 w _ _))
    have hl1 := cell_at Hlbx.out 0
    have hlb1 : w.heap.size + 1 < w1.heap.size := lt_at Hlbx.out
    simp only [List.getElem?_toArray, List.getElem?_cons_zero] at hl1
    clear hk
    go_wp2_with fail
    go_ret2
    exact ⟨rfl, Hk.out⟩
  | true =>
    cases b2 with
    | false =>
      go_enter Tryd.func10, Tryd.ntmps10
      go_wp2_with fail
      refine (HR.out _ (HC.out.kept ((Kept.box _ _).newBlock _))).mono ?_
      rintro e w1 ⟨rfl, hk⟩
      have Hk := Lib.hid (((Kept.box _ _).newBlock _).then hk)
      have Hlbx := Lib.hid (hk.heapAt (heap_new2 w _ _))
      have hl1 := cell_at Hlbx.out 0
      have hlb1 : w.heap.size + 1 < w1.heap.size := lt_at Hlbx.out
      simp only [List.getElem?_toArray, List.getElem?_cons_zero] at hl1
      clear hk
      go_wp2_with fail
      refine (HA.out _ (HS.out.kept Hk.out)).mono ?_
      rintro e w2 ⟨rfl, hk⟩
      have Hk2 := Lib.hid (Hk.out.then hk)
      clear hk
      go_wp2_with fail
      go_ret2
      exact ⟨rfl, Hk2.out⟩
    | true =>
      go_enter Tryd.func10, Tryd.ntmps10
      go_wp2_with fail
      refine (HR.out _ (HC.out.kept ((Kept.box _ _).newBlock _))).mono ?_
      rintro e w1 ⟨rfl, hk⟩
      have Hcon := Lib.hid (hk.heapAt ((Kept.box _ _).heapAt (heap_new w _)))
      have Hk := Lib.hid (((Kept.box _ _).newBlock _).then hk)
      have Hlbx := Lib.hid (hk.heapAt (heap_new2 w _ _))
      have hl1 := cell_at Hlbx.out 0
      have hlb1 : w.heap.size + 1 < w1.heap.size := lt_at Hlbx.out
      simp only [List.getElem?_toArray, List.getElem?_cons_zero] at hl1
      clear hk
      go_wp2_with fail
      refine (HA.out _ (HS.out.kept Hk.out)).mono ?_
      rintro e w2 ⟨rfl, hk⟩
      have Hcon2 := Lib.hid (hk.heapAt Hcon.out)
      have Hlb2 := Lib.hid (hk.heapAt Hlbx.out)
      have Hk2 := Lib.hid (Hk.out.then hk)
      clear hl1 hlb1
      have hl2 := cell_at Hlb2.out 0
      have hlb2 : w.heap.size + 1 < w2.heap.size := lt_at Hlb2.out
      simp only [List.getElem?_toArray, List.getElem?_cons_zero] at hl2
      clear hk
      go_wp2_with fail
      clear hl2 hlb2
      go_loopw [6, 30] (fun u v wr => ∃ k : Nat, k ≤ n ∧ v = .int .i64 k ∧ Hid (OwnD wr w2.heap.size u (ds.take k)) ∧ Hid (Kept w2 wr)) (fun _ v _ => n - (intOf v).toNat)
      case atStart => exact ⟨0, Nat.zero_le _, rfl, OwnD.nil _ _, Kept.same _⟩
      case round =>
        obtain ⟨k, hk, rfl, HO, Hkw⟩ := hrel
        by_cases hlt : k < n
        · have hSr := HS.out.kept (Hk2.out.then Hkw.out)
          obtain ⟨a, rfl, hblk⟩ := hSr.addr (by omega)
          obtain ⟨xs, L, B, m, cB, Hd, hc1, hc2, HI, hL⟩ := hSr.named k hlt
          have Hmay : Hid (mayB xs L = true) := by
            have := allMay_at Hb2.out (show k < ds.length by have := Hlen.out; omega)
            have h2 := Hd.out
            unfold nilD at h2
            rw [h2] at this
            exact this
          have hm64 : m ≤ 100000 := by have := mayB_len Hmay.out; have := HI.out.len; omega
          obtain ⟨vs, hown, hd⟩ := HO.out
          have hkl : (ds.take k).length = k := by rw [List.length_take]; have := Hlen.out; omega
          rw [hkl] at hown hd
          have Hown := Lib.hid hown
          have Hdd := Lib.hid hd
          have Hul : Hid (∀ i, u6.ownBlock = some i → w2.heap.size ≤ i ∧ i < wr.heap.size) := hown.lt
          have hszr := Hkw.out.size
          obtain ⟨i0, hi, hz0, hz1, hz2⟩ := info_parts info_dom
          clear hSr hown hd
          go_wp2_with fail
          have hlow : wr.heap.size < (wr.alloc (.cells #[.slice B m cB, .int .u64 L] 47)).heap.size := by simp
          go_region_held3 (fun W => W.cell? ⟨wr.heap.size, 0, none⟩ = some (.slice B m cB) ∧ W.cell? ⟨wr.heap.size, 1, none⟩ = some (.int .u64 L)) (first | go_keep | (exact ⟨hkC.cellAt (box2_0 _ _ _ _), hkC.cellAt (box2_1 _ _ _ _)⟩) | (exact ⟨hgrow.cell ((Kept.box _ _).cellAt (hkC.cellAt (box2_0 _ _ _ _))) (fun e => by have := Hul.out _ e.symm; simp at this), hgrow.cell ((Kept.box _ _).cellAt (hkC.cellAt (box2_1 _ _ _ _))) (fun e => by have := Hul.out _ e.symm; simp at this)⟩))
            (first
              | (go_at_call 24; refine (clone_any B m cB xs _ (HI.out.kept ((Kept.box _ _).then (Kept.drewn _))) hm64).mono ?_; rintro e wC ⟨B', c', rfl, hIB, hkC, hfB⟩)
              | (refine step_append_lies _ (by rfl) _ _ _ (by rfl) w2.heap.size 47 i0 _ 2 32 Tryd.underlying25 hi hz0 hz1 hz2 rfl (by omega) u6 k vs (by rfl) (own_kept Hown.out ((((Kept.box _ _).then (Kept.drewn _)).then hkC).newBlock _)) ⟨wC.heap.size, 0, none⟩ 1 1 [.slice B' m c', .int .u64 L] (by rfl) (by rfl) (World.news_of_block (cs := #[.slice B' m c', .int .u64 L]) (t := 47) (fr := (0, 0)) (heap_alloc_new wC _)) (by simp [Value.oneCell']) (by omega) (by unfold maxLen; omega) (by omega) (by have := hkC.size; simp at this ⊢; omega) (wC.heap.size + 1) (by simp) ?_; intro gg cap w3 hown3 hgrow hat hlt3))
          go_wp2
          go_roundw
          case rel =>
            refine ⟨k + 1, by omega, by go_num, ?_, ?_⟩
            · show OwnD w3 _ _ _
              rw [take_dom (by have := Hlen.out; omega) Hd.out]
              have hk2 := ((Kept.box wr (.cells #[.slice B m cB, .int .u64 L] 47)).then (Kept.drewn _)).then hkC
              have := OwnD.snoc (ds := ds.take k) (d := (xs, L)) (w1 := wC.alloc (.cells #[.slice B' m c', .int .u64 L] 47)) (B := B') (m := m) (c := c') (by rw [hkl]; exact own_kept Hown.out (hk2.newBlock _)) ?_ (hIB.kept (Kept.box _ _)) ?_ hL (by rw [hkl]; exact hown3) hgrow ?_
              · rw [hkl] at this; exact this
              · rw [hkl]
                intro j hj
                obtain ⟨hl, B1, m1, c1', e1, e2, e3, e4⟩ := Hdd.out j hj
                exact ⟨hl, B1, m1, c1', e1, e2, e3.kept (hk2.newBlock _), e4⟩
              · intro _ a' ha'
                have h5 := hfB a' ha'
                have h6 : wr.heap.size + 1 ≤ a'.block := by simpa using h5
                exact fun e => by have := Hul.out _ e; omega
              · rcases hat with h | h
                · exact Or.inl h
                · exact Or.inr (by rw [h]; simp)
            · show Kept w2 w3
              have hk2 := ((Kept.box wr (.cells #[.slice B m cB, .int .u64 L] 47)).then (Kept.drewn _)).then hkC
              exact (Hkw.out.then (hk2.newBlock _)).grown hgrow (by have := Hkw.out.size; have := hkC.size; simp at this ⊢; omega) (fun i hi => (Hul.out i hi).1)
          case measure => simp [intOf]; omega
        · have e : k = n := by omega
          subst e
          have HOn : Hid (OwnD wr w2.heap.size u6 ds) := by
            have := HO.out
            rwa [List.take_of_length_le (by have := Hlen.out; omega)] at this
          clear HO HA HR
          have hso := linear_parts Hkk.out Hb1.out
          have Hso := Lib.hid hso
          have Hvo := Lib.hid (rightB_vars Hb1.out)
          have Hvl := Lib.hid HC.out.vars.len
          have Hcl := Lib.hid HC.out.coefs.len
          have hn12 : 1 ≤ n1 ∧ n1 ≤ 9 := by have := Hvl.out; have := hso.least; have := hso.most; omega
          have HKr := Lib.hid (Hk2.out.then Hkw.out)
          have hkp : 0 < k := by have h1 := varsOk_rng Hvo.out (i := 0) (by have := Hvl.out; omega); omega
          obtain ⟨A6, c6, rfl⟩ := HOn.out.parts
          obtain ⟨vs, hown, _⟩ := HOn.out
          obtain ⟨g, cap, hg, hgb, hglr⟩ := hown.form (by have := Hlen.out; omega)
          cases hg
          rw [Hlen.out] at HOn ⊢
          have hgw : w.heap.size ≤ g := by have := Hk2.out.size; omega
          have Hlx := Lib.hid (Hkw.out.heapAt Hlb2.out)
          have Hcx := Lib.hid (Hkw.out.heapAt Hcon2.out)
          have HW : Hid (∀ W, Kept wr W → Calls Tryd.prog 25 #[.slice A1 n1 c1, .func (.func 26) #[] #[.pointer (some ⟨w.heap.size + 1, 0, Option.none⟩)]] W fun e w' => e = .returned (.bool (wipedB C ds n1)) ∧ Kept W w') := fun W hW => by
            have h := lints_contains_any A1 n1 c1 C.vars (.pointer (some ⟨w.heap.size + 1, 0, Option.none⟩)) (emptyB ds) W (HC.out.vars.kept (HKr.out.then hW))
              (fun x W' hx hW' => by
                obtain ⟨i, hi, e⟩ := List.getElem_of_mem hx
                have h9 := varsOk_rng Hvo.out (i := i) hi
                rw [List.getD_eq_getElem?_getD, List.getElem?_eq_getElem hi] at h9
                simp only [Option.getD_some, e] at h9
                exact lin2_any x (w.heap.size + 1) A k c ds W' (by rw [cell_at (hW'.heapAt (hW.heapAt Hlx.out)) 0]; rfl) (HS.out.kept ((HKr.out.then hW).then hW')) h9.1 h9.2)
            rwa [wiped_any, Hvl.out] at h
          have Hrl : Hid ((stepB (linKp C ds) ds).length = k) := by show _ = _; rw [stepB_length]; exact Hlen.out
          have Hr1 : Hid (wipedB C ds n1 = true → stepB (varsKp C.vars (fun _ _ => false) n1) ds = stepB (linKp C ds) ds) := fun h => lin_wiped Hvl.out h
          have Hr2 : Hid (wipedB C ds n1 = false → stepB (varsKp C.vars (sumG C.coefs (lsV C.vars ds) n1 R C.const) n1) ds = stepB (linKp C ds) ds) := fun h => by
            have h9 := lin_sum (n1 := n1) Hvl.out Hkk.out h
            rw [HC.out.rel] at h9
            exact h9
          have H0 : Hid (wipedB C ds n1 = false → ∀ i, i < n1 → 0 < (leftOf C ds i).length) := fun h => wipedB_iff.1 h
          generalize wipedB C ds n1 = q at *
          have hb := Hcx.out
          have b0 := cell_at hb 0
          have b1 := cell_at hb 1
          have b2 := cell_at hb 2
          have b3 := cell_at hb 3
          have b4 := cell_at hb 4
          have b5 := cell_at hb 5
          simp only [List.getElem?_toArray, List.getElem?_cons_zero, List.getElem?_cons_succ] at b0 b1 b2 b3 b4 b5
          clear hb
          have hl3 := cell_at Hlx.out 0
          have hlb3 : w.heap.size + 1 < wr.heap.size := lt_at Hlx.out
          simp only [List.getElem?_toArray, List.getElem?_cons_zero] at hl3
          clear hown hso
          go_wp2_with fail
          refine (HW.out _ (Kept.same _)).mono ?_
          rintro e W3 ⟨rfl, hk3⟩
          have HK3 := Lib.hid (HKr.out.then hk3)
          have HO3 := Lib.hid (HOn.out.kept hk3)
          have Hcon3 := Lib.hid (hk3.heapAt Hcx.out)
          have Hlb3 := Lib.hid (hk3.heapAt Hlx.out)
          have hg3 : g < W3.heap.size := by have := hk3.size; omega
          clear b0 b1 b2 b3 b4 b5 hl3 hlb3 hk3 HW
          have hb := Hcon3.out
          have b0 := cell_at hb 0
          have b1 := cell_at hb 1
          have b2 := cell_at hb 2
          have b3 := cell_at hb 3
          have b4 := cell_at hb 4
          have b5 := cell_at hb 5
          simp only [List.getElem?_toArray, List.getElem?_cons_zero, List.getElem?_cons_succ] at b0 b1 b2 b3 b4 b5
          clear hb
          have hl3 := cell_at Hlb3.out 0
          have hlb3 : w.heap.size + 1 < W3.heap.size := lt_at Hlb3.out
          simp only [List.getElem?_toArray, List.getElem?_cons_zero] at hl3
          cases q with
          | true =>
            have Hres := Lib.hid (Hr1.out (by first | rfl | trivial))
            go_wp2_with fail
            refine (linnone_any 1 R Ct A1 A2 A3 n1 c1 n2 c2 n3 c3 C w2.heap.size g k c6 ds w W3 HC.out HT.out HK3.out hgw hg3 HO3.out Hlen.out Hb2.out Hvo.out (by omega)).mono ?_
            rintro e W4 ⟨rfl, hO4, hk4⟩
            rw [Hres.out] at hO4
            have HD := Lib.hid (hO4.doms Hrl.out (by omega))
            have HK4 := Lib.hid (((KeptBut.of HK3.out g).then hk4).kept hgw)
            clear hO4 hk4 b0 b1 b2 b3 b4 b5 hl3 hlb3 HO3 HOn
            generalize stepB (linKp C ds) ds = res at *
            go_wp2_with fail
            go_ret2
            exact ⟨_, c6, by rw [Hrl.out]; rfl, by rw [Hrl.out]; exact HD.out, HK4.out⟩
          | false =>
            have Hres := Lib.hid (Hr2.out (by first | rfl | trivial))
            have H00 := Lib.hid (H0.out (by first | rfl | trivial))
            go_wp2_with fail
            refine (linsum_any 1 R Ct A1 A2 A3 n1 c1 n2 c2 n3 c3 C A1 n1 c1 C.vars A k c ds R w2.heap.size g c6 w W3 HC.out HC.out.vars HS.out HT.out HK3.out hgw hg3 HO3.out Hb2.out (by have := Hcl.out; have := Hso.out.len; have := Hvl.out; omega) (by have := Hso.out.most; have := Hvl.out; omega) Hso.out.bnd Hvo.out H00.out (by have := Hso.out.rel0; rwa [HC.out.rel] at this) (by have := Hso.out.rel5; rwa [HC.out.rel] at this)).mono ?_
            rintro e W4 ⟨rfl, hO4, hk4⟩
            rw [Hres.out] at hO4
            have HD := Lib.hid (hO4.doms Hrl.out (by omega))
            have HK4 := Lib.hid (((KeptBut.of HK3.out g).then hk4).kept hgw)
            clear hO4 hk4 b0 b1 b2 b3 b4 b5 hl3 hlb3 HO3 HOn
            generalize stepB (linKp C ds) ds = res at *
            go_wp2_with fail
            go_ret2
            exact ⟨_, c6, by rw [Hrl.out]; rfl, by rw [Hrl.out]; exact HD.out, HK4.out⟩

theorem linstep3_any (K R Ct : Int) (A1 A2 A3 : Option Addr) (n1 c1 n2 c2 n3 c3 : Nat) (C : ConB) (A : Option Addr) (n c : Nat) (ds : List DomB) (w : World) (hC : ConIn w K R Ct A1 A2 A3 n1 c1 n2 c2 n3 c3 C) (hS : Doms w A n ds) (hT : Tab w) (hn : n ≤ 1000) (hK : K = 3) :
    Calls Tryd.prog 10 #[.agg #[.int .i64 K, .slice A1 n1 c1, .slice A2 n2 c2, .int .i64 R, .int .i64 Ct, .slice A3 n3 c3], .slice A n c] w (StepPost (if goK 3 C ds = true then some (stepB (linKp C ds) ds) else Option.none) w) := by
  subst hK
  have HC := Lib.hid hC
  have HS := Lib.hid hS
  have HT := Lib.hid hT
  have Hlen := Lib.hid hS.len
  have hKk := hC.kind
  clear hC hS hT
  have HR : Hid (∀ W, ConIn W 3 R Ct A1 A2 A3 n1 c1 n2 c2 n3 c3 C → Calls Tryd.prog 20 #[.agg #[.int .i64 3, .slice A1 n1 c1, .slice A2 n2 c2, .int .i64 R, .int .i64 Ct, .slice A3 n3 c3], .int .i64 n] W fun e w' => e = .returned (.bool (rightB C n)) ∧ Kept W w') := fun W hW => right3_any 3 R Ct A1 A2 A3 n1 c1 n2 c2 n3 c3 C n W hW rfl
  have HA : Hid (∀ W, Doms W A n ds → Calls Tryd.prog 21 #[.slice A n c, .func (.func 22) #[] #[]] W fun e w' => e = .returned (.bool (!allMay ds)) ∧ Kept W w') := fun W hW => lin_contains_any A n c ds W hW
  have Hgo : Hid (goK 3 C ds = (rightB C n && allMay ds)) := by
    show _ = _
    unfold goK; rw [hKk, Hlen.out]; simp
  generalize hb1 : rightB C n = b1 at HR Hgo
  generalize hb2 : allMay ds = b2 at HA Hgo
  have Hb1 := Lib.hid hb1
  have Hb2 := Lib.hid hb2
  have Hkk := Lib.hid hKk
  clear hb1 hb2 hKk
  rw [Hgo.out]
  clear Hgo
  cases b1 with
  | false =>
    go_enter Tryd.func10, Tryd.ntmps10
    go_wp2_with fail
    refine (HR.out _ (HC.out.kept ((Kept.box _ _).newBlock _))).mono ?_
    rintro e w1 ⟨rfl, hk⟩
    have Hk := Lib.hid (((Kept.box _ _).newBlock _).then hk)
    have Hlbx := Lib.hid (hk.heapAt (heap_new2 w _ _))
    have hl1 := cell_at Hlbx.out 0
    have hlb1 : w.heap.size + 1 < w1.heap.size := lt_at Hlbx.out
    simp only [List.getElem?_toArray, List.getElem?_cons_zero] at hl1
    clear hk
    go_wp2_with fail
    go_ret2
    exact ⟨rfl, Hk.out⟩
  | true =>
    cases b2 with
    | false =>
      go_enter Tryd.func10, Tryd.ntmps10
      go_wp2_with fail
      refine (HR.out _ (HC.out.kept ((Kept.box _ _).newBlock _))).mono ?_
      rintro e w1 ⟨rfl, hk⟩
      have Hk := Lib.hid (((Kept.box _ _).newBlock _).then hk)
      have Hlbx := Lib.hid (hk.heapAt (heap_new2 w _ _))
      have hl1 := cell_at Hlbx.out 0
      have hlb1 : w.heap.size + 1 < w1.heap.size := lt_at Hlbx.out
      simp only [List.getElem?_toArray, List.getElem?_cons_zero] at hl1
      clear hk
      go_wp2_with fail
      refine (HA.out _ (HS.out.kept Hk.out)).mono ?_
      rintro e w2 ⟨rfl, hk⟩
      have Hk2 := Lib.hid (Hk.out.then hk)
      clear hk
      go_wp2_with fail
      go_ret2
      exact ⟨rfl, Hk2.out⟩
    | true =>
      go_enter Tryd.func10, Tryd.ntmps10
      go_wp2_with fail
      refine (HR.out _ (HC.out.kept ((Kept.box _ _).newBlock _))).mono ?_
      rintro e w1 ⟨rfl, hk⟩
      have Hcon := Lib.hid (hk.heapAt ((Kept.box _ _).heapAt (heap_new w _)))
      have Hk := Lib.hid (((Kept.box _ _).newBlock _).then hk)
      have Hlbx := Lib.hid (hk.heapAt (heap_new2 w _ _))
      have hl1 := cell_at Hlbx.out 0
      have hlb1 : w.heap.size + 1 < w1.heap.size := lt_at Hlbx.out
      simp only [List.getElem?_toArray, List.getElem?_cons_zero] at hl1
      clear hk
      go_wp2_with fail
      refine (HA.out _ (HS.out.kept Hk.out)).mono ?_
      rintro e w2 ⟨rfl, hk⟩
      have Hcon2 := Lib.hid (hk.heapAt Hcon.out)
      have Hlb2 := Lib.hid (hk.heapAt Hlbx.out)
      have Hk2 := Lib.hid (Hk.out.then hk)
      clear hl1 hlb1
      have hl2 := cell_at Hlb2.out 0
      have hlb2 : w.heap.size + 1 < w2.heap.size := lt_at Hlb2.out
      simp only [List.getElem?_toArray, List.getElem?_cons_zero] at hl2
      clear hk
      go_wp2_with fail
      clear hl2 hlb2
      go_loopw [6, 30] (fun u v wr => ∃ k : Nat, k ≤ n ∧ v = .int .i64 k ∧ Hid (OwnD wr w2.heap.size u (ds.take k)) ∧ Hid (Kept w2 wr)) (fun _ v _ => n - (intOf v).toNat)
      case atStart => exact ⟨0, Nat.zero_le _, rfl, OwnD.nil _ _, Kept.same _⟩
      case round =>
        obtain ⟨k, hk, rfl, HO, Hkw⟩ := hrel
        by_cases hlt : k < n
        · have hSr := HS.out.kept (Hk2.out.then Hkw.out)
          obtain ⟨a, rfl, hblk⟩ := hSr.addr (by omega)
          obtain ⟨xs, L, B, m, cB, Hd, hc1, hc2, HI, hL⟩ := hSr.named k hlt
          have Hmay : Hid (mayB xs L = true) := by
            have := allMay_at Hb2.out (show k < ds.length by have := Hlen.out; omega)
            have h2 := Hd.out
            unfold nilD at h2
            rw [h2] at this
            exact this
          have hm64 : m ≤ 100000 := by have := mayB_len Hmay.out; have := HI.out.len; omega
          obtain ⟨vs, hown, hd⟩ := HO.out
          have hkl : (ds.take k).length = k := by rw [List.length_take]; have := Hlen.out; omega
          rw [hkl] at hown hd
          have Hown := Lib.hid hown
          have Hdd := Lib.hid hd
          have Hul : Hid (∀ i, u6.ownBlock = some i → w2.heap.size ≤ i ∧ i < wr.heap.size) := hown.lt
          have hszr := Hkw.out.size
          obtain ⟨i0, hi, hz0, hz1, hz2⟩ := info_parts info_dom
          clear hSr hown hd
          go_wp2_with fail
          have hlow : wr.heap.size < (wr.alloc (.cells #[.slice B m cB, .int .u64 L] 47)).heap.size := by simp
          go_region_held3 (fun W => W.cell? ⟨wr.heap.size, 0, none⟩ = some (.slice B m cB) ∧ W.cell? ⟨wr.heap.size, 1, none⟩ = some (.int .u64 L)) (first | go_keep | (exact ⟨hkC.cellAt (box2_0 _ _ _ _), hkC.cellAt (box2_1 _ _ _ _)⟩) | (exact ⟨hgrow.cell ((Kept.box _ _).cellAt (hkC.cellAt (box2_0 _ _ _ _))) (fun e => by have := Hul.out _ e.symm; simp at this), hgrow.cell ((Kept.box _ _).cellAt (hkC.cellAt (box2_1 _ _ _ _))) (fun e => by have := Hul.out _ e.symm; simp at this)⟩))
            (first
              | (go_at_call 24; refine (clone_any B m cB xs _ (HI.out.kept ((Kept.box _ _).then (Kept.drewn _))) hm64).mono ?_; rintro e wC ⟨B', c', rfl, hIB, hkC, hfB⟩)
              | (refine step_append_lies _ (by rfl) _ _ _ (by rfl) w2.heap.size 47 i0 _ 2 32 Tryd.underlying25 hi hz0 hz1 hz2 rfl (by omega) u6 k vs (by rfl) (own_kept Hown.out ((((Kept.box _ _).then (Kept.drewn _)).then hkC).newBlock _)) ⟨wC.heap.size, 0, none⟩ 1 1 [.slice B' m c', .int .u64 L] (by rfl) (by rfl) (World.news_of_block (cs := #[.slice B' m c', .int .u64 L]) (t := 47) (fr := (0, 0)) (heap_alloc_new wC _)) (by simp [Value.oneCell']) (by omega) (by unfold maxLen; omega) (by omega) (by have := hkC.size; simp at this ⊢; omega) (wC.heap.size + 1) (by simp) ?_; intro gg cap w3 hown3 hgrow hat hlt3))
          go_wp2
          go_roundw
          case rel =>
            refine ⟨k + 1, by omega, by go_num, ?_, ?_⟩
            · show OwnD w3 _ _ _
              rw [take_dom (by have := Hlen.out; omega) Hd.out]
              have hk2 := ((Kept.box wr (.cells #[.slice B m cB, .int .u64 L] 47)).then (Kept.drewn _)).then hkC
              have := OwnD.snoc (ds := ds.take k) (d := (xs, L)) (w1 := wC.alloc (.cells #[.slice B' m c', .int .u64 L] 47)) (B := B') (m := m) (c := c') (by rw [hkl]; exact own_kept Hown.out (hk2.newBlock _)) ?_ (hIB.kept (Kept.box _ _)) ?_ hL (by rw [hkl]; exact hown3) hgrow ?_
              · rw [hkl] at this; exact this
              · rw [hkl]
                intro j hj
                obtain ⟨hl, B1, m1, c1', e1, e2, e3, e4⟩ := Hdd.out j hj
                exact ⟨hl, B1, m1, c1', e1, e2, e3.kept (hk2.newBlock _), e4⟩
              · intro _ a' ha'
                have h5 := hfB a' ha'
                have h6 : wr.heap.size + 1 ≤ a'.block := by simpa using h5
                exact fun e => by have := Hul.out _ e; omega
              · rcases hat with h | h
                · exact Or.inl h
                · exact Or.inr (by rw [h]; simp)
            · show Kept w2 w3
              have hk2 := ((Kept.box wr (.cells #[.slice B m cB, .int .u64 L] 47)).then (Kept.drewn _)).then hkC
              exact (Hkw.out.then (hk2.newBlock _)).grown hgrow (by have := Hkw.out.size; have := hkC.size; simp at this ⊢; omega) (fun i hi => (Hul.out i hi).1)
          case measure => simp [intOf]; omega
        · have e : k = n := by omega
          subst e
          have HOn : Hid (OwnD wr w2.heap.size u6 ds) := by
            have := HO.out
            rwa [List.take_of_length_le (by have := Hlen.out; omega)] at this
          clear HO HA HR
          have hso := iff_parts Hkk.out Hb1.out
          have Hso := Lib.hid hso
          have Hvo := Lib.hid (rightB_vars Hb1.out)
          have Hvl := Lib.hid HC.out.vars.len
          have Hcl := Lib.hid HC.out.coefs.len
          have hn12 : 1 ≤ n1 ∧ n1 ≤ 9 := by have := Hvl.out; have := hso.least; have := hso.most; omega
          have HKr := Lib.hid (Hk2.out.then Hkw.out)
          have hkp : 0 < k := by have h1 := varsOk_rng Hvo.out (i := 0) (by have := Hvl.out; omega); omega
          obtain ⟨A6, c6, rfl⟩ := HOn.out.parts
          obtain ⟨vs, hown, _⟩ := HOn.out
          obtain ⟨g, cap, hg, hgb, hglr⟩ := hown.form (by have := Hlen.out; omega)
          cases hg
          rw [Hlen.out] at HOn ⊢
          have hgw : w.heap.size ≤ g := by have := Hk2.out.size; omega
          have Hlx := Lib.hid (Hkw.out.heapAt Hlb2.out)
          have Hcx := Lib.hid (Hkw.out.heapAt Hcon2.out)
          have HW : Hid (∀ W, Kept wr W → Calls Tryd.prog 25 #[.slice A1 n1 c1, .func (.func 26) #[] #[.pointer (some ⟨w.heap.size + 1, 0, Option.none⟩)]] W fun e w' => e = .returned (.bool (wipedB C ds n1)) ∧ Kept W w') := fun W hW => by
            have h := lints_contains_any A1 n1 c1 C.vars (.pointer (some ⟨w.heap.size + 1, 0, Option.none⟩)) (emptyB ds) W (HC.out.vars.kept (HKr.out.then hW))
              (fun x W' hx hW' => by
                obtain ⟨i, hi, e⟩ := List.getElem_of_mem hx
                have h9 := varsOk_rng Hvo.out (i := i) hi
                rw [List.getD_eq_getElem?_getD, List.getElem?_eq_getElem hi] at h9
                simp only [Option.getD_some, e] at h9
                exact lin2_any x (w.heap.size + 1) A k c ds W' (by rw [cell_at (hW'.heapAt (hW.heapAt Hlx.out)) 0]; rfl) (HS.out.kept ((HKr.out.then hW).then hW')) h9.1 h9.2)
            rwa [wiped_any, Hvl.out] at h
          have Hrl : Hid ((stepB (linKp C ds) ds).length = k) := by show _ = _; rw [stepB_length]; exact Hlen.out
          have Hr1 : Hid (wipedB C ds n1 = true → stepB (varsKp C.vars (fun _ _ => false) n1) ds = stepB (linKp C ds) ds) := fun h => lin_wiped Hvl.out h
          have Hr2 : Hid (wipedB C ds n1 = false → stepB (varsKp C.vars (iffG C ds) n1) ds = stepB (linKp C ds) ds) := fun h => by
            have h9 := lin_iff (n1 := n1) Hvl.out Hkk.out h
            exact h9
          have H0 : Hid (wipedB C ds n1 = false → ∀ i, i < n1 → 0 < (leftOf C ds i).length) := fun h => wipedB_iff.1 h
          generalize wipedB C ds n1 = q at *
          have hb := Hcx.out
          have b0 := cell_at hb 0
          have b1 := cell_at hb 1
          have b2 := cell_at hb 2
          have b3 := cell_at hb 3
          have b4 := cell_at hb 4
          have b5 := cell_at hb 5
          simp only [List.getElem?_toArray, List.getElem?_cons_zero, List.getElem?_cons_succ] at b0 b1 b2 b3 b4 b5
          clear hb
          have hl3 := cell_at Hlx.out 0
          have hlb3 : w.heap.size + 1 < wr.heap.size := lt_at Hlx.out
          simp only [List.getElem?_toArray, List.getElem?_cons_zero] at hl3
          clear hown hso
          go_wp2_with fail
          refine (HW.out _ (Kept.same _)).mono ?_
          rintro e W3 ⟨rfl, hk3⟩
          have HK3 := Lib.hid (HKr.out.then hk3)
          have HO3 := Lib.hid (HOn.out.kept hk3)
          have Hcon3 := Lib.hid (hk3.heapAt Hcx.out)
          have Hlb3 := Lib.hid (hk3.heapAt Hlx.out)
          have hg3 : g < W3.heap.size := by have := hk3.size; omega
          clear b0 b1 b2 b3 b4 b5 hl3 hlb3 hk3 HW
          have hb := Hcon3.out
          have b0 := cell_at hb 0
          have b1 := cell_at hb 1
          have b2 := cell_at hb 2
          have b3 := cell_at hb 3
          have b4 := cell_at hb 4
          have b5 := cell_at hb 5
          simp only [List.getElem?_toArray, List.getElem?_cons_zero, List.getElem?_cons_succ] at b0 b1 b2 b3 b4 b5
          clear hb
          have hl3 := cell_at Hlb3.out 0
          have hlb3 : w.heap.size + 1 < W3.heap.size := lt_at Hlb3.out
          simp only [List.getElem?_toArray, List.getElem?_cons_zero] at hl3
          cases q with
          | true =>
            have Hres := Lib.hid (Hr1.out (by first | rfl | trivial))
            go_wp2_with fail
            refine (linnone_any 3 R Ct A1 A2 A3 n1 c1 n2 c2 n3 c3 C w2.heap.size g k c6 ds w W3 HC.out HT.out HK3.out hgw hg3 HO3.out Hlen.out Hb2.out Hvo.out (by omega)).mono ?_
            rintro e W4 ⟨rfl, hO4, hk4⟩
            rw [Hres.out] at hO4
            have HD := Lib.hid (hO4.doms Hrl.out (by omega))
            have HK4 := Lib.hid (((KeptBut.of HK3.out g).then hk4).kept hgw)
            clear hO4 hk4 b0 b1 b2 b3 b4 b5 hl3 hlb3 HO3 HOn
            generalize stepB (linKp C ds) ds = res at *
            go_wp2_with fail
            go_ret2
            exact ⟨_, c6, by rw [Hrl.out]; rfl, by rw [Hrl.out]; exact HD.out, HK4.out⟩
          | false =>
            have Hres := Lib.hid (Hr2.out (by first | rfl | trivial))
            have H00 := Lib.hid (H0.out (by first | rfl | trivial))
            go_wp2_with fail
            refine (liniff_any 3 R Ct A1 A2 A3 n1 c1 n2 c2 n3 c3 C A k c ds w2.heap.size g c6 w W3 HC.out HS.out HT.out HK3.out hgw hg3 HO3.out Hb2.out Hso.out Hvo.out H00.out (by omega)).mono ?_
            rintro e W4 ⟨rfl, hO4, hk4⟩
            rw [Hres.out] at hO4
            have HD := Lib.hid (hO4.doms Hrl.out (by omega))
            have HK4 := Lib.hid (((KeptBut.of HK3.out g).then hk4).kept hgw)
            clear hO4 hk4 b0 b1 b2 b3 b4 b5 hl3 hlb3 HO3 HOn
            generalize stepB (linKp C ds) ds = res at *
            go_wp2_with fail
            go_ret2
            exact ⟨_, c6, by rw [Hrl.out]; rfl, by rw [Hrl.out]; exact HD.out, HK4.out⟩

theorem linGo_k {C : ConB} {ds : List DomB} {K : Int} (hk : C.kind = K) (h : K = 1 ∨ K = 3) : linGo C ds = goK K C ds := by
  unfold linGo goK
  rw [hk]
  rcases h with rfl | rfl <;> simp
theorem linstep_law (K R Ct : Int) (A1 A2 A3 : Option Addr) (n1 c1 n2 c2 n3 c3 : Nat) (C : ConB) (A : Option Addr) (n c : Nat) (ds : List DomB) (w : World) (hC : ConIn w K R Ct A1 A2 A3 n1 c1 n2 c2 n3 c3 C) (hS : Doms w A n ds) (hT : Tab w) (hn : n ≤ 1000) :
    Calls Tryd.prog 10 #[.agg #[.int .i64 K, .slice A1 n1 c1, .slice A2 n2 c2, .int .i64 R, .int .i64 Ct, .slice A3 n3 c3], .slice A n c] w (StepPost (if linGo C ds = true then some (stepB (linKp C ds) ds) else Option.none) w) := by
  by_cases g1 : K = 1
  · rw [linGo_k hC.kind (.inl g1)]
    subst g1
    exact linstep1_any 1 R Ct A1 A2 A3 n1 c1 n2 c2 n3 c3 C A n c ds w hC hS hT hn rfl
  by_cases g3 : K = 3
  · rw [linGo_k hC.kind (.inr g3)]
    subst g3
    exact linstep3_any 3 R Ct A1 A2 A3 n1 c1 n2 c2 n3 c3 C A n c ds w hC hS hT hn rfl
  have hgo : linGo C ds = false := linGo_not (fun h => by rw [hC.kind] at h; omega)
  rw [hgo]
  have hd1 : (K != 1) = true := by simpa using g1
  have hd3 : (K != 3) = true := by simpa using g3
  clear hC hS hT hn g1 g3 hgo
  go_enter Tryd.func10, Tryd.ntmps10
  go_wp2_with fail
  go_ret2
  exact ⟨rfl, (Kept.box _ _).newBlock _⟩
end Go.Proofs.YtekcenacpklpgaaDoor

set_option maxHeartbeats 1000000
set_option maxRecDepth 10000
namespace Go.Proofs.YtekcenacpklpgaaDoor
open Go Go.RowKit Pl

theorem heap_newAt {w : World} {o : Obj} {n : Nat} (hn : n = w.heap.size) : (w.alloc o).heap[n]? = some o := by subst hn; exact heap_new w o
theorem Doms.of_heap {w : World} {O n : Nat} {cs : Array Value} {t : TypeId} {fr : Nat × Nat} {ds : List DomB} (h : w.heap[O]? = some (.cells cs t fr)) (hn : ds.length = n) (hs : n ≤ 1000) (hl : ∀ j, j < n → (ds.getD j nilD).2 < 2 ^ 64)
    (hd : ∀ j, j < n → ∃ B m c, cs[j * 2]? = some (.slice B m c) ∧ cs[j * 2 + 1]? = some (.int .u64 ((ds.getD j nilD).2 : Nat)) ∧ Ints w B m (ds.getD j nilD).1) : Doms w (some ⟨O, 0, Option.none⟩) n ds :=
  ⟨hn, by omega, hl, fun _ => ⟨_, rfl, fun j hj => by
    obtain ⟨B, m, c, h1, h2, h3⟩ := hd j hj
    refine ⟨B, m, c, ?_, ?_, h3⟩
    · rw [add_plain, Nat.zero_add, cell_at h]; exact h1
    · rw [add_plain, Nat.zero_add, cell_at h]; exact h2⟩⟩
theorem Doms.plain {w : World} {A : Option Addr} {n : Nat} {ds : List DomB} (h : Doms w A n ds) (hn : 0 < n) : ∃ b off, A = some ⟨b, off, Option.none⟩ ∧ ∀ j, j < n → w.cell? ⟨b, off + j * 2 + 1, Option.none⟩ = some (.int .u64 ((ds.getD j nilD).2 : Nat)) := by
  obtain ⟨a, rfl, hc⟩ := h.cell hn
  obtain ⟨_, _, _, h0, _, _⟩ := hc 0 hn
  have e0 : a.add (0 * 2) = a := by unfold Addr.add; simp
  rw [e0] at h0
  have hp := plain_of_cell h0
  refine ⟨a.block, a.off, by rw [← hp], fun j hj => ?_⟩
  obtain ⟨_, _, _, _, h2, _⟩ := hc j hj
  rw [hp, add_plain] at h2
  exact h2

/-- Blocks laid one behind the other. -/
def allocs (w : World) (os : List Obj) : World := os.foldl World.alloc w
theorem heap_allocs : ∀ (os : List Obj) (w : World) (k : Nat) (o : Obj), os[k]? = some o → (allocs w os).heap[w.heap.size + k]? = some o ∧ Kept w (allocs w os)
  | [], w, k, o, h => by simp at h
  | x :: os, w, 0, o, h => by
    have e : x = o := by simpa using h
    subst e
    have hk : Kept (w.alloc x) (allocs (w.alloc x) os) := kept_allocs os _
    exact ⟨hk.heapAt (heap_new w x), (Kept.box w x).then hk⟩
  | x :: os, w, k + 1, o, h => by
    have h' : os[k]? = some o := by simpa using h
    obtain ⟨h1, h2⟩ := heap_allocs os (w.alloc x) k o h'
    rw [World.size_alloc] at h1
    refine ⟨?_, (Kept.box w x).then h2⟩
    have e : w.heap.size + (k + 1) = w.heap.size + 1 + k := by omega
    rw [e]
    exact h1
where kept_allocs : ∀ (os : List Obj) (w : World), Kept w (allocs w os)
  | [], w => Kept.same w
  | x :: os, w => (Kept.box w x).then (kept_allocs os (w.alloc x))

end Go.Proofs.YtekcenacpklpgaaDoor

set_option maxHeartbeats 1000000
set_option maxRecDepth 10000
namespace Go.Proofs.YtekcenacpklpgaaDoor
open Go Go.RowKit Pl

def C12 : ConB := ⟨1, [0, 1], [1, 1], 0, 5, []⟩
def D12_0 : List DomB := [([0, 1, 2, 3], 15), ([0, 1, 2, 3], 15)]
def E12_0 : List DomB := [([0, 1, 2, 3], 12), ([0, 1, 2, 3], 12)]
theorem go12_0 : linGo C12 D12_0 = true := by decide +kernel
theorem res12_0 : stepB (linKp C12 D12_0) D12_0 = E12_0 := by decide +kernel
def D12_1 : List DomB := [([0, 1, 2, 3], 15)]
theorem go12_1 : linGo C12 D12_1 = false := by decide +kernel
theorem step12_0 (A1 A2 A : Option Addr) (c1 c2 c : Nat) (w : World) (hC : ConIn w 1 0 5 A1 A2 Option.none 2 c1 2 c2 0 0 C12) (hS : Doms w A 2 D12_0) (hT : Tab w) :
    Calls Tryd.prog 10 #[.agg #[.int .i64 1, .slice A1 2 c1, .slice A2 2 c2, .int .i64 0, .int .i64 5, .slice Option.none 0 0], .slice A 2 c] w (StepPost (some E12_0) w) := by
  have := linstep_law 1 0 5 A1 A2 Option.none 2 c1 2 c2 0 0 C12 A 2 c D12_0 w hC hS hT (by decide)
  rwa [if_pos go12_0, res12_0] at this
theorem step12_1 (A1 A2 A : Option Addr) (c1 c2 c : Nat) (w : World) (hC : ConIn w 1 0 5 A1 A2 Option.none 2 c1 2 c2 0 0 C12) (hS : Doms w A 1 D12_1) (hT : Tab w) :
    Calls Tryd.prog 10 #[.agg #[.int .i64 1, .slice A1 2 c1, .slice A2 2 c2, .int .i64 0, .int .i64 5, .slice Option.none 0 0], .slice A 1 c] w (StepPost (Option.none) w) := by
  have := linstep_law 1 0 5 A1 A2 Option.none 2 c1 2 c2 0 0 C12 A 1 c D12_1 w hC hS hT (by decide)
  rwa [if_neg (by rw [go12_1]; decide)] at this

def C12i : ConB := ⟨3, [0, 1], [1], 5, 2, []⟩
def D12_2 : List DomB := [([0, 1, 2], 6), ([0, 1, 2, 3], 15)]
def E12_2 : List DomB := [([0, 1, 2], 2), ([0, 1, 2, 3], 12)]
theorem go12_2 : linGo C12i D12_2 = true := by decide +kernel
theorem res12_2 : stepB (linKp C12i D12_2) D12_2 = E12_2 := by decide +kernel
theorem step12_2 (A1 A2 A : Option Addr) (c1 c2 c : Nat) (w : World) (hC : ConIn w 3 5 2 A1 A2 Option.none 2 c1 1 c2 0 0 C12i) (hS : Doms w A 2 D12_2) (hT : Tab w) :
    Calls Tryd.prog 10 #[.agg #[.int .i64 3, .slice A1 2 c1, .slice A2 1 c2, .int .i64 5, .int .i64 2, .slice Option.none 0 0], .slice A 2 c] w (StepPost (some E12_2) w) := by
  have := linstep_law 3 5 2 A1 A2 Option.none 2 c1 1 c2 0 0 C12i A 2 c D12_2 w hC hS hT (by decide)
  rwa [if_pos go12_2, res12_2] at this

theorem awake12 (w : World) (hT : Tab w) : Calls Tryd.prog 8 #[] w fun e w' => e = .returned (.bool true) ∧ Kept w w' := by
  have HT := Lib.hid hT
  clear hT
  go_enter Tryd.func8, Tryd.ntmps8
  go_wp2_with fail
  have HF := fun k o h => (heap_allocs [.cells #[.int .i64 0, .int .i64 1, .int .i64 2, .int .i64 3] 3,
    .cells #[.slice (some ⟨w.heap.size, 0, Option.none⟩) 4 4, .int .u64 15] 47,
    .cells #[.int .i64 0, .int .i64 1] 3,
    .cells #[.int .i64 1, .int .i64 1] 3,
    .cells #[.int .i64 1, .slice (some ⟨w.heap.size + 1 + 1, 0, Option.none⟩) 2 2, .slice (some ⟨w.heap.size + 1 + 1 + 1, 0, Option.none⟩) 2 2, .int .i64 0, .int .i64 5, .slice Option.none 0 0] 24,
    .cells #[.slice (some ⟨w.heap.size, 0, Option.none⟩) 4 4, .int .u64 15, .slice (some ⟨w.heap.size, 0, Option.none⟩) 4 4, .int .u64 15] 47] w k o h).1
  have F0 := HF 0 _ rfl
  have F1 := HF 1 _ rfl
  have F2 := HF 2 _ rfl
  have F3 := HF 3 _ rfl
  have F4 := HF 4 _ rfl
  have F5 := HF 5 _ rfl
  have HKw := Lib.hid (heap_allocs.kept_allocs [.cells #[.int .i64 0, .int .i64 1, .int .i64 2, .int .i64 3] 3,
    .cells #[.slice (some ⟨w.heap.size, 0, Option.none⟩) 4 4, .int .u64 15] 47,
    .cells #[.int .i64 0, .int .i64 1] 3,
    .cells #[.int .i64 1, .int .i64 1] 3,
    .cells #[.int .i64 1, .slice (some ⟨w.heap.size + 1 + 1, 0, Option.none⟩) 2 2, .slice (some ⟨w.heap.size + 1 + 1 + 1, 0, Option.none⟩) 2 2, .int .i64 0, .int .i64 5, .slice Option.none 0 0] 24,
    .cells #[.slice (some ⟨w.heap.size, 0, Option.none⟩) 4 4, .int .u64 15, .slice (some ⟨w.heap.size, 0, Option.none⟩) 4 4, .int .u64 15] 47] w)
  show Calls Tryd.prog 10 _ (allocs w [.cells #[.int .i64 0, .int .i64 1, .int .i64 2, .int .i64 3] 3,
    .cells #[.slice (some ⟨w.heap.size, 0, Option.none⟩) 4 4, .int .u64 15] 47,
    .cells #[.int .i64 0, .int .i64 1] 3,
    .cells #[.int .i64 1, .int .i64 1] 3,
    .cells #[.int .i64 1, .slice (some ⟨w.heap.size + 1 + 1, 0, Option.none⟩) 2 2, .slice (some ⟨w.heap.size + 1 + 1 + 1, 0, Option.none⟩) 2 2, .int .i64 0, .int .i64 5, .slice Option.none 0 0] 24,
    .cells #[.slice (some ⟨w.heap.size, 0, Option.none⟩) 4 4, .int .u64 15, .slice (some ⟨w.heap.size, 0, Option.none⟩) 4 4, .int .u64 15] 47]) _
  generalize allocs w [.cells #[.int .i64 0, .int .i64 1, .int .i64 2, .int .i64 3] 3,
    .cells #[.slice (some ⟨w.heap.size, 0, Option.none⟩) 4 4, .int .u64 15] 47,
    .cells #[.int .i64 0, .int .i64 1] 3,
    .cells #[.int .i64 1, .int .i64 1] 3,
    .cells #[.int .i64 1, .slice (some ⟨w.heap.size + 1 + 1, 0, Option.none⟩) 2 2, .slice (some ⟨w.heap.size + 1 + 1 + 1, 0, Option.none⟩) 2 2, .int .i64 0, .int .i64 5, .slice Option.none 0 0] 24,
    .cells #[.slice (some ⟨w.heap.size, 0, Option.none⟩) 4 4, .int .u64 15, .slice (some ⟨w.heap.size, 0, Option.none⟩) 4 4, .int .u64 15] 47] = W0 at *
  have I0 : Hid (Ints W0 (some ⟨w.heap.size, 0, Option.none⟩) 4 [0, 1, 2, 3]) := Ints.of_cells (xs := [0, 1, 2, 3]) F0 (by decide) (by decide) rfl
  have HC : Hid (ConIn W0 1 0 5 (some ⟨w.heap.size + 1 + 1, 0, Option.none⟩) (some ⟨w.heap.size + 1 + 1 + 1, 0, Option.none⟩) Option.none 2 2 2 2 0 0 C12) :=
    ⟨rfl, rfl, rfl, Ints.of_cells (xs := [0, 1]) F2 (by decide) (by decide) rfl, Ints.of_cells (xs := [1, 1]) F3 (by decide) (by decide) rfl, Ints.none _, by decide, by decide, by decide, by decide, by decide⟩
  have HD0 : Hid (Doms W0 (some ⟨w.heap.size + 1 + 1 + 1 + 1 + 1, 0, Option.none⟩) 2 D12_0) := Doms.of_heap F5 rfl (by decide) (by decide) (fun j hj => by
    match j, hj with
    | 0, _ => exact ⟨_, _, _, rfl, rfl, I0.out⟩
    | 1, _ => exact ⟨_, _, _, rfl, rfl, I0.out⟩)
  have HB0 := Lib.hid F1
  have HBc := Lib.hid F4
  clear HF F0 F1 F2 F3 F4 F5
  refine (step12_0 _ _ _ _ _ _ _ HC.out HD0.out (HT.out.kept HKw.out)).mono ?_
  rintro e W1 ⟨A0', c0', rfl, hD0, hk⟩
  have HW0 := Lib.hid hk
  have HR0 := Lib.hid hD0
  have h0 := HW0.out.heapAt HB0.out
  have a0_0 := cell_at h0 0
  have a0_1 := cell_at h0 1
  have hc := HW0.out.heapAt HBc.out
  have ac_0 := cell_at hc 0
  have ac_1 := cell_at hc 1
  have ac_2 := cell_at hc 2
  have ac_3 := cell_at hc 3
  have ac_4 := cell_at hc 4
  have ac_5 := cell_at hc 5
  simp only [List.getElem?_toArray, List.getElem?_cons_zero, List.getElem?_cons_succ] at a0_0 a0_1 ac_0 ac_1 ac_2 ac_3 ac_4 ac_5
  clear h0 hc hk hD0
  have el0 : E12_0.length = 2 := rfl
  simp only [el0]
  go_wp2_with fail
  clear a0_0 a0_1 ac_0 ac_1 ac_2 ac_3 ac_4 ac_5
  refine (step12_1 _ _ _ _ _ _ _ (HC.out.kept (HW0.out.then (Kept.box _ _))) (Doms.of_heap (ds := D12_1) (heap_new _ _) rfl (by decide) (by decide) (fun j hj => by
    match j, hj with
    | 0, _ => exact ⟨_, _, _, rfl, rfl, I0.out.kept (HW0.out.then (Kept.box _ _))⟩)) (HT.out.kept (HKw.out.then (HW0.out.then (Kept.box _ _))))).mono ?_
  rintro e W2 ⟨rfl, hk⟩
  have HW1 := Lib.hid (HW0.out.then ((Kept.box _ _).then hk))
  have HR0 := Lib.hid (HR0.out.kept ((Kept.box _ _).then hk))
  have h9 := HW1.out.heapAt HB0.out
  have a9_0 := cell_at h9 0
  have a9_1 := cell_at h9 1
  simp only [List.getElem?_toArray, List.getElem?_cons_zero, List.getElem?_cons_succ] at a9_0 a9_1
  have hl9 : w.heap.size + 1 < W2.heap.size := lt_at h9
  have hlA : w.heap.size + 1 < W2.heap.size + 1 := by omega
  have hlB : w.heap.size + 1 < W2.heap.size + 1 + 1 := by omega
  have hlC : w.heap.size + 1 < W2.heap.size + 1 + 1 + 1 := by omega
  have hlD : w.heap.size + 1 < W2.heap.size + 1 + 1 + 1 + 1 := by omega
  clear h9 hk
  go_wp2_with fail
  clear a9_0 a9_1
  have HF := fun k o h => (heap_allocs [.cells #[.int .i64 0, .int .i64 1] 3,
    .cells #[.int .i64 1] 3,
    .cells #[.int .i64 3, .slice (some ⟨W2.heap.size, 0, Option.none⟩) 2 2, .slice (some ⟨W2.heap.size + 1, 0, Option.none⟩) 1 1, .int .i64 5, .int .i64 2, .slice Option.none 0 0] 24,
    .cells #[.int .i64 0, .int .i64 1, .int .i64 2] 3,
    .cells #[.slice (some ⟨W2.heap.size + 1 + 1 + 1, 0, Option.none⟩) 3 3, .int .u64 6, .slice (some ⟨w.heap.size, 0, Option.none⟩) 4 4, .int .u64 15] 47] W2 k o h).1
  have F0 := HF 0 _ rfl
  have F1 := HF 1 _ rfl
  have F3 := HF 3 _ rfl
  have F4 := HF 4 _ rfl
  have HKv := Lib.hid (heap_allocs.kept_allocs [.cells #[.int .i64 0, .int .i64 1] 3,
    .cells #[.int .i64 1] 3,
    .cells #[.int .i64 3, .slice (some ⟨W2.heap.size, 0, Option.none⟩) 2 2, .slice (some ⟨W2.heap.size + 1, 0, Option.none⟩) 1 1, .int .i64 5, .int .i64 2, .slice Option.none 0 0] 24,
    .cells #[.int .i64 0, .int .i64 1, .int .i64 2] 3,
    .cells #[.slice (some ⟨W2.heap.size + 1 + 1 + 1, 0, Option.none⟩) 3 3, .int .u64 6, .slice (some ⟨w.heap.size, 0, Option.none⟩) 4 4, .int .u64 15] 47] W2)
  show Calls Tryd.prog 10 _ (allocs W2 [.cells #[.int .i64 0, .int .i64 1] 3,
    .cells #[.int .i64 1] 3,
    .cells #[.int .i64 3, .slice (some ⟨W2.heap.size, 0, Option.none⟩) 2 2, .slice (some ⟨W2.heap.size + 1, 0, Option.none⟩) 1 1, .int .i64 5, .int .i64 2, .slice Option.none 0 0] 24,
    .cells #[.int .i64 0, .int .i64 1, .int .i64 2] 3,
    .cells #[.slice (some ⟨W2.heap.size + 1 + 1 + 1, 0, Option.none⟩) 3 3, .int .u64 6, .slice (some ⟨w.heap.size, 0, Option.none⟩) 4 4, .int .u64 15] 47]) _
  generalize allocs W2 [.cells #[.int .i64 0, .int .i64 1] 3,
    .cells #[.int .i64 1] 3,
    .cells #[.int .i64 3, .slice (some ⟨W2.heap.size, 0, Option.none⟩) 2 2, .slice (some ⟨W2.heap.size + 1, 0, Option.none⟩) 1 1, .int .i64 5, .int .i64 2, .slice Option.none 0 0] 24,
    .cells #[.int .i64 0, .int .i64 1, .int .i64 2] 3,
    .cells #[.slice (some ⟨W2.heap.size + 1 + 1 + 1, 0, Option.none⟩) 3 3, .int .u64 6, .slice (some ⟨w.heap.size, 0, Option.none⟩) 4 4, .int .u64 15] 47] = W3 at *
  have J0 : Hid (Ints W3 (some ⟨W2.heap.size + 1 + 1 + 1, 0, Option.none⟩) 3 [0, 1, 2]) := Ints.of_cells (xs := [0, 1, 2]) F3 (by decide) (by decide) rfl
  have HC2 : Hid (ConIn W3 3 5 2 (some ⟨W2.heap.size, 0, Option.none⟩) (some ⟨W2.heap.size + 1, 0, Option.none⟩) Option.none 2 2 1 1 0 0 C12i) :=
    ⟨rfl, rfl, rfl, Ints.of_cells (xs := [0, 1]) F0 (by decide) (by decide) rfl, Ints.of_cells (xs := [1]) F1 (by decide) (by decide) rfl, Ints.none _, by decide, by decide, by decide, by decide, by decide⟩
  have HD2 : Hid (Doms W3 (some ⟨W2.heap.size + 1 + 1 + 1 + 1, 0, Option.none⟩) 2 D12_2) := Doms.of_heap F4 rfl (by decide) (by decide) (fun j hj => by
    match j, hj with
    | 0, _ => exact ⟨_, _, _, rfl, rfl, J0.out⟩
    | 1, _ => exact ⟨_, _, _, rfl, rfl, I0.out.kept (HW1.out.then HKv.out)⟩)
  clear HF F0 F1 F3 F4
  refine (step12_2 _ _ _ _ _ _ _ HC2.out HD2.out (HT.out.kept ((HKw.out.then HW1.out).then HKv.out))).mono ?_
  rintro e W4 ⟨A2', c2', rfl, hD2, hk⟩
  have HW2 := Lib.hid ((HW1.out.then HKv.out).then hk)
  have HR0 := Lib.hid (HR0.out.kept (HKv.out.then hk))
  have HR2 := Lib.hid hD2
  clear hk hD2
  have el2 : E12_2.length = 2 := rfl
  simp only [el2]
  obtain ⟨b0, off0, hb0, hcc0⟩ := HR0.out.plain (by decide)
  subst hb0
  have q0_0 := hcc0 0 (by decide)
  have e0_0 : ((E12_0.getD 0 nilD).2 : Nat) = 12 := by decide
  rw [e0_0] at q0_0
  clear e0_0
  have q0_1 := hcc0 1 (by decide)
  have e0_1 : ((E12_0.getD 1 nilD).2 : Nat) = 12 := by decide
  rw [e0_1] at q0_1
  clear e0_1
  clear hcc0
  obtain ⟨b2, off2, hb2, hcc2⟩ := HR2.out.plain (by decide)
  subst hb2
  have q2_0 := hcc2 0 (by decide)
  have e2_0 : ((E12_2.getD 0 nilD).2 : Nat) = 2 := by decide
  rw [e2_0] at q2_0
  clear e2_0
  have q2_1 := hcc2 1 (by decide)
  have e2_1 : ((E12_2.getD 1 nilD).2 : Nat) = 12 := by decide
  rw [e2_1] at q2_1
  clear e2_1
  clear hcc2
  have HKe := Lib.hid (HKw.out.then HW2.out)
  have cb2 : contraB 2 = 5 := rfl
  have cb9 : contraB 9 = 9 := rfl
  go_wp2_with (go_at_call 19; refine (lincontrary_any _ _).mono ?_; rintro e w' ⟨rfl, rfl⟩)
  go_ret
  exact ⟨rfl, HKe.out⟩
end Go.Proofs.YtekcenacpklpgaaDoor

set_option maxHeartbeats 1000000
set_option maxRecDepth 10000
namespace Go.Proofs.YtekcenacpklpgaaDoor
open Go Go.RowKit Pl

def wideB (ds : List DomB) : Bool := ds.any fun d => decide (150 < d.1.length)
def largeB (C : ConB) (ds : List DomB) : Bool := decide ((20 : Int) < ds.length) || decide ((150 : Int) < C.vars.length) || decide ((150 : Int) < C.coefs.length) || decide ((150 : Int) < C.nums.length) || wideB ds
theorem large_det (K R Ct : Int) (A1 A2 A3 : Option Addr) (n1 c1 n2 c2 n3 c3 : Nat) (C : ConB) (A : Option Addr) (n c : Nat) (ds : List DomB) (w : World) (hC : ConIn w K R Ct A1 A2 A3 n1 c1 n2 c2 n3 c3 C) (hS : Doms w A n ds) :
    Calls Tryd.prog 9 #[.agg #[.int .i64 K, .slice A1 n1 c1, .slice A2 n2 c2, .int .i64 R, .int .i64 Ct, .slice A3 n3 c3], .slice A n c] w fun e w' => e = .returned (.bool (largeB C ds)) ∧ Kept w w' := by
  have HS := Lib.hid hS
  have hsm := hS.small
  have hs1 := hC.vars.small
  have hs2 := hC.coefs.small
  have hs3 := hC.nums.small
  have HLn := Lib.hid hS.len
  have HLg : Hid (largeB C ds = (decide ((20 : Int) < n) || decide ((150 : Int) < n1) || decide ((150 : Int) < n2) || decide ((150 : Int) < n3) || wideB ds)) := by
    show _ = _
    unfold largeB
    rw [hS.len, hC.vars.len, hC.coefs.len, hC.nums.len]
  clear hC hS
  by_cases g1 : (20 : Int) < n
  · have hd : decide ((20 : Int) < n) = true := by simp; omega
    go_enter Tryd.func9, Tryd.ntmps9
    go_wp2_with fail
    go_ret
    exact ⟨ret_bool (by rw [HLg.out]; simp [*]), Kept.box _ _⟩
  have hn : n ≤ 20 := by omega
  have hd1 : decide ((20 : Int) < n) = false := by simp; omega
  by_cases g2 : (150 : Int) < n1
  · have hd : decide ((150 : Int) < n1) = true := by simp; omega
    go_enter Tryd.func9, Tryd.ntmps9
    go_wp2_with fail
    go_ret
    exact ⟨ret_bool (by rw [HLg.out]; simp [*]), Kept.box _ _⟩
  have hd2 : decide ((150 : Int) < n1) = false := by simp; omega
  by_cases g3 : (150 : Int) < n2
  · have hd : decide ((150 : Int) < n2) = true := by simp; omega
    go_enter Tryd.func9, Tryd.ntmps9
    go_wp2_with fail
    go_ret
    exact ⟨ret_bool (by rw [HLg.out]; simp [*]), Kept.box _ _⟩
  have hd3 : decide ((150 : Int) < n2) = false := by simp; omega
  by_cases g4 : (150 : Int) < n3
  · have hd : decide ((150 : Int) < n3) = true := by simp; omega
    go_enter Tryd.func9, Tryd.ntmps9
    go_wp2_with fail
    go_ret
    exact ⟨ret_bool (by rw [HLg.out]; simp [*]), Kept.box _ _⟩
  have hd4 : decide ((150 : Int) < n3) = false := by simp; omega
  have HLg2 : Hid (largeB C ds = wideB ds) := by show _ = _; rw [HLg.out, hd1, hd2, hd3, hd4]; rfl
  go_enter Tryd.func9, Tryd.ntmps9
  go_wp2_with fail
  go_loopw [30] (fun v wr => ∃ k : Nat, k ≤ n ∧ v = .int .i64 k ∧ Hid (Kept w wr) ∧ Hid (wideB (ds.take k) = false)) (fun v _ => n - (intOf v).toNat)
  case atStart => exact ⟨0, Nat.zero_le _, rfl, Kept.box _ _, rfl⟩
  case round =>
    obtain ⟨k, hk, rfl, Hkw, Hwd⟩ := hrel
    by_cases hlt : k < n
    · have hSr := HS.out.kept Hkw.out
      obtain ⟨a, rfl, hblk⟩ := hSr.addr (by omega)
      obtain ⟨xs, L, B, m, cB, Hd, hc1, hc2, HI, hL⟩ := hSr.named k hlt
      have hm := HI.out.small
      have Hxl := Lib.hid HI.out.len
      have Hst : Hid (wideB (ds.take (k + 1)) = decide (150 < xs.length)) := by
        show _ = _
        rw [take_dom (by have := HLn.out; omega) Hd.out]
        unfold wideB
        rw [List.any_append, show (ds.take k).any (fun d => decide (150 < d.1.length)) = false from Hwd.out]
        simp
      clear hSr
      by_cases g5 : (150 : Int) < m
      · have hd5 : decide ((150 : Int) < m) = true := by simp; omega
        go_wp2_with fail
        go_ret
        refine ⟨ret_bool ?_, Hkw.out.newBlock _⟩
        rw [HLg2.out]
        symm
        have h1 : wideB (ds.take (k + 1)) = true := by rw [Hst.out, Hxl.out]; simp; omega
        unfold wideB at h1 ⊢
        rw [List.any_eq_true] at h1 ⊢
        obtain ⟨d, hd, h⟩ := h1
        exact ⟨d, List.mem_of_mem_take hd, h⟩
      · have hd5 : decide ((150 : Int) < m) = false := by simp; omega
        go_wp2_with fail
        go_roundw
        case rel => exact ⟨k + 1, by omega, by go_num, Hkw.out.newBlock _, by show _ = _; rw [Hst.out, Hxl.out]; simp; omega⟩
        case measure => simp [intOf]; omega
    · have e : k = n := by omega
      have Hfin : Hid (wideB ds = false) := by
        have h := Hwd.out
        rwa [List.take_of_length_le (by have := HLn.out; omega)] at h
      clear e
      go_wp2_with fail
      go_ret
      exact ⟨ret_bool (by rw [HLg2.out, Hfin.out]), Hkw.out⟩

end Go.Proofs.YtekcenacpklpgaaDoor

/-
  Contracts and plain laws that the card rests on, part 14.
-/
import Derived.Test.YtjmegicopdbkdaaDoorJ7
import Derived.Test.YtjmegicopdbkdaaDoorJ11
import Derived.Test.YtjmegicopdbkdaaDoorJ12
import Derived.Test.YtjmegicopdbkdaaDoorJ13
import Derived.Test.YtjmegicopdbkdaaDoorJ6
set_option maxHeartbeats 4000000
set_option maxRecDepth 10000
namespace Go.Proofs.YtjmegicopdbkdaaDoor
open Go Go.RowKit Go.Maps Pl

theorem diff_parts {C : ConB} {V : Int} (hk : C.kind = 5) (h : rightB C V = true) : 2 ≤ C.vars.length ∧ C.vars.length ≤ 8 := by
  unfold rightB at h
  simp only [hk] at h
  unfold plainR at h
  simp only [hk] at h
  simp at h
  omega
theorem stepVars_set {vars : List Int} {g : Nat → Int → Bool} {ds : List DomB} {j p : Nat} (hp : p < ds.length) (hj : vars.getD j 0 = (p : Nat)) :
    stepB (varsKp vars g (j + 1)) ds = (stepB (varsKp vars g j) ds).set p (keepD (g j) ((stepB (varsKp vars g j) ds).getD p ([], 0))) := by
  apply ext_getD (by rw [List.length_set, stepB_length, stepB_length])
  intro i hi
  rw [stepB_length] at hi
  rw [stepB_getD _ _ hi, getD_set _ _ _ _ (by rw [stepB_length]; exact hp)]
  by_cases e : i = p
  · subst e
    rw [if_pos rfl, stepB_getD _ _ hi, keepD_keepD]
    congr 1
    funext x
    rw [varsKp_succ, hj, Int.toNat_natCast, decide_eq_true rfl]
    simp
  · rw [if_neg e, stepB_getD _ _ hi]
    congr 1
    funext x
    rw [varsKp_succ, hj, Int.toNat_natCast, decide_eq_false (fun h => e h.symm)]
    simp
theorem any_range_getD (l : List Int) (f : Int → Bool) : ((List.range l.length).any fun k => f (l.getD k 0)) = l.any f := by
  rw [Bool.eq_iff_iff, List.any_eq_true, List.any_eq_true]
  constructor
  · rintro ⟨k, hk, h⟩
    refine ⟨l.getD k 0, ?_, h⟩
    rw [List.getD_eq_getElem?_getD, List.getElem?_eq_getElem (List.mem_range.1 hk)]
    exact List.getElem_mem _
  · rintro ⟨x, hx, h⟩
    obtain ⟨k, hk, e⟩ := List.getElem_of_mem hx
    refine ⟨k, List.mem_range.2 hk, ?_⟩
    rw [List.getD_eq_getElem?_getD, List.getElem?_eq_getElem hk]
    simpa [e] using h

theorem diffstep_any (K R Ct : Int) (A1 A2 A3 : Option Addr) (n1 c1 n2 c2 n3 c3 : Nat) (C : ConB) (A : Option Addr) (n c : Nat) (ds : List DomB) (w : World) (hC : ConIn w K R Ct A1 A2 A3 n1 c1 n2 c2 n3 c3 C) (hS : Doms w A n ds) (hT : Tab w) (hn : n ≤ 1000) :
    Calls Tryd.prog 23 #[.agg #[.int .i64 K, .slice A1 n1 c1, .slice A2 n2 c2, .int .i64 R, .int .i64 Ct, .slice A3 n3 c3], .slice A n c] w (StepPost (if goK 5 C ds = true then some (stepB (varsKp C.vars (diffG C ds) C.vars.length) ds) else Option.none) w) := by
  have HC := Lib.hid hC
  have HS := Lib.hid hS
  have HT := Lib.hid hT
  have Hlen := Lib.hid hS.len
  have hKk := hC.kind
  clear hC hS hT
  by_cases g1 : ¬ K = 5
  · have hd : (K != 5) = true := by simpa using g1
    have hgo : goK 5 C ds = false := by unfold goK; rw [hKk]; simp [g1]
    rw [hgo]
    go_enter Tryd.func23, Tryd.ntmps23
    go_wp2_with fail
    go_ret2
    exact ⟨rfl, (Kept.box _ _).newBlock _⟩
  have g1 := Classical.not_not.1 g1
  subst g1
  have HR : Hid (∀ W, ConIn W 5 R Ct A1 A2 A3 n1 c1 n2 c2 n3 c3 C → Calls Tryd.prog 25 #[.agg #[.int .i64 5, .slice A1 n1 c1, .slice A2 n2 c2, .int .i64 R, .int .i64 Ct, .slice A3 n3 c3], .int .i64 n] W fun e w' => e = .returned (.bool (rightB C n)) ∧ Kept W w') := fun W hW => right5_any 5 R Ct A1 A2 A3 n1 c1 n2 c2 n3 c3 C n W hW rfl
  have HA : Hid (∀ W, Doms W A n ds → Calls Tryd.prog 26 #[.slice A n c, .func (.func 42) #[] #[]] W fun e w' => e = .returned (.bool (!allMay ds)) ∧ Kept W w') := fun W hW => diff_contains_any A n c ds W hW
  have Hgo : Hid (goK 5 C ds = (rightB C n && allMay ds)) := by
    show _ = _
    unfold goK; rw [hKk, Hlen.out]; simp
  generalize hb1 : rightB C n = b1 at HR Hgo
  generalize hb2 : allMay ds = b2 at HA Hgo
  have Hb1 := Lib.hid hb1
  have Hb2 := Lib.hid hb2
  have Hkk := Lib.hid hKk
  clear hb1 hb2 hKk
  rw [Hgo.out]
  clear Hgo
  cases b1 with
  | false =>
    go_enter Tryd.func23, Tryd.ntmps23
    go_wp2_with fail
    refine (HR.out _ (HC.out.kept ((Kept.box _ _).newBlock _))).mono ?_
    rintro e w1 ⟨rfl, hk⟩
    have Hk := Lib.hid (((Kept.box _ _).newBlock _).then hk)
    have Hlbx := Lib.hid (hk.heapAt (heap_new2 w _ _))
    have hl1 := cell_at Hlbx.out 0
    have hlb1 : w.heap.size + 1 < w1.heap.size := lt_at Hlbx.out
    simp only [List.getElem?_toArray, List.getElem?_cons_zero] at hl1
    clear hk
    go_wp2_with fail
    go_ret2
    exact ⟨rfl, Hk.out⟩
  | true =>
    cases b2 with
    | false =>
      go_enter Tryd.func23, Tryd.ntmps23
      go_wp2_with fail
      refine (HR.out _ (HC.out.kept ((Kept.box _ _).newBlock _))).mono ?_
      rintro e w1 ⟨rfl, hk⟩
      have Hk := Lib.hid (((Kept.box _ _).newBlock _).then hk)
      have Hlbx := Lib.hid (hk.heapAt (heap_new2 w _ _))
      have hl1 := cell_at Hlbx.out 0
      have hlb1 : w.heap.size + 1 < w1.heap.size := lt_at Hlbx.out
      simp only [List.getElem?_toArray, List.getElem?_cons_zero] at hl1
      clear hk
      go_wp2_with fail
      refine (HA.out _ (HS.out.kept Hk.out)).mono ?_
      rintro e w2 ⟨rfl, hk⟩
      have Hk2 := Lib.hid (Hk.out.then hk)
      clear hk
      go_wp2_with fail
      go_ret2
      exact ⟨rfl, Hk2.out⟩
    | true =>
      go_enter Tryd.func23, Tryd.ntmps23
      go_wp2_with fail
      refine (HR.out _ (HC.out.kept ((Kept.box _ _).newBlock _))).mono ?_
      rintro e w1 ⟨rfl, hk⟩
      have Hcon := Lib.hid (hk.heapAt ((Kept.box _ _).heapAt (heap_new w _)))
      have Hk := Lib.hid (((Kept.box _ _).newBlock _).then hk)
      have Hlbx := Lib.hid (hk.heapAt (heap_new2 w _ _))
      have hl1 := cell_at Hlbx.out 0
      have hlb1 : w.heap.size + 1 < w1.heap.size := lt_at Hlbx.out
      simp only [List.getElem?_toArray, List.getElem?_cons_zero] at hl1
      clear hk
      go_wp2_with fail
      refine (HA.out _ (HS.out.kept Hk.out)).mono ?_
      rintro e w2 ⟨rfl, hk⟩
      have Hcon2 := Lib.hid (hk.heapAt Hcon.out)
      have Hlb2 := Lib.hid (hk.heapAt Hlbx.out)
      have Hk2 := Lib.hid (Hk.out.then hk)
      clear hl1 hlb1
      have hl2 := cell_at Hlb2.out 0
      have hlb2 : w.heap.size + 1 < w2.heap.size := lt_at Hlb2.out
      simp only [List.getElem?_toArray, List.getElem?_cons_zero] at hl2
      clear hk
      go_wp2_with fail
      clear hl2 hlb2
      go_loopw [6, 28] (fun u v wr => ∃ k : Nat, k ≤ n ∧ v = .int .i64 k ∧ Hid (OwnD wr w2.heap.size u (ds.take k)) ∧ Hid (Kept w2 wr)) (fun _ v _ => n - (intOf v).toNat)
      case atStart => exact ⟨0, Nat.zero_le _, rfl, OwnD.nil _ _, Kept.same _⟩
      case round =>
        obtain ⟨k, hk, rfl, HO, Hkw⟩ := hrel
        by_cases hlt : k < n
        · have hSr := HS.out.kept (Hk2.out.then Hkw.out)
          obtain ⟨a, rfl, hblk⟩ := hSr.addr (by omega)
          obtain ⟨xs, L, B, m, cB, Hd, hc1, hc2, HI, hL⟩ := hSr.named k hlt
          have Hmay : Hid (mayB xs L = true) := by
            have := allMay_at Hb2.out (show k < ds.length by have := Hlen.out; omega)
            have h2 := Hd.out
            unfold nilD at h2
            rw [h2] at this
            exact this
          have hm64 : m ≤ 100000 := by have := mayB_len Hmay.out; have := HI.out.len; omega
          obtain ⟨vs, hown, hd⟩ := HO.out
          have hkl : (ds.take k).length = k := by rw [List.length_take]; have := Hlen.out; omega
          rw [hkl] at hown hd
          have Hown := Lib.hid hown
          have Hdd := Lib.hid hd
          have Hul : Hid (∀ i, u6.ownBlock = some i → w2.heap.size ≤ i ∧ i < wr.heap.size) := hown.lt
          have hszr := Hkw.out.size
          obtain ⟨i0, hi, hz0, hz1, hz2⟩ := info_parts info_dom
          clear hSr hown hd
          go_wp2_with fail
          have hlow : wr.heap.size < (wr.alloc (.cells #[.slice B m cB, .int .u64 L] 47)).heap.size := by simp
          go_region_held3 (fun W => W.cell? ⟨wr.heap.size, 0, none⟩ = some (.slice B m cB) ∧ W.cell? ⟨wr.heap.size, 1, none⟩ = some (.int .u64 L)) (first | go_keep | (exact ⟨hkC.cellAt (box2_0 _ _ _ _), hkC.cellAt (box2_1 _ _ _ _)⟩) | (exact ⟨hgrow.cell ((Kept.box _ _).cellAt (hkC.cellAt (box2_0 _ _ _ _))) (fun e => by have := Hul.out _ e.symm; simp at this), hgrow.cell ((Kept.box _ _).cellAt (hkC.cellAt (box2_1 _ _ _ _))) (fun e => by have := Hul.out _ e.symm; simp at this)⟩))
            (first
              | (go_at_call 29; refine (clone_any B m cB xs _ (HI.out.kept ((Kept.box _ _).then (Kept.drewn _))) hm64).mono ?_; rintro e wC ⟨B', c', rfl, hIB, hkC, hfB⟩)
              | (refine step_append_lies _ (by rfl) _ _ _ (by rfl) w2.heap.size 47 i0 _ 2 32 Tryd.underlying25 hi hz0 hz1 hz2 rfl (by omega) u6 k vs (by rfl) (own_kept Hown.out ((((Kept.box _ _).then (Kept.drewn _)).then hkC).newBlock _)) ⟨wC.heap.size, 0, none⟩ 1 1 [.slice B' m c', .int .u64 L] (by rfl) (by rfl) (World.news_of_block (cs := #[.slice B' m c', .int .u64 L]) (t := 47) (fr := (0, 0)) (heap_alloc_new wC _)) (by simp [Value.oneCell']) (by omega) (by unfold maxLen; omega) (by omega) (by have := hkC.size; simp at this ⊢; omega) (wC.heap.size + 1) (by simp) ?_; intro gg cap w3 hown3 hgrow hat hlt3))
          go_wp2
          go_roundw
          case rel =>
            refine ⟨k + 1, by omega, by go_num, ?_, ?_⟩
            · show OwnD w3 _ _ _
              rw [take_dom (by have := Hlen.out; omega) Hd.out]
              have hk2 := ((Kept.box wr (.cells #[.slice B m cB, .int .u64 L] 47)).then (Kept.drewn _)).then hkC
              have := OwnD.snoc (ds := ds.take k) (d := (xs, L)) (w1 := wC.alloc (.cells #[.slice B' m c', .int .u64 L] 47)) (B := B') (m := m) (c := c') (by rw [hkl]; exact own_kept Hown.out (hk2.newBlock _)) ?_ (hIB.kept (Kept.box _ _)) ?_ hL (by rw [hkl]; exact hown3) hgrow ?_
              · rw [hkl] at this; exact this
              · rw [hkl]
                intro j hj
                obtain ⟨hl, B1, m1, c1', e1, e2, e3, e4⟩ := Hdd.out j hj
                exact ⟨hl, B1, m1, c1', e1, e2, e3.kept (hk2.newBlock _), e4⟩
              · intro _ a' ha'
                have h5 := hfB a' ha'
                have h6 : wr.heap.size + 1 ≤ a'.block := by simpa using h5
                exact fun e => by have := Hul.out _ e; omega
              · rcases hat with h | h
                · exact Or.inl h
                · exact Or.inr (by rw [h]; simp)
            · show Kept w2 w3
              have hk2 := ((Kept.box wr (.cells #[.slice B m cB, .int .u64 L] 47)).then (Kept.drewn _)).then hkC
              exact (Hkw.out.then (hk2.newBlock _)).grown hgrow (by have := Hkw.out.size; have := hkC.size; simp at this ⊢; omega) (fun i hi => (Hul.out i hi).1)
          case measure => simp [intOf]; omega
        · have e : k = n := by omega
          subst e
          have HOn : Hid (OwnD wr w2.heap.size u6 ds) := by
            have := HO.out
            rwa [List.take_of_length_le (by have := Hlen.out; omega)] at this
          clear HO HA HR
          have hvl := diff_parts Hkk.out Hb1.out
          have Hvo := Lib.hid (rightB_vars Hb1.out)
          have Hvl := Lib.hid HC.out.vars.len
          have hn12 : 2 ≤ n1 ∧ n1 ≤ 8 := by have := Hvl.out; omega
          have HKr := Lib.hid (Hk2.out.then Hkw.out)
          have hkp : 0 < k := by have h1 := varsOk_rng Hvo.out (i := 0) (by omega); omega
          obtain ⟨A6, c6, rfl⟩ := HOn.out.parts
          obtain ⟨vs, hown, _⟩ := HOn.out
          obtain ⟨g, cap, hg, hgb, hglr⟩ := hown.form (by have := Hlen.out; omega)
          cases hg
          rw [Hlen.out] at HOn ⊢
          obtain ⟨G, hG⟩ : ∃ G, G = diffG C ds := ⟨_, rfl⟩
          have HGe := Lib.hid hG
          have HFw : Hid (∀ W, Kept wr W → Calls Tryd.prog 43 #[.agg #[.int .i64 5, .slice A1 n1 c1, .slice A2 n2 c2, .int .i64 R, .int .i64 Ct, .slice A3 n3 c3], .slice A k c] W fun e w' => e = .returned (.bool (fewB C ds)) ∧ Kept W w') := fun W hW =>
            few_any 5 R Ct A1 A2 A3 n1 c1 n2 c2 n3 c3 C A k c ds W (HC.out.kept (HKr.out.then hW)) (HS.out.kept (HKr.out.then hW)) (HT.out.kept (HKr.out.then hW)) (by have := Hvo.out; exact this) (by omega) (by omega)
          obtain ⟨bf, hbf⟩ : ∃ b, b = fewB C ds := ⟨_, rfl⟩
          rw [← hbf] at HFw
          have HG : Hid (∀ i v, G i v = (!bf && !(C.vars.any (onlyB ds (C.vars.getD i 0) v)))) := fun i v => by
            rw [hG, hbf]
            unfold diffG
            rw [soleB_only, any_range_getD]
          have hb := Hkw.out.heapAt Hcon2.out
          have b0 := cell_at hb 0
          have b1 := cell_at hb 1
          have b2 := cell_at hb 2
          have b3 := cell_at hb 3
          have b4 := cell_at hb 4
          have b5 := cell_at hb 5
          simp only [List.getElem?_toArray, List.getElem?_cons_zero, List.getElem?_cons_succ] at b0 b1 b2 b3 b4 b5
          clear hb
          have hl3 := cell_at (Hkw.out.heapAt Hlb2.out) 0
          have hlb3 : w.heap.size + 1 < wr.heap.size := lt_at (Hkw.out.heapAt Hlb2.out)
          simp only [List.getElem?_toArray, List.getElem?_cons_zero] at hl3
          clear hown hG hbf
          go_wp2_with fail
          refine (HFw.out _ (Kept.same _)).mono ?_
          rintro e W3 ⟨rfl, hk3⟩
          have Hk3 := Lib.hid (Hkw.out.then hk3)
          have HO3 := Lib.hid (HOn.out.kept hk3)
          have Hcon3 := Lib.hid (Hk3.out.heapAt Hcon2.out)
          have Hlb3 := Lib.hid (Hk3.out.heapAt Hlb2.out)
          have hg3 : g < W3.heap.size := by have := hk3.size; omega
          clear b0 b1 b2 b3 b4 b5 hl3 hlb3 hk3
          have hlc3 : w.heap.size < W3.heap.size := lt_at Hcon3.out
          have hb := Hcon3.out
          have b0 := cell_at hb 0
          have b1 := cell_at hb 1
          have b2 := cell_at hb 2
          have b3 := cell_at hb 3
          have b4 := cell_at hb 4
          have b5 := cell_at hb 5
          simp only [List.getElem?_toArray, List.getElem?_cons_zero, List.getElem?_cons_succ] at b0 b1 b2 b3 b4 b5
          clear hb
          go_wp2_with fail
          have HW4 : Hid (Kept W3 (W3.alloc (.cells #[.bool bf] 4))) := Kept.box _ _
          have Hnb : Hid ((W3.alloc (.cells #[.bool bf] 4)).heap[W3.heap.size]? = some (.cells #[.bool bf] 4)) := heap_new _ _
          obtain ⟨wR, hwR⟩ : ∃ wR : World, wR = wr := ⟨_, rfl⟩
          subst hwR
          clear b0 b1 b2 b3 b4 b5
          generalize W3.alloc (.cells #[.bool bf] 4) = W4 at *
          have Hcon4 := Lib.hid (HW4.out.heapAt Hcon3.out)
          have Hlb4 := Lib.hid (HW4.out.heapAt Hlb3.out)
          have HO4 := Lib.hid (HO3.out.kept HW4.out)
          have Hk4 := Lib.hid (Hk3.out.then HW4.out)
          have hb2 := Hk2.out.size
          have hg3' : g ≠ W3.heap.size := by omega
          clear HOn Hkw
          go_loopw [48] (fun u wq => ∃ j : Nat, j ≤ n1 ∧ u = .int .i64 j ∧ Hid (OwnD wq w2.heap.size (.slice (some ⟨g, 0, Option.none⟩) k c6) (stepB (varsKp C.vars G j) ds)) ∧ Hid (KeptBut g W4 wq)) (fun u _ => n1 - (intOf u).toNat)
          case atStart => exact ⟨0, Nat.zero_le _, rfl, by rw [stepB_varsKp_zero Hb2.out]; exact HO4.out, KeptBut.refl _ _⟩
          case round =>
            obtain ⟨j, hj, rfl, HOq, Hkq⟩ := hrel
            obtain ⟨wo, hwo⟩ : ∃ wo : World, wo = wr := ⟨_, rfl⟩
            subst hwo
            have HQ2 := Lib.hid (((KeptBut.of Hk4.out g).then Hkq.out).kept hgb)
            have HQ := Lib.hid (Hk2.out.then HQ2.out)
            have Hlq : Hid ((stepB (varsKp C.vars G j) ds).length = k) := by show _ = _; rw [stepB_length]; exact Hlen.out
            by_cases hlt : j < n1
            · obtain ⟨av, hav, hbv⟩ := (HC.out.vars.kept HQ.out).addr (by omega)
              subst hav
              obtain ⟨v, Hv1, hcv, _, _⟩ := (HC.out.vars.kept HQ.out).named j hlt
              obtain ⟨hv0, hv1⟩ := varsOk_rng Hvo.out (i := j) (by have := Hvl.out; omega)
              rw [Hv1.out] at hv0 hv1
              obtain ⟨p, rfl⟩ := Int.eq_ofNat_of_zero_le hv0
              have hpn : p < k := by omega
              have hg4 : g < wo.heap.size := by have := Hkq.out.size; have := HW4.out.size; omega
              go_wp2_with fail
              have HW5 : Hid (Kept wo (wo.alloc (.cells #[.int .i64 (p : Nat)] 3))) := Kept.box _ _
              have Hxb : Hid ((wo.alloc (.cells #[.int .i64 (p : Nat)] 3)).heap[wo.heap.size]? = some (.cells #[.int .i64 (p : Nat)] 3)) := heap_new _ _
              clear hcv
              generalize wo.alloc (.cells #[.int .i64 (p : Nat)] 3) = W5 at *
              have HO5 := Lib.hid (HOq.out.kept HW5.out)
              have hg5 : g < W5.heap.size := by have := HW5.out.size; omega
              have Hkq5 := Lib.hid (Hkq.out.then (KeptBut.of HW5.out g))
              have H05 := Lib.hid (HQ.out.then HW5.out)
              obtain ⟨xs2, L2, B2, mm2, cB2, Hd2, s1, s2, HI2, hL2, HB2, s3, s4⟩ := HO5.out.named Hlq.out p hpn
              have hv5 := cell_at Hxb.out 0
              have hlv5 : wo.heap.size < W5.heap.size := lt_at Hxb.out
              simp only [List.getElem?_toArray, List.getElem?_cons_zero] at hv5
              have HDB : Hid (∀ W, Kept W5 W → DiffBox W W3.heap.size w.heap.size (w.heap.size + 1) wo.heap.size (some av) n1 c1 A k c C.vars ds bf (p : Nat)) := fun W hW =>
                ⟨by rw [cell_at (hW.heapAt (Hkq5.out.heapAt Hnb.out hg3'.symm)) 0]; rfl,
                 by rw [cell_at (hW.heapAt (Hkq5.out.heapAt Hcon4.out (by have := lt_at Hlb2.out; omega))) 1]; rfl,
                 HC.out.vars.kept (H05.out.then hW),
                 by rw [cell_at (hW.heapAt (Hkq5.out.heapAt Hlb4.out (by have := lt_at Hlb2.out; omega))) 0]; rfl,
                 HS.out.kept (H05.out.then hW), hW.cellAt hv5, fun y hy => by
                   obtain ⟨i, hi, e⟩ := List.getElem_of_mem hy
                   have h := varsOk_rng Hvo.out (i := i) hi
                   rw [List.getD_eq_getElem?_getD, List.getElem?_eq_getElem hi] at h
                   simp only [Option.getD_some, e] at h
                   exact h⟩
              have Hmay2 : Hid (mayB xs2 L2 = true) := by
                have h := Hd2.out
                unfold nilD at h
                rw [stepB_getD _ _ (by have := Hlen.out; omega)] at h
                have h2 := keepD_may (f := varsKp C.vars G j p) (allMay_at Hb2.out (show p < ds.length by have := Hlen.out; omega))
                rw [h] at h2
                exact h2
              obtain ⟨d9, hd9⟩ : ∃ d9, d9 = keepD (G j) (xs2, L2) := ⟨_, rfl⟩
              have Hd9 : Hid (d9.2 < 2 ^ 64) := by show _ < _; rw [hd9]; exact keepD_lt _ _
              have Hd91 : Hid (d9.1 = xs2) := by show _ = _; rw [hd9]; rfl
              have Hc : Hid (∀ W, Kept W5 W → Calls Tryd.prog 44 #[.agg #[.slice B2 mm2 cB2, .int .u64 L2], .func (.func 45) #[] #[.pointer (some ⟨W3.heap.size, 0, Option.none⟩), .pointer (some ⟨w.heap.size, 0, Option.none⟩), .pointer (some ⟨w.heap.size + 1, 0, Option.none⟩), .pointer (some ⟨wo.heap.size, 0, Option.none⟩)]] W
                  fun e w' => ∃ A' c', e = .returned (.agg #[.slice A' mm2 c', .int .u64 (d9.2 : Nat)]) ∧ Ints w' A' mm2 xs2 ∧ Kept W w' ∧ (A' = B2 ∨ Fresh W A')) := fun W hW => by
                have h := diffkept_any B2 mm2 cB2 L2 xs2 (.pointer (some ⟨W3.heap.size, 0, Option.none⟩)) (.pointer (some ⟨w.heap.size, 0, Option.none⟩)) (.pointer (some ⟨w.heap.size + 1, 0, Option.none⟩)) (.pointer (some ⟨wo.heap.size, 0, Option.none⟩)) (G j) W (HI2.out.kept hW) hL2 (HT.out.kept (H05.out.then hW)) Hmay2.out
                  (fun v W' hW' _ => by
                    have h2 := diff2_any v W3.heap.size w.heap.size (w.heap.size + 1) wo.heap.size (some av) n1 c1 A k c C.vars ds bf (p : Nat) W' (HDB.out W' (hW.then hW')) (HT.out.kept ((H05.out.then hW).then hW'))
                    have h3 := HG.out j v
                    rw [Hv1.out] at h3
                    rwa [← h3] at h2)
                rwa [← hd9] at h
              have Hnx : Hid (stepB (varsKp C.vars G (j + 1)) ds = (stepB (varsKp C.vars G j) ds).set p d9) := by
                show _ = _
                rw [stepVars_set (by have := Hlen.out; omega) Hv1.out, hd9]
                have h := Hd2.out
                unfold nilD at h
                rw [h]
              have HF : Hid (∀ (W7 : World) (A7 : Option Addr) (c7 : Nat), Ints W7 A7 mm2 xs2 → Kept W5 W7 → (A7 = B2 ∨ Fresh W5 A7) →
                  OwnD ((W7.setCell ⟨g, p * 2, Option.none⟩ (.slice A7 mm2 c7)).setCell ⟨g, p * 2 + 1, Option.none⟩ (.int .u64 (d9.2 : Nat))) w2.heap.size (.slice (some ⟨g, 0, Option.none⟩) k c6) (stepB (varsKp C.vars G (j + 1)) ds) ∧
                  KeptBut g W4 ((W7.setCell ⟨g, p * 2, Option.none⟩ (.slice A7 mm2 c7)).setCell ⟨g, p * 2 + 1, Option.none⟩ (.int .u64 (d9.2 : Nat)))) := by
                intro W7 A7 c7 hI7 hk7 hA7
                have hO8 := (HO5.out.kept hk7).set Hlq.out hpn (d := d9) (B := A7) (m := mm2) (c := c7) (by rw [Hd91.out]; exact hI7) (fun hn a ha => by
                  rcases hA7 with h | h
                  · subst h; exact HB2.out hn a ha
                  · have := h a ha; omega) Hd9.out
                rw [← Hnx.out] at hO8
                exact ⟨hO8, (Hkq5.out.then (KeptBut.of hk7 g)).then ((KeptBut.set _ (a := ⟨g, p * 2, Option.none⟩) rfl _).then (KeptBut.set _ (a := ⟨g, p * 2 + 1, Option.none⟩) rfl _))⟩
              have Hxv := Lib.hid hv5
              clear hd9
              go_region_with (first
                | (go_at_call 44
                   refine (Hc.out _ (Kept.drewn _)).mono ?_
                   rintro e W7 ⟨A7, c7, rfl, hI7, hk7, hA7⟩
                   have HI7 := Lib.hid hI7
                   have HK7 := Lib.hid ((Kept.drewn _).then hk7)
                   have HA7 : Hid (A7 = B2 ∨ Fresh W5 A7) := hA7
                   have hv7 := hk7.cellAt ((Kept.drewn _).cellAt Hxv.out)
                   obtain ⟨_, _, _, _, _, _, t1, t2, _, _, _, t3, t4⟩ := (HO5.out.kept ((Kept.drewn _).then hk7)).named Hlq.out p hpn
                   clear hI7 hk7 hA7))
              all_goals go_wp2_with fail
              all_goals (
                go_roundw
                case rel =>
                  obtain ⟨hD, hK⟩ := HF.out _ _ _ HI7.out HK7.out HA7.out
                  exact ⟨j + 1, by omega, by go_num, hD, hK⟩
                case measure => simp [intOf]; omega)
            · have e : j = n1 := by omega
              subst e
              have Hres : Hid (stepB (varsKp C.vars (diffG C ds) C.vars.length) ds = stepB (varsKp C.vars G j) ds) := by show _ = _; rw [Hvl.out, HGe.out]
              generalize stepB (varsKp C.vars G j) ds = res at *
              have HD := Lib.hid (HOq.out.doms Hlq.out (by omega))
              clear HOq
              go_wp2_with fail
              go_ret2
              exact ⟨_, c6, by rw [Hres.out, Hlq.out]; rfl, by rw [Hres.out, Hlq.out]; exact HD.out, HQ.out⟩

theorem diffstep_law (K R Ct : Int) (A1 A2 A3 : Option Addr) (n1 c1 n2 c2 n3 c3 : Nat) (C : ConB) (A : Option Addr) (n c : Nat) (ds : List DomB) (w : World) (hC : ConIn w K R Ct A1 A2 A3 n1 c1 n2 c2 n3 c3 C) (hS : Doms w A n ds) (hT : Tab w) (hn : n ≤ 1000) :
    Calls Tryd.prog 23 #[.agg #[.int .i64 K, .slice A1 n1 c1, .slice A2 n2 c2, .int .i64 R, .int .i64 Ct, .slice A3 n3 c3], .slice A n c] w (StepPost (if diffGo C ds = true then some (stepB (diffKp C ds) ds) else Option.none) w) := diffstep_any K R Ct A1 A2 A3 n1 c1 n2 c2 n3 c3 C A n c ds w hC hS hT hn
end Go.Proofs.YtjmegicopdbkdaaDoor

set_option maxHeartbeats 1000000
set_option maxRecDepth 10000
namespace Go.Proofs.YtjmegicopdbkdaaDoor
open Go Go.RowKit Pl

def C15 : ConB := ⟨5, [0, 1, 2], [], 0, 0, []⟩
def D15_0 : List DomB := [([1, 2, 3], 7), ([2], 1), ([2, 3], 3)]
def E15_0 : List DomB := [([1, 2, 3], 5), ([2], 1), ([2, 3], 2)]
theorem go15_0 : goK 5 C15 D15_0 = true := by decide +kernel
theorem res15_0 : stepB (varsKp (C15).vars (diffG C15 D15_0) (C15).vars.length) D15_0 = E15_0 := by decide +kernel
def D15_1 : List DomB := [([2, 3], 3), ([2, 3], 3), ([2, 3], 3)]
def E15_1 : List DomB := [([2, 3], 0), ([2, 3], 0), ([2, 3], 0)]
theorem go15_1 : goK 5 C15 D15_1 = true := by decide +kernel
theorem res15_1 : stepB (varsKp (C15).vars (diffG C15 D15_1) (C15).vars.length) D15_1 = E15_1 := by decide +kernel
def D15_2 : List DomB := [([1, 2, 3], 7), ([2], 1)]
theorem go15_2 : goK 5 C15 D15_2 = false := by decide +kernel
theorem step15_0 (A1 A : Option Addr) (c1 c : Nat) (w : World) (hC : ConIn w 5 0 0 A1 Option.none Option.none 3 c1 0 0 0 0 C15) (hS : Doms w A 3 D15_0) (hT : Tab w) :
    Calls Tryd.prog 23 #[.agg #[.int .i64 5, .slice A1 3 c1, .slice Option.none 0 0, .int .i64 0, .int .i64 0, .slice Option.none 0 0], .slice A 3 c] w (StepPost (some E15_0) w) := by
  have := diffstep_any 5 0 0 A1 Option.none Option.none 3 c1 0 0 0 0 C15 A 3 c D15_0 w hC hS hT (by decide)
  rwa [if_pos go15_0, res15_0] at this
theorem step15_1 (A1 A : Option Addr) (c1 c : Nat) (w : World) (hC : ConIn w 5 0 0 A1 Option.none Option.none 3 c1 0 0 0 0 C15) (hS : Doms w A 3 D15_1) (hT : Tab w) :
    Calls Tryd.prog 23 #[.agg #[.int .i64 5, .slice A1 3 c1, .slice Option.none 0 0, .int .i64 0, .int .i64 0, .slice Option.none 0 0], .slice A 3 c] w (StepPost (some E15_1) w) := by
  have := diffstep_any 5 0 0 A1 Option.none Option.none 3 c1 0 0 0 0 C15 A 3 c D15_1 w hC hS hT (by decide)
  rwa [if_pos go15_1, res15_1] at this
theorem step15_2 (A1 A : Option Addr) (c1 c : Nat) (w : World) (hC : ConIn w 5 0 0 A1 Option.none Option.none 3 c1 0 0 0 0 C15) (hS : Doms w A 2 D15_2) (hT : Tab w) :
    Calls Tryd.prog 23 #[.agg #[.int .i64 5, .slice A1 3 c1, .slice Option.none 0 0, .int .i64 0, .int .i64 0, .slice Option.none 0 0], .slice A 2 c] w (StepPost (Option.none) w) := by
  have := diffstep_any 5 0 0 A1 Option.none Option.none 3 c1 0 0 0 0 C15 A 2 c D15_2 w hC hS hT (by decide)
  rwa [if_neg (by rw [go15_2]; decide)] at this

theorem awake15 (w : World) (hT : Tab w) : Calls Tryd.prog 22 #[] w fun e w' => e = .returned (.bool true) ∧ Kept w w' := by
  have HT := Lib.hid hT
  clear hT
  go_enter Tryd.func22, Tryd.ntmps22
  go_wp2_with fail
  have HF := fun k o h => (heap_allocs [.cells #[.int .i64 1, .int .i64 2, .int .i64 3] 3,
    .cells #[.int .i64 2] 3,
    .cells #[.int .i64 2, .int .i64 3] 3,
    .cells #[.slice (some ⟨w.heap.size, 0, Option.none⟩) 3 3, .int .u64 7] 47,
    .cells #[.slice (some ⟨w.heap.size + 1, 0, Option.none⟩) 1 1, .int .u64 1] 47,
    .cells #[.slice (some ⟨w.heap.size + 1 + 1, 0, Option.none⟩) 2 2, .int .u64 3] 47,
    .cells #[.int .i64 0, .int .i64 1, .int .i64 2] 3,
    .cells #[.int .i64 5, .slice (some ⟨w.heap.size + 1 + 1 + 1 + 1 + 1 + 1, 0, Option.none⟩) 3 3, .slice Option.none 0 0, .int .i64 0, .int .i64 0, .slice Option.none 0 0] 24,
    .cells #[.slice (some ⟨w.heap.size, 0, Option.none⟩) 3 3, .int .u64 7, .slice (some ⟨w.heap.size + 1, 0, Option.none⟩) 1 1, .int .u64 1, .slice (some ⟨w.heap.size + 1 + 1, 0, Option.none⟩) 2 2, .int .u64 3] 47] w k o h).1
  have F0 := HF 0 _ rfl
  have F1 := HF 1 _ rfl
  have F2 := HF 2 _ rfl
  have F3 := HF 3 _ rfl
  have F4 := HF 4 _ rfl
  have F5 := HF 5 _ rfl
  have F6 := HF 6 _ rfl
  have F7 := HF 7 _ rfl
  have F8 := HF 8 _ rfl
  have HKw := Lib.hid (heap_allocs.kept_allocs [.cells #[.int .i64 1, .int .i64 2, .int .i64 3] 3,
    .cells #[.int .i64 2] 3,
    .cells #[.int .i64 2, .int .i64 3] 3,
    .cells #[.slice (some ⟨w.heap.size, 0, Option.none⟩) 3 3, .int .u64 7] 47,
    .cells #[.slice (some ⟨w.heap.size + 1, 0, Option.none⟩) 1 1, .int .u64 1] 47,
    .cells #[.slice (some ⟨w.heap.size + 1 + 1, 0, Option.none⟩) 2 2, .int .u64 3] 47,
    .cells #[.int .i64 0, .int .i64 1, .int .i64 2] 3,
    .cells #[.int .i64 5, .slice (some ⟨w.heap.size + 1 + 1 + 1 + 1 + 1 + 1, 0, Option.none⟩) 3 3, .slice Option.none 0 0, .int .i64 0, .int .i64 0, .slice Option.none 0 0] 24,
    .cells #[.slice (some ⟨w.heap.size, 0, Option.none⟩) 3 3, .int .u64 7, .slice (some ⟨w.heap.size + 1, 0, Option.none⟩) 1 1, .int .u64 1, .slice (some ⟨w.heap.size + 1 + 1, 0, Option.none⟩) 2 2, .int .u64 3] 47] w)
  show Calls Tryd.prog 23 _ (allocs w [.cells #[.int .i64 1, .int .i64 2, .int .i64 3] 3,
    .cells #[.int .i64 2] 3,
    .cells #[.int .i64 2, .int .i64 3] 3,
    .cells #[.slice (some ⟨w.heap.size, 0, Option.none⟩) 3 3, .int .u64 7] 47,
    .cells #[.slice (some ⟨w.heap.size + 1, 0, Option.none⟩) 1 1, .int .u64 1] 47,
    .cells #[.slice (some ⟨w.heap.size + 1 + 1, 0, Option.none⟩) 2 2, .int .u64 3] 47,
    .cells #[.int .i64 0, .int .i64 1, .int .i64 2] 3,
    .cells #[.int .i64 5, .slice (some ⟨w.heap.size + 1 + 1 + 1 + 1 + 1 + 1, 0, Option.none⟩) 3 3, .slice Option.none 0 0, .int .i64 0, .int .i64 0, .slice Option.none 0 0] 24,
    .cells #[.slice (some ⟨w.heap.size, 0, Option.none⟩) 3 3, .int .u64 7, .slice (some ⟨w.heap.size + 1, 0, Option.none⟩) 1 1, .int .u64 1, .slice (some ⟨w.heap.size + 1 + 1, 0, Option.none⟩) 2 2, .int .u64 3] 47]) _
  generalize allocs w [.cells #[.int .i64 1, .int .i64 2, .int .i64 3] 3,
    .cells #[.int .i64 2] 3,
    .cells #[.int .i64 2, .int .i64 3] 3,
    .cells #[.slice (some ⟨w.heap.size, 0, Option.none⟩) 3 3, .int .u64 7] 47,
    .cells #[.slice (some ⟨w.heap.size + 1, 0, Option.none⟩) 1 1, .int .u64 1] 47,
    .cells #[.slice (some ⟨w.heap.size + 1 + 1, 0, Option.none⟩) 2 2, .int .u64 3] 47,
    .cells #[.int .i64 0, .int .i64 1, .int .i64 2] 3,
    .cells #[.int .i64 5, .slice (some ⟨w.heap.size + 1 + 1 + 1 + 1 + 1 + 1, 0, Option.none⟩) 3 3, .slice Option.none 0 0, .int .i64 0, .int .i64 0, .slice Option.none 0 0] 24,
    .cells #[.slice (some ⟨w.heap.size, 0, Option.none⟩) 3 3, .int .u64 7, .slice (some ⟨w.heap.size + 1, 0, Option.none⟩) 1 1, .int .u64 1, .slice (some ⟨w.heap.size + 1 + 1, 0, Option.none⟩) 2 2, .int .u64 3] 47] = W0 at *
  have I0 : Hid (Ints W0 (some ⟨w.heap.size, 0, Option.none⟩) 3 [1, 2, 3]) := Ints.of_cells (xs := [1, 2, 3]) F0 (by decide) (by decide) rfl
  have I1 : Hid (Ints W0 (some ⟨w.heap.size + 1, 0, Option.none⟩) 1 [2]) := Ints.of_cells (xs := [2]) F1 (by decide) (by decide) rfl
  have I2 : Hid (Ints W0 (some ⟨w.heap.size + 1 + 1, 0, Option.none⟩) 2 [2, 3]) := Ints.of_cells (xs := [2, 3]) F2 (by decide) (by decide) rfl
  have HC : Hid (ConIn W0 5 0 0 (some ⟨w.heap.size + 1 + 1 + 1 + 1 + 1 + 1, 0, Option.none⟩) Option.none Option.none 3 3 0 0 0 0 C15) :=
    ⟨rfl, rfl, rfl, Ints.of_cells (xs := [0, 1, 2]) F6 (by decide) (by decide) rfl, Ints.none _, Ints.none _, by decide, by decide, by decide, by decide, by decide⟩
  have HD0 : Hid (Doms W0 (some ⟨w.heap.size + 1 + 1 + 1 + 1 + 1 + 1 + 1 + 1, 0, Option.none⟩) 3 D15_0) := Doms.of_heap F8 rfl (by decide) (by decide) (fun j hj => by
    match j, hj with
    | 0, _ => exact ⟨_, _, _, rfl, rfl, I0.out⟩
    | 1, _ => exact ⟨_, _, _, rfl, rfl, I1.out⟩
    | 2, _ => exact ⟨_, _, _, rfl, rfl, I2.out⟩)
  have HB0 := Lib.hid F3
  have HB1 := Lib.hid F4
  have HB2 := Lib.hid F5
  have HBc := Lib.hid F7
  clear HF F0 F1 F2 F3 F4 F5 F6 F7 F8
  refine (step15_0 _ _ _ _ _ HC.out HD0.out (HT.out.kept HKw.out)).mono ?_
  rintro e W1 ⟨A0', c0', rfl, hD0, hk⟩
  have HW0 := Lib.hid hk
  have HR0 := Lib.hid hD0
  have h2 := HW0.out.heapAt HB2.out
  have a2_0 := cell_at h2 0
  have a2_1 := cell_at h2 1
  have hc := HW0.out.heapAt HBc.out
  have ac_0 := cell_at hc 0
  have ac_1 := cell_at hc 1
  have ac_2 := cell_at hc 2
  have ac_3 := cell_at hc 3
  have ac_4 := cell_at hc 4
  have ac_5 := cell_at hc 5
  simp only [List.getElem?_toArray, List.getElem?_cons_zero, List.getElem?_cons_succ] at a2_0 a2_1 ac_0 ac_1 ac_2 ac_3 ac_4 ac_5
  clear h2 hc hk hD0
  have el0 : E15_0.length = 3 := rfl
  simp only [el0]
  go_wp2_with fail
  clear a2_0 a2_1 ac_0 ac_1 ac_2 ac_3 ac_4 ac_5
  refine (step15_1 _ _ _ _ _ (HC.out.kept (HW0.out.then (Kept.box _ _))) (Doms.of_heap (ds := D15_1) (heap_new _ _) rfl (by decide) (by decide) (fun j hj => by
    match j, hj with
    | 0, _ => exact ⟨_, _, _, rfl, rfl, I2.out.kept (HW0.out.then (Kept.box _ _))⟩
    | 1, _ => exact ⟨_, _, _, rfl, rfl, I2.out.kept (HW0.out.then (Kept.box _ _))⟩
    | 2, _ => exact ⟨_, _, _, rfl, rfl, I2.out.kept (HW0.out.then (Kept.box _ _))⟩)) (HT.out.kept (HKw.out.then (HW0.out.then (Kept.box _ _))))).mono ?_
  rintro e W2 ⟨A1', c1', rfl, hD1, hk⟩
  have HW1 := Lib.hid (HW0.out.then ((Kept.box _ _).then hk))
  have HR0 := Lib.hid (HR0.out.kept ((Kept.box _ _).then hk))
  have HR1 := Lib.hid hD1
  have h0 := HW1.out.heapAt HB0.out
  have a0_0 := cell_at h0 0
  have a0_1 := cell_at h0 1
  have h1 := HW1.out.heapAt HB1.out
  have a1_0 := cell_at h1 0
  have a1_1 := cell_at h1 1
  have hc := HW1.out.heapAt HBc.out
  have ac_0 := cell_at hc 0
  have ac_1 := cell_at hc 1
  have ac_2 := cell_at hc 2
  have ac_3 := cell_at hc 3
  have ac_4 := cell_at hc 4
  have ac_5 := cell_at hc 5
  simp only [List.getElem?_toArray, List.getElem?_cons_zero, List.getElem?_cons_succ] at a0_0 a0_1 a1_0 a1_1 ac_0 ac_1 ac_2 ac_3 ac_4 ac_5
  clear h0 h1 hc hk hD1
  have el1 : E15_1.length = 3 := rfl
  simp only [el1]
  go_wp2_with fail
  clear a0_0 a0_1 a1_0 a1_1 ac_0 ac_1 ac_2 ac_3 ac_4 ac_5
  refine (step15_2 _ _ _ _ _ (HC.out.kept (HW1.out.then (Kept.box _ _))) (Doms.of_heap (ds := D15_2) (heap_new _ _) rfl (by decide) (by decide) (fun j hj => by
    match j, hj with
    | 0, _ => exact ⟨_, _, _, rfl, rfl, I0.out.kept (HW1.out.then (Kept.box _ _))⟩
    | 1, _ => exact ⟨_, _, _, rfl, rfl, I1.out.kept (HW1.out.then (Kept.box _ _))⟩)) (HT.out.kept (HKw.out.then (HW1.out.then (Kept.box _ _))))).mono ?_
  rintro e W3 ⟨rfl, hk⟩
  have HW2 := Lib.hid (HW1.out.then ((Kept.box _ _).then hk))
  have HR0 := Lib.hid (HR0.out.kept ((Kept.box _ _).then hk))
  have HR1 := Lib.hid (HR1.out.kept ((Kept.box _ _).then hk))
  obtain ⟨b0, off0, hb0, hcc0⟩ := HR0.out.plain (by decide)
  subst hb0
  have q0_0 := hcc0 0 (by decide)
  have e0_0 : ((E15_0.getD 0 nilD).2 : Nat) = 5 := by decide
  rw [e0_0] at q0_0
  clear e0_0
  have q0_1 := hcc0 1 (by decide)
  have e0_1 : ((E15_0.getD 1 nilD).2 : Nat) = 1 := by decide
  rw [e0_1] at q0_1
  clear e0_1
  have q0_2 := hcc0 2 (by decide)
  have e0_2 : ((E15_0.getD 2 nilD).2 : Nat) = 2 := by decide
  rw [e0_2] at q0_2
  clear e0_2
  clear hcc0
  obtain ⟨b1, off1, hb1, hcc1⟩ := HR1.out.plain (by decide)
  subst hb1
  have q1_0 := hcc1 0 (by decide)
  have e1_0 : ((E15_1.getD 0 nilD).2 : Nat) = 0 := by decide
  rw [e1_0] at q1_0
  clear e1_0
  clear hcc1
  have HKe := Lib.hid (HKw.out.then HW2.out)
  clear hk
  go_wp2_with fail
  go_ret
  exact ⟨rfl, HKe.out⟩
end Go.Proofs.YtjmegicopdbkdaaDoor

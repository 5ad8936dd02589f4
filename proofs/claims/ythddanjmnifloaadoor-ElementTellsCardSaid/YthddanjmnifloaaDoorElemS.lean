/-
  Contracts of the package element: Step.
-/
import Derived.Test.YthddanjmnifloaaDoorElemK2
import Derived.Test.YthddanjmnifloaaDoorOwnD
set_option maxHeartbeats 1000000
set_option maxRecDepth 10000
namespace Go.Proofs.YthddanjmnifloaaDoor
open Go Go.RowKit Go.Maps Pl

/-- What a step of an element keeps. -/
def elemKp (C : ConB) (ds : List DomB) (i : Nat) (x : Int) : Bool :=
  if i = (C.vars.getD 0 0).toNat then isE C.nums (listB (ds.getD (C.vars.getD 1 0).toNat nilD).1 (ds.getD (C.vars.getD 1 0).toNat nilD).2) x
  else if i = (C.vars.getD 1 0).toNat then decide (0 < cntE C.nums (listB (ds.getD (C.vars.getD 1 0).toNat nilD).1 (ds.getD (C.vars.getD 1 0).toNat nilD).2) (listB (ds.getD (C.vars.getD 0 0).toNat nilD).1 (ds.getD (C.vars.getD 0 0).toNat nilD).2) x)
  else true
/-- May a step be taken? -/
def elemGo (C : ConB) (ds : List DomB) : Bool := decide (C.kind = 4) && elemB C ds.length && allMay ds

theorem step_two {ds : List DomB} {p q : Nat} (hp : p < ds.length) (hq : q < ds.length) (hm : allMay ds = true) (kp : Nat → Int → Bool) (hk : ∀ i, i ≠ p → i ≠ q → ∀ x, kp i x = true) :
    (ds.set p (keepD (kp p) (ds.getD p nilD))).set q (keepD (kp q) (ds.getD q nilD)) = stepB kp ds := by
  apply ext_getD
  · simp [stepB_length]
  · intro i hi
    simp only [List.length_set] at hi
    rw [stepB_getD _ _ hi, getD_set _ _ _ _ (by rw [List.length_set]; exact hq), getD_set _ _ _ _ hp]
    by_cases e1 : i = q
    · rw [if_pos e1, e1]
    · rw [if_neg e1]
      by_cases e2 : i = p
      · rw [if_pos e2, e2]
      · rw [if_neg e2]
        exact (keepD_all (allMay_at hm hi) (fun v _ => hk i e2 e1 v)).symm

/-- What a step hands back. -/
def StepPost (r : Option (List DomB)) (w : World) (e : Ending) (w' : World) : Prop :=
  match r with
  | Option.none => e = .returned (.tuple #[.slice Option.none 0 0, .int .i64 1]) ∧ Kept w w'
  | some ds => ∃ A c, e = .returned (.tuple #[.slice A ds.length c, .int .i64 0]) ∧ Doms w' A ds.length ds ∧ Kept w w'

theorem info_dom : (Tryd.prog.info? 58).map (fun i => (i.zero, i.size, i.bytes)) = some (some (.agg #[.slice Option.none 0 0, .int .u64 0]), 2, 32) := by kernel_rfl

theorem elemstep_any (K R Ct : Int) (A1 A2 A3 : Option Addr) (n1 c1 n2 c2 n3 c3 : Nat) (C : ConB) (A : Option Addr) (n c : Nat) (ds : List DomB) (w : World) (hC : ConIn w K R Ct A1 A2 A3 n1 c1 n2 c2 n3 c3 C) (hS : Doms w A n ds) (hT : Tab w) (hn : n ≤ 1000) :
    Calls Tryd.prog 30 #[.agg #[.int .i64 K, .slice A1 n1 c1, .slice A2 n2 c2, .int .i64 R, .int .i64 Ct, .slice A3 n3 c3], .slice A n c] w (StepPost (if elemGo C ds = true then some (stepB (elemKp C ds) ds) else Option.none) w) := by
  have HC := Lib.hid hC
  have HS := Lib.hid hS
  have HT := Lib.hid hT
  have Hlen := Lib.hid hS.len
  have hKk := hC.kind
  clear hC hS hT
  by_cases g1 : ¬ K = 4
  · have hd : (K != 4) = true := by simpa using g1
    have hgo : elemGo C ds = false := by unfold elemGo; rw [hKk]; simp [g1]
    rw [hgo]
    go_enter Tryd.func30, Tryd.ntmps30
    go_wp2_with fail
    go_ret2
    exact ⟨rfl, (Kept.box _ _).newBlock _⟩
  have g1 := Classical.not_not.1 g1
  subst g1
  have HR : Hid (∀ W, ConIn W 4 R Ct A1 A2 A3 n1 c1 n2 c2 n3 c3 C → Calls Tryd.prog 48 #[.agg #[.int .i64 4, .slice A1 n1 c1, .slice A2 n2 c2, .int .i64 R, .int .i64 Ct, .slice A3 n3 c3], .int .i64 n] W fun e w' => e = .returned (.bool (elemB C n)) ∧ Kept W w') := fun W hW => right_elem 4 R Ct A1 A2 A3 n1 c1 n2 c2 n3 c3 C n W hW rfl
  have HA : Hid (∀ W, Doms W A n ds → Calls Tryd.prog 49 #[.slice A n c, .func (.func 50) #[] #[]] W fun e w' => e = .returned (.bool (!allMay ds)) ∧ Kept W w') := fun W hW => elem_contains_any A n c ds W hW
  have Hgo : Hid (elemGo C ds = (elemB C n && allMay ds)) := by
    show _ = _
    unfold elemGo; rw [hKk, Hlen.out]; simp
  generalize hb1 : elemB C n = b1 at HR Hgo
  generalize hb2 : allMay ds = b2 at HA Hgo
  have Hb1 := Lib.hid hb1
  have Hb2 := Lib.hid hb2
  clear hb1 hb2
  rw [Hgo.out]
  clear Hgo
  cases b1 with
  | false =>
    go_enter Tryd.func30, Tryd.ntmps30
    go_wp2_with fail
    refine (HR.out _ (HC.out.kept ((Kept.box _ _).newBlock _))).mono ?_
    rintro e w1 ⟨rfl, hk⟩
    have Hk := Lib.hid (((Kept.box _ _).newBlock _).then hk)
    clear hk
    go_wp2_with fail
    go_ret2
    exact ⟨rfl, Hk.out⟩
  | true =>
    cases b2 with
    | false =>
      go_enter Tryd.func30, Tryd.ntmps30
      go_wp2_with fail
      refine (HR.out _ (HC.out.kept ((Kept.box _ _).newBlock _))).mono ?_
      rintro e w1 ⟨rfl, hk⟩
      have hl0 := hk.cellAt (by rw [cell_at (heap_new2 w _ _) 0]; rfl : _ = some (.slice A n c))
      have Hk := Lib.hid (((Kept.box _ _).newBlock _).then hk)
      clear hk
      go_wp2_with fail
      refine (HA.out _ (HS.out.kept Hk.out)).mono ?_
      rintro e w2 ⟨rfl, hk⟩
      have Hk2 := Lib.hid (Hk.out.then hk)
      clear hk
      go_wp2_with fail
      go_ret2
      exact ⟨rfl, Hk2.out⟩
    | true =>
      have hmm := @run_makeMap Tryd.prog
      go_enter Tryd.func30, Tryd.ntmps30
      go_wp2_with fail
      refine (HR.out _ (HC.out.kept ((Kept.box _ _).newBlock _))).mono ?_
      rintro e w1 ⟨rfl, hk⟩
      have hl0 := hk.cellAt (by rw [cell_at (heap_new2 w _ _) 0]; rfl : _ = some (.slice A n c))
      have Hcon := Lib.hid (hk.heapAt ((Kept.box _ _).heapAt (heap_new w _)))
      have Hlst := Lib.hid hl0
      have Hk := Lib.hid (((Kept.box _ _).newBlock _).then hk)
      clear hk
      go_wp2_with fail
      refine (HA.out _ (HS.out.kept Hk.out)).mono ?_
      rintro e w2 ⟨rfl, hk⟩
      have Hcon2 := Lib.hid (hk.heapAt Hcon.out)
      have Hlst2 := Lib.hid (hk.cellAt Hlst.out)
      have hl2 := Hlst2.out
      have Hk2 := Lib.hid (Hk.out.then hk)
      clear hk hl0
      go_wp2_with fail
      clear hl2
      go_loopw [6, 28] (fun u v wr => ∃ k : Nat, k ≤ n ∧ v = .int .i64 k ∧ Hid (OwnD wr w2.heap.size u (ds.take k)) ∧ Hid (Kept w2 wr)) (fun _ v _ => n - (intOf v).toNat)
      case atStart => exact ⟨0, Nat.zero_le _, rfl, OwnD.nil _ _, Kept.same _⟩
      case round =>
        obtain ⟨k, hk, rfl, HO, Hkw⟩ := hrel
        by_cases hlt : k < n
        · have hSr := HS.out.kept (Hk2.out.then Hkw.out)
          obtain ⟨a, rfl, hblk⟩ := hSr.addr (by omega)
          obtain ⟨xs, L, B, m, cB, Hd, hc1, hc2, HI, hL⟩ := hSr.named k hlt
          have Hmay : Hid (mayB xs L = true) := by
            have := allMay_at Hb2.out (show k < ds.length by have := Hlen.out; omega)
            have h2 := Hd.out
            unfold nilD at h2
            rw [h2] at this
            exact this
          have hm64 : m ≤ 100000 := by have := mayB_len Hmay.out; have := HI.out.len; omega
          obtain ⟨vs, hown, hd⟩ := HO.out
          have hkl : (ds.take k).length = k := by rw [List.length_take]; have := Hlen.out; omega
          rw [hkl] at hown hd
          have Hown := Lib.hid hown
          have Hdd := Lib.hid hd
          have Hul : Hid (∀ i, u6.ownBlock = some i → w2.heap.size ≤ i ∧ i < wr.heap.size) := hown.lt
          have hszr := Hkw.out.size
          obtain ⟨i0, hi, hz0, hz1, hz2⟩ := info_parts info_dom
          clear hSr hown hd
          go_wp2_with fail
          have hlow : wr.heap.size < (wr.alloc (.cells #[.slice B m cB, .int .u64 L] 58)).heap.size := by simp
          go_region_held3 (fun W => W.cell? ⟨wr.heap.size, 0, none⟩ = some (.slice B m cB) ∧ W.cell? ⟨wr.heap.size, 1, none⟩ = some (.int .u64 L)) (first | go_keep | (exact ⟨hkC.cellAt (box2_0 _ _ _ _), hkC.cellAt (box2_1 _ _ _ _)⟩) | (exact ⟨hgrow.cell ((Kept.box _ _).cellAt (hkC.cellAt (box2_0 _ _ _ _))) (fun e => by have := Hul.out _ e.symm; simp at this), hgrow.cell ((Kept.box _ _).cellAt (hkC.cellAt (box2_1 _ _ _ _))) (fun e => by have := Hul.out _ e.symm; simp at this)⟩))
            (first
              | (go_at_call 52; refine (clone_any B m cB xs _ (HI.out.kept ((Kept.box _ _).then (Kept.drewn _))) hm64).mono ?_; rintro e wC ⟨B', c', rfl, hIB, hkC, hfB⟩)
              | (refine step_append_lies _ (by rfl) _ _ _ (by rfl) w2.heap.size 58 i0 _ 2 32 Tryd.underlying38 hi hz0 hz1 hz2 rfl (by omega) u6 k vs (by rfl) (own_kept Hown.out ((((Kept.box _ _).then (Kept.drewn _)).then hkC).newBlock _)) ⟨wC.heap.size, 0, none⟩ 1 1 [.slice B' m c', .int .u64 L] (by rfl) (by rfl) (World.news_of_block (cs := #[.slice B' m c', .int .u64 L]) (t := 58) (fr := (0, 0)) (heap_alloc_new wC _)) (by simp [Value.oneCell']) (by omega) (by unfold maxLen; omega) (by omega) (by have := hkC.size; simp at this ⊢; omega) (wC.heap.size + 1) (by simp) ?_; intro gg cap w3 hown3 hgrow hat hlt3))
          go_wp2
          go_roundw
          case rel =>
            refine ⟨k + 1, by omega, by go_num, ?_, ?_⟩
            · show OwnD w3 _ _ _
              rw [take_dom (by have := Hlen.out; omega) Hd.out]
              have hk2 := ((Kept.box wr (.cells #[.slice B m cB, .int .u64 L] 58)).then (Kept.drewn _)).then hkC
              have := OwnD.snoc (ds := ds.take k) (d := (xs, L)) (w1 := wC.alloc (.cells #[.slice B' m c', .int .u64 L] 58)) (B := B') (m := m) (c := c') (by rw [hkl]; exact own_kept Hown.out (hk2.newBlock _)) ?_ (hIB.kept (Kept.box _ _)) ?_ hL (by rw [hkl]; exact hown3) hgrow ?_
              · rw [hkl] at this; exact this
              · rw [hkl]
                intro j hj
                obtain ⟨hl, B1, m1, c1', e1, e2, e3, e4⟩ := Hdd.out j hj
                exact ⟨hl, B1, m1, c1', e1, e2, e3.kept (hk2.newBlock _), e4⟩
              · intro _ a' ha'
                have h5 := hfB a' ha'
                have h6 : wr.heap.size + 1 ≤ a'.block := by simpa using h5
                exact fun e => by have := Hul.out _ e; omega
              · rcases hat with h | h
                · exact Or.inl h
                · exact Or.inr (by rw [h]; simp)
            · show Kept w2 w3
              have hk2 := ((Kept.box wr (.cells #[.slice B m cB, .int .u64 L] 58)).then (Kept.drewn _)).then hkC
              exact (Hkw.out.then (hk2.newBlock _)).grown hgrow (by have := Hkw.out.size; have := hkC.size; simp at this ⊢; omega) (fun i hi => (Hul.out i hi).1)
          case measure => simp [intOf]; omega
        · have e : k = n := by omega
          subst e
          have HOn : Hid (OwnD wr w2.heap.size u6 ds) := by
            have := HO.out
            rwa [List.take_of_length_le (by have := Hlen.out; omega)] at this
          clear HO HA HR
          obtain ⟨hvb, hbb⟩ : variablesB C k 2 2 = true ∧ bareB C 1 96 = true := by
            have := Hb1.out
            unfold elemB at this
            simpa using this
          obtain ⟨hl2, hvo⟩ : C.vars.length = 2 ∧ varsOk C.vars k = true := by
            unfold variablesB at hvb
            simp only [Bool.and_eq_true, decide_eq_true_eq] at hvb
            exact ⟨by omega, hvb.2⟩
          obtain ⟨hp0, hp1⟩ := varsOk_rng hvo (show 0 < C.vars.length by omega)
          obtain ⟨hq0, hq1⟩ := varsOk_rng hvo (show 1 < C.vars.length by omega)
          have hpq := varsOk_ne hvo (show 1 < C.vars.length by omega) (show 0 < 1 by omega)
          have Hvar := Lib.hid (HC.out.vars.kept (Hk2.out.then Hkw.out))
          have hn1 : n1 = 2 := by have := Hvar.out.len; omega
          subst hn1
          obtain ⟨b1, o1, rfl, hcv⟩ := Hvar.out.plain (by omega)
          have hv0 := hcv 0 (by omega)
          have hv1 := hcv 1 (by omega)
          obtain ⟨p, hp⟩ := Int.eq_ofNat_of_zero_le hp0
          obtain ⟨q, hq⟩ := Int.eq_ofNat_of_zero_le hq0
          have Hp := Lib.hid hp
          have Hq := Lib.hid hq
          rw [hp] at hv0 hp1 hpq
          rw [hq] at hv1 hq1 hpq
          have hpn : p < k := by omega
          have hqn : q < k := by omega
          have hne : p ≠ q := by omega
          have hcb := cell_at (Hkw.out.heapAt Hcon2.out) 1
          simp only [List.getElem?_toArray, List.getElem?_cons_zero, List.getElem?_cons_succ] at hcb
          have hn0 := World.new_ne wr _ hv0
          have hn1 := World.new_ne wr _ hv1
          have hn2 := World.new_ne wr _ hcb
          clear hvb hbb hl2 hvo hp0 hq0 hp hq hcv hp1 hq1 hpq
          simp only [Nat.add_zero] at hv0
          go_wp2_with fail
          go_region_held3 (fun W => W.cell? ⟨w.heap.size, 1, none⟩ = some (.slice (some ⟨b1, o1, none⟩) 2 c1) ∧ W.cell? ⟨b1, o1, none⟩ = some (.int .i64 p) ∧ W.cell? ⟨b1, o1 + 1, none⟩ = some (.int .i64 q)) (go_keep) (fail)
          have HW0 := Lib.hid ((Kept.box wr (.cells #[.int .i64 (q : Nat)] 3)).then (Kept.drewn _))
          have Hval : Hid ((wr.alloc (.cells #[.int .i64 (q : Nat)] 3)).drew.cell? ⟨wr.heap.size, 0, none⟩ = some (.int .i64 (q : Nat))) := by
            show _ = _
            rw [cell_at (Kept.heapAt (Kept.drewn _) (heap_new wr _)) 0]; rfl
          have Hsz0 : Hid ((wr.alloc (.cells #[.int .i64 (q : Nat)] 3)).drew.heap.size = wr.heap.size + 1) := by show _ = _; simp
          generalize (wr.alloc (.cells #[.int .i64 (q : Nat)] 3)).drew = W0 at *
          obtain ⟨A6, c6, rfl⟩ := HOn.out.parts
          have HO0 := Lib.hid (HOn.out.kept HW0.out)
          obtain ⟨vs, hown, _⟩ := HOn.out
          obtain ⟨g, cap, hg, hgb, hglr⟩ := hown.form (by have := Hlen.out; omega)
          cases hg
          have hgl : g < W0.heap.size := by have := Hsz0.out; omega
          rw [Hlen.out] at HO0 HOn ⊢
          obtain ⟨xs, L, B, m, cB, Hd, hc1, hc2, HI, hL, HB, hf1, hf2⟩ := HO0.out.named Hlen.out p hpn
          clear hown hv0 hv1 hcb hn0 hn1 hn2
          go_wp2_with fail
          have Hmp : Hid (mayB xs L = true) := by
            have := allMay_at Hb2.out (show p < ds.length by have := Hlen.out; omega)
            have h2 := Hd.out
            unfold nilD at h2
            rw [h2] at this
            exact this
          have H00 := Lib.hid (Hkw.out.then HW0.out)
          have Hw0 := Lib.hid (Hk2.out.then H00.out)
          have HT0 := Lib.hid (HT.out.kept Hw0.out)
          have HE : Hid (∀ W, Kept W0 W → W.cell? ⟨W0.heap.size + 1, 0, none⟩ = some (.map (some W0.heap.size)) → ElemBox W w.heap.size (w.heap.size + 1) wr.heap.size (W0.heap.size + 1) W0.heap.size A k c A3 n3 c3 C.nums ds q) := fun W hW hm =>
            ⟨by rw [cell_at ((H00.out.then hW).heapAt Hcon2.out) 5]; rfl, HC.out.nums.kept (Hw0.out.then hW), (H00.out.then hW).cellAt Hlst2.out, HS.out.kept (Hw0.out.then hW), hW.cellAt Hval.out, hqn, hm, allMay_at Hb2.out (by have := Hlen.out; omega)⟩
          have Hw4 := Lib.hid ((Kept.box W0 (.map #[] 0)).newBlock (.cells #[.map (some W0.heap.size)] 69))
          refine (elemkept2_any B m cB L xs w.heap.size (w.heap.size + 1) wr.heap.size (W0.heap.size + 1) W0.heap.size A k c A3 n3 c3 C.nums ds q W0 _ (HI.out.kept Hw4.out) hL HT0.out Hmp.out Hw4.out (Nat.le_refl _) (by simp; omega)
            (fun hn a ha => by subst ha; have := HI.out.block hn; omega) HE.out (by rw [cell_at (heap_new2 W0 _ _) 0]; rfl) (by omega) ((Counts.made W0).kept (Kept.box _ _))).mono ?_
          rintro e W5 ⟨A', c', rfl, hI5, hk5, hA5, kc, hC5⟩
          have HK5 := Lib.hid (((KeptBut.of Hw4.out W0.heap.size).then hk5).kept (Nat.le_refl _))
          have HI5 := Lib.hid hI5
          have HC5 := Lib.hid hC5
          have HA5 := Lib.hid hA5
          have Hm5 : Hid (W5.heap[W0.heap.size + 1]? = some (.cells #[.map (some W0.heap.size)] 69)) := hk5.heapAt (heap_new2 W0 _ _) (by omega)
          have HO5 := Lib.hid (HO0.out.kept HK5.out)
          obtain ⟨_, _, _, _, _, _, e1, e2, _, _, _, f1, f2⟩ := HO5.out.named Hlen.out p hpn
          have hsz5 := hk5.size
          simp only [World.size_alloc] at hsz5
          generalize hd1 : keepD (isE C.nums (listB (ds.getD q nilD).1 (ds.getD q nilD).2)) (xs, L) = d1 at *
          clear hk5 hI5 hC5 hA5 hc1 hc2 hf1 hf2 HOn HO0
          go_wp2_with fail
          have hd1f : d1.1 = xs := by rw [← hd1]; rfl
          have HO6 : Hid (OwnD ((W5.setCell ⟨g, p * 2, Option.none⟩ (.slice A' m c')).setCell ⟨g, p * 2 + 1, Option.none⟩ (.int .u64 (d1.2 : Nat))) w2.heap.size (.slice (some ⟨g, 0, Option.none⟩) k c6) (ds.set p d1)) := by
            refine HO5.out.set Hlen.out hpn (by rw [hd1f]; exact HI5.out) (fun hn a ha => ?_) (by rw [← hd1]; exact keepD_lt _ _)
            rcases HA5.out with h | h
            · subst h; exact HB.out hn a ha
            · have := h a ha
              simp only [World.size_alloc] at this
              have := H00.out.size
              omega
          have Hb6 : Hid (KeptBut g W5 ((W5.setCell ⟨g, p * 2, Option.none⟩ (.slice A' m c')).setCell ⟨g, p * 2 + 1, Option.none⟩ (.int .u64 (d1.2 : Nat)))) := (KeptBut.set _ (a := ⟨g, p * 2, Option.none⟩) rfl _).then (KeptBut.set _ (a := ⟨g, p * 2 + 1, Option.none⟩) rfl _)
          generalize (W5.setCell ⟨g, p * 2, Option.none⟩ (.slice A' m c')).setCell ⟨g, p * 2 + 1, Option.none⟩ (.int .u64 (d1.2 : Nat)) = W6 at *
          have Hk6 := Lib.hid (((KeptBut.of (H00.out.then HK5.out) g).then Hb6.out).kept hgb)
          have Hv6 : Hid (W6.cell? ⟨wr.heap.size, 0, Option.none⟩ = some (.int .i64 (q : Nat))) := Hb6.out.cellAt (HK5.out.cellAt Hval.out) (by simp; omega)
          have Hm6 : Hid (W6.cell? ⟨W0.heap.size + 1, 0, Option.none⟩ = some (.map (some W0.heap.size))) := by
            show _ = _
            rw [cell_at (Hb6.out.heapAt Hm5.out (by omega)) 0]; rfl
          have HC6 := Lib.hid (HC5.out.keptX (KeptX.ofBut (X := fun i => i = g) Hb6.out rfl) (by omega))
          have Hlen6 : Hid ((ds.set p d1).length = k) := by show _ = _; rw [List.length_set]; exact Hlen.out
          obtain ⟨xs2, L2, B2, m2, cB2, Hd2, s1, s2, HI2, hL2, HB2, s3, s4⟩ := HO6.out.named Hlen6.out q hqn
          have Hdq : Hid (ds.getD q nilD = (xs2, L2)) := by
            have := Hd2.out
            rwa [getD_set _ _ _ _ (by have := Hlen.out; omega), if_neg (by omega)] at this
          have Hmq : Hid (mayB xs2 L2 = true) := by
            have := allMay_at Hb2.out (show q < ds.length by have := Hlen.out; omega)
            have h2 := Hdq.out
            unfold nilD at h2
            rw [h2] at this
            exact this
          have HT6 := Lib.hid (HT.out.kept (Hk2.out.then Hk6.out))
          have hv6 := Hv6.out
          obtain ⟨f2, hf2⟩ : ∃ f2, f2 = cntE C.nums (listB (ds.getD q nilD).1 (ds.getD q nilD).2) (listB xs L) := ⟨_, rfl⟩
          obtain ⟨d2, hd2⟩ : ∃ d2, d2 = keepD (fun v => decide (0 < f2 v)) (xs2, L2) := ⟨_, rfl⟩
          have Hc : Hid (∀ W, Kept W6 W → Calls Tryd.prog 53 #[.agg #[.slice B2 m2 cB2, .int .u64 L2], .func (.func 56) #[] #[.pointer (some ⟨W0.heap.size + 1, 0, Option.none⟩)]] W
              fun e w' => ∃ A' c', e = .returned (.agg #[.slice A' m2 c', .int .u64 (d2.2 : Nat)]) ∧ Ints w' A' m2 xs2 ∧ Kept W w' ∧ (A' = B2 ∨ Fresh W A')) := fun W hW => by
            have := elemkept3_any B2 m2 cB2 L2 xs2 (W0.heap.size + 1) W0.heap.size kc f2 W (HI2.out.kept hW) hL2 (HT6.out.kept hW) Hmq.out (hW.cellAt Hm6.out) (hf2 ▸ HC6.out.kept hW)
            rwa [← hd2] at this
          have Heq : Hid ((ds.set p d1).set q d2 = stepB (elemKp C ds) ds) := by
            show _ = _
            have hlen := Hlen.out
            rw [← step_two (p := p) (q := q) (by omega) (by omega) Hb2.out (elemKp C ds) (fun i hi hj v => by
              unfold elemKp
              rw [Hp.out, Hq.out, Int.toNat_natCast, Int.toNat_natCast, if_neg hi, if_neg hj])]
            have k1 : elemKp C ds p = isE C.nums (listB (ds.getD q nilD).1 (ds.getD q nilD).2) := by
              funext v
              unfold elemKp
              rw [Hp.out, Hq.out, Int.toNat_natCast, Int.toNat_natCast, if_pos rfl]
            have k2 : elemKp C ds q = fun v => decide (0 < f2 v) := by
              funext v
              unfold elemKp
              rw [Hp.out, Hq.out, Int.toNat_natCast, Int.toNat_natCast, if_neg (by omega), if_pos rfl, Hd.out, hf2]
            rw [k1, k2, Hd.out, hd1, Hdq.out, ← hd2]
          have HF : Hid (∀ (W7 : World) (A7 : Option Addr) (c7 : Nat), Ints W7 A7 m2 xs2 → Kept W6 W7 → (A7 = B2 ∨ Fresh W6 A7) →
              Doms ((W7.setCell ⟨g, q * 2, Option.none⟩ (.slice A7 m2 c7)).setCell ⟨g, q * 2 + 1, Option.none⟩ (.int .u64 (d2.2 : Nat))) (some ⟨g, 0, Option.none⟩) k (stepB (elemKp C ds) ds) ∧
              Kept w ((W7.setCell ⟨g, q * 2, Option.none⟩ (.slice A7 m2 c7)).setCell ⟨g, q * 2 + 1, Option.none⟩ (.int .u64 (d2.2 : Nat)))) := by
            intro W7 A7 c7 hI7 hk7 hA7
            have hO8 := (HO6.out.kept hk7).set Hlen6.out hqn (d := d2) (B := A7) (m := m2) (c := c7) (by rw [hd2]; exact hI7) (fun hn a ha => by
              rcases hA7 with h | h
              · subst h; exact HB2.out hn a ha
              · have := h a ha
                have h1 := HK5.out.size
                have h2 := Hb6.out.size
                have h3 := H00.out.size
                omega) (by rw [hd2]; exact keepD_lt _ _)
            rw [Heq.out] at hO8
            refine ⟨hO8.doms (by rw [stepB_length]; exact Hlen.out) (by omega), ?_⟩
            exact (((KeptBut.of (Hk2.out.then (Hk6.out.then hk7)) g).then ((KeptBut.set _ (a := ⟨g, q * 2, Option.none⟩) rfl _).then (KeptBut.set _ (a := ⟨g, q * 2 + 1, Option.none⟩) rfl _))).kept (by have := Hk2.out.size; omega))
          have Hsl : Hid ((stepB (elemKp C ds) ds).length = k) := by show _ = _; rw [stepB_length]; exact Hlen.out
          clear e1 e2 f1 f2 hd1f hd1 hf2 hd2
          go_region_with (first
            | (go_at_call 53
               refine (Hc.out _ (Kept.drewn _)).mono ?_
               rintro e W7 ⟨A7, c7, rfl, hI7, hk7, hA7⟩
               have HI7 := Lib.hid hI7
               have HK7 := Lib.hid ((Kept.drewn _).then hk7)
               have HA7 : Hid (A7 = B2 ∨ Fresh W6 A7) := hA7
               have hv7 := hk7.cellAt ((Kept.drewn _).cellAt Hv6.out)
               obtain ⟨_, _, _, _, _, _, t1, t2, _, _, _, t3, t4⟩ := (HO6.out.kept ((Kept.drewn _).then hk7)).named Hlen6.out q hqn
               clear hI7 hk7 hA7))
          all_goals go_wp2
          all_goals go_ret2
          all_goals (
            obtain ⟨hD, hK⟩ := HF.out _ _ _ HI7.out HK7.out HA7.out
            exact ⟨_, c6, by rw [Hsl.out]; rfl, by rw [Hsl.out]; exact hD, hK⟩)
end Go.Proofs.YthddanjmnifloaaDoor

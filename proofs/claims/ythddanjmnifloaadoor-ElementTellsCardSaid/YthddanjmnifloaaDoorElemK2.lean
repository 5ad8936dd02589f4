/-
  Contracts of the package element: kept, with the question that counts.
-/
import Derived.Test.YthddanjmnifloaaDoorElemK
import Derived.Test.YthddanjmnifloaaDoorKeptX
set_option maxHeartbeats 1000000
set_option maxRecDepth 10000
namespace Go.Proofs.YthddanjmnifloaaDoor
open Go Go.RowKit Go.Maps Pl

theorem KeptX.wider {X Y : Nat → Prop} {w w' : World} (h : KeptX X w w') (hXY : ∀ i, X i → Y i) : KeptX Y w w' := ⟨h.os, h.tape, h.output, h.size, fun k hk hn => h.block k hk (fun e => hn (hXY k e))⟩
theorem cntE_snoc (nums vals l : List Int) (i : Int) : cntE nums vals (l ++ [i]) = fun v => cntE nums vals l v + if isE nums vals i && (nums.getD i.toNat 0 == v) then 1 else 0 := by
  funext v
  unfold cntE
  by_cases h : (isE nums vals i && (nums.getD i.toNat 0 == v)) = true
  · rw [filter_in (p := fun i => isE nums vals i && (nums.getD i.toNat 0 == v)) h, if_pos h, List.length_append]; rfl
  · rw [filter_out (p := fun i => isE nums vals i && (nums.getD i.toNat 0 == v)) (by simpa using h), if_neg h]; rfl
theorem cntE_le (nums vals l : List Int) (v : Int) : cntE nums vals l v ≤ l.length := List.length_filter_le _ _
theorem Counts.keptX {X : Nat → Prop} {w w' : World} {M n : Nat} {f : Int → Nat} (h : Counts w M n f) (hk : KeptX X w w') (hM : ¬ X M) : Counts w' M n f := by
  obtain ⟨D, ⟨es, clock, hb, F, hs, hD⟩, hx⟩ := h
  exact ⟨D, ⟨es, clock, hk.heapAt hb hM, F, hs, hD⟩, hx⟩

theorem elemkept2_any (A : Option Addr) (n c L : Nat) (xs : List Int) (Bc Bl Bv Bm M : Nat) (Al : Option Addr) (nl cv : Nat) (A3 : Option Addr) (n3 c3 : Nat) (nums : List Int) (ds : List DomB) (pv : Nat) (w0 w : World)
    (hS : Ints w A n xs) (hL : L < 2 ^ 64) (hT : Tab w0) (hm : mayB xs L = true) (h0 : Kept w0 w) (hM0 : w0.heap.size ≤ M) (hMs : M < w.heap.size) (hMA : 0 < n → ∀ a, A = some a → a.block ≠ M)
    (hE : ∀ W, Kept w0 W → W.cell? ⟨Bm, 0, none⟩ = some (.map (some M)) → ElemBox W Bc Bl Bv Bm M Al nl cv A3 n3 c3 nums ds pv)
    (hmap : w.cell? ⟨Bm, 0, none⟩ = some (.map (some M))) (hBm : Bm ≠ M) (hC : Counts w M 0 (fun _ => 0)) :
    Calls Tryd.prog 53 #[.agg #[.slice A n c, .int .u64 L], .func (.func 54) #[] #[.pointer (some ⟨Bc, 0, none⟩), .pointer (some ⟨Bl, 0, none⟩), .pointer (some ⟨Bv, 0, none⟩), .pointer (some ⟨Bm, 0, none⟩)]] w
      fun e w' => ∃ A' c', e = .returned (.agg #[.slice A' n c', .int .u64 (keepD (isE nums (listB (ds.getD pv nilD).1 (ds.getD pv nilD).2)) (xs, L)).2]) ∧ Ints w' A' n xs ∧ KeptBut M w w' ∧ (A' = A ∨ Fresh w A') ∧
        ∃ k, Counts w' M k (cntE nums (listB (ds.getD pv nilD).1 (ds.getD pv nilD).2) (listB xs L)) := by
  have H0 := Lib.hid h0
  have HE := Lib.hid hE
  have HMA := Lib.hid hMA
  have hlBm : Bm < w.heap.size := World.block_lt_of_cell? w _ hmap
  clear h0 hE hMA
  generalize hvals : listB (ds.getD pv nilD).1 (ds.getD pv nilD).2 = vals
  have Hvals := Lib.hid hvals
  clear hvals
  have HS := Lib.hid hS
  have HL := Lib.hid hL
  have HT := Lib.hid hT
  have Hm := Lib.hid hm
  have HC := Lib.hid hC
  have Hlen := Lib.hid hS.len
  have Hmap := Lib.hid hmap
  clear hS hL hT hm hC hmap
  have HD : Hid (keepD (pk (isE nums vals) (listB xs L)) (xs, L) = keepD (isE nums vals) (xs, L)) := pk_all (d := (xs, L)) Hm.out
  generalize hg : isE nums vals = g at HD
  go_enter Tryd.func53, Tryd.ntmps53
  go_wp2_with fail
  refine (dlist_any A n c L xs _ (HS.out.kept ((Kept.box _ _).newBlock _)) HL.out (HT.out.kept (H0.out.then ((Kept.box _ _).newBlock _)))).mono ?_
  rintro e w2 ⟨Bl, cl, rfl, hIl, hk2, hfl⟩
  have HO : Hid (w2.heap[w.heap.size]? = some (.cells #[.slice A n c, .int .u64 L] 58 (0, 0))) := hk2.heapAt ((Kept.box _ _).heapAt (heap_new _ _))
  have HR := Lib.hid (hk2.heapAt (heap_new2 _ _ _))
  have HIl := Lib.hid hIl
  have Hfl := Lib.hid hfl
  have Hk2 := Lib.hid (((Kept.box _ _).newBlock _).then hk2)
  have hsz2 := hk2.size
  simp only [World.size_alloc] at hsz2
  have hel := listB_length xs L
  have Hrng := Lib.hid (listB_rng xs L)
  clear hIl hk2 hfl
  generalize hm : (listB xs L).length = m at *
  have Hmm := Lib.hid hm
  clear hm
  go_wp2_with fail
  go_loopw [10] (fun u wr => ∃ (k : Nat) (A' : Option Addr) (c' : Nat), k ≤ m ∧ u = .int .i64 k ∧ Hid (KeptX (fun i => i = w.heap.size ∨ i = M) w2 wr) ∧ Hid (Counts wr M k (cntE nums vals ((listB xs L).take k))) ∧ Hid (wr.heap[w.heap.size]? = some (.cells #[.slice A' n c', .int .u64 ((keepD (pk g ((listB xs L).take k)) (xs, L)).2 : Nat)] 58 (0, 0))) ∧ Hid (Ints wr A' n xs) ∧ Hid (A' = A ∨ ∀ a, A' = some a → w.heap.size + 1 < a.block)) (fun u _ => m - (intOf u).toNat)
  case atStart => exact ⟨0, A, c, Nat.zero_le _, rfl, KeptX.refl _ _, HC.out.kept Hk2.out, by rw [List.take_zero, pk_nil _ _ Hm.out]; exact HO, HS.out.kept Hk2.out, Or.inl rfl⟩
  case round =>
    obtain ⟨k, A', c', hk, rfl, Hkw, HCr, HOr, HIr, HA⟩ := hrel
    have HK := Lib.hid (Hkw.out.below (H0.out.then Hk2.out) (fun i hi => by have := H0.out.size; omega))
    have Hmw : Hid (wr.cell? ⟨Bm, 0, none⟩ = some (.map (some M))) := Hkw.out.cellAt (Hk2.out.cellAt Hmap.out) (by show ¬ (Bm = _ ∨ Bm = M); omega)
    by_cases hlt : k < m
    · have hbs := HIl.out.keptX Hkw.out (fun _ a ha => by have := Hfl.out a ha; simp only [World.size_alloc] at this; omega)
      obtain ⟨b, rfl, hbb⟩ := hbs.addr (by omega)
      obtain ⟨v, Hv, hcv, _, _⟩ := hbs.named k hlt
      have Htake : Hid ((listB xs L).take (k + 1) = (listB xs L).take k ++ [v]) := take_succ_getD (by have := Hmm.out; omega) Hv.out
      have hvr : -1048576 ≤ v ∧ v ≤ 1048576 := by
        refine Hrng.out v ?_
        rw [← Hv.out, List.getD_eq_getElem?_getD, List.getElem?_eq_getElem (by have := Hmm.out; omega)]
        exact List.getElem_mem _
      have HQ : Hid (Calls Tryd.prog 54 #[.int .i64 v, .pointer (some ⟨Bc, 0, none⟩), .pointer (some ⟨Bl, 0, none⟩), .pointer (some ⟨Bv, 0, none⟩), .pointer (some ⟨Bm, 0, none⟩)] wr fun e w' => e = .returned (.bool (g v)) ∧ Counts w' M (k + 1) (cntE nums vals ((listB xs L).take (k + 1))) ∧ KeptBut M wr w') := by
        have := elem2_any v Bc Bl Bv Bm M k Al nl cv A3 n3 c3 nums ds pv _ wr (HE.out wr HK.out Hmw.out) (HT.out.kept HK.out) HCr.out (fun x => by have := cntE_le nums vals ((listB xs L).take k) x; rw [List.length_take] at this; omega) (by omega) (by omega)
        rw [Hvals.out, hg] at this
        rw [Htake.out, cntE_snoc, hg]
        exact this
      clear hbs
      generalize hb : g v = bb at HQ
      have Hb := Lib.hid hb
      clear hb
      cases bb with
      | true =>
        go_wp2_with fail
        refine HQ.out.mono ?_
        rintro e wq ⟨rfl, hCq, hkq⟩
        have HCq := Lib.hid hCq
        have HOq : Hid (wq.heap[w.heap.size]? = _) := hkq.heapAt HOr.out (by omega)
        have HIq : Hid (Ints wq A' n xs) := HIr.out.keptBut0 hkq (fun hn a ha => by
          rcases HA.out with h | h
          · subst h; exact HMA.out hn a ha
          · have := h a ha; omega)
        have Hq : Hid (KeptX (fun i => i = w.heap.size ∨ i = M) w2 wq) := Hkw.out.then (KeptX.ofBut hkq (Or.inr rfl))
        have hszq := hkq.size
        clear hCq hkq HQ
        go_wp2_with fail
        go_roundw
        case rel => exact ⟨k + 1, A', c', by omega, by go_num, Hq.out, HCq.out, by rw [Htake.out, pk_yes Hb.out]; exact HOq.out, HIq.out, HA.out⟩
        case measure => simp [intOf]; omega
      | false =>
        have Hno := Lib.hid (pk_no (l := (listB xs L).take k) Hb.out (xs, L))
        have Hmk : Hid (mayB xs (keepD (pk g ((listB xs L).take k)) (xs, L)).2 = true) := keepD_may (d := (xs, L)) Hm.out
        have Hlk := Lib.hid (keepD_lt (pk g ((listB xs L).take k)) (xs, L))
        have He : Hid ((xs, (keepD (pk g ((listB xs L).take k)) (xs, L)).2) = keepD (pk g ((listB xs L).take k)) (xs, L)) := rfl
        go_wp2_with fail
        refine HQ.out.mono ?_
        rintro e wq ⟨rfl, hCq, hkq⟩
        have HCq := Lib.hid hCq
        have HOq : Hid (wq.heap[w.heap.size]? = _) := hkq.heapAt HOr.out (by omega)
        have HIq : Hid (Ints wq A' n xs) := HIr.out.keptBut0 hkq (fun hn a ha => by
          rcases HA.out with h | h
          · subst h; exact HMA.out hn a ha
          · have := h a ha; omega)
        have Hq : Hid (KeptX (fun i => i = w.heap.size ∨ i = M) w2 wq) := Hkw.out.then (KeptX.ofBut hkq (Or.inr rfl))
        have hszq := hkq.size
        clear hCq hkq HQ
        have hO0 := cell_at HOq.out 0
        have hO1 := cell_at HOq.out 1
        have hf0 := frozen_at HOq.out 0
        have hf1 := frozen_at HOq.out 1
        simp only [List.getElem?_toArray, List.getElem?_cons_zero, List.getElem?_cons_succ] at hO0 hO1
        go_wp2_with fail
        refine (domless_any A' n c' (keepD (pk g ((listB xs L).take k)) (xs, L)).2 xs v _ HIq.out Hlk.out (HT.out.kept (Hq.out.below (H0.out.then Hk2.out) (fun i hi => by have := H0.out.size; omega))) Hmk.out).mono ?_
        rintro e W ⟨B, cB, rfl, hIB, hkB, hfB⟩
        rw [He.out, Hno.out] at hIB ⊢
        have HOB := Lib.hid (hkB.heapAt HOq.out)
        have HCB := Lib.hid (HCq.out.kept hkB)
        have HIB : Hid (Ints W B n xs) := by
          have h2 : Ints W B xs.length xs := hIB
          rwa [Hlen.out] at h2
        have hlB := Lib.hid hfB
        have HkB := Lib.hid (KeptX.of hkB (fun i => i = w.heap.size ∨ i = M))
        have e1 : (keepD (pk g ((listB xs L).take k ++ [v])) (xs, L)).1.length = n := Hlen.out
        rw [e1]
        have hP0 := cell_at HOB.out 0
        have hP1 := cell_at HOB.out 1
        have hp0 := frozen_at HOB.out 0
        have hp1 := frozen_at HOB.out 1
        simp only [List.getElem?_toArray, List.getElem?_cons_zero, List.getElem?_cons_succ] at hP0 hP1
        rw [← Htake.out]
        clear hIB hkB hfB hO0 hO1 hf0 hf1
        go_wp2_with fail
        go_roundw
        case rel =>
          refine ⟨k + 1, B, cB, by omega, by go_num, (Hq.out.then HkB.out).then (KeptX.ofBut ((KeptBut.set _ (a := ⟨w.heap.size, 0, none⟩) rfl _).then (KeptBut.set _ (a := ⟨w.heap.size, 1, none⟩) rfl _)) (Or.inl rfl)), HCB.out.keptX (KeptX.ofBut (X := fun i => i = w.heap.size) ((KeptBut.set _ (a := ⟨w.heap.size, 0, none⟩) rfl _).then (KeptBut.set _ (a := ⟨w.heap.size, 1, none⟩) rfl _)) rfl) (by omega), two_set01 HOB.out _ _, HIB.out.keptBut0 ((KeptBut.set _ (a := ⟨w.heap.size, 0, none⟩) rfl _).then (KeptBut.set _ (a := ⟨w.heap.size, 1, none⟩) rfl _)) ?_, Or.inr (fun a ha => by have := hlB.out a ha; have := Hkw.out.size; omega)⟩
          intro _ a ha
          have := hlB.out a ha
          have h3 := lt_at HOr.out
          show a.block ≠ w.heap.size
          omega
        case measure => simp [intOf]; omega
    · have e : k = m := by omega
      have hG : Hid (keepD (pk g ((listB xs L).take k)) (xs, L) = keepD g (xs, L)) := by
        show _ = _
        rw [List.take_of_length_le (by have := Hmm.out; omega)]
        exact HD.out
      have HOg : Hid (wr.heap[w.heap.size]? = some (.cells #[.slice A' n c', .int .u64 ((keepD g (xs, L)).2 : Nat)] 58 (0, 0))) := by
        have := HOr.out
        rwa [hG.out] at this
      have hO0 := cell_at HOg.out 0
      have hO1 := cell_at HOg.out 1
      have HRr := Lib.hid (Hkw.out.heapAt HR.out (by omega))
      have HCe : Hid (Counts wr M k (cntE nums vals (listB xs L))) := by
        have := HCr.out
        rwa [List.take_of_length_le (by have := Hmm.out; omega)] at this
      have hR0 := cell_at HRr.out 0
      have hR1 := cell_at HRr.out 1
      have hf0 := frozen_at HRr.out 0
      have hf1 := frozen_at HRr.out 1
      simp only [List.getElem?_toArray, List.getElem?_cons_zero, List.getElem?_cons_succ] at hO0 hO1 hR0 hR1
      clear HOr hG
      subst hg
      generalize hGG : (keepD (isE nums vals) (xs, L)).2 = G at HOg hO1
      go_wp2_with fail
      have h2 : KeptBut (w.heap.size + 1) wr ((wr.setCell ⟨w.heap.size + 1, 0, none⟩ (.slice A' n c')).setCell ⟨w.heap.size + 1, 1, none⟩ (.int .u64 G)) := (KeptBut.set _ (a := ⟨w.heap.size + 1, 0, none⟩) rfl _).then (KeptBut.set _ (a := ⟨w.heap.size + 1, 1, none⟩) rfl _)
      refine bodyPost_ret (v := .agg #[.slice A' n c', .int .u64 G]) (by simp [results, Tryd.results53, go_sem, hR0, hR1]) rfl ?_
      refine ⟨A', c', ?_, HIr.out.keptBut0 h2 ?_, ((KeptX.of Hk2.out _).then ((Hkw.out.wider (Y := fun i => i = M ∨ i = w.heap.size ∨ i = w.heap.size + 1) (fun i hi => by omega)).then (KeptX.ofBut h2 (Or.inr (Or.inr rfl))))).but (Kept.same _) (fun i hi => by omega), HA.out.imp id (fun h a ha => by have := h a ha; omega), k, HCe.out.keptX (KeptX.ofBut (X := fun i => i = w.heap.size + 1) h2 rfl) (by omega)⟩
      · rw [hGG]
      · intro hn a ha
        rcases HA.out with h | h
        · subst h
          subst ha
          have := HS.out.block hn
          omega
        · have := h a ha
          omega
end Go.Proofs.YthddanjmnifloaaDoor

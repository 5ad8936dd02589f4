/-
  Contracts and plain laws that the card rests on, part 10.
-/
import Derived.Test.YtekcenacpklpgaaDoorMTells9
import Derived.Test.YtekcenacpklpgaaDoorMTells7
import Derived.Test.YtekcenacpklpgaaDoorMTells8
import Derived.Test.YtekcenacpklpgaaDoorMTells3
set_option maxHeartbeats 1000000
set_option maxRecDepth 10000
namespace Go.Proofs.YtekcenacpklpgaaDoor
open Go Go.RowKit Go.Maps Pl

theorem linkept_sum (A : Option Addr) (n c L : Nat) (xs : List Int) (p0 p1 p2 p3 : Value) (g : Int → Bool) (w : World) (hS : Ints w A n xs) (hL : L < 2 ^ 64) (hT : Tab w) (hm : mayB xs L = true)
    (hF : ∀ (v : Int) (W : World), Kept w W → -1048576 ≤ v ∧ v ≤ 1048576 → Calls Tryd.prog 61 #[.int .i64 v, p0, p1, p2, p3] W fun e w' => e = .returned (.bool (g v)) ∧ Kept W w') :
    Calls Tryd.prog 57 #[.agg #[.slice A n c, .int .u64 L], .func (.func 61) #[] #[p0, p1, p2, p3]] w
      fun e w' => ∃ A' c', e = .returned (.agg #[.slice A' n c', .int .u64 (keepD g (xs, L)).2]) ∧ Ints w' A' n xs ∧ Kept w w' ∧ (A' = A ∨ Fresh w A') := by
  have HS := Lib.hid hS
  have HL := Lib.hid hL
  have HT := Lib.hid hT
  have Hm := Lib.hid hm
  have HF := Lib.hid hF
  have Hlen := Lib.hid hS.len
  clear hS hL hT hm hF
  have HD : Hid (keepD (pk g (listB xs L)) (xs, L) = keepD g (xs, L)) := pk_all (d := (xs, L)) Hm.out
  go_enter Tryd.func57, Tryd.ntmps57
  go_wp2_with fail
  refine (dlist_any A n c L xs _ (HS.out.kept ((Kept.box _ _).newBlock _)) HL.out (HT.out.kept ((Kept.box _ _).newBlock _))).mono ?_
  rintro e w2 ⟨Bl, cl, rfl, hIl, hk2, hfl⟩
  have HO : Hid (w2.heap[w.heap.size]? = some (.cells #[.slice A n c, .int .u64 L] 47 (0, 0))) := hk2.heapAt ((Kept.box _ _).heapAt (heap_new _ _))
  have HR := Lib.hid (hk2.heapAt (heap_new2 _ _ _))
  have HIl := Lib.hid hIl
  have Hfl := Lib.hid hfl
  have Hk2 := Lib.hid (((Kept.box _ _).newBlock _).then hk2)
  have hsz2 := hk2.size
  simp only [World.size_alloc] at hsz2
  have hel := listB_length xs L
  have Hrng := Lib.hid (listB_rng xs L)
  clear hIl hk2 hfl
  generalize hm : (listB xs L).length = m at *
  have Hmm := Lib.hid hm
  clear hm
  go_wp2_with fail
  go_loopw [10] (fun u wr => ∃ (k : Nat) (A' : Option Addr) (c' : Nat), k ≤ m ∧ u = .int .i64 k ∧ Hid (KeptBut w.heap.size w2 wr) ∧ Hid (wr.heap[w.heap.size]? = some (.cells #[.slice A' n c', .int .u64 ((keepD (pk g ((listB xs L).take k)) (xs, L)).2 : Nat)] 47 (0, 0))) ∧ Hid (Ints wr A' n xs) ∧ Hid (A' = A ∨ ∀ a, A' = some a → w.heap.size + 1 < a.block)) (fun u _ => m - (intOf u).toNat)
  case atStart => exact ⟨0, A, c, Nat.zero_le _, rfl, KeptBut.refl _ _, by rw [List.take_zero, pk_nil _ _ Hm.out]; exact HO, HS.out.kept Hk2.out, Or.inl rfl⟩
  case round =>
    obtain ⟨k, A', c', hk, rfl, Hkw, HOr, HIr, HA⟩ := hrel
    have HK := Lib.hid (((KeptBut.of Hk2.out w.heap.size).then Hkw.out).kept (Nat.le_refl _))
    by_cases hlt : k < m
    · have hbs := HIl.out.keptBut Hkw.out (fun a ha => by have := Hfl.out a ha; simp only [World.size_alloc] at this; omega)
      obtain ⟨b, rfl, hbb⟩ := hbs.addr (by omega)
      obtain ⟨v, Hv, hcv, _, _⟩ := hbs.named k hlt
      have Htake : Hid ((listB xs L).take (k + 1) = (listB xs L).take k ++ [v]) := take_succ_getD (by have := Hmm.out; omega) Hv.out
      have hvr : -1048576 ≤ v ∧ v ≤ 1048576 := by
        refine Hrng.out v ?_
        rw [← Hv.out, List.getD_eq_getElem?_getD, List.getElem?_eq_getElem (by have := Hmm.out; omega)]
        exact List.getElem_mem _
      have HQ : Hid (∀ W, Kept wr W → Calls Tryd.prog 61 #[.int .i64 v, p0, p1, p2, p3] W fun e w' => e = .returned (.bool (g v)) ∧ Kept W w') := fun W hW => HF.out v W (HK.out.then hW) hvr
      clear hbs
      generalize hb : g v = bb at HQ
      have Hb := Lib.hid hb
      clear hb
      cases bb with
      | true =>
        go_wp2_with fail
        refine (HQ.out _ (Kept.same _)).mono ?_
        rintro e WQ ⟨rfl, hkq⟩
        have Hkq := Lib.hid hkq
        clear hkq hcv
        go_wp2_with fail
        go_roundw
        case rel => exact ⟨k + 1, A', c', by omega, by go_num, Hkw.out.then (KeptBut.of Hkq.out _), by rw [Htake.out, pk_yes Hb.out]; exact Hkq.out.heapAt HOr.out, HIr.out.kept Hkq.out, HA.out⟩
        case measure => simp [intOf]; omega
      | false =>
        have Hno := Lib.hid (pk_no (l := (listB xs L).take k) Hb.out (xs, L))
        have Hmk : Hid (mayB xs (keepD (pk g ((listB xs L).take k)) (xs, L)).2 = true) := keepD_may (d := (xs, L)) Hm.out
        have Hlk := Lib.hid (keepD_lt (pk g ((listB xs L).take k)) (xs, L))
        have He : Hid ((xs, (keepD (pk g ((listB xs L).take k)) (xs, L)).2) = keepD (pk g ((listB xs L).take k)) (xs, L)) := rfl
        go_wp2_with fail
        refine (HQ.out _ (Kept.same _)).mono ?_
        rintro e WQ ⟨rfl, hkq⟩
        have Hkq := Lib.hid hkq
        have HOq : Hid _ := Lib.hid (hkq.heapAt HOr.out)
        have hO0 := cell_at HOq.out 0
        have hO1 := cell_at HOq.out 1
        have hf0 := frozen_at HOq.out 0
        have hf1 := frozen_at HOq.out 1
        simp only [List.getElem?_toArray, List.getElem?_cons_zero, List.getElem?_cons_succ] at hO0 hO1
        clear hkq hcv
        go_wp2_with fail
        refine (domless_any A' n c' (keepD (pk g ((listB xs L).take k)) (xs, L)).2 xs v _ (HIr.out.kept Hkq.out) Hlk.out (HT.out.kept (HK.out.then Hkq.out)) Hmk.out).mono ?_
        rintro e W ⟨B, cB, rfl, hIB, hkB, hfB⟩
        rw [He.out, Hno.out] at hIB ⊢
        have HOB := Lib.hid (hkB.heapAt HOq.out)
        have HIB : Hid (Ints W B n xs) := by
          have h2 : Ints W B xs.length xs := hIB
          rwa [Hlen.out] at h2
        have hlw := HK.out.size
        have hlB := Lib.hid hfB
        have HkB := Lib.hid (KeptBut.of (Hkq.out.then hkB) w.heap.size)
        have hsq := Hkq.out.size
        have e1 : (keepD (pk g ((listB xs L).take k ++ [v])) (xs, L)).1.length = n := Hlen.out
        rw [e1]
        have hP0 := cell_at HOB.out 0
        have hP1 := cell_at HOB.out 1
        have hp0 := frozen_at HOB.out 0
        have hp1 := frozen_at HOB.out 1
        simp only [List.getElem?_toArray, List.getElem?_cons_zero, List.getElem?_cons_succ] at hP0 hP1
        rw [← Htake.out]
        clear hIB hkB hfB hO0 hO1 hf0 hf1 HQ
        go_wp2_with fail
        go_roundw
        case rel =>
          refine ⟨k + 1, B, cB, by omega, by go_num, (Hkw.out.then HkB.out).then ((KeptBut.set _ (a := ⟨w.heap.size, 0, none⟩) rfl _).then (KeptBut.set _ (a := ⟨w.heap.size, 1, none⟩) rfl _)), two_set01 HOB.out _ _, HIB.out.keptBut0 ((KeptBut.set _ (a := ⟨w.heap.size, 0, none⟩) rfl _).then (KeptBut.set _ (a := ⟨w.heap.size, 1, none⟩) rfl _)) ?_, Or.inr (fun a ha => by have := hlB.out a ha; have := Hkw.out.size; omega)⟩
          intro _ a ha
          have := hlB.out a ha
          have h3 := lt_at HOr.out
          show a.block ≠ w.heap.size
          omega
        case measure => simp [intOf]; omega
    · have e : k = m := by omega
      have hG : Hid (keepD (pk g ((listB xs L).take k)) (xs, L) = keepD g (xs, L)) := by
        show _ = _
        rw [List.take_of_length_le (by have := Hmm.out; omega)]
        exact HD.out
      have HOg : Hid (wr.heap[w.heap.size]? = some (.cells #[.slice A' n c', .int .u64 ((keepD g (xs, L)).2 : Nat)] 47 (0, 0))) := by
        have := HOr.out
        rwa [hG.out] at this
      have hO0 := cell_at HOg.out 0
      have hO1 := cell_at HOg.out 1
      have HRr := Lib.hid (Hkw.out.heapAt HR.out (by omega))
      have hR0 := cell_at HRr.out 0
      have hR1 := cell_at HRr.out 1
      have hf0 := frozen_at HRr.out 0
      have hf1 := frozen_at HRr.out 1
      simp only [List.getElem?_toArray, List.getElem?_cons_zero, List.getElem?_cons_succ] at hO0 hO1 hR0 hR1
      clear HOr hG
      generalize hGG : (keepD g (xs, L)).2 = G at *
      go_wp2_with fail
      have h2 : KeptBut (w.heap.size + 1) wr ((wr.setCell ⟨w.heap.size + 1, 0, none⟩ (.slice A' n c')).setCell ⟨w.heap.size + 1, 1, none⟩ (.int .u64 G)) := (KeptBut.set _ (a := ⟨w.heap.size + 1, 0, none⟩) rfl _).then (KeptBut.set _ (a := ⟨w.heap.size + 1, 1, none⟩) rfl _)
      refine bodyPost_ret (v := .agg #[.slice A' n c', .int .u64 G]) (by simp [results, Tryd.results57, go_sem, hR0, hR1]) rfl ?_
      refine ⟨A', c', ?_, HIr.out.keptBut0 h2 ?_, ((KeptBut.of HK.out (w.heap.size + 1)).then h2).kept (by omega), HA.out.imp id (fun h a ha => by have := h a ha; omega)⟩
      · rw [hGG]
      · intro hn a ha
        rcases HA.out with h | h
        · subst h
          subst ha
          have := HS.out.block hn
          omega
        · have := h a ha
          omega
theorem linkept_iff (A : Option Addr) (n c L : Nat) (xs : List Int) (p0 p1 : Value) (g : Int → Bool) (w : World) (hS : Ints w A n xs) (hL : L < 2 ^ 64) (hT : Tab w) (hm : mayB xs L = true)
    (hF : ∀ (v : Int) (W : World), Kept w W → -1048576 ≤ v ∧ v ≤ 1048576 → Calls Tryd.prog 64 #[.int .i64 v, p0, p1] W fun e w' => e = .returned (.bool (g v)) ∧ Kept W w') :
    Calls Tryd.prog 57 #[.agg #[.slice A n c, .int .u64 L], .func (.func 64) #[] #[p0, p1]] w
      fun e w' => ∃ A' c', e = .returned (.agg #[.slice A' n c', .int .u64 (keepD g (xs, L)).2]) ∧ Ints w' A' n xs ∧ Kept w w' ∧ (A' = A ∨ Fresh w A') := by
  have HS := Lib.hid hS
  have HL := Lib.hid hL
  have HT := Lib.hid hT
  have Hm := Lib.hid hm
  have HF := Lib.hid hF
  have Hlen := Lib.hid hS.len
  clear hS hL hT hm hF
  have HD : Hid (keepD (pk g (listB xs L)) (xs, L) = keepD g (xs, L)) := pk_all (d := (xs, L)) Hm.out
  go_enter Tryd.func57, Tryd.ntmps57
  go_wp2_with fail
  refine (dlist_any A n c L xs _ (HS.out.kept ((Kept.box _ _).newBlock _)) HL.out (HT.out.kept ((Kept.box _ _).newBlock _))).mono ?_
  rintro e w2 ⟨Bl, cl, rfl, hIl, hk2, hfl⟩
  have HO : Hid (w2.heap[w.heap.size]? = some (.cells #[.slice A n c, .int .u64 L] 47 (0, 0))) := hk2.heapAt ((Kept.box _ _).heapAt (heap_new _ _))
  have HR := Lib.hid (hk2.heapAt (heap_new2 _ _ _))
  have HIl := Lib.hid hIl
  have Hfl := Lib.hid hfl
  have Hk2 := Lib.hid (((Kept.box _ _).newBlock _).then hk2)
  have hsz2 := hk2.size
  simp only [World.size_alloc] at hsz2
  have hel := listB_length xs L
  have Hrng := Lib.hid (listB_rng xs L)
  clear hIl hk2 hfl
  generalize hm : (listB xs L).length = m at *
  have Hmm := Lib.hid hm
  clear hm
  go_wp2_with fail
  go_loopw [10] (fun u wr => ∃ (k : Nat) (A' : Option Addr) (c' : Nat), k ≤ m ∧ u = .int .i64 k ∧ Hid (KeptBut w.heap.size w2 wr) ∧ Hid (wr.heap[w.heap.size]? = some (.cells #[.slice A' n c', .int .u64 ((keepD (pk g ((listB xs L).take k)) (xs, L)).2 : Nat)] 47 (0, 0))) ∧ Hid (Ints wr A' n xs) ∧ Hid (A' = A ∨ ∀ a, A' = some a → w.heap.size + 1 < a.block)) (fun u _ => m - (intOf u).toNat)
  case atStart => exact ⟨0, A, c, Nat.zero_le _, rfl, KeptBut.refl _ _, by rw [List.take_zero, pk_nil _ _ Hm.out]; exact HO, HS.out.kept Hk2.out, Or.inl rfl⟩
  case round =>
    obtain ⟨k, A', c', hk, rfl, Hkw, HOr, HIr, HA⟩ := hrel
    have HK := Lib.hid (((KeptBut.of Hk2.out w.heap.size).then Hkw.out).kept (Nat.le_refl _))
    by_cases hlt : k < m
    · have hbs := HIl.out.keptBut Hkw.out (fun a ha => by have := Hfl.out a ha; simp only [World.size_alloc] at this; omega)
      obtain ⟨b, rfl, hbb⟩ := hbs.addr (by omega)
      obtain ⟨v, Hv, hcv, _, _⟩ := hbs.named k hlt
      have Htake : Hid ((listB xs L).take (k + 1) = (listB xs L).take k ++ [v]) := take_succ_getD (by have := Hmm.out; omega) Hv.out
      have hvr : -1048576 ≤ v ∧ v ≤ 1048576 := by
        refine Hrng.out v ?_
        rw [← Hv.out, List.getD_eq_getElem?_getD, List.getElem?_eq_getElem (by have := Hmm.out; omega)]
        exact List.getElem_mem _
      have HQ : Hid (∀ W, Kept wr W → Calls Tryd.prog 64 #[.int .i64 v, p0, p1] W fun e w' => e = .returned (.bool (g v)) ∧ Kept W w') := fun W hW => HF.out v W (HK.out.then hW) hvr
      clear hbs
      generalize hb : g v = bb at HQ
      have Hb := Lib.hid hb
      clear hb
      cases bb with
      | true =>
        go_wp2_with fail
        refine (HQ.out _ (Kept.same _)).mono ?_
        rintro e WQ ⟨rfl, hkq⟩
        have Hkq := Lib.hid hkq
        clear hkq hcv
        go_wp2_with fail
        go_roundw
        case rel => exact ⟨k + 1, A', c', by omega, by go_num, Hkw.out.then (KeptBut.of Hkq.out _), by rw [Htake.out, pk_yes Hb.out]; exact Hkq.out.heapAt HOr.out, HIr.out.kept Hkq.out, HA.out⟩
        case measure => simp [intOf]; omega
      | false =>
        have Hno := Lib.hid (pk_no (l := (listB xs L).take k) Hb.out (xs, L))
        have Hmk : Hid (mayB xs (keepD (pk g ((listB xs L).take k)) (xs, L)).2 = true) := keepD_may (d := (xs, L)) Hm.out
        have Hlk := Lib.hid (keepD_lt (pk g ((listB xs L).take k)) (xs, L))
        have He : Hid ((xs, (keepD (pk g ((listB xs L).take k)) (xs, L)).2) = keepD (pk g ((listB xs L).take k)) (xs, L)) := rfl
        go_wp2_with fail
        refine (HQ.out _ (Kept.same _)).mono ?_
        rintro e WQ ⟨rfl, hkq⟩
        have Hkq := Lib.hid hkq
        have HOq : Hid _ := Lib.hid (hkq.heapAt HOr.out)
        have hO0 := cell_at HOq.out 0
        have hO1 := cell_at HOq.out 1
        have hf0 := frozen_at HOq.out 0
        have hf1 := frozen_at HOq.out 1
        simp only [List.getElem?_toArray, List.getElem?_cons_zero, List.getElem?_cons_succ] at hO0 hO1
        clear hkq hcv
        go_wp2_with fail
        refine (domless_any A' n c' (keepD (pk g ((listB xs L).take k)) (xs, L)).2 xs v _ (HIr.out.kept Hkq.out) Hlk.out (HT.out.kept (HK.out.then Hkq.out)) Hmk.out).mono ?_
        rintro e W ⟨B, cB, rfl, hIB, hkB, hfB⟩
        rw [He.out, Hno.out] at hIB ⊢
        have HOB := Lib.hid (hkB.heapAt HOq.out)
        have HIB : Hid (Ints W B n xs) := by
          have h2 : Ints W B xs.length xs := hIB
          rwa [Hlen.out] at h2
        have hlw := HK.out.size
        have hlB := Lib.hid hfB
        have HkB := Lib.hid (KeptBut.of (Hkq.out.then hkB) w.heap.size)
        have hsq := Hkq.out.size
        have e1 : (keepD (pk g ((listB xs L).take k ++ [v])) (xs, L)).1.length = n := Hlen.out
        rw [e1]
        have hP0 := cell_at HOB.out 0
        have hP1 := cell_at HOB.out 1
        have hp0 := frozen_at HOB.out 0
        have hp1 := frozen_at HOB.out 1
        simp only [List.getElem?_toArray, List.getElem?_cons_zero, List.getElem?_cons_succ] at hP0 hP1
        rw [← Htake.out]
        clear hIB hkB hfB hO0 hO1 hf0 hf1 HQ
        go_wp2_with fail
        go_roundw
        case rel =>
          refine ⟨k + 1, B, cB, by omega, by go_num, (Hkw.out.then HkB.out).then ((KeptBut.set _ (a := ⟨w.heap.size, 0, none⟩) rfl _).then (KeptBut.set _ (a := ⟨w.heap.size, 1, none⟩) rfl _)), two_set01 HOB.out _ _, HIB.out.keptBut0 ((KeptBut.set _ (a := ⟨w.heap.size, 0, none⟩) rfl _).then (KeptBut.set _ (a := ⟨w.heap.size, 1, none⟩) rfl _)) ?_, Or.inr (fun a ha => by have := hlB.out a ha; have := Hkw.out.size; omega)⟩
          intro _ a ha
          have := hlB.out a ha
          have h3 := lt_at HOr.out
          show a.block ≠ w.heap.size
          omega
        case measure => simp [intOf]; omega
    · have e : k = m := by omega
      have hG : Hid (keepD (pk g ((listB xs L).take k)) (xs, L) = keepD g (xs, L)) := by
        show _ = _
        rw [List.take_of_length_le (by have := Hmm.out; omega)]
        exact HD.out
      have HOg : Hid (wr.heap[w.heap.size]? = some (.cells #[.slice A' n c', .int .u64 ((keepD g (xs, L)).2 : Nat)] 47 (0, 0))) := by
        have := HOr.out
        rwa [hG.out] at this
      have hO0 := cell_at HOg.out 0
      have hO1 := cell_at HOg.out 1
      have HRr := Lib.hid (Hkw.out.heapAt HR.out (by omega))
      have hR0 := cell_at HRr.out 0
      have hR1 := cell_at HRr.out 1
      have hf0 := frozen_at HRr.out 0
      have hf1 := frozen_at HRr.out 1
      simp only [List.getElem?_toArray, List.getElem?_cons_zero, List.getElem?_cons_succ] at hO0 hO1 hR0 hR1
      clear HOr hG
      generalize hGG : (keepD g (xs, L)).2 = G at *
      go_wp2_with fail
      have h2 : KeptBut (w.heap.size + 1) wr ((wr.setCell ⟨w.heap.size + 1, 0, none⟩ (.slice A' n c')).setCell ⟨w.heap.size + 1, 1, none⟩ (.int .u64 G)) := (KeptBut.set _ (a := ⟨w.heap.size + 1, 0, none⟩) rfl _).then (KeptBut.set _ (a := ⟨w.heap.size + 1, 1, none⟩) rfl _)
      refine bodyPost_ret (v := .agg #[.slice A' n c', .int .u64 G]) (by simp [results, Tryd.results57, go_sem, hR0, hR1]) rfl ?_
      refine ⟨A', c', ?_, HIr.out.keptBut0 h2 ?_, ((KeptBut.of HK.out (w.heap.size + 1)).then h2).kept (by omega), HA.out.imp id (fun h a ha => by have := h a ha; omega)⟩
      · rw [hGG]
      · intro hn a ha
        rcases HA.out with h | h
        · subst h
          subst ha
          have := HS.out.block hn
          omega
        · have := h a ha
          omega
theorem linkept_none (A : Option Addr) (n c L : Nat) (xs : List Int)  (g : Int → Bool) (w : World) (hS : Ints w A n xs) (hL : L < 2 ^ 64) (hT : Tab w) (hm : mayB xs L = true)
    (hF : ∀ (v : Int) (W : World), Kept w W → -1048576 ≤ v ∧ v ≤ 1048576 → Calls Tryd.prog 58 #[.int .i64 v] W fun e w' => e = .returned (.bool (g v)) ∧ Kept W w') :
    Calls Tryd.prog 57 #[.agg #[.slice A n c, .int .u64 L], .func (.func 58) #[] #[]] w
      fun e w' => ∃ A' c', e = .returned (.agg #[.slice A' n c', .int .u64 (keepD g (xs, L)).2]) ∧ Ints w' A' n xs ∧ Kept w w' ∧ (A' = A ∨ Fresh w A') := by
  have HS := Lib.hid hS
  have HL := Lib.hid hL
  have HT := Lib.hid hT
  have Hm := Lib.hid hm
  have HF := Lib.hid hF
  have Hlen := Lib.hid hS.len
  clear hS hL hT hm hF
  have HD : Hid (keepD (pk g (listB xs L)) (xs, L) = keepD g (xs, L)) := pk_all (d := (xs, L)) Hm.out
  go_enter Tryd.func57, Tryd.ntmps57
  go_wp2_with fail
  refine (dlist_any A n c L xs _ (HS.out.kept ((Kept.box _ _).newBlock _)) HL.out (HT.out.kept ((Kept.box _ _).newBlock _))).mono ?_
  rintro e w2 ⟨Bl, cl, rfl, hIl, hk2, hfl⟩
  have HO : Hid (w2.heap[w.heap.size]? = some (.cells #[.slice A n c, .int .u64 L] 47 (0, 0))) := hk2.heapAt ((Kept.box _ _).heapAt (heap_new _ _))
  have HR := Lib.hid (hk2.heapAt (heap_new2 _ _ _))
  have HIl := Lib.hid hIl
  have Hfl := Lib.hid hfl
  have Hk2 := Lib.hid (((Kept.box _ _).newBlock _).then hk2)
  have hsz2 := hk2.size
  simp only [World.size_alloc] at hsz2
  have hel := listB_length xs L
  have Hrng := Lib.hid (listB_rng xs L)
  clear hIl hk2 hfl
  generalize hm : (listB xs L).length = m at *
  have Hmm := Lib.hid hm
  clear hm
  go_wp2_with fail
  go_loopw [10] (fun u wr => ∃ (k : Nat) (A' : Option Addr) (c' : Nat), k ≤ m ∧ u = .int .i64 k ∧ Hid (KeptBut w.heap.size w2 wr) ∧ Hid (wr.heap[w.heap.size]? = some (.cells #[.slice A' n c', .int .u64 ((keepD (pk g ((listB xs L).take k)) (xs, L)).2 : Nat)] 47 (0, 0))) ∧ Hid (Ints wr A' n xs) ∧ Hid (A' = A ∨ ∀ a, A' = some a → w.heap.size + 1 < a.block)) (fun u _ => m - (intOf u).toNat)
  case atStart => exact ⟨0, A, c, Nat.zero_le _, rfl, KeptBut.refl _ _, by rw [List.take_zero, pk_nil _ _ Hm.out]; exact HO, HS.out.kept Hk2.out, Or.inl rfl⟩
  case round =>
    obtain ⟨k, A', c', hk, rfl, Hkw, HOr, HIr, HA⟩ := hrel
    have HK := Lib.hid (((KeptBut.of Hk2.out w.heap.size).then Hkw.out).kept (Nat.le_refl _))
    by_cases hlt : k < m
    · have hbs := HIl.out.keptBut Hkw.out (fun a ha => by have := Hfl.out a ha; simp only [World.size_alloc] at this; omega)
      obtain ⟨b, rfl, hbb⟩ := hbs.addr (by omega)
      obtain ⟨v, Hv, hcv, _, _⟩ := hbs.named k hlt
      have Htake : Hid ((listB xs L).take (k + 1) = (listB xs L).take k ++ [v]) := take_succ_getD (by have := Hmm.out; omega) Hv.out
      have hvr : -1048576 ≤ v ∧ v ≤ 1048576 := by
        refine Hrng.out v ?_
        rw [← Hv.out, List.getD_eq_getElem?_getD, List.getElem?_eq_getElem (by have := Hmm.out; omega)]
        exact List.getElem_mem _
      have HQ : Hid (∀ W, Kept wr W → Calls Tryd.prog 58 #[.int .i64 v] W fun e w' => e = .returned (.bool (g v)) ∧ Kept W w') := fun W hW => HF.out v W (HK.out.then hW) hvr
      clear hbs
      generalize hb : g v = bb at HQ
      have Hb := Lib.hid hb
      clear hb
      cases bb with
      | true =>
        go_wp2_with fail
        refine (HQ.out _ (Kept.same _)).mono ?_
        rintro e WQ ⟨rfl, hkq⟩
        have Hkq := Lib.hid hkq
        clear hkq hcv
        go_wp2_with fail
        go_roundw
        case rel => exact ⟨k + 1, A', c', by omega, by go_num, Hkw.out.then (KeptBut.of Hkq.out _), by rw [Htake.out, pk_yes Hb.out]; exact Hkq.out.heapAt HOr.out, HIr.out.kept Hkq.out, HA.out⟩
        case measure => simp [intOf]; omega
      | false =>
        have Hno := Lib.hid (pk_no (l := (listB xs L).take k) Hb.out (xs, L))
        have Hmk : Hid (mayB xs (keepD (pk g ((listB xs L).take k)) (xs, L)).2 = true) := keepD_may (d := (xs, L)) Hm.out
        have Hlk := Lib.hid (keepD_lt (pk g ((listB xs L).take k)) (xs, L))
        have He : Hid ((xs, (keepD (pk g ((listB xs L).take k)) (xs, L)).2) = keepD (pk g ((listB xs L).take k)) (xs, L)) := rfl
        go_wp2_with fail
        refine (HQ.out _ (Kept.same _)).mono ?_
        rintro e WQ ⟨rfl, hkq⟩
        have Hkq := Lib.hid hkq
        have HOq : Hid _ := Lib.hid (hkq.heapAt HOr.out)
        have hO0 := cell_at HOq.out 0
        have hO1 := cell_at HOq.out 1
        have hf0 := frozen_at HOq.out 0
        have hf1 := frozen_at HOq.out 1
        simp only [List.getElem?_toArray, List.getElem?_cons_zero, List.getElem?_cons_succ] at hO0 hO1
        clear hkq hcv
        go_wp2_with fail
        refine (domless_any A' n c' (keepD (pk g ((listB xs L).take k)) (xs, L)).2 xs v _ (HIr.out.kept Hkq.out) Hlk.out (HT.out.kept (HK.out.then Hkq.out)) Hmk.out).mono ?_
        rintro e W ⟨B, cB, rfl, hIB, hkB, hfB⟩
        rw [He.out, Hno.out] at hIB ⊢
        have HOB := Lib.hid (hkB.heapAt HOq.out)
        have HIB : Hid (Ints W B n xs) := by
          have h2 : Ints W B xs.length xs := hIB
          rwa [Hlen.out] at h2
        have hlw := HK.out.size
        have hlB := Lib.hid hfB
        have HkB := Lib.hid (KeptBut.of (Hkq.out.then hkB) w.heap.size)
        have hsq := Hkq.out.size
        have e1 : (keepD (pk g ((listB xs L).take k ++ [v])) (xs, L)).1.length = n := Hlen.out
        rw [e1]
        have hP0 := cell_at HOB.out 0
        have hP1 := cell_at HOB.out 1
        have hp0 := frozen_at HOB.out 0
        have hp1 := frozen_at HOB.out 1
        simp only [List.getElem?_toArray, List.getElem?_cons_zero, List.getElem?_cons_succ] at hP0 hP1
        rw [← Htake.out]
        clear hIB hkB hfB hO0 hO1 hf0 hf1 HQ
        go_wp2_with fail
        go_roundw
        case rel =>
          refine ⟨k + 1, B, cB, by omega, by go_num, (Hkw.out.then HkB.out).then ((KeptBut.set _ (a := ⟨w.heap.size, 0, none⟩) rfl _).then (KeptBut.set _ (a := ⟨w.heap.size, 1, none⟩) rfl _)), two_set01 HOB.out _ _, HIB.out.keptBut0 ((KeptBut.set _ (a := ⟨w.heap.size, 0, none⟩) rfl _).then (KeptBut.set _ (a := ⟨w.heap.size, 1, none⟩) rfl _)) ?_, Or.inr (fun a ha => by have := hlB.out a ha; have := Hkw.out.size; omega)⟩
          intro _ a ha
          have := hlB.out a ha
          have h3 := lt_at HOr.out
          show a.block ≠ w.heap.size
          omega
        case measure => simp [intOf]; omega
    · have e : k = m := by omega
      have hG : Hid (keepD (pk g ((listB xs L).take k)) (xs, L) = keepD g (xs, L)) := by
        show _ = _
        rw [List.take_of_length_le (by have := Hmm.out; omega)]
        exact HD.out
      have HOg : Hid (wr.heap[w.heap.size]? = some (.cells #[.slice A' n c', .int .u64 ((keepD g (xs, L)).2 : Nat)] 47 (0, 0))) := by
        have := HOr.out
        rwa [hG.out] at this
      have hO0 := cell_at HOg.out 0
      have hO1 := cell_at HOg.out 1
      have HRr := Lib.hid (Hkw.out.heapAt HR.out (by omega))
      have hR0 := cell_at HRr.out 0
      have hR1 := cell_at HRr.out 1
      have hf0 := frozen_at HRr.out 0
      have hf1 := frozen_at HRr.out 1
      simp only [List.getElem?_toArray, List.getElem?_cons_zero, List.getElem?_cons_succ] at hO0 hO1 hR0 hR1
      clear HOr hG
      generalize hGG : (keepD g (xs, L)).2 = G at *
      go_wp2_with fail
      have h2 : KeptBut (w.heap.size + 1) wr ((wr.setCell ⟨w.heap.size + 1, 0, none⟩ (.slice A' n c')).setCell ⟨w.heap.size + 1, 1, none⟩ (.int .u64 G)) := (KeptBut.set _ (a := ⟨w.heap.size + 1, 0, none⟩) rfl _).then (KeptBut.set _ (a := ⟨w.heap.size + 1, 1, none⟩) rfl _)
      refine bodyPost_ret (v := .agg #[.slice A' n c', .int .u64 G]) (by simp [results, Tryd.results57, go_sem, hR0, hR1]) rfl ?_
      refine ⟨A', c', ?_, HIr.out.keptBut0 h2 ?_, ((KeptBut.of HK.out (w.heap.size + 1)).then h2).kept (by omega), HA.out.imp id (fun h a ha => by have := h a ha; omega)⟩
      · rw [hGG]
      · intro hn a ha
        rcases HA.out with h | h
        · subst h
          subst ha
          have := HS.out.block hn
          omega
        · have := h a ha
          omega
end Go.Proofs.YtekcenacpklpgaaDoor

set_option maxHeartbeats 2000000
set_option maxRecDepth 10000
namespace Go.Proofs.YtekcenacpklpgaaDoor
open Go Go.RowKit Pl

/-- Nothing is handed back; a slice of domains of the caller's has turned, and nothing else. -/
def TurnPost (base g n cap : Nat) (res : List DomB) (w : World) (e : Ending) (w' : World) : Prop :=
  e = .returned (.tuple #[]) ∧ OwnD w' base (.slice (some ⟨g, 0, Option.none⟩) n cap) res ∧ KeptBut g w w'

theorem linnone1_any (v : Int) (w : World) : Calls Tryd.prog 58 #[.int .i64 v] w fun e w' => e = .returned (.bool false) ∧ Kept w w' := by
  go_enter Tryd.func58, Tryd.ntmps58
  go_wp2_with fail
  go_ret
  exact ⟨rfl, Kept.same _⟩

theorem linnone_any (K R Ct : Int) (A1 A2 A3 : Option Addr) (n1 c1 n2 c2 n3 c3 : Nat) (C : ConB) (base g n cap : Nat) (ds : List DomB) (w0 w : World) (hC : ConIn w0 K R Ct A1 A2 A3 n1 c1 n2 c2 n3 c3 C) (hT : Tab w0) (hk : Kept w0 w) (hg : w0.heap.size ≤ g) (hgl : g < w.heap.size)
    (hO : OwnD w base (.slice (some ⟨g, 0, Option.none⟩) n cap) ds) (hlen : ds.length = n) (hm : allMay ds = true) (hv : varsOk C.vars n = true) (_hn : n ≤ 1000) :
    Calls Tryd.prog 28 #[.agg #[.int .i64 K, .slice A1 n1 c1, .slice A2 n2 c2, .int .i64 R, .int .i64 Ct, .slice A3 n3 c3], .slice (some ⟨g, 0, Option.none⟩) n cap] w (TurnPost base g n cap (stepB (varsKp C.vars (fun _ _ => false) n1) ds) w) := by
  have HC := Lib.hid hC
  have HT := Lib.hid hT
  have Hk := Lib.hid hk
  have HO := Lib.hid hO
  have Hlen := Lib.hid hlen
  have Hm := Lib.hid hm
  have Hvo := Lib.hid hv
  have Hvl := Lib.hid hC.vars.len
  have hs1 := hC.vars.small
  have hsz := hk.size
  clear hC hT hk hO hlen hm hv
  go_enter Tryd.func28, Tryd.ntmps28
  go_wp2_with fail
  have HK0 : Hid (Kept w (w.alloc (.cells #[.int .i64 K, .slice A1 n1 c1, .slice A2 n2 c2, .int .i64 R, .int .i64 Ct, .slice A3 n3 c3] 24))) := Kept.box _ _
  generalize w.alloc (.cells #[.int .i64 K, .slice A1 n1 c1, .slice A2 n2 c2, .int .i64 R, .int .i64 Ct, .slice A3 n3 c3] 24) = W0 at *
  go_loopw [9] (fun u wr => ∃ k : Nat, k ≤ n1 ∧ u = .int .i64 k ∧ Hid (OwnD wr base (.slice (some ⟨g, 0, Option.none⟩) n cap) (stepB (varsKp C.vars (fun _ _ => false) k) ds)) ∧ Hid (KeptBut g W0 wr)) (fun u _ => n1 - (intOf u).toNat)
  case atStart => exact ⟨0, Nat.zero_le _, rfl, by rw [stepB_varsKp_zero Hm.out]; exact HO.out.kept HK0.out, KeptBut.refl _ _⟩
  case round =>
    obtain ⟨j, hj, rfl, HOq, Hkq⟩ := hrel
    have HB := Lib.hid ((KeptBut.of HK0.out g).then Hkq.out)
    have HQ := Lib.hid (((KeptBut.of Hk.out g).then HB.out).kept hg)
    have Hlq : Hid ((stepB (varsKp C.vars (fun _ _ => false) j) ds).length = n) := by show _ = _; rw [stepB_length]; exact Hlen.out
    have hgr : g < wr.heap.size := by have := HB.out.size; omega
    by_cases hlt : j < n1
    · obtain ⟨av, hav, hbv⟩ := (HC.out.vars.kept HQ.out).addr (by omega)
      subst hav
      obtain ⟨v, Hv1, hcv, _, _⟩ := (HC.out.vars.kept HQ.out).named j hlt
      obtain ⟨hv0, hv1⟩ := varsOk_rng Hvo.out (i := j) (by have := Hvl.out; omega)
      rw [Hv1.out] at hv0 hv1
      obtain ⟨p, rfl⟩ := Int.eq_ofNat_of_zero_le hv0
      have hpn : p < n := by omega
      obtain ⟨xs, L, B, m, cB, Hd, s1, s2, HI, hL, HBg, s3, s4⟩ := HOq.out.named Hlq.out p hpn
      have hmay : mayB xs L = true := by
        have h := Hd.out
        unfold nilD at h
        rw [stepB_getD _ _ (by have := Hlen.out; omega)] at h
        have h2 := keepD_may (f := varsKp C.vars (fun _ _ => false) j p) (allMay_at Hm.out (show p < ds.length by have := Hlen.out; omega))
        rw [h] at h2
        exact h2
      obtain ⟨d9, hd9⟩ : ∃ d9, d9 = keepD (fun _ => false) (xs, L) := ⟨_, rfl⟩
      have Hd9 : Hid (d9.2 < 2 ^ 64) := by show _ < _; rw [hd9]; exact keepD_lt _ _
      have Hd91 : Hid (d9.1 = xs) := by show _ = _; rw [hd9]; rfl
      have Hc : Hid (∀ W, Kept wr W → Calls Tryd.prog 57 #[.agg #[.slice B m cB, .int .u64 L], .func (.func 58) #[] #[]] W
          fun e w' => ∃ A' c', e = .returned (.agg #[.slice A' m c', .int .u64 (d9.2 : Nat)]) ∧ Ints w' A' m xs ∧ Kept W w' ∧ (A' = B ∨ Fresh W A')) := fun W hW => by
        have h := linkept_none B m cB L xs (fun _ => false) W (HI.out.kept hW) hL (HT.out.kept (HQ.out.then hW)) hmay (fun v W' _ _ => linnone1_any v W')
        rwa [← hd9] at h
      have Hnx : Hid (stepB (varsKp C.vars (fun _ _ => false) (j + 1)) ds = (stepB (varsKp C.vars (fun _ _ => false) j) ds).set p d9) := by
        show _ = _
        rw [stepVars_on (by have := Hlen.out; omega) Hv1.out, hd9, Hd.out]
      have HF : Hid (∀ (W7 : World) (A7 : Option Addr) (c7 : Nat), Ints W7 A7 m xs → Kept wr W7 → (A7 = B ∨ Fresh wr A7) →
          OwnD ((W7.setCell ⟨g, p * 2, Option.none⟩ (.slice A7 m c7)).setCell ⟨g, p * 2 + 1, Option.none⟩ (.int .u64 (d9.2 : Nat))) base (.slice (some ⟨g, 0, Option.none⟩) n cap) (stepB (varsKp C.vars (fun _ _ => false) (j + 1)) ds) ∧
          KeptBut g W0 ((W7.setCell ⟨g, p * 2, Option.none⟩ (.slice A7 m c7)).setCell ⟨g, p * 2 + 1, Option.none⟩ (.int .u64 (d9.2 : Nat)))) := by
        intro W7 A7 c7 hI7 hk7 hA7
        have hO8 := (HOq.out.kept hk7).set Hlq.out hpn (d := d9) (B := A7) (m := m) (c := c7) (by rw [Hd91.out]; exact hI7) (fun hn a ha => by
          rcases hA7 with h | h
          · subst h; exact HBg.out hn a ha
          · have := h a ha; omega) Hd9.out
        rw [← Hnx.out] at hO8
        exact ⟨hO8, (Hkq.out.then (KeptBut.of hk7 g)).then ((KeptBut.set _ (a := ⟨g, p * 2, Option.none⟩) rfl _).then (KeptBut.set _ (a := ⟨g, p * 2 + 1, Option.none⟩) rfl _))⟩
      clear hd9 hmay hL
      go_wp2_with fail
      refine (Hc.out _ (Kept.same _)).mono ?_
      rintro e W7 ⟨A7, c7, rfl, hI7, hk7, hA7⟩
      have HI7 := Lib.hid hI7
      have HK7 := Lib.hid hk7
      have HA7 : Hid (A7 = B ∨ Fresh wr A7) := hA7
      obtain ⟨_, _, _, _, _, _, t1, t2, _, _, _, t3, t4⟩ := (HOq.out.kept hk7).named Hlq.out p hpn
      have hg7 : g < W7.heap.size := by have := hk7.size; omega
      clear hI7 hk7 hA7 s1 s2 s3 s4
      go_wp2_with fail
      go_roundw
      case rel =>
        obtain ⟨hD, hK⟩ := HF.out _ _ _ HI7.out HK7.out HA7.out
        exact ⟨j + 1, by omega, by go_num, hD, hK⟩
      case measure => simp [intOf]; omega
    · have e : j = n1 := by omega
      subst e
      go_wp2_with fail
      go_end0
      exact ⟨rfl, HOq.out, HB.out⟩

theorem linsum_any (K R Ct : Int) (A1 A2 A3 : Option Addr) (n1 c1 n2 c2 n3 c3 : Nat) (C : ConB) (B : Option Addr) (m d : Nat) (vs : List Int) (A : Option Addr) (n c : Nat) (ds : List DomB) (rel : Int) (base g cap : Nat) (w0 w : World) (hC : ConIn w0 K R Ct A1 A2 A3 n1 c1 n2 c2 n3 c3 C) (hV : Ints w0 B m vs) (hS : Doms w0 A n ds) (hT : Tab w0)
    (hk : Kept w0 w) (hg : w0.heap.size ≤ g) (hgl : g < w.heap.size) (hO : OwnD w base (.slice (some ⟨g, 0, Option.none⟩) n cap) ds) (hm : allMay ds = true) (hl : n2 = m) (h8 : m ≤ 8) (hb : ∀ i, -1048576 ≤ C.coefs.getD i 0 ∧ C.coefs.getD i 0 ≤ 1048576)
    (hv : varsOk vs n = true) (h0 : ∀ i, i < m → 0 < (lsV vs ds i).length) (hr0 : 0 ≤ rel) (hr5 : rel ≤ 5) :
    Calls Tryd.prog 29 #[.agg #[.int .i64 K, .slice A1 n1 c1, .slice A2 n2 c2, .int .i64 R, .int .i64 Ct, .slice A3 n3 c3], .slice B m d, .int .i64 rel, .slice A n c, .slice (some ⟨g, 0, Option.none⟩) n cap] w (TurnPost base g n cap (stepB (varsKp vs (sumG C.coefs (lsV vs ds) m rel C.const) m) ds) w) := by
  subst hl
  have HC := Lib.hid hC
  have HV := Lib.hid hV
  have HS := Lib.hid hS
  have HT := Lib.hid hT
  have Hk := Lib.hid hk
  have HO := Lib.hid hO
  have Hm := Lib.hid hm
  have Hb := Lib.hid hb
  have Hvo := Lib.hid hv
  have H0 := Lib.hid h0
  have Hlen := Lib.hid hS.len
  have Hvl := Lib.hid hV.len
  have hsz := hk.size
  have Hcon := Lib.hid hC.const
  have Hrng : Hid (∀ j, j < n2 → (-8796093022208 ≤ lowBut C.coefs (lsV vs ds) j n2 ∧ lowBut C.coefs (lsV vs ds) j n2 ≤ 8796093022208) ∧ (-8796093022208 ≤ highBut C.coefs (lsV vs ds) j n2 ∧ highBut C.coefs (lsV vs ds) j n2 ≤ 8796093022208)) := fun j hj =>
    ends_all hb (fun i hi => ⟨h0 i hi, listB_rng _ _⟩) h8 (Nat.le_refl _)
  have HrngA := Lib.hid (ends_all (but := -1) hb (fun i hi => ⟨h0 i hi, listB_rng _ _⟩) h8 (Nat.le_refl n2))
  have HTot : Hid (∀ W, Kept w0 W → Calls Tryd.prog 59 #[.agg #[.int .i64 K, .slice A1 n1 c1, .slice A2 n2 c2, .int .i64 R, .int .i64 Ct, .slice A3 n3 c3], .slice B n2 d, .slice A n c] W fun e w' => e = .returned (.agg #[.int .i64 (lowBut C.coefs (lsV vs ds) (-1) n2), .int .i64 (highBut C.coefs (lsV vs ds) (-1) n2)]) ∧ Kept W w') := fun W hW =>
    total_any K R Ct A1 A2 A3 n1 c1 n2 c2 n3 c3 C B n2 d vs A n c ds W (hC.kept hW) (hV.kept hW) (hS.kept hW) (hT.kept hW) hm rfl h8 hb (fun i hi => varsOk_rng hv (by have := hV.len; omega)) h0
  clear hC hV hS hT hk hO hm hb hv h0
  generalize hAl : lowBut C.coefs (lsV vs ds) (-1) n2 = al' at *
  generalize hAh : highBut C.coefs (lsV vs ds) (-1) n2 = ah' at *
  have HAl := Lib.hid hAl
  have HAh := Lib.hid hAh
  clear hAl hAh
  go_enter Tryd.func29, Tryd.ntmps29
  go_wp2_with fail
  refine (HTot.out _ (Hk.out.then ((Kept.box _ _).newBlock _))).mono ?_
  rintro e w1 ⟨rfl, hk1⟩
  have HBc := Lib.hid (hk1.heapAt ((Kept.box _ _).heapAt (heap_new w (.cells #[.int .i64 K, .slice A1 n1 c1, .slice A2 n2 c2, .int .i64 R, .int .i64 Ct, .slice A3 n3 c3] 24))))
  have HBr := Lib.hid (hk1.heapAt (heap_new2 w (.cells #[.int .i64 K, .slice A1 n1 c1, .slice A2 n2 c2, .int .i64 R, .int .i64 Ct, .slice A3 n3 c3] 24) (.cells #[.int .i64 rel] 3)))
  have Hk1 := Lib.hid (((Kept.box _ _).newBlock _).then hk1)
  clear hk1 HTot
  go_wp2_with fail
  have HKx : Hid (Kept w (w1.alloc (.cells #[.int .i64 al', .int .i64 ah'] 86))) := Hk1.out.newBlock _
  have HXc := Lib.hid ((Kept.box w1 (.cells #[.int .i64 al', .int .i64 ah'] 86)).heapAt HBc.out)
  have HXr := Lib.hid ((Kept.box w1 (.cells #[.int .i64 al', .int .i64 ah'] 86)).heapAt HBr.out)
  have HXe : Hid ((w1.alloc (.cells #[.int .i64 al', .int .i64 ah'] 86)).heap[w1.heap.size]? = some (.cells #[.int .i64 al', .int .i64 ah'] 86)) := heap_new _ _
  have hs1 := Hk1.out.size
  have hs1b : w.heap.size + 1 < w1.heap.size := lt_at HBr.out
  generalize w1.alloc (.cells #[.int .i64 al', .int .i64 ah'] 86) = W0 at *
  have hW0 := lt_at HXe.out
  generalize w1.heap.size = Ba at *
  clear HBc HBr Hk1
  go_loopw [20] (fun u wr => ∃ k : Nat, k ≤ n2 ∧ u = .int .i64 k ∧ Hid (OwnD wr base (.slice (some ⟨g, 0, Option.none⟩) n cap) (stepB (varsKp vs (sumG C.coefs (lsV vs ds) n2 rel C.const) k) ds)) ∧ Hid (KeptBut g W0 wr)) (fun u _ => n2 - (intOf u).toNat)
  case atStart => exact ⟨0, Nat.zero_le _, rfl, by rw [stepB_varsKp_zero Hm.out]; exact HO.out.kept HKx.out, KeptBut.refl _ _⟩
  case round =>
    obtain ⟨j, hj, rfl, HOq, Hkq⟩ := hrel
    obtain ⟨wq, hwq⟩ : ∃ wq : World, wq = wr := ⟨_, rfl⟩
    subst hwq
    have HB := Lib.hid ((KeptBut.of HKx.out g).then Hkq.out)
    have HQ := Lib.hid (((KeptBut.of Hk.out g).then HB.out).kept hg)
    have hgr : g < wq.heap.size := by have := HB.out.size; omega
    have hsq := Hkq.out.size
    by_cases hlt : j < n2
    · have Hlq : Hid ((stepB (varsKp vs (sumG C.coefs (lsV vs ds) n2 rel C.const) j) ds).length = n) := by show _ = _; rw [stepB_length]; exact Hlen.out
      have Hnx0 : Hid (∀ p : Nat, vs.getD j 0 = (p : Nat) → stepB (varsKp vs (sumG C.coefs (lsV vs ds) n2 rel C.const) (j + 1)) ds = (stepB (varsKp vs (sumG C.coefs (lsV vs ds) n2 rel C.const) j) ds).set p (keepD (sumG C.coefs (lsV vs ds) n2 rel C.const j) (ds.getD p nilD))) := fun p hp => stepVars_was (by rw [Hlen.out]; exact Hvo.out) (by have := Hvl.out; omega) hp
      obtain ⟨av, hav, hbv⟩ := (HV.out.kept HQ.out).addr (by omega)
      subst hav
      obtain ⟨v, Hv1, hcv, _, _⟩ := (HV.out.kept HQ.out).named j hlt
      obtain ⟨hv0, hv1⟩ := varsOk_rng Hvo.out (i := j) (by have := Hvl.out; omega)
      rw [Hv1.out] at hv0 hv1
      obtain ⟨p, rfl⟩ := Int.eq_ofNat_of_zero_le hv0
      have hpn : p < n := by omega
      obtain ⟨aq, haq, hbq⟩ := (HC.out.coefs.kept HQ.out).addr (by omega)
      subst haq
      obtain ⟨q, Hq1, hcq, _, _⟩ := (HC.out.coefs.kept HQ.out).named j hlt
      obtain ⟨al, hal, hbal0⟩ := HS.out.addr (by omega)
      subst hal
      obtain ⟨xs, L, Bx, mx, cx, Hd, hw1, hw2, HI0, hL⟩ := HS.out.named p hpn
      have HI := Lib.hid (HI0.out.kept HQ.out)
      have hc1 := HQ.out.cellAt hw1
      have hc2 := HQ.out.cellAt hw2
      have hbal : al.block < wq.heap.size := by have := HQ.out.size; omega
      clear hw1 hw2
      have Hls : Hid (lsV vs ds j = listB xs L) := by show _ = _; unfold lsV; rw [Hv1.out, Int.toNat_natCast, Hd.out]
      have hmay : mayB xs L = true := by
        have := allMay_at Hm.out (show p < ds.length by have := Hlen.out; omega)
        have h2 := Hd.out
        unfold nilD at h2
        rw [h2] at this
        exact this
      have hpos : 0 < (listB xs L).length := by have := H0.out j hlt; rwa [Hls.out] at this
      obtain ⟨ax, hax, _⟩ := HI.out.addr (by have := xs_pos hmay hpos; have := HI.out.len; omega)
      subst hax
      have hqr := Hb.out j
      rw [Hq1.out] at hqr
      obtain ⟨hlo, hhi⟩ := Hrng.out j hlt
      have Hel : Hid (lowBut C.coefs (lsV vs ds) j n2 = al' + -1 * mnB q (listB xs L)) := by
        show _ = _
        rw [lowBut_eq hlt, HAl.out, Hq1.out, Hls.out]; omega
      have Heh : Hid (highBut C.coefs (lsV vs ds) j n2 = ah' + -1 * mxB q (listB xs L)) := by
        show _ = _
        rw [highBut_eq hlt, HAh.out, Hq1.out, Hls.out]; omega
      have HP : Hid (∀ W, Kept wq W → Calls Tryd.prog 60 #[.agg #[.int .i64 al', .int .i64 ah'], .int .i64 q, .agg #[.slice (some ax) mx cx, .int .u64 L], .int .i64 (-1)] W
          fun e w' => e = .returned (.agg #[.int .i64 (lowBut C.coefs (lsV vs ds) j n2), .int .i64 (highBut C.coefs (lsV vs ds) j n2)]) ∧ Kept W w') := fun W hW => by
        rw [Hel.out, Heh.out]
        have h1 := HrngA.out
        exact endsplus_any _ _ q (-1) ax mx cx L xs W (HI.out.kept hW) hL (HT.out.kept (HQ.out.then hW)) hmay hpos hqr (by omega) (by omega) (.inr rfl)
      obtain ⟨d9, hd9⟩ : ∃ d9, d9 = keepD (sumG C.coefs (lsV vs ds) n2 rel C.const j) (xs, L) := ⟨_, rfl⟩
      have Hnx : Hid (stepB (varsKp vs (sumG C.coefs (lsV vs ds) n2 rel C.const) (j + 1)) ds = (stepB (varsKp vs (sumG C.coefs (lsV vs ds) n2 rel C.const) j) ds).set p d9) := by
        show _ = _
        rw [Hnx0.out p Hv1.out, hd9, Hd.out]
      have Hd9 : Hid (d9.2 < 2 ^ 64) := by show _ < _; rw [hd9]; exact keepD_lt _ _
      have Hd91 : Hid (d9.1 = xs) := by show _ = _; rw [hd9]; rfl
      have hb2 := cell_at (Hkq.out.heapAt HXc.out (by omega)) 2
      have ha0 := cell_at (Hkq.out.heapAt HXe.out (by omega)) 0
      have ha1 := cell_at (Hkq.out.heapAt HXe.out (by omega)) 1
      simp only [List.getElem?_toArray, List.getElem?_cons_zero, List.getElem?_cons_succ] at hb2 ha0 ha1
      have hlE : Ba < wq.heap.size := by omega
      have HcK : Hid (∀ (W : World) (Be : Nat), Kept wq W → W.heap[wq.heap.size]? = some (.cells #[.int .i64 j] 3) → W.heap[Be]? = some (.cells #[.int .i64 (lowBut C.coefs (lsV vs ds) j n2), .int .i64 (highBut C.coefs (lsV vs ds) j n2)] 86) →
          Calls Tryd.prog 57 #[.agg #[.slice (some ax) mx cx, .int .u64 L], .func (.func 61) #[] #[.pointer (some ⟨w.heap.size, 0, Option.none⟩), .pointer (some ⟨wq.heap.size, 0, Option.none⟩), .pointer (some ⟨Be, 0, Option.none⟩), .pointer (some ⟨w.heap.size + 1, 0, Option.none⟩)]] W
          fun e w' => ∃ A' c', e = .returned (.agg #[.slice A' mx c', .int .u64 (d9.2 : Nat)]) ∧ Ints w' A' mx xs ∧ Kept W w' ∧ (A' = some ax ∨ Fresh W A')) := fun W Be hW hi he => by
        have h := linkept_sum (some ax) mx cx L xs (.pointer (some ⟨w.heap.size, 0, Option.none⟩)) (.pointer (some ⟨wq.heap.size, 0, Option.none⟩)) (.pointer (some ⟨Be, 0, Option.none⟩)) (.pointer (some ⟨w.heap.size + 1, 0, Option.none⟩)) (sumG C.coefs (lsV vs ds) n2 rel C.const j) W (HI.out.kept hW) hL (HT.out.kept (HQ.out.then hW)) hmay
          (fun x W' hW' hx => by
            have hcn := hW'.heapAt (hW.heapAt (Hkq.out.heapAt HXc.out (by omega)))
            have hrl := hW'.heapAt (hW.heapAt (Hkq.out.heapAt HXr.out (by omega)))
            have he' := hW'.heapAt he
            have hi' := hW'.heapAt hi
            have hl9 : SumBox W' w.heap.size wq.heap.size Be (w.heap.size + 1) (some aq) n2 c2 C.coefs Ct j (lowBut C.coefs (lsV vs ds) j n2) (highBut C.coefs (lsV vs ds) j n2) rel :=
              ⟨by rw [cell_at hcn 2]; rfl, by rw [cell_at hcn 4]; rfl, by rw [cell_at hi' 0]; rfl, by rw [cell_at he' 0]; rfl, by rw [cell_at he' 1]; rfl, by rw [cell_at hrl 0]; rfl, HC.out.coefs.kept ((HQ.out.then hW).then hW')⟩
            have h2 := linsum1_any x w.heap.size wq.heap.size Be (w.heap.size + 1) (some aq) n2 c2 C.coefs Ct _ _ rel j W' hl9 hlt hr0 hr5 hx (Hb.out j) hlo hhi
            rw [← Hcon.out] at h2
            exact h2)
        rwa [← hd9] at h
      have HF : Hid (∀ (W7 : World) (A7 : Option Addr) (c7 : Nat), Ints W7 A7 mx xs → Kept wq W7 → (A7 = some ax ∨ Fresh wq A7) →
          OwnD ((W7.setCell ⟨g, p * 2, Option.none⟩ (.slice A7 mx c7)).setCell ⟨g, p * 2 + 1, Option.none⟩ (.int .u64 (d9.2 : Nat))) base (.slice (some ⟨g, 0, Option.none⟩) n cap) (stepB (varsKp vs (sumG C.coefs (lsV vs ds) n2 rel C.const) (j + 1)) ds) ∧
          KeptBut g W0 ((W7.setCell ⟨g, p * 2, Option.none⟩ (.slice A7 mx c7)).setCell ⟨g, p * 2 + 1, Option.none⟩ (.int .u64 (d9.2 : Nat)))) := by
        intro W7 A7 c7 hI7 hk7 hA7
        have hO8 := (HOq.out.kept hk7).set Hlq.out hpn (d := d9) (B := A7) (m := mx) (c := c7) (by rw [Hd91.out]; exact hI7) (fun hn a ha => by
          rcases hA7 with h | h
          · subst h
            cases ha
            have := HI0.out.block hn
            omega
          · have := h a ha; omega) Hd9.out
        rw [← Hnx.out] at hO8
        exact ⟨hO8, (Hkq.out.then (KeptBut.of hk7 g)).then ((KeptBut.set _ (a := ⟨g, p * 2, Option.none⟩) rfl _).then (KeptBut.set _ (a := ⟨g, p * 2 + 1, Option.none⟩) rfl _))⟩
      clear hd9 hmay hL Hnx0 hlo hhi hqr hpos
      go_wp2_with fail
      have HWK : Hid (Kept wq (wq.alloc (.cells #[.int .i64 j] 3))) := Kept.box _ _
      have HWi : Hid ((wq.alloc (.cells #[.int .i64 j] 3)).heap[wq.heap.size]? = some (.cells #[.int .i64 j] 3)) := heap_new _ _
      have Hc7 := Lib.hid (And.intro hb2 (And.intro hcq (And.intro ha0 (And.intro ha1 (And.intro hc1 hc2)))))
      generalize wq.alloc (.cells #[.int .i64 j] 3) = WI at *
      generalize hlo9 : lowBut C.coefs (lsV vs ds) j n2 = lo9 at *
      generalize hhi9 : highBut C.coefs (lsV vs ds) j n2 = hi9 at *
      have HSf : Hid (∀ W, Kept WI W → W.cell? ⟨w.heap.size, 2, Option.none⟩ = some (.slice (some aq) n2 c2) ∧ W.cell? ⟨wq.heap.size, 0, Option.none⟩ = some (.int .i64 j) ∧ W.cell? (aq.add j) = some (.int .i64 q) ∧ W.cell? ⟨Ba, 0, Option.none⟩ = some (.int .i64 al') ∧ W.cell? ⟨Ba, 1, Option.none⟩ = some (.int .i64 ah') ∧ W.cell? (al.add (p * 2)) = some (.slice (some ax) mx cx) ∧ W.cell? ⟨al.block, (al.add (p * 2)).off + 1, Option.none⟩ = some (.int .u64 L)) := fun W hW => by
        obtain ⟨e1, e2, e3, e4, e5, e6⟩ := Hc7.out
        exact ⟨hW.cellAt (HWK.out.cellAt e1), by rw [cell_at (hW.heapAt HWi.out) 0]; rfl, hW.cellAt (HWK.out.cellAt e2), hW.cellAt (HWK.out.cellAt e3), hW.cellAt (HWK.out.cellAt e4), hW.cellAt (HWK.out.cellAt e5), hW.cellAt (HWK.out.cellAt e6)⟩
      have HSs : Hid (∀ (W : World) (Kb : Nat) (x0 x1 : Value), Kept WI W → WI.heap.size ≤ Kb → Kept WI ((W.setCell ⟨Kb, 0, Option.none⟩ x0).setCell ⟨Kb, 1, Option.none⟩ x1)) := fun W Kb x0 x1 hW hKb =>
        ((KeptBut.of hW Kb).then ((KeptBut.set _ (a := ⟨Kb, 0, Option.none⟩) rfl _).then (KeptBut.set _ (a := ⟨Kb, 1, Option.none⟩) rfl _))).kept hKb
      have hlWI := lt_at HWi.out
      obtain ⟨hS1, hS2, hS3, hS4, hS5, hS6, hS7⟩ := HSf.out _ (Kept.same _)
      clear hb2 ha0 ha1 hcq hc1 hc2 hlo9 hhi9 hcv
      have hsWI := HWK.out.size
      have hj0 : (0 : Int) ≤ (j : Int) := by omega
      have hjn : (j : Int) < (n2 : Int) := by omega
      have hp0 : (0 : Int) ≤ (p : Int) := by omega
      have hpn' : (p : Int) < (n : Int) := by omega
      go_region_held3 (fun W => W.cell? ⟨w.heap.size, 2, Option.none⟩ = some (.slice (some aq) n2 c2) ∧ W.cell? ⟨wq.heap.size, 0, Option.none⟩ = some (.int .i64 j) ∧ W.cell? (aq.add j) = some (.int .i64 q) ∧ W.cell? ⟨Ba, 0, Option.none⟩ = some (.int .i64 al') ∧ W.cell? ⟨Ba, 1, Option.none⟩ = some (.int .i64 ah') ∧ W.cell? (al.add (p * 2)) = some (.slice (some ax) mx cx) ∧ W.cell? ⟨al.block, (al.add (p * 2)).off + 1, Option.none⟩ = some (.int .u64 L))
        (first
          | with_reducible exact HSf.out _ (Kept.drewn _)
          | with_reducible exact HSf.out _ ((Kept.box _ _).then (Kept.drewn _))
          | with_reducible exact HSf.out _ ((Kept.drewn _).newBlock _)
          | with_reducible exact HSf.out _ ((Kept.drewn _).then HK7.out)
          | with_reducible exact HSf.out _ (((Kept.drewn _).then HK7.out).newBlock _)
          | with_reducible exact HSf.out _ (((Kept.box _ _).then (Kept.drewn _)).then HK7.out)
          | with_reducible exact HSf.out _ (HSs.out _ _ _ _ (((Kept.box _ _).then (Kept.drewn _)).then HK7.out) (Nat.le_refl _)))
        ((go_at_call 60; refine (HP.out _ (by first | with_reducible exact HWK.out.then (Kept.drewn _) | with_reducible exact HWK.out.then ((Kept.box _ _).then (Kept.drewn _)) | with_reducible exact HWK.out.then ((Kept.drewn _).newBlock _))).mono ?_; rintro e W7 ⟨rfl, hk7⟩; have HK7 := Lib.hid hk7; clear hk7; try (have HE7 := Lib.hid (HK7.out.heapAt ((Kept.drewn _).heapAt (heap_new WI (.cells #[.int .i64 0, .int .i64 0] 86)))); have g0 := cell_at HE7.out 0; have g1 := cell_at HE7.out 1; have f0 := frozen_at HE7.out 0; have f1 := frozen_at HE7.out 1; simp only [List.getElem?_toArray, List.getElem?_cons_zero, List.getElem?_cons_succ] at g0 g1)))
      all_goals (
        first
          | (have HE9 : Hid (((W7.setCell ⟨WI.heap.size, 0, Option.none⟩ (.int .i64 lo9)).setCell ⟨WI.heap.size, 1, Option.none⟩ (.int .i64 hi9)).heap[WI.heap.size]? = some (.cells #[.int .i64 lo9, .int .i64 hi9] 86 (0, 0))) := two_set01 HE7.out _ _
             have HX : Hid (Kept WI ((W7.setCell ⟨WI.heap.size, 0, Option.none⟩ (.int .i64 lo9)).setCell ⟨WI.heap.size, 1, Option.none⟩ (.int .i64 hi9))) := HSs.out _ _ _ _ (((Kept.box _ _).then (Kept.drewn _)).then HK7.out) (Nat.le_refl _)
             clear g0 g1 f0 f1
             generalize (W7.setCell ⟨WI.heap.size, 0, Option.none⟩ (.int .i64 lo9)).setCell ⟨WI.heap.size, 1, Option.none⟩ (.int .i64 hi9) = W8 at *)
          | (have HE9 : Hid ((W7.alloc (.cells #[.int .i64 lo9, .int .i64 hi9] 86)).heap[W7.heap.size]? = some (.cells #[.int .i64 lo9, .int .i64 hi9] 86 (0, 0))) := heap_new _ _
             have HX : Hid (Kept WI (W7.alloc (.cells #[.int .i64 lo9, .int .i64 hi9] 86))) := ((Kept.drewn _).then HK7.out).newBlock _
             generalize W7.alloc (.cells #[.int .i64 lo9, .int .i64 hi9] 86) = W8 at *)
        clear hS1 hS2 hS3 hS4 hS5 hS6 hS7
        obtain ⟨_, _, _, _, _, hT6, hT7⟩ := HSf.out _ HX.out
        have hlal : al.block < W8.heap.size := by have := HX.out.size; omega
        go_wp2_with fail
        refine (HcK.out W8 _ (HWK.out.then HX.out) (HX.out.heapAt HWi.out) HE9.out).mono ?_
        rintro e W9 ⟨A9, c9, rfl, hI9, hk9, hA9⟩
        have HI9 := Lib.hid hI9
        have HK9 := Lib.hid ((HWK.out.then HX.out).then hk9)
        have HA9 : Hid (A9 = some ax ∨ Fresh wq A9) := hA9.imp id (fun h => Fresh.mono h (by have := HWK.out.size; have := HX.out.size; omega))
        obtain ⟨_, _, _, _, _, _, t1, t2, _, _, _, t3, t4⟩ := (HOq.out.kept HK9.out).named Hlq.out p hpn
        have hg9 : g < W9.heap.size := by have := HK9.out.size; omega
        clear hI9 hk9 hA9 hT6 hT7
        go_wp2_with fail
        go_roundw
        case rel =>
          obtain ⟨hD, hK⟩ := HF.out _ _ _ HI9.out HK9.out HA9.out
          exact ⟨j + 1, by omega, by go_num, hD, hK⟩
        case measure => simp [intOf]; omega)
    · have e : j = n2 := by omega
      subst e
      go_wp2_with fail
      go_end0
      exact ⟨rfl, HOq.out, HB.out⟩
end Go.Proofs.YtekcenacpklpgaaDoor

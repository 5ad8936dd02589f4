/-
  Contracts of the package element: kept.
-/
import Derived.Test.YthddanjmnifloaaDoorElem
set_option maxHeartbeats 1000000
set_option maxRecDepth 10000
namespace Go.Proofs.YthddanjmnifloaaDoor
open Go Go.RowKit Go.Maps Pl

/-- What is kept behind the first ones of a list. -/
def pk (g : Int → Bool) (l : List Int) (x : Int) : Bool := l.all fun v => x != v || g v
theorem pk_nil (g : Int → Bool) (d : DomB) (hm : mayB d.1 d.2 = true) : keepD (pk g []) d = d := keepD_all hm (fun _ _ => rfl)
theorem pk_yes {g : Int → Bool} {l : List Int} {v : Int} (hv : g v = true) : pk g (l ++ [v]) = pk g l := by
  funext x; unfold pk; rw [List.all_append]; simp [hv]
theorem pk_no {g : Int → Bool} {l : List Int} {v : Int} (hv : g v = false) (d : DomB) : keepD (fun x => x != v) (keepD (pk g l) d) = keepD (pk g (l ++ [v])) d := by
  rw [keepD_keepD]
  congr 1
  funext x; unfold pk; rw [List.all_append]; simp [hv]
theorem pk_all {g : Int → Bool} {d : DomB} (hm : mayB d.1 d.2 = true) : keepD (pk g (listB d.1 d.2)) d = keepD g d := by
  refine keepD_congr hm fun v hv => ?_
  unfold pk
  rw [Bool.eq_iff_iff, List.all_eq_true]
  constructor
  · intro h
    simpa using h v hv
  · intro h u _
    by_cases e : v = u
    · subst e; simp [h]
    · simp [e]

theorem elemkept3_any (A : Option Addr) (n c L : Nat) (xs : List Int) (Bm M n0 : Nat) (f : Int → Nat) (w : World) (hS : Ints w A n xs) (hL : L < 2 ^ 64) (hT : Tab w) (hm : mayB xs L = true)
    (hmap : w.cell? ⟨Bm, 0, none⟩ = some (.map (some M))) (hC : Counts w M n0 f) :
    Calls Tryd.prog 53 #[.agg #[.slice A n c, .int .u64 L], .func (.func 56) #[] #[.pointer (some ⟨Bm, 0, none⟩)]] w
      fun e w' => ∃ A' c', e = .returned (.agg #[.slice A' n c', .int .u64 (keepD (fun v => decide (0 < f v)) (xs, L)).2]) ∧ Ints w' A' n xs ∧ Kept w w' ∧ (A' = A ∨ Fresh w A') := by
  have HS := Lib.hid hS
  have HL := Lib.hid hL
  have HT := Lib.hid hT
  have Hm := Lib.hid hm
  have HC := Lib.hid hC
  have Hlen := Lib.hid hS.len
  have Hmap := Lib.hid hmap
  clear hS hL hT hm hC hmap
  have HD : Hid (keepD (pk (fun v => decide (0 < f v)) (listB xs L)) (xs, L) = keepD (fun v => decide (0 < f v)) (xs, L)) := pk_all (d := (xs, L)) Hm.out
  generalize hg : (fun v => decide (0 < f v)) = g at *
  go_enter Tryd.func53, Tryd.ntmps53
  go_wp2_with fail
  refine (dlist_any A n c L xs _ (HS.out.kept ((Kept.box _ _).newBlock _)) HL.out (HT.out.kept ((Kept.box _ _).newBlock _))).mono ?_
  rintro e w2 ⟨Bl, cl, rfl, hIl, hk2, hfl⟩
  have HO : Hid (w2.heap[w.heap.size]? = some (.cells #[.slice A n c, .int .u64 L] 58 (0, 0))) := hk2.heapAt ((Kept.box _ _).heapAt (heap_new _ _))
  have HR := Lib.hid (hk2.heapAt (heap_new2 _ _ _))
  have HIl := Lib.hid hIl
  have Hfl := Lib.hid hfl
  have Hk2 := Lib.hid (((Kept.box _ _).newBlock _).then hk2)
  have hsz2 := hk2.size
  simp only [World.size_alloc] at hsz2
  have hel := listB_length xs L
  have Hrng := Lib.hid (listB_rng xs L)
  clear hIl hk2 hfl
  generalize hm : (listB xs L).length = m at *
  have Hmm := Lib.hid hm
  clear hm
  go_wp2_with fail
  go_loopw [10] (fun u wr => ∃ (k : Nat) (A' : Option Addr) (c' : Nat), k ≤ m ∧ u = .int .i64 k ∧ Hid (KeptBut w.heap.size w2 wr) ∧ Hid (wr.heap[w.heap.size]? = some (.cells #[.slice A' n c', .int .u64 ((keepD (pk g ((listB xs L).take k)) (xs, L)).2 : Nat)] 58 (0, 0))) ∧ Hid (Ints wr A' n xs) ∧ Hid (A' = A ∨ ∀ a, A' = some a → w.heap.size + 1 < a.block)) (fun u _ => m - (intOf u).toNat)
  case atStart => exact ⟨0, A, c, Nat.zero_le _, rfl, KeptBut.refl _ _, by rw [List.take_zero, pk_nil _ _ Hm.out]; exact HO, HS.out.kept Hk2.out, Or.inl rfl⟩
  case round =>
    obtain ⟨k, A', c', hk, rfl, Hkw, HOr, HIr, HA⟩ := hrel
    have HK := Lib.hid (((KeptBut.of Hk2.out w.heap.size).then Hkw.out).kept (Nat.le_refl _))
    by_cases hlt : k < m
    · have hbs := HIl.out.keptBut Hkw.out (fun a ha => by have := Hfl.out a ha; simp only [World.size_alloc] at this; omega)
      obtain ⟨b, rfl, hbb⟩ := hbs.addr (by omega)
      obtain ⟨v, Hv, hcv, _, _⟩ := hbs.named k hlt
      have Htake : Hid ((listB xs L).take (k + 1) = (listB xs L).take k ++ [v]) := take_succ_getD (by have := Hmm.out; omega) Hv.out
      have hvr : -1048576 ≤ v ∧ v ≤ 1048576 := by
        refine Hrng.out v ?_
        rw [← Hv.out, List.getD_eq_getElem?_getD, List.getElem?_eq_getElem (by have := Hmm.out; omega)]
        exact List.getElem_mem _
      have HQ : Hid (∀ W, Kept wr W → Calls Tryd.prog 56 #[.int .i64 v, .pointer (some ⟨Bm, 0, none⟩)] W fun e w' => e = .returned (.bool (g v)) ∧ W = w') := fun W hW => by
        have := elem3_any v Bm M n0 f W ((HK.out.then hW).cellAt Hmap.out) (HC.out.kept (HK.out.then hW)) (by omega)
        rwa [show decide (0 < f v) = g v from congrFun hg v] at this
      clear hbs
      generalize hb : g v = bb at HQ
      have Hb := Lib.hid hb
      clear hb
      cases bb with
      | true =>
        go_wp2_with fail
        refine (HQ.out _ (Kept.same _)).mono ?_
        rintro e W ⟨rfl, rfl⟩
        go_wp2_with fail
        go_roundw
        case rel => exact ⟨k + 1, A', c', by omega, by go_num, Hkw.out, by rw [Htake.out, pk_yes Hb.out]; exact HOr, HIr.out, HA.out⟩
        case measure => simp [intOf]; omega
      | false =>
        have hO0 := cell_at HOr.out 0
        have hO1 := cell_at HOr.out 1
        have hf0 := frozen_at HOr.out 0
        have hf1 := frozen_at HOr.out 1
        simp only [List.getElem?_toArray, List.getElem?_cons_zero, List.getElem?_cons_succ] at hO0 hO1
        have Hno := Lib.hid (pk_no (l := (listB xs L).take k) Hb.out (xs, L))
        have Hmk : Hid (mayB xs (keepD (pk g ((listB xs L).take k)) (xs, L)).2 = true) := keepD_may (d := (xs, L)) Hm.out
        have Hlk := Lib.hid (keepD_lt (pk g ((listB xs L).take k)) (xs, L))
        have He : Hid ((xs, (keepD (pk g ((listB xs L).take k)) (xs, L)).2) = keepD (pk g ((listB xs L).take k)) (xs, L)) := rfl
        go_wp2_with fail
        refine (HQ.out _ (Kept.same _)).mono ?_
        rintro e W ⟨rfl, rfl⟩
        go_wp2_with fail
        refine (domless_any A' n c' (keepD (pk g ((listB xs L).take k)) (xs, L)).2 xs v _ HIr.out Hlk.out (HT.out.kept HK.out) Hmk.out).mono ?_
        rintro e W ⟨B, cB, rfl, hIB, hkB, hfB⟩
        rw [He.out, Hno.out] at hIB ⊢
        have HOB := Lib.hid (hkB.heapAt HOr.out)
        have HIB : Hid (Ints W B n xs) := by
          have h2 : Ints W B xs.length xs := hIB
          rwa [Hlen.out] at h2
        have hlw := HK.out.size
        have hlB := Lib.hid hfB
        have HkB := Lib.hid (KeptBut.of hkB w.heap.size)
        have e1 : (keepD (pk g ((listB xs L).take k ++ [v])) (xs, L)).1.length = n := Hlen.out
        rw [e1]
        have hP0 := cell_at HOB.out 0
        have hP1 := cell_at HOB.out 1
        have hp0 := frozen_at HOB.out 0
        have hp1 := frozen_at HOB.out 1
        simp only [List.getElem?_toArray, List.getElem?_cons_zero, List.getElem?_cons_succ] at hP0 hP1
        rw [← Htake.out]
        clear hIB hkB hfB hO0 hO1 hf0 hf1 HQ
        go_wp2_with fail
        go_roundw
        case rel =>
          refine ⟨k + 1, B, cB, by omega, by go_num, (Hkw.out.then HkB.out).then ((KeptBut.set _ (a := ⟨w.heap.size, 0, none⟩) rfl _).then (KeptBut.set _ (a := ⟨w.heap.size, 1, none⟩) rfl _)), two_set01 HOB.out _ _, HIB.out.keptBut0 ((KeptBut.set _ (a := ⟨w.heap.size, 0, none⟩) rfl _).then (KeptBut.set _ (a := ⟨w.heap.size, 1, none⟩) rfl _)) ?_, Or.inr (fun a ha => by have := hlB.out a ha; have := Hkw.out.size; omega)⟩
          intro _ a ha
          have := hlB.out a ha
          have h3 := lt_at HOr.out
          show a.block ≠ w.heap.size
          omega
        case measure => simp [intOf]; omega
    · have e : k = m := by omega
      have hG : Hid (keepD (pk g ((listB xs L).take k)) (xs, L) = keepD g (xs, L)) := by
        show _ = _
        rw [List.take_of_length_le (by have := Hmm.out; omega)]
        exact HD.out
      have HOg : Hid (wr.heap[w.heap.size]? = some (.cells #[.slice A' n c', .int .u64 ((keepD g (xs, L)).2 : Nat)] 58 (0, 0))) := by
        have := HOr.out
        rwa [hG.out] at this
      have hO0 := cell_at HOg.out 0
      have hO1 := cell_at HOg.out 1
      have HRr := Lib.hid (Hkw.out.heapAt HR.out (by omega))
      have hR0 := cell_at HRr.out 0
      have hR1 := cell_at HRr.out 1
      have hf0 := frozen_at HRr.out 0
      have hf1 := frozen_at HRr.out 1
      simp only [List.getElem?_toArray, List.getElem?_cons_zero, List.getElem?_cons_succ] at hO0 hO1 hR0 hR1
      clear HOr hG
      generalize hGG : (keepD g (xs, L)).2 = G at *
      go_wp2_with fail
      have h2 : KeptBut (w.heap.size + 1) wr ((wr.setCell ⟨w.heap.size + 1, 0, none⟩ (.slice A' n c')).setCell ⟨w.heap.size + 1, 1, none⟩ (.int .u64 G)) := (KeptBut.set _ (a := ⟨w.heap.size + 1, 0, none⟩) rfl _).then (KeptBut.set _ (a := ⟨w.heap.size + 1, 1, none⟩) rfl _)
      refine bodyPost_ret (v := .agg #[.slice A' n c', .int .u64 G]) (by simp [results, Tryd.results53, go_sem, hR0, hR1]) rfl ?_
      refine ⟨A', c', ?_, HIr.out.keptBut0 h2 ?_, ((KeptBut.of HK.out (w.heap.size + 1)).then h2).kept (by omega), HA.out.imp id (fun h a ha => by have := h a ha; omega)⟩
      · rw [hGG]
      · intro hn a ha
        rcases HA.out with h | h
        · subst h
          subst ha
          have := HS.out.block hn
          omega
        · have := h a ha
          omega
end Go.Proofs.YthddanjmnifloaaDoor

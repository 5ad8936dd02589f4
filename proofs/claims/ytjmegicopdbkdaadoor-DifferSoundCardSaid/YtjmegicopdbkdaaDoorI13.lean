/-
  Contracts and plain laws that the card rests on, part 13.
-/
import Derived.Test.YtjmegicopdbkdaaDoorI11
import Derived.Test.YtjmegicopdbkdaaDoorI12
import Derived.Test.YtjmegicopdbkdaaDoorI5
import Derived.Test.YtjmegicopdbkdaaDoorI9
import Derived.Maps.OwnSet
import Derived.Test.YtjmegicopdbkdaaDoorI7
import Derived.Test.YtjmegicopdbkdaaDoorI10
set_option maxHeartbeats 1000000
set_option maxRecDepth 10000
namespace Go.Proofs.YtjmegicopdbkdaaDoor
open Go Go.RowKit Go.Maps Pl

/-- A map that counts the numbers of a list. -/
def Cnt (w : World) (M n : Nat) (U : List Int) : Prop :=
  ∃ (D : DataW Unit) (f : Int → Nat), w.ownsMap Tryd.prog 3 (plainElem Tryd.prog 3) M n D ∧ Tidy D ∧ (∀ x, f x ≤ n ∧ D.atKey (.int .i64 x) (.lit (.int .i64 0)) = .lit (.int .i64 (f x : Nat))) ∧ (∀ x, Maps.has D (.int .i64 x) = U.contains x) ∧ Maps.size D = U.length
theorem Cnt.of_heap {w : World} {M : Nat} (h : w.heap[M]? = some (.map #[] 0)) : Cnt w M 0 [] := by
  have h0 : (w.alloc (.map #[] 0)).ownsMap Tryd.prog 3 (plainElem Tryd.prog 3) w.heap.size 0 (.map [] : DataW Unit) := World.ownsMap_made _ _ _ _
  obtain ⟨es, clock, hb, F, hs, hD⟩ := h0
  rw [heap_new] at hb
  cases hb
  exact ⟨.map [], fun _ => 0, ⟨_, _, h, F, hs, hD⟩, tidy_empty, fun _ => ⟨Nat.le_refl _, rfl⟩, fun _ => rfl, rfl⟩
theorem Cnt.kept {w w' : World} {M n : Nat} {U : List Int} (h : Cnt w M n U) (hk : Kept w w') : Cnt w' M n U := by
  obtain ⟨D, f, ⟨es, clock, hb, F, hs, hD⟩, hx⟩ := h
  exact ⟨D, f, ⟨es, clock, hk.heapAt hb, F, hs, hD⟩, hx⟩
theorem Cnt.mono {w : World} {M n m : Nat} {U : List Int} (h : Cnt w M n U) (hm : n ≤ m) : Cnt w M m U := by
  obtain ⟨D, f, ho, ht, hx, hy⟩ := h
  exact ⟨D, f, ho.mono hm, ht, fun x => ⟨Nat.le_trans (hx x).1 hm, (hx x).2⟩, hy⟩
theorem cnt_put {w w' : World} {M n : Nat} {U : List Int} {y : Int} {D : DataW Unit} {f : Int → Nat} (hown : w.ownsMap Tryd.prog 3 (plainElem Tryd.prog 3) M n D) (ht : Tidy D)
    (hD : ∀ x, f x ≤ n ∧ D.atKey (.int .i64 x) (.lit (.int .i64 0)) = .lit (.int .i64 (f x : Nat))) (hU : ∀ x, Maps.has D (.int .i64 x) = U.contains x) (hs : Maps.size D = U.length) (hy : -9223372036854775808 ≤ y ∧ y ≤ 9223372036854775807)
    (hown2 : w'.ownsMap Tryd.prog 3 (plainElem Tryd.prog 3) M (n + 1) (D.put (.int .i64 y) (.lit (.int .i64 ((f y : Int) + 1))))) : Cnt w' M (n + 1) (addB U y) := by
  have hkk := lawInt.key (keyI hy)
  refine ⟨_, fun x => if y = x then f y + 1 else f x, hown2, ht.put hkk _, fun x => ?_, fun x => ?_, ?_⟩
  · dsimp only
    by_cases hv : y = x
    · subst hv
      rw [atKey_put_same (isMap_of hown) hkk, if_pos rfl]
      have := (hD y).1
      exact ⟨by omega, by simp⟩
    · rw [atKey_put_other (by intro e; cases e; exact hv rfl), if_neg hv]
      exact ⟨Nat.le_succ_of_le (hD x).1, (hD x).2⟩
  · by_cases hv : y = x
    · subst hv
      rw [has_put_same (isMap_of hown) hkk]
      symm
      rw [List.contains_iff_mem, mem_addB]
      exact .inr rfl
    · rw [has_put_other (by intro e; cases e; exact hv rfl), hU x, Bool.eq_iff_iff, List.contains_iff_mem, List.contains_iff_mem, mem_addB]
      exact ⟨.inl, fun h => h.resolve_right (fun e => hv e.symm)⟩
  · rw [size_put ht, hU y, hs]
    unfold addB
    split <;> simp

theorem few_any (K R Ct : Int) (A1 A2 A3 : Option Addr) (n1 c1 n2 c2 n3 c3 : Nat) (C : ConB) (A : Option Addr) (n c : Nat) (ds : List DomB) (w : World) (hC : ConIn w K R Ct A1 A2 A3 n1 c1 n2 c2 n3 c3 C) (hS : Doms w A n ds) (hT : Tab w) (hv : varsOk C.vars n = true) (hn1 : n1 ≤ 1000) (hn : n ≤ 1000) :
    Calls Tryd.prog 43 #[.agg #[.int .i64 K, .slice A1 n1 c1, .slice A2 n2 c2, .int .i64 R, .int .i64 Ct, .slice A3 n3 c3], .slice A n c] w fun e w' => e = .returned (.bool (fewB C ds)) ∧ Kept w w' := by
  have HC := Lib.hid hC
  have HS := Lib.hid hS
  have HT := Lib.hid hT
  have Hlen := Lib.hid hS.len
  have Hl1 := Lib.hid hC.vars.len
  have Hvo := Lib.hid hv
  clear hC hS hT hv
  have hmm := @run_makeMap Tryd.prog
  go_enter Tryd.func43, Tryd.ntmps43
  go_wp2_with fail
  have HF := fun k o h => (heap_allocs [.cells #[.int .i64 K, .slice A1 n1 c1, .slice A2 n2 c2, .int .i64 R, .int .i64 Ct, .slice A3 n3 c3] 24, .map #[] 0] w k o h).1
  have F0 := HF 0 _ rfl
  have F1 := HF 1 _ rfl
  have HK0 := Lib.hid (heap_allocs.kept_allocs [.cells #[.int .i64 K, .slice A1 n1 c1, .slice A2 n2 c2, .int .i64 R, .int .i64 Ct, .slice A3 n3 c3] 24, .map #[] 0] w)
  change Code.wp _ _ _ _ (allocs w [.cells #[.int .i64 K, .slice A1 n1 c1, .slice A2 n2 c2, .int .i64 R, .int .i64 Ct, .slice A3 n3 c3] 24, .map #[] 0])
  generalize allocs w [.cells #[.int .i64 K, .slice A1 n1 c1, .slice A2 n2 c2, .int .i64 R, .int .i64 Ct, .slice A3 n3 c3] 24, .map #[] 0] = W0 at *
  have Hcon : Hid (W0.heap[w.heap.size]? = some (.cells #[.int .i64 K, .slice A1 n1 c1, .slice A2 n2 c2, .int .i64 R, .int .i64 Ct, .slice A3 n3 c3] 24)) := F0
  have HM0 : Hid (Cnt W0 (w.heap.size + 1) 0 []) := Cnt.of_heap F1
  clear HF F0 F1 hmm
  go_loopw [14] (fun u wr => ∃ i : Nat, i ≤ n1 ∧ u = .int .i64 i ∧ Hid (Cnt wr (w.heap.size + 1) (64 * i) (allU C ds i)) ∧ Hid (wipedB C ds i = false) ∧ Hid (KeptBut (w.heap.size + 1) W0 wr)) (fun u _ => n1 - (intOf u).toNat)
  case atStart => exact ⟨0, Nat.zero_le _, rfl, HM0.out, rfl, KeptBut.refl _ _⟩
  case round =>
    obtain ⟨i, hi, rfl, HMi, HWi, Hki⟩ := hrel
    obtain ⟨wi, hwi⟩ : ∃ wi : World, wi = wr := ⟨_, rfl⟩
    subst hwi
    have HKi := Lib.hid (((KeptBut.of HK0.out _).then Hki.out).kept (Nat.le_succ _))
    by_cases hlt : i < n1
    · obtain ⟨av, hav, hbv⟩ := (HC.out.vars.kept HKi.out).addr (by omega)
      subst hav
      obtain ⟨v, Hv1, hcv, _, _⟩ := (HC.out.vars.kept HKi.out).named i hlt
      obtain ⟨hv0, hv1⟩ := varsOk_rng Hvo.out (i := i) (by have := Hl1.out; omega)
      rw [Hv1.out] at hv0 hv1
      obtain ⟨p, rfl⟩ := Int.eq_ofNat_of_zero_le hv0
      have hpn : p < n := by omega
      obtain ⟨al, hal, hbal⟩ := (HS.out.kept HKi.out).addr (by omega)
      subst hal
      obtain ⟨xs, L, B, m, cB, Hd, hc1, hc2, HI, hL⟩ := (HS.out.kept HKi.out).named p hpn
      have Hleft : Hid (leftOf C ds i = listB xs L) := by show _ = _; unfold leftOf; rw [Hv1.out, Int.toNat_natCast, Hd.out]
      have HQs := Lib.hid (size_any B m cB L xs wi HI.out hL)
      have HL := Lib.hid hL
      have Hc1 := Lib.hid hc1
      have Hc2 := Lib.hid hc2
      rcases Nat.eq_zero_or_pos (listB xs L).length with h0 | h0
      · have Hres : Hid (fewB C ds = true) := by
          show _ = _
          cases h : fewB C ds with
          | true => rfl
          | false =>
            have := (fewB_iff.1 h).1 i (by have := Hl1.out; omega)
            rw [Hleft.out] at this
            omega
        rw [h0] at HQs
        clear h0
        go_wp2_with fail
        refine HQs.out.mono ?_
        rintro e w1 ⟨rfl, hk1⟩
        have Hk1 := Lib.hid (HKi.out.then hk1)
        clear hk1
        go_wp2_with fail
        go_ret
        exact ⟨by rw [Hres.out]; rfl, Hk1.out⟩
      · have h64 := listB_length xs L
        have HWn : Hid (wipedB C ds (i + 1) = false) := wipedB_iff.2 fun j hj => by
          by_cases e : j = i
          · subst e; rw [Hleft.out]; exact h0
          · exact wipedB_iff.1 HWi.out j (by omega)
        have Hnx : Hid (allU C ds (i + 1) = addAll (allU C ds i) (listB xs L)) := by show _ = _; rw [allU_succ, Hleft.out]
        have Hrng := Lib.hid (listB_rng xs L)
        have HQl : Hid (∀ W, Kept wi W → Calls Tryd.prog 31 #[.agg #[.slice B m cB, .int .u64 L]] W (ListPost (listB xs L) W)) := fun W hW => dlist_any B m cB L xs W (HI.out.kept hW) HL.out (HT.out.kept (HKi.out.then hW))
        generalize listB xs L = ls at *
        have Hll : Hid (ls.length = ls.length) := rfl
        generalize hq : ls.length = q at HQs h0 h64 Hll
        have Hq := Lib.hid hq
        clear hq Hll
        have hq0 : ((q : Int) == 0) = false := by simp; omega
        go_wp2_with fail
        refine HQs.out.mono ?_
        rintro e w1 ⟨rfl, hk1⟩
        have Hk1 := Lib.hid hk1
        clear hc1 hc2 hcv
        have hc1 := hk1.cellAt Hc1.out
        have hc2 := hk1.cellAt Hc2.out
        clear hk1 HQs
        go_wp2_with fail
        refine (HQl.out _ Hk1.out).mono ?_
        rintro e w2 ⟨A9, c9, rfl, hI9, hk9, hfr9⟩
        rw [Hq.out] at hI9 ⊢
        have hMlt : w.heap.size + 1 < wi.heap.size := by obtain ⟨D, f, ho, _⟩ := HMi.out; exact ho.lt
        have HI9 : Hid (∀ W, KeptBut (w.heap.size + 1) w2 W → Ints W A9 q ls) := fun W hW => hI9.keptBut hW fun a ha => by
          have h1 := hfr9 a ha
          have h2 := Hk1.out.size
          omega
        have Hk9 := Lib.hid (Hk1.out.then hk9)
        have HMs := Lib.hid (HMi.out.kept Hk9.out)
        have HBs := Lib.hid (Hki.out.then (KeptBut.of Hk9.out _))
        clear hI9 hk9 HQl hc1 hc2 hfr9
        go_wp2_with fail
        go_loopw [30] (fun u wq => ∃ k : Nat, k ≤ q ∧ u = .int .i64 k ∧ Hid (Cnt wq (w.heap.size + 1) (64 * i + k) (addAll (allU C ds i) (ls.take k))) ∧ Hid (KeptBut (w.heap.size + 1) W0 wq) ∧ Hid (Kept w wq) ∧ Hid (KeptBut (w.heap.size + 1) w2 wq)) (fun u _ => q - (intOf u).toNat)
        case atStart => exact ⟨0, Nat.zero_le _, rfl, HMs.out, HBs.out, HKi.out.then Hk9.out, KeptBut.refl _ _⟩
        case round =>
          obtain ⟨k, hk, rfl, HMk, HBk, HKk, HQk⟩ := hrel
          by_cases hltk : k < q
          · have hI := HI9.out _ HQk.out
            obtain ⟨b9, hb9, hbb⟩ := hI.addr (by omega)
            subst hb9
            obtain ⟨y, Hy, hcy, hy1, hy2⟩ := hI.named k hltk
            have Hadd : Hid (addAll (allU C ds i) (ls.take (k + 1)) = addB (addAll (allU C ds i) (ls.take k)) y) := by
              show _ = _
              rw [take_succ_getD (by have := Hq.out; omega) Hy.out, addAll_snoc]
            obtain ⟨D, f, hown, ht, hD, hU, hs⟩ := HMk.out
            have hfy := (hD y).1
            have hyr : -9223372036854775808 ≤ y ∧ y ≤ 9223372036854775807 := ⟨hy1, hy2⟩
            have hkey := keyI hyr
            have hw : IntKind.i64.wrap ((f y : Int) + 1) = (f y : Int) + 1 := by
              unfold IntKind.wrap
              simp [IntKind.signed, IntKind.bits]
              omega
            have Ht := Lib.hid ht
            have HD := Lib.hid hD
            have HU := Lib.hid hU
            have Hs := Lib.hid hs
            have HO := Lib.hid hown
            clear hI ht hD hU hs
            go_wp2_with (first
              | (at_lookup; refine wpList_lookup_own_int _ rfl _ _ 52 rfl 3 3 .i64 lawInt Tryd.underlying52 Tryd.underlying3 (zeroInt _) (w.heap.size + 1) (64 * i + k) _ rfl hown _ _ rfl hkey ?_; intro c hat hwc; have hcf := hat.symm.trans ((HD.out y).2); simp at hcf; subst hcf; clear hat hwc)
              | (at_mapUpdate; refine wpList_mapUpdate_own _ rfl _ _ _ 52 rfl 3 3 lawInt Tryd.underlying52 (plainElem Tryd.prog 3) (w.heap.size + 1) (64 * i + k) D rfl hown (by unfold maxLen; omega) (.int .i64 y) _ _ rfl rfl hkey _ [] (plainElem_int Tryd.underlying3 (WalkArith.wf_i64 (by omega))) ?_; intro w3 hown3 hgrow3))
            go_roundw
            case rel => exact ⟨k + 1, by omega, by go_num, by rw [Hadd.out]; exact cnt_put HO.out Ht.out HD.out HU.out Hs.out hyr hown3, HBk.out.then (KeptBut.grown hgrow3), ((KeptBut.of HKk.out _).then (KeptBut.grown hgrow3)).kept (Nat.le_succ _), HQk.out.then (KeptBut.grown hgrow3)⟩
            case measure => simp [intOf]; omega
          · have e : k = q := by omega
            subst e
            have HMe : Hid (Cnt wr (w.heap.size + 1) (64 * (i + 1)) (allU C ds (i + 1))) := by
              show Cnt _ _ _ _
              rw [Hnx.out]
              have h := HMk.out
              rw [List.take_of_length_le (by have := Hq.out; omega)] at h
              exact h.mono (by omega)
            clear HMk
            go_wp2_with fail
            go_roundw
            case rel => exact ⟨i + 1, by omega, by go_num, HMe.out, HWn.out, HBk.out⟩
            case measure => simp [intOf]; omega
    · have e : i = n1 := by omega
      subst e
      have hb := Hki.out.heapAt Hcon.out (by omega)
      have c1' := cell_at hb 1
      simp only [List.getElem?_toArray, List.getElem?_cons_zero, List.getElem?_cons_succ] at c1'
      have hlb : w.heap.size < wi.heap.size := lt_at hb
      obtain ⟨D, f, hown, ht, hD, hU, hs⟩ := HMi.out
      have Hsz := Lib.hid hs
      clear hb hD hU ht
      go_wp2_with (first | (at_len; refine wpList_len_own _ rfl _ 52 rfl 3 3 Tryd.underlying52 _ (w.heap.size + 1) _ D rfl hown ?_))
      go_ret
      refine ⟨ret_bool ?_, HKi.out⟩
      unfold fewB
      rw [Hl1.out, HWi.out]
      simp
end Go.Proofs.YtjmegicopdbkdaaDoor

set_option maxHeartbeats 1000000
set_option maxRecDepth 10000
namespace Go.Proofs.YtjmegicopdbkdaaDoor
open Go Go.RowKit Go.Maps Pl

/-- What is kept behind the first ones of a list. -/
def pk (g : Int → Bool) (l : List Int) (x : Int) : Bool := l.all fun v => x != v || g v
theorem pk_nil (g : Int → Bool) (d : DomB) (hm : mayB d.1 d.2 = true) : keepD (pk g []) d = d := keepD_all hm (fun _ _ => rfl)
theorem pk_yes {g : Int → Bool} {l : List Int} {v : Int} (hv : g v = true) : pk g (l ++ [v]) = pk g l := by
  funext x; unfold pk; rw [List.all_append]; simp [hv]
theorem pk_no {g : Int → Bool} {l : List Int} {v : Int} (hv : g v = false) (d : DomB) : keepD (fun x => x != v) (keepD (pk g l) d) = keepD (pk g (l ++ [v])) d := by
  rw [keepD_keepD]
  congr 1
  funext x; unfold pk; rw [List.all_append]; simp [hv]
theorem pk_all {g : Int → Bool} {d : DomB} (hm : mayB d.1 d.2 = true) : keepD (pk g (listB d.1 d.2)) d = keepD g d := by
  refine keepD_congr hm fun v hv => ?_
  unfold pk
  rw [Bool.eq_iff_iff, List.all_eq_true]
  constructor
  · intro h
    simpa using h v hv
  · intro h u _
    by_cases e : v = u
    · subst e; simp [h]
    · simp [e]

end Go.Proofs.YtjmegicopdbkdaaDoor

set_option maxHeartbeats 1000000
set_option maxRecDepth 10000
namespace Go.Proofs.YtjmegicopdbkdaaDoor
open Go Go.RowKit Go.Maps Pl

theorem diffkept_any (A : Option Addr) (n c L : Nat) (xs : List Int) (p0 p1 p2 p3 : Value) (g : Int → Bool) (w : World) (hS : Ints w A n xs) (hL : L < 2 ^ 64) (hT : Tab w) (hm : mayB xs L = true)
    (hF : ∀ (v : Int) (W : World), Kept w W → -1048576 ≤ v ∧ v ≤ 1048576 → Calls Tryd.prog 45 #[.int .i64 v, p0, p1, p2, p3] W fun e w' => e = .returned (.bool (g v)) ∧ Kept W w') :
    Calls Tryd.prog 44 #[.agg #[.slice A n c, .int .u64 L], .func (.func 45) #[] #[p0, p1, p2, p3]] w
      fun e w' => ∃ A' c', e = .returned (.agg #[.slice A' n c', .int .u64 (keepD g (xs, L)).2]) ∧ Ints w' A' n xs ∧ Kept w w' ∧ (A' = A ∨ Fresh w A') := by
  have HS := Lib.hid hS
  have HL := Lib.hid hL
  have HT := Lib.hid hT
  have Hm := Lib.hid hm
  have HF := Lib.hid hF
  have Hlen := Lib.hid hS.len
  clear hS hL hT hm hF
  have HD : Hid (keepD (pk g (listB xs L)) (xs, L) = keepD g (xs, L)) := pk_all (d := (xs, L)) Hm.out
  go_enter Tryd.func44, Tryd.ntmps44
  go_wp2_with fail
  refine (dlist_any A n c L xs _ (HS.out.kept ((Kept.box _ _).newBlock _)) HL.out (HT.out.kept ((Kept.box _ _).newBlock _))).mono ?_
  rintro e w2 ⟨Bl, cl, rfl, hIl, hk2, hfl⟩
  have HO : Hid (w2.heap[w.heap.size]? = some (.cells #[.slice A n c, .int .u64 L] 47 (0, 0))) := hk2.heapAt ((Kept.box _ _).heapAt (heap_new _ _))
  have HR := Lib.hid (hk2.heapAt (heap_new2 _ _ _))
  have HIl := Lib.hid hIl
  have Hfl := Lib.hid hfl
  have Hk2 := Lib.hid (((Kept.box _ _).newBlock _).then hk2)
  have hsz2 := hk2.size
  simp only [World.size_alloc] at hsz2
  have hel := listB_length xs L
  have Hrng := Lib.hid (listB_rng xs L)
  clear hIl hk2 hfl
  generalize hm : (listB xs L).length = m at *
  have Hmm := Lib.hid hm
  clear hm
  go_wp2_with fail
  go_loopw [10] (fun u wr => ∃ (k : Nat) (A' : Option Addr) (c' : Nat), k ≤ m ∧ u = .int .i64 k ∧ Hid (KeptBut w.heap.size w2 wr) ∧ Hid (wr.heap[w.heap.size]? = some (.cells #[.slice A' n c', .int .u64 ((keepD (pk g ((listB xs L).take k)) (xs, L)).2 : Nat)] 47 (0, 0))) ∧ Hid (Ints wr A' n xs) ∧ Hid (A' = A ∨ ∀ a, A' = some a → w.heap.size + 1 < a.block)) (fun u _ => m - (intOf u).toNat)
  case atStart => exact ⟨0, A, c, Nat.zero_le _, rfl, KeptBut.refl _ _, by rw [List.take_zero, pk_nil _ _ Hm.out]; exact HO, HS.out.kept Hk2.out, Or.inl rfl⟩
  case round =>
    obtain ⟨k, A', c', hk, rfl, Hkw, HOr, HIr, HA⟩ := hrel
    have HK := Lib.hid (((KeptBut.of Hk2.out w.heap.size).then Hkw.out).kept (Nat.le_refl _))
    by_cases hlt : k < m
    · have hbs := HIl.out.keptBut Hkw.out (fun a ha => by have := Hfl.out a ha; simp only [World.size_alloc] at this; omega)
      obtain ⟨b, rfl, hbb⟩ := hbs.addr (by omega)
      obtain ⟨v, Hv, hcv, _, _⟩ := hbs.named k hlt
      have Htake : Hid ((listB xs L).take (k + 1) = (listB xs L).take k ++ [v]) := take_succ_getD (by have := Hmm.out; omega) Hv.out
      have hvr : -1048576 ≤ v ∧ v ≤ 1048576 := by
        refine Hrng.out v ?_
        rw [← Hv.out, List.getD_eq_getElem?_getD, List.getElem?_eq_getElem (by have := Hmm.out; omega)]
        exact List.getElem_mem _
      have HQ : Hid (∀ W, Kept wr W → Calls Tryd.prog 45 #[.int .i64 v, p0, p1, p2, p3] W fun e w' => e = .returned (.bool (g v)) ∧ Kept W w') := fun W hW => HF.out v W (HK.out.then hW) hvr
      clear hbs
      generalize hb : g v = bb at HQ
      have Hb := Lib.hid hb
      clear hb
      cases bb with
      | true =>
        go_wp2_with fail
        refine (HQ.out _ (Kept.same _)).mono ?_
        rintro e WQ ⟨rfl, hkq⟩
        have Hkq := Lib.hid hkq
        clear hkq hcv
        go_wp2_with fail
        go_roundw
        case rel => exact ⟨k + 1, A', c', by omega, by go_num, Hkw.out.then (KeptBut.of Hkq.out _), by rw [Htake.out, pk_yes Hb.out]; exact Hkq.out.heapAt HOr.out, HIr.out.kept Hkq.out, HA.out⟩
        case measure => simp [intOf]; omega
      | false =>
        have Hno := Lib.hid (pk_no (l := (listB xs L).take k) Hb.out (xs, L))
        have Hmk : Hid (mayB xs (keepD (pk g ((listB xs L).take k)) (xs, L)).2 = true) := keepD_may (d := (xs, L)) Hm.out
        have Hlk := Lib.hid (keepD_lt (pk g ((listB xs L).take k)) (xs, L))
        have He : Hid ((xs, (keepD (pk g ((listB xs L).take k)) (xs, L)).2) = keepD (pk g ((listB xs L).take k)) (xs, L)) := rfl
        go_wp2_with fail
        refine (HQ.out _ (Kept.same _)).mono ?_
        rintro e WQ ⟨rfl, hkq⟩
        have Hkq := Lib.hid hkq
        have HOq : Hid _ := Lib.hid (hkq.heapAt HOr.out)
        have hO0 := cell_at HOq.out 0
        have hO1 := cell_at HOq.out 1
        have hf0 := frozen_at HOq.out 0
        have hf1 := frozen_at HOq.out 1
        simp only [List.getElem?_toArray, List.getElem?_cons_zero, List.getElem?_cons_succ] at hO0 hO1
        clear hkq hcv
        go_wp2_with fail
        refine (domless_any A' n c' (keepD (pk g ((listB xs L).take k)) (xs, L)).2 xs v _ (HIr.out.kept Hkq.out) Hlk.out (HT.out.kept (HK.out.then Hkq.out)) Hmk.out).mono ?_
        rintro e W ⟨B, cB, rfl, hIB, hkB, hfB⟩
        rw [He.out, Hno.out] at hIB ⊢
        have HOB := Lib.hid (hkB.heapAt HOq.out)
        have HIB : Hid (Ints W B n xs) := by
          have h2 : Ints W B xs.length xs := hIB
          rwa [Hlen.out] at h2
        have hlw := HK.out.size
        have hlB := Lib.hid hfB
        have HkB := Lib.hid (KeptBut.of (Hkq.out.then hkB) w.heap.size)
        have hsq := Hkq.out.size
        have e1 : (keepD (pk g ((listB xs L).take k ++ [v])) (xs, L)).1.length = n := Hlen.out
        rw [e1]
        have hP0 := cell_at HOB.out 0
        have hP1 := cell_at HOB.out 1
        have hp0 := frozen_at HOB.out 0
        have hp1 := frozen_at HOB.out 1
        simp only [List.getElem?_toArray, List.getElem?_cons_zero, List.getElem?_cons_succ] at hP0 hP1
        rw [← Htake.out]
        clear hIB hkB hfB hO0 hO1 hf0 hf1 HQ
        go_wp2_with fail
        go_roundw
        case rel =>
          refine ⟨k + 1, B, cB, by omega, by go_num, (Hkw.out.then HkB.out).then ((KeptBut.set _ (a := ⟨w.heap.size, 0, none⟩) rfl _).then (KeptBut.set _ (a := ⟨w.heap.size, 1, none⟩) rfl _)), two_set01 HOB.out _ _, HIB.out.keptBut0 ((KeptBut.set _ (a := ⟨w.heap.size, 0, none⟩) rfl _).then (KeptBut.set _ (a := ⟨w.heap.size, 1, none⟩) rfl _)) ?_, Or.inr (fun a ha => by have := hlB.out a ha; have := Hkw.out.size; omega)⟩
          intro _ a ha
          have := hlB.out a ha
          have h3 := lt_at HOr.out
          show a.block ≠ w.heap.size
          omega
        case measure => simp [intOf]; omega
    · have e : k = m := by omega
      have hG : Hid (keepD (pk g ((listB xs L).take k)) (xs, L) = keepD g (xs, L)) := by
        show _ = _
        rw [List.take_of_length_le (by have := Hmm.out; omega)]
        exact HD.out
      have HOg : Hid (wr.heap[w.heap.size]? = some (.cells #[.slice A' n c', .int .u64 ((keepD g (xs, L)).2 : Nat)] 47 (0, 0))) := by
        have := HOr.out
        rwa [hG.out] at this
      have hO0 := cell_at HOg.out 0
      have hO1 := cell_at HOg.out 1
      have HRr := Lib.hid (Hkw.out.heapAt HR.out (by omega))
      have hR0 := cell_at HRr.out 0
      have hR1 := cell_at HRr.out 1
      have hf0 := frozen_at HRr.out 0
      have hf1 := frozen_at HRr.out 1
      simp only [List.getElem?_toArray, List.getElem?_cons_zero, List.getElem?_cons_succ] at hO0 hO1 hR0 hR1
      clear HOr hG
      generalize hGG : (keepD g (xs, L)).2 = G at *
      go_wp2_with fail
      have h2 : KeptBut (w.heap.size + 1) wr ((wr.setCell ⟨w.heap.size + 1, 0, none⟩ (.slice A' n c')).setCell ⟨w.heap.size + 1, 1, none⟩ (.int .u64 G)) := (KeptBut.set _ (a := ⟨w.heap.size + 1, 0, none⟩) rfl _).then (KeptBut.set _ (a := ⟨w.heap.size + 1, 1, none⟩) rfl _)
      refine bodyPost_ret (v := .agg #[.slice A' n c', .int .u64 G]) (by simp [results, Tryd.results44, go_sem, hR0, hR1]) rfl ?_
      refine ⟨A', c', ?_, HIr.out.keptBut0 h2 ?_, ((KeptBut.of HK.out (w.heap.size + 1)).then h2).kept (by omega), HA.out.imp id (fun h a ha => by have := h a ha; omega)⟩
      · rw [hGG]
      · intro hn a ha
        rcases HA.out with h | h
        · subst h
          subst ha
          have := HS.out.block hn
          omega
        · have := h a ha
          omega
end Go.Proofs.YtjmegicopdbkdaaDoor

set_option maxHeartbeats 1000000
set_option maxRecDepth 10000
namespace Go.Proofs.YtjmegicopdbkdaaDoor
open Go Go.RowKit Pl

def prodB (C : ConB) (V : Int) : Bool := variablesB C V 3 3 && bareB C 0 0
def diffB (C : ConB) (V : Int) : Bool := variablesB C V 2 8 && bareB C 0 0
theorem lookprod_any (K R Ct : Int) (A1 A2 A3 : Option Addr) (n1 c1 n2 c2 n3 c3 : Nat) (C : ConB) (V : Int) (w : World) (hC : ConIn w K R Ct A1 A2 A3 n1 c1 n2 c2 n3 c3 C) :
    Calls Tryd.prog 53 #[.agg #[.int .i64 K, .slice A1 n1 c1, .slice A2 n2 c2, .int .i64 R, .int .i64 Ct, .slice A3 n3 c3, .int .i64 V]] w fun e w' => e = .returned (.bool (prodB C V)) ∧ Kept w w' := by
  have HC := Lib.hid hC
  clear hC
  go_enter Tryd.func53, Tryd.ntmps53
  go_wp2_with fail
  refine (variables_any K R Ct A1 A2 A3 n1 c1 n2 c2 n3 c3 C V 3 3 _ (HC.out.kept (Kept.box _ _))).mono ?_
  rintro e w1 ⟨rfl, hk⟩
  have Hb := Lib.hid (hk.heapAt (box_look w K R Ct V A1 A2 A3 n1 c1 n2 c2 n3 c3))
  have Hk := Lib.hid ((Kept.box _ _).then hk)
  have hb0 := cell_at Hb.out 0
  have hb1 := cell_at Hb.out 1
  have hb2 := cell_at Hb.out 2
  have hb3 := cell_at Hb.out 3
  have hb4 := cell_at Hb.out 4
  have hb5 := cell_at Hb.out 5
  have hb6 := cell_at Hb.out 6
  simp only [List.getElem?_toArray, List.getElem?_cons_zero, List.getElem?_cons_succ] at hb0 hb1 hb2 hb3 hb4 hb5 hb6
  have HB : Hid (prodB C V = (variablesB C V 3 3 && bareB C 0 0)) := rfl
  clear hk
  generalize variablesB C V 3 3 = b at HB
  cases b with
  | false =>
    go_wp2_with fail
    go_ret
    exact ⟨ret_bool (by rw [HB.out]; simp), Hk.out⟩
  | true =>
    go_wp2_with fail
    refine (bare_any K R Ct A1 A2 A3 n1 c1 n2 c2 n3 c3 C V 0 0 _ (HC.out.kept Hk.out)).mono ?_
    rintro e w2 ⟨rfl, hk2⟩
    have Hk2 := Lib.hid (Hk.out.then hk2)
    clear hk2 hb0 hb1 hb2 hb3 hb4 hb5 hb6
    generalize bareB C 0 0 = d at HB
    go_wp2_with fail
    go_ret
    exact ⟨ret_bool (by rw [HB.out]; simp), Hk2.out⟩
theorem lookproduct_q {R Ct V : Int} {A1 A2 A3 : Option Addr} {n1 c1 n2 c2 n3 c3 : Nat} {C : ConB} (W : World) (h : ConIn W 2 R Ct A1 A2 A3 n1 c1 n2 c2 n3 c3 C) : Calls Tryd.prog 53 #[.agg #[.int .i64 2, .slice A1 n1 c1, .slice A2 n2 c2, .int .i64 R, .int .i64 Ct, .slice A3 n3 c3, .int .i64 V]] W fun e w' => e = .returned (.bool (prodB C V)) ∧ Kept W w' := lookprod_any 2 R Ct A1 A2 A3 n1 c1 n2 c2 n3 c3 C V W h
theorem right_prod (K R Ct : Int) (A1 A2 A3 : Option Addr) (n1 c1 n2 c2 n3 c3 : Nat) (C : ConB) (V : Int) (w : World) (hC : ConIn w K R Ct A1 A2 A3 n1 c1 n2 c2 n3 c3 C) (hK : K = 2) :
    Calls Tryd.prog 25 #[.agg #[.int .i64 K, .slice A1 n1 c1, .slice A2 n2 c2, .int .i64 R, .int .i64 Ct, .slice A3 n3 c3], .int .i64 V] w fun e w' => e = .returned (.bool (prodB C V)) ∧ Kept w w' := by
  subst hK
  have HC := Lib.hid hC
  clear hC
  go_enter Tryd.func25, Tryd.ntmps25
  go_wp2_with fail
  have HQ : Hid (∀ W, ConIn W 2 R Ct A1 A2 A3 n1 c1 n2 c2 n3 c3 C → Calls Tryd.prog 53 #[.agg #[.int .i64 2, .slice A1 n1 c1, .slice A2 n2 c2, .int .i64 R, .int .i64 Ct, .slice A3 n3 c3, .int .i64 V]] W fun e w' => e = .returned (.bool (prodB C V)) ∧ Kept W w') := fun W h => lookproduct_q W h
  generalize hb : prodB C V = b at HQ
  have HC2 := Lib.hid (HC.out.kept ((Kept.box w (.cells #[.int .i64 2, .slice A1 n1 c1, .slice A2 n2 c2, .int .i64 R, .int .i64 Ct, .slice A3 n3 c3] 24)).newBlock (.cells #[.func (.func 52) #[] #[], .func (.func 53) #[] #[], .func (.func 54) #[] #[], .func (.func 55) #[] #[], .func (.func 56) #[] #[], .func (.func 57) #[] #[]] 77)))
  refine wp_region_quiet_below (by kernel_rfl) (by kernel_rfl) ?_
  repeat (any_goals (first | go_big_quiet_step (((go_at_call 53; exact Calls.regrown_of (HQ.out _ (HC2.out.kept (below_regrown _ _ _)))))) | quiet_step (((go_at_call 53; exact Calls.regrown_of (HQ.out _ (HC2.out.kept (below_regrown _ _ _)))))) | (refine wpQuiet_step (fun K hK => ?_); go_simp; split <;> (refine hK _ ?_; clear hK K))))
  all_goals (refine wpQuiet_nil ?_; intro w1 hw'; replace hw' := Kept.regrown hw')
  have Hk := Lib.hid (((Kept.box _ _).newBlock _).then hw')
  clear hw'
  go_wp2_with fail
  go_ret
  subst hb
  exact ⟨ret_bool (by simp), Hk.out⟩


theorem lookdiff_any (K R Ct : Int) (A1 A2 A3 : Option Addr) (n1 c1 n2 c2 n3 c3 : Nat) (C : ConB) (V : Int) (w : World) (hC : ConIn w K R Ct A1 A2 A3 n1 c1 n2 c2 n3 c3 C) :
    Calls Tryd.prog 56 #[.agg #[.int .i64 K, .slice A1 n1 c1, .slice A2 n2 c2, .int .i64 R, .int .i64 Ct, .slice A3 n3 c3, .int .i64 V]] w fun e w' => e = .returned (.bool (diffB C V)) ∧ Kept w w' := by
  have HC := Lib.hid hC
  clear hC
  go_enter Tryd.func56, Tryd.ntmps56
  go_wp2_with fail
  refine (variables_any K R Ct A1 A2 A3 n1 c1 n2 c2 n3 c3 C V 2 8 _ (HC.out.kept (Kept.box _ _))).mono ?_
  rintro e w1 ⟨rfl, hk⟩
  have Hb := Lib.hid (hk.heapAt (box_look w K R Ct V A1 A2 A3 n1 c1 n2 c2 n3 c3))
  have Hk := Lib.hid ((Kept.box _ _).then hk)
  have hb0 := cell_at Hb.out 0
  have hb1 := cell_at Hb.out 1
  have hb2 := cell_at Hb.out 2
  have hb3 := cell_at Hb.out 3
  have hb4 := cell_at Hb.out 4
  have hb5 := cell_at Hb.out 5
  have hb6 := cell_at Hb.out 6
  simp only [List.getElem?_toArray, List.getElem?_cons_zero, List.getElem?_cons_succ] at hb0 hb1 hb2 hb3 hb4 hb5 hb6
  have HB : Hid (diffB C V = (variablesB C V 2 8 && bareB C 0 0)) := rfl
  clear hk
  generalize variablesB C V 2 8 = b at HB
  cases b with
  | false =>
    go_wp2_with fail
    go_ret
    exact ⟨ret_bool (by rw [HB.out]; simp), Hk.out⟩
  | true =>
    go_wp2_with fail
    refine (bare_any K R Ct A1 A2 A3 n1 c1 n2 c2 n3 c3 C V 0 0 _ (HC.out.kept Hk.out)).mono ?_
    rintro e w2 ⟨rfl, hk2⟩
    have Hk2 := Lib.hid (Hk.out.then hk2)
    clear hk2 hb0 hb1 hb2 hb3 hb4 hb5 hb6
    generalize bareB C 0 0 = d at HB
    go_wp2_with fail
    go_ret
    exact ⟨ret_bool (by rw [HB.out]; simp), Hk2.out⟩
theorem lookdiffer_q {R Ct V : Int} {A1 A2 A3 : Option Addr} {n1 c1 n2 c2 n3 c3 : Nat} {C : ConB} (W : World) (h : ConIn W 5 R Ct A1 A2 A3 n1 c1 n2 c2 n3 c3 C) : Calls Tryd.prog 56 #[.agg #[.int .i64 5, .slice A1 n1 c1, .slice A2 n2 c2, .int .i64 R, .int .i64 Ct, .slice A3 n3 c3, .int .i64 V]] W fun e w' => e = .returned (.bool (diffB C V)) ∧ Kept W w' := lookdiff_any 5 R Ct A1 A2 A3 n1 c1 n2 c2 n3 c3 C V W h
theorem right_diff (K R Ct : Int) (A1 A2 A3 : Option Addr) (n1 c1 n2 c2 n3 c3 : Nat) (C : ConB) (V : Int) (w : World) (hC : ConIn w K R Ct A1 A2 A3 n1 c1 n2 c2 n3 c3 C) (hK : K = 5) :
    Calls Tryd.prog 25 #[.agg #[.int .i64 K, .slice A1 n1 c1, .slice A2 n2 c2, .int .i64 R, .int .i64 Ct, .slice A3 n3 c3], .int .i64 V] w fun e w' => e = .returned (.bool (diffB C V)) ∧ Kept w w' := by
  subst hK
  have HC := Lib.hid hC
  clear hC
  go_enter Tryd.func25, Tryd.ntmps25
  go_wp2_with fail
  have HQ : Hid (∀ W, ConIn W 5 R Ct A1 A2 A3 n1 c1 n2 c2 n3 c3 C → Calls Tryd.prog 56 #[.agg #[.int .i64 5, .slice A1 n1 c1, .slice A2 n2 c2, .int .i64 R, .int .i64 Ct, .slice A3 n3 c3, .int .i64 V]] W fun e w' => e = .returned (.bool (diffB C V)) ∧ Kept W w') := fun W h => lookdiffer_q W h
  generalize hb : diffB C V = b at HQ
  have HC2 := Lib.hid (HC.out.kept ((Kept.box w (.cells #[.int .i64 5, .slice A1 n1 c1, .slice A2 n2 c2, .int .i64 R, .int .i64 Ct, .slice A3 n3 c3] 24)).newBlock (.cells #[.func (.func 52) #[] #[], .func (.func 53) #[] #[], .func (.func 54) #[] #[], .func (.func 55) #[] #[], .func (.func 56) #[] #[], .func (.func 57) #[] #[]] 77)))
  refine wp_region_quiet_below (by kernel_rfl) (by kernel_rfl) ?_
  repeat (any_goals (first | go_big_quiet_step (((go_at_call 56; exact Calls.regrown_of (HQ.out _ (HC2.out.kept (below_regrown _ _ _)))))) | quiet_step (((go_at_call 56; exact Calls.regrown_of (HQ.out _ (HC2.out.kept (below_regrown _ _ _)))))) | (refine wpQuiet_step (fun K hK => ?_); go_simp; split <;> (refine hK _ ?_; clear hK K))))
  all_goals (refine wpQuiet_nil ?_; intro w1 hw'; replace hw' := Kept.regrown hw')
  have Hk := Lib.hid (((Kept.box _ _).newBlock _).then hw')
  clear hw'
  go_wp2_with fail
  go_ret
  subst hb
  exact ⟨ret_bool (by simp), Hk.out⟩


theorem prodB_right {C : ConB} {V : Int} (hk : C.kind = 2) : prodB C V = rightB C V := by
  unfold rightB
  simp only [hk]
  unfold prodB variablesB bareB plainR
  simp only [hk]
  rw [Bool.eq_iff_iff]
  simp
  constructor
  · rintro ⟨⟨⟨h1, h2⟩, h3⟩, ⟨⟨⟨h4, h5⟩, h6⟩, h7⟩, h9⟩
    refine ⟨h3, ⟨⟨⟨⟨h4, h5⟩, h6⟩, h9⟩, by simp [h7]⟩, by omega, h7⟩
  · rintro ⟨h1, ⟨⟨⟨⟨h2, h3⟩, h4⟩, h5⟩, h6⟩, h7, h8⟩
    refine ⟨⟨⟨by omega, by omega⟩, h1⟩, ⟨⟨⟨h2, h3⟩, h4⟩, h8⟩, h5⟩
theorem diffB_right {C : ConB} {V : Int} (hk : C.kind = 5) : diffB C V = rightB C V := by
  unfold rightB
  simp only [hk]
  unfold diffB variablesB bareB plainR
  simp only [hk]
  rw [Bool.eq_iff_iff]
  simp
  constructor
  · rintro ⟨⟨⟨h1, h2⟩, h3⟩, ⟨⟨⟨h4, h5⟩, h6⟩, h7⟩, h9⟩
    refine ⟨h3, ⟨⟨⟨⟨h4, h5⟩, h6⟩, h9⟩, by simp [h7]⟩, ⟨by omega, by omega⟩, h7⟩
  · rintro ⟨h1, ⟨⟨⟨⟨h2, h3⟩, h4⟩, h5⟩, h6⟩, ⟨h7, h8⟩, h9⟩
    refine ⟨⟨⟨by omega, by omega⟩, h1⟩, ⟨⟨⟨h2, h3⟩, h4⟩, h9⟩, h5⟩
theorem right2_any (K R Ct : Int) (A1 A2 A3 : Option Addr) (n1 c1 n2 c2 n3 c3 : Nat) (C : ConB) (V : Int) (w : World) (hC : ConIn w K R Ct A1 A2 A3 n1 c1 n2 c2 n3 c3 C) (hK : K = 2) :
    Calls Tryd.prog 25 #[.agg #[.int .i64 K, .slice A1 n1 c1, .slice A2 n2 c2, .int .i64 R, .int .i64 Ct, .slice A3 n3 c3], .int .i64 V] w fun e w' => e = .returned (.bool (rightB C V)) ∧ Kept w w' := by
  have h := right_prod K R Ct A1 A2 A3 n1 c1 n2 c2 n3 c3 C V w hC hK
  rwa [prodB_right (hC.kind.trans hK)] at h
theorem right5_any (K R Ct : Int) (A1 A2 A3 : Option Addr) (n1 c1 n2 c2 n3 c3 : Nat) (C : ConB) (V : Int) (w : World) (hC : ConIn w K R Ct A1 A2 A3 n1 c1 n2 c2 n3 c3 C) (hK : K = 5) :
    Calls Tryd.prog 25 #[.agg #[.int .i64 K, .slice A1 n1 c1, .slice A2 n2 c2, .int .i64 R, .int .i64 Ct, .slice A3 n3 c3], .int .i64 V] w fun e w' => e = .returned (.bool (rightB C V)) ∧ Kept w w' := by
  have h := right_diff K R Ct A1 A2 A3 n1 c1 n2 c2 n3 c3 C V w hC hK
  rwa [diffB_right (hC.kind.trans hK)] at h
end Go.Proofs.YtjmegicopdbkdaaDoor

set_option maxHeartbeats 1000000
namespace Go.Proofs.YtjmegicopdbkdaaDoor
open Go Go.RowKit Pl

/-- What a step hands back. -/
def StepPost (r : Option (List DomB)) (w : World) (e : Ending) (w' : World) : Prop :=
  match r with
  | Option.none => e = .returned (.tuple #[.slice Option.none 0 0, .int .i64 1]) ∧ Kept w w'
  | some ds => ∃ A c, e = .returned (.tuple #[.slice A ds.length c, .int .i64 0]) ∧ Doms w' A ds.length ds ∧ Kept w w'

theorem info_dom : (Tryd.prog.info? 47).map (fun i => (i.zero, i.size, i.bytes)) = some (some (.agg #[.slice Option.none 0 0, .int .u64 0]), 2, 32) := by kernel_rfl
end Go.Proofs.YtjmegicopdbkdaaDoor

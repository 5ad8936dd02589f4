/-
  Contracts and plain laws that the card rests on, part 12.
-/
import Derived.Test.YtjmegicopdbkdaaDoorL8
import Derived.Test.YtjmegicopdbkdaaDoorL11
import Derived.Test.YtjmegicopdbkdaaDoorL3
import Derived.Test.YtjmegicopdbkdaaDoorL7
import Derived.Maps.OwnSet
import Derived.Test.YtjmegicopdbkdaaDoorL10
import Derived.Test.YtjmegicopdbkdaaDoorL4
set_option maxHeartbeats 1000000
set_option maxRecDepth 10000
namespace Go.Proofs.YtjmegicopdbkdaaDoor
open Go Go.RowKit Go.Maps Pl

/-- A map that counts the numbers of a list. -/
def Cnt (w : World) (M n : Nat) (U : List Int) : Prop :=
  ∃ (D : DataW Unit) (f : Int → Nat), w.ownsMap Tryd.prog 3 (plainElem Tryd.prog 3) M n D ∧ Tidy D ∧ (∀ x, f x ≤ n ∧ D.atKey (.int .i64 x) (.lit (.int .i64 0)) = .lit (.int .i64 (f x : Nat))) ∧ (∀ x, Maps.has D (.int .i64 x) = U.contains x) ∧ Maps.size D = U.length
theorem Cnt.of_heap {w : World} {M : Nat} (h : w.heap[M]? = some (.map #[] 0)) : Cnt w M 0 [] := by
  have h0 : (w.alloc (.map #[] 0)).ownsMap Tryd.prog 3 (plainElem Tryd.prog 3) w.heap.size 0 (.map [] : DataW Unit) := World.ownsMap_made _ _ _ _
  obtain ⟨es, clock, hb, F, hs, hD⟩ := h0
  rw [heap_new] at hb
  cases hb
  exact ⟨.map [], fun _ => 0, ⟨_, _, h, F, hs, hD⟩, tidy_empty, fun _ => ⟨Nat.le_refl _, rfl⟩, fun _ => rfl, rfl⟩
theorem Cnt.kept {w w' : World} {M n : Nat} {U : List Int} (h : Cnt w M n U) (hk : Kept w w') : Cnt w' M n U := by
  obtain ⟨D, f, ⟨es, clock, hb, F, hs, hD⟩, hx⟩ := h
  exact ⟨D, f, ⟨es, clock, hk.heapAt hb, F, hs, hD⟩, hx⟩
theorem Cnt.mono {w : World} {M n m : Nat} {U : List Int} (h : Cnt w M n U) (hm : n ≤ m) : Cnt w M m U := by
  obtain ⟨D, f, ho, ht, hx, hy⟩ := h
  exact ⟨D, f, ho.mono hm, ht, fun x => ⟨Nat.le_trans (hx x).1 hm, (hx x).2⟩, hy⟩
theorem cnt_put {w w' : World} {M n : Nat} {U : List Int} {y : Int} {D : DataW Unit} {f : Int → Nat} (hown : w.ownsMap Tryd.prog 3 (plainElem Tryd.prog 3) M n D) (ht : Tidy D)
    (hD : ∀ x, f x ≤ n ∧ D.atKey (.int .i64 x) (.lit (.int .i64 0)) = .lit (.int .i64 (f x : Nat))) (hU : ∀ x, Maps.has D (.int .i64 x) = U.contains x) (hs : Maps.size D = U.length) (hy : -9223372036854775808 ≤ y ∧ y ≤ 9223372036854775807)
    (hown2 : w'.ownsMap Tryd.prog 3 (plainElem Tryd.prog 3) M (n + 1) (D.put (.int .i64 y) (.lit (.int .i64 ((f y : Int) + 1))))) : Cnt w' M (n + 1) (addB U y) := by
  have hkk := lawInt.key (keyI hy)
  refine ⟨_, fun x => if y = x then f y + 1 else f x, hown2, ht.put hkk _, fun x => ?_, fun x => ?_, ?_⟩
  · dsimp only
    by_cases hv : y = x
    · subst hv
      rw [atKey_put_same (isMap_of hown) hkk, if_pos rfl]
      have := (hD y).1
      exact ⟨by omega, by simp⟩
    · rw [atKey_put_other (by intro e; cases e; exact hv rfl), if_neg hv]
      exact ⟨Nat.le_succ_of_le (hD x).1, (hD x).2⟩
  · by_cases hv : y = x
    · subst hv
      rw [has_put_same (isMap_of hown) hkk]
      symm
      rw [List.contains_iff_mem, mem_addB]
      exact .inr rfl
    · rw [has_put_other (by intro e; cases e; exact hv rfl), hU x, Bool.eq_iff_iff, List.contains_iff_mem, List.contains_iff_mem, mem_addB]
      exact ⟨.inl, fun h => h.resolve_right (fun e => hv e.symm)⟩
  · rw [size_put ht, hU y, hs]
    unfold addB
    split <;> simp

theorem few_any (K R Ct : Int) (A1 A2 A3 : Option Addr) (n1 c1 n2 c2 n3 c3 : Nat) (C : ConB) (A : Option Addr) (n c : Nat) (ds : List DomB) (w : World) (hC : ConIn w K R Ct A1 A2 A3 n1 c1 n2 c2 n3 c3 C) (hS : Doms w A n ds) (hT : Tab w) (hv : varsOk C.vars n = true) (hn1 : n1 ≤ 1000) (hn : n ≤ 1000) :
    Calls Tryd.prog 43 #[.agg #[.int .i64 K, .slice A1 n1 c1, .slice A2 n2 c2, .int .i64 R, .int .i64 Ct, .slice A3 n3 c3], .slice A n c] w fun e w' => e = .returned (.bool (fewB C ds)) ∧ Kept w w' := by
  have HC := Lib.hid hC
  have HS := Lib.hid hS
  have HT := Lib.hid hT
  have Hlen := Lib.hid hS.len
  have Hl1 := Lib.hid hC.vars.len
  have Hvo := Lib.hid hv
  clear hC hS hT hv
  have hmm := @run_makeMap Tryd.prog
  go_enter Tryd.func43, Tryd.ntmps43
  go_wp2_with fail
  have HF := fun k o h => (heap_allocs [.cells #[.int .i64 K, .slice A1 n1 c1, .slice A2 n2 c2, .int .i64 R, .int .i64 Ct, .slice A3 n3 c3] 24, .map #[] 0] w k o h).1
  have F0 := HF 0 _ rfl
  have F1 := HF 1 _ rfl
  have HK0 := Lib.hid (heap_allocs.kept_allocs [.cells #[.int .i64 K, .slice A1 n1 c1, .slice A2 n2 c2, .int .i64 R, .int .i64 Ct, .slice A3 n3 c3] 24, .map #[] 0] w)
  change Code.wp _ _ _ _ (allocs w [.cells #[.int .i64 K, .slice A1 n1 c1, .slice A2 n2 c2, .int .i64 R, .int .i64 Ct, .slice A3 n3 c3] 24, .map #[] 0])
  generalize allocs w [.cells #[.int .i64 K, .slice A1 n1 c1, .slice A2 n2 c2, .int .i64 R, .int .i64 Ct, .slice A3 n3 c3] 24, .map #[] 0] = W0 at *
  have Hcon : Hid (W0.heap[w.heap.size]? = some (.cells #[.int .i64 K, .slice A1 n1 c1, .slice A2 n2 c2, .int .i64 R, .int .i64 Ct, .slice A3 n3 c3] 24)) := F0
  have HM0 : Hid (Cnt W0 (w.heap.size + 1) 0 []) := Cnt.of_heap F1
  clear HF F0 F1 hmm
  go_loopw [14] (fun u wr => ∃ i : Nat, i ≤ n1 ∧ u = .int .i64 i ∧ Hid (Cnt wr (w.heap.size + 1) (64 * i) (allU C ds i)) ∧ Hid (wipedB C ds i = false) ∧ Hid (KeptBut (w.heap.size + 1) W0 wr)) (fun u _ => n1 - (intOf u).toNat)
  case atStart => exact ⟨0, Nat.zero_le _, rfl, HM0.out, rfl, KeptBut.refl _ _⟩
  case round =>
    obtain ⟨i, hi, rfl, HMi, HWi, Hki⟩ := hrel
    obtain ⟨wi, hwi⟩ : ∃ wi : World, wi = wr := ⟨_, rfl⟩
    subst hwi
    have HKi := Lib.hid (((KeptBut.of HK0.out _).then Hki.out).kept (Nat.le_succ _))
    by_cases hlt : i < n1
    · obtain ⟨av, hav, hbv⟩ := (HC.out.vars.kept HKi.out).addr (by omega)
      subst hav
      obtain ⟨v, Hv1, hcv, _, _⟩ := (HC.out.vars.kept HKi.out).named i hlt
      obtain ⟨hv0, hv1⟩ := varsOk_rng Hvo.out (i := i) (by have := Hl1.out; omega)
      rw [Hv1.out] at hv0 hv1
      obtain ⟨p, rfl⟩ := Int.eq_ofNat_of_zero_le hv0
      have hpn : p < n := by omega
      obtain ⟨al, hal, hbal⟩ := (HS.out.kept HKi.out).addr (by omega)
      subst hal
      obtain ⟨xs, L, B, m, cB, Hd, hc1, hc2, HI, hL⟩ := (HS.out.kept HKi.out).named p hpn
      have Hleft : Hid (leftOf C ds i = listB xs L) := by show _ = _; unfold leftOf; rw [Hv1.out, Int.toNat_natCast, Hd.out]
      have HQs := Lib.hid (size_any B m cB L xs wi HI.out hL)
      have HL := Lib.hid hL
      have Hc1 := Lib.hid hc1
      have Hc2 := Lib.hid hc2
      rcases Nat.eq_zero_or_pos (listB xs L).length with h0 | h0
      · have Hres : Hid (fewB C ds = true) := by
          show _ = _
          cases h : fewB C ds with
          | true => rfl
          | false =>
            have := (fewB_iff.1 h).1 i (by have := Hl1.out; omega)
            rw [Hleft.out] at this
            omega
        rw [h0] at HQs
        clear h0
        go_wp2_with fail
        refine HQs.out.mono ?_
        rintro e w1 ⟨rfl, hk1⟩
        have Hk1 := Lib.hid (HKi.out.then hk1)
        clear hk1
        go_wp2_with fail
        go_ret
        exact ⟨by rw [Hres.out]; rfl, Hk1.out⟩
      · have h64 := listB_length xs L
        have HWn : Hid (wipedB C ds (i + 1) = false) := wipedB_iff.2 fun j hj => by
          by_cases e : j = i
          · subst e; rw [Hleft.out]; exact h0
          · exact wipedB_iff.1 HWi.out j (by omega)
        have Hnx : Hid (allU C ds (i + 1) = addAll (allU C ds i) (listB xs L)) := by show _ = _; rw [allU_succ, Hleft.out]
        have Hrng := Lib.hid (listB_rng xs L)
        have HQl : Hid (∀ W, Kept wi W → Calls Tryd.prog 31 #[.agg #[.slice B m cB, .int .u64 L]] W (ListPost (listB xs L) W)) := fun W hW => dlist_any B m cB L xs W (HI.out.kept hW) HL.out (HT.out.kept (HKi.out.then hW))
        generalize listB xs L = ls at *
        have Hll : Hid (ls.length = ls.length) := rfl
        generalize hq : ls.length = q at HQs h0 h64 Hll
        have Hq := Lib.hid hq
        clear hq Hll
        have hq0 : ((q : Int) == 0) = false := by simp; omega
        go_wp2_with fail
        refine HQs.out.mono ?_
        rintro e w1 ⟨rfl, hk1⟩
        have Hk1 := Lib.hid hk1
        clear hc1 hc2 hcv
        have hc1 := hk1.cellAt Hc1.out
        have hc2 := hk1.cellAt Hc2.out
        clear hk1 HQs
        go_wp2_with fail
        refine (HQl.out _ Hk1.out).mono ?_
        rintro e w2 ⟨A9, c9, rfl, hI9, hk9, hfr9⟩
        rw [Hq.out] at hI9 ⊢
        have hMlt : w.heap.size + 1 < wi.heap.size := by obtain ⟨D, f, ho, _⟩ := HMi.out; exact ho.lt
        have HI9 : Hid (∀ W, KeptBut (w.heap.size + 1) w2 W → Ints W A9 q ls) := fun W hW => hI9.keptBut hW fun a ha => by
          have h1 := hfr9 a ha
          have h2 := Hk1.out.size
          omega
        have Hk9 := Lib.hid (Hk1.out.then hk9)
        have HMs := Lib.hid (HMi.out.kept Hk9.out)
        have HBs := Lib.hid (Hki.out.then (KeptBut.of Hk9.out _))
        clear hI9 hk9 HQl hc1 hc2 hfr9
        go_wp2_with fail
        go_loopw [30] (fun u wq => ∃ k : Nat, k ≤ q ∧ u = .int .i64 k ∧ Hid (Cnt wq (w.heap.size + 1) (64 * i + k) (addAll (allU C ds i) (ls.take k))) ∧ Hid (KeptBut (w.heap.size + 1) W0 wq) ∧ Hid (Kept w wq) ∧ Hid (KeptBut (w.heap.size + 1) w2 wq)) (fun u _ => q - (intOf u).toNat)
        case atStart => exact ⟨0, Nat.zero_le _, rfl, HMs.out, HBs.out, HKi.out.then Hk9.out, KeptBut.refl _ _⟩
        case round =>
          obtain ⟨k, hk, rfl, HMk, HBk, HKk, HQk⟩ := hrel
          by_cases hltk : k < q
          · have hI := HI9.out _ HQk.out
            obtain ⟨b9, hb9, hbb⟩ := hI.addr (by omega)
            subst hb9
            obtain ⟨y, Hy, hcy, hy1, hy2⟩ := hI.named k hltk
            have Hadd : Hid (addAll (allU C ds i) (ls.take (k + 1)) = addB (addAll (allU C ds i) (ls.take k)) y) := by
              show _ = _
              rw [take_succ_getD (by have := Hq.out; omega) Hy.out, addAll_snoc]
            obtain ⟨D, f, hown, ht, hD, hU, hs⟩ := HMk.out
            have hfy := (hD y).1
            have hyr : -9223372036854775808 ≤ y ∧ y ≤ 9223372036854775807 := ⟨hy1, hy2⟩
            have hkey := keyI hyr
            have hw : IntKind.i64.wrap ((f y : Int) + 1) = (f y : Int) + 1 := by
              unfold IntKind.wrap
              simp [IntKind.signed, IntKind.bits]
              omega
            have Ht := Lib.hid ht
            have HD := Lib.hid hD
            have HU := Lib.hid hU
            have Hs := Lib.hid hs
            have HO := Lib.hid hown
            clear hI ht hD hU hs
            go_wp2_with (first
              | (at_lookup; refine wpList_lookup_own_int _ rfl _ _ 52 rfl 3 3 .i64 lawInt Tryd.underlying52 Tryd.underlying3 (zeroInt _) (w.heap.size + 1) (64 * i + k) _ rfl hown _ _ rfl hkey ?_; intro c hat hwc; have hcf := hat.symm.trans ((HD.out y).2); simp at hcf; subst hcf; clear hat hwc)
              | (at_mapUpdate; refine wpList_mapUpdate_own _ rfl _ _ _ 52 rfl 3 3 lawInt Tryd.underlying52 (plainElem Tryd.prog 3) (w.heap.size + 1) (64 * i + k) D rfl hown (by unfold maxLen; omega) (.int .i64 y) _ _ rfl rfl hkey _ [] (plainElem_int Tryd.underlying3 (WalkArith.wf_i64 (by omega))) ?_; intro w3 hown3 hgrow3))
            go_roundw
            case rel => exact ⟨k + 1, by omega, by go_num, by rw [Hadd.out]; exact cnt_put HO.out Ht.out HD.out HU.out Hs.out hyr hown3, HBk.out.then (KeptBut.grown hgrow3), ((KeptBut.of HKk.out _).then (KeptBut.grown hgrow3)).kept (Nat.le_succ _), HQk.out.then (KeptBut.grown hgrow3)⟩
            case measure => simp [intOf]; omega
          · have e : k = q := by omega
            subst e
            have HMe : Hid (Cnt wr (w.heap.size + 1) (64 * (i + 1)) (allU C ds (i + 1))) := by
              show Cnt _ _ _ _
              rw [Hnx.out]
              have h := HMk.out
              rw [List.take_of_length_le (by have := Hq.out; omega)] at h
              exact h.mono (by omega)
            clear HMk
            go_wp2_with fail
            go_roundw
            case rel => exact ⟨i + 1, by omega, by go_num, HMe.out, HWn.out, HBk.out⟩
            case measure => simp [intOf]; omega
    · have e : i = n1 := by omega
      subst e
      have hb := Hki.out.heapAt Hcon.out (by omega)
      have c1' := cell_at hb 1
      simp only [List.getElem?_toArray, List.getElem?_cons_zero, List.getElem?_cons_succ] at c1'
      have hlb : w.heap.size < wi.heap.size := lt_at hb
      obtain ⟨D, f, hown, ht, hD, hU, hs⟩ := HMi.out
      have Hsz := Lib.hid hs
      clear hb hD hU ht
      go_wp2_with (first | (at_len; refine wpList_len_own _ rfl _ 52 rfl 3 3 Tryd.underlying52 _ (w.heap.size + 1) _ D rfl hown ?_))
      go_ret
      refine ⟨ret_bool ?_, HKi.out⟩
      unfold fewB
      rw [Hl1.out, HWi.out]
      simp
end Go.Proofs.YtjmegicopdbkdaaDoor

set_option maxHeartbeats 1000000
set_option maxRecDepth 10000
namespace Go.Proofs.YtjmegicopdbkdaaDoor
open Go Go.RowKit Go.Maps Pl

/-- What is kept behind the first ones of a list. -/
def pk (g : Int → Bool) (l : List Int) (x : Int) : Bool := l.all fun v => x != v || g v
theorem pk_nil (g : Int → Bool) (d : DomB) (hm : mayB d.1 d.2 = true) : keepD (pk g []) d = d := keepD_all hm (fun _ _ => rfl)
theorem pk_yes {g : Int → Bool} {l : List Int} {v : Int} (hv : g v = true) : pk g (l ++ [v]) = pk g l := by
  funext x; unfold pk; rw [List.all_append]; simp [hv]
theorem pk_no {g : Int → Bool} {l : List Int} {v : Int} (hv : g v = false) (d : DomB) : keepD (fun x => x != v) (keepD (pk g l) d) = keepD (pk g (l ++ [v])) d := by
  rw [keepD_keepD]
  congr 1
  funext x; unfold pk; rw [List.all_append]; simp [hv]
theorem pk_all {g : Int → Bool} {d : DomB} (hm : mayB d.1 d.2 = true) : keepD (pk g (listB d.1 d.2)) d = keepD g d := by
  refine keepD_congr hm fun v hv => ?_
  unfold pk
  rw [Bool.eq_iff_iff, List.all_eq_true]
  constructor
  · intro h
    simpa using h v hv
  · intro h u _
    by_cases e : v = u
    · subst e; simp [h]
    · simp [e]

end Go.Proofs.YtjmegicopdbkdaaDoor

set_option maxHeartbeats 1000000
set_option maxRecDepth 10000
namespace Go.Proofs.YtjmegicopdbkdaaDoor
open Go Go.RowKit Go.Maps Pl

theorem diffkept_any (A : Option Addr) (n c L : Nat) (xs : List Int) (p0 p1 p2 p3 : Value) (g : Int → Bool) (w : World) (hS : Ints w A n xs) (hL : L < 2 ^ 64) (hT : Tab w) (hm : mayB xs L = true)
    (hF : ∀ (v : Int) (W : World), Kept w W → -1048576 ≤ v ∧ v ≤ 1048576 → Calls Tryd.prog 45 #[.int .i64 v, p0, p1, p2, p3] W fun e w' => e = .returned (.bool (g v)) ∧ Kept W w') :
    Calls Tryd.prog 44 #[.agg #[.slice A n c, .int .u64 L], .func (.func 45) #[] #[p0, p1, p2, p3]] w
      fun e w' => ∃ A' c', e = .returned (.agg #[.slice A' n c', .int .u64 (keepD g (xs, L)).2]) ∧ Ints w' A' n xs ∧ Kept w w' ∧ (A' = A ∨ Fresh w A') := by
  have HS := Lib.hid hS
  have HL := Lib.hid hL
  have HT := Lib.hid hT
  have Hm := Lib.hid hm
  have HF := Lib.hid hF
  have Hlen := Lib.hid hS.len
  clear hS hL hT hm hF
  have HD : Hid (keepD (pk g (listB xs L)) (xs, L) = keepD g (xs, L)) := pk_all (d := (xs, L)) Hm.out
  go_enter Tryd.func44, Tryd.ntmps44
  go_wp2_with fail
  refine (dlist_any A n c L xs _ (HS.out.kept ((Kept.box _ _).newBlock _)) HL.out (HT.out.kept ((Kept.box _ _).newBlock _))).mono ?_
  rintro e w2 ⟨Bl, cl, rfl, hIl, hk2, hfl⟩
  have HO : Hid (w2.heap[w.heap.size]? = some (.cells #[.slice A n c, .int .u64 L] 47 (0, 0))) := hk2.heapAt ((Kept.box _ _).heapAt (heap_new _ _))
  have HR := Lib.hid (hk2.heapAt (heap_new2 _ _ _))
  have HIl := Lib.hid hIl
  have Hfl := Lib.hid hfl
  have Hk2 := Lib.hid (((Kept.box _ _).newBlock _).then hk2)
  have hsz2 := hk2.size
  simp only [World.size_alloc] at hsz2
  have hel := listB_length xs L
  have Hrng := Lib.hid (listB_rng xs L)
  clear hIl hk2 hfl
  generalize hm : (listB xs L).length = m at *
  have Hmm := Lib.hid hm
  clear hm
  go_wp2_with fail
  go_loopw [10] (fun u wr => ∃ (k : Nat) (A' : Option Addr) (c' : Nat), k ≤ m ∧ u = .int .i64 k ∧ Hid (KeptBut w.heap.size w2 wr) ∧ Hid (wr.heap[w.heap.size]? = some (.cells #[.slice A' n c', .int .u64 ((keepD (pk g ((listB xs L).take k)) (xs, L)).2 : Nat)] 47 (0, 0))) ∧ Hid (Ints wr A' n xs) ∧ Hid (A' = A ∨ ∀ a, A' = some a → w.heap.size + 1 < a.block)) (fun u _ => m - (intOf u).toNat)
  case atStart => exact ⟨0, A, c, Nat.zero_le _, rfl, KeptBut.refl _ _, by rw [List.take_zero, pk_nil _ _ Hm.out]; exact HO, HS.out.kept Hk2.out, Or.inl rfl⟩
  case round =>
    obtain ⟨k, A', c', hk, rfl, Hkw, HOr, HIr, HA⟩ := hrel
    have HK := Lib.hid (((KeptBut.of Hk2.out w.heap.size).then Hkw.out).kept (Nat.le_refl _))
    by_cases hlt : k < m
    · have hbs := HIl.out.keptBut Hkw.out (fun a ha => by have := Hfl.out a ha; simp only [World.size_alloc] at this; omega)
      obtain ⟨b, rfl, hbb⟩ := hbs.addr (by omega)
      obtain ⟨v, Hv, hcv, _, _⟩ := hbs.named k hlt
      have Htake : Hid ((listB xs L).take (k + 1) = (listB xs L).take k ++ [v]) := take_succ_getD (by have := Hmm.out; omega) Hv.out
      have hvr : -1048576 ≤ v ∧ v ≤ 1048576 := by
        refine Hrng.out v ?_
        rw [← Hv.out, List.getD_eq_getElem?_getD, List.getElem?_eq_getElem (by have := Hmm.out; omega)]
        exact List.getElem_mem _
      have HQ : Hid (∀ W, Kept wr W → Calls Tryd.prog 45 #[.int .i64 v, p0, p1, p2, p3] W fun e w' => e = .returned (.bool (g v)) ∧ Kept W w') := fun W hW => HF.out v W (HK.out.then hW) hvr
      clear hbs
      generalize hb : g v = bb at HQ
      have Hb := Lib.hid hb
      clear hb
      cases bb with
      | true =>
        go_wp2_with fail
        refine (HQ.out _ (Kept.same _)).mono ?_
        rintro e WQ ⟨rfl, hkq⟩
        have Hkq := Lib.hid hkq
        clear hkq hcv
        go_wp2_with fail
        go_roundw
        case rel => exact ⟨k + 1, A', c', by omega, by go_num, Hkw.out.then (KeptBut.of Hkq.out _), by rw [Htake.out, pk_yes Hb.out]; exact Hkq.out.heapAt HOr.out, HIr.out.kept Hkq.out, HA.out⟩
        case measure => simp [intOf]; omega
      | false =>
        have Hno := Lib.hid (pk_no (l := (listB xs L).take k) Hb.out (xs, L))
        have Hmk : Hid (mayB xs (keepD (pk g ((listB xs L).take k)) (xs, L)).2 = true) := keepD_may (d := (xs, L)) Hm.out
        have Hlk := Lib.hid (keepD_lt (pk g ((listB xs L).take k)) (xs, L))
        have He : Hid ((xs, (keepD (pk g ((listB xs L).take k)) (xs, L)).2) = keepD (pk g ((listB xs L).take k)) (xs, L)) := rfl
        go_wp2_with fail
        refine (HQ.out _ (Kept.same _)).mono ?_
        rintro e WQ ⟨rfl, hkq⟩
        have Hkq := Lib.hid hkq
        have HOq : Hid _ := Lib.hid (hkq.heapAt HOr.out)
        have hO0 := cell_at HOq.out 0
        have hO1 := cell_at HOq.out 1
        have hf0 := frozen_at HOq.out 0
        have hf1 := frozen_at HOq.out 1
        simp only [List.getElem?_toArray, List.getElem?_cons_zero, List.getElem?_cons_succ] at hO0 hO1
        clear hkq hcv
        go_wp2_with fail
        refine (domless_any A' n c' (keepD (pk g ((listB xs L).take k)) (xs, L)).2 xs v _ (HIr.out.kept Hkq.out) Hlk.out (HT.out.kept (HK.out.then Hkq.out)) Hmk.out).mono ?_
        rintro e W ⟨B, cB, rfl, hIB, hkB, hfB⟩
        rw [He.out, Hno.out] at hIB ⊢
        have HOB := Lib.hid (hkB.heapAt HOq.out)
        have HIB : Hid (Ints W B n xs) := by
          have h2 : Ints W B xs.length xs := hIB
          rwa [Hlen.out] at h2
        have hlw := HK.out.size
        have hlB := Lib.hid hfB
        have HkB := Lib.hid (KeptBut.of (Hkq.out.then hkB) w.heap.size)
        have hsq := Hkq.out.size
        have e1 : (keepD (pk g ((listB xs L).take k ++ [v])) (xs, L)).1.length = n := Hlen.out
        rw [e1]
        have hP0 := cell_at HOB.out 0
        have hP1 := cell_at HOB.out 1
        have hp0 := frozen_at HOB.out 0
        have hp1 := frozen_at HOB.out 1
        simp only [List.getElem?_toArray, List.getElem?_cons_zero, List.getElem?_cons_succ] at hP0 hP1
        rw [← Htake.out]
        clear hIB hkB hfB hO0 hO1 hf0 hf1 HQ
        go_wp2_with fail
        go_roundw
        case rel =>
          refine ⟨k + 1, B, cB, by omega, by go_num, (Hkw.out.then HkB.out).then ((KeptBut.set _ (a := ⟨w.heap.size, 0, none⟩) rfl _).then (KeptBut.set _ (a := ⟨w.heap.size, 1, none⟩) rfl _)), two_set01 HOB.out _ _, HIB.out.keptBut0 ((KeptBut.set _ (a := ⟨w.heap.size, 0, none⟩) rfl _).then (KeptBut.set _ (a := ⟨w.heap.size, 1, none⟩) rfl _)) ?_, Or.inr (fun a ha => by have := hlB.out a ha; have := Hkw.out.size; omega)⟩
          intro _ a ha
          have := hlB.out a ha
          have h3 := lt_at HOr.out
          show a.block ≠ w.heap.size
          omega
        case measure => simp [intOf]; omega
    · have e : k = m := by omega
      have hG : Hid (keepD (pk g ((listB xs L).take k)) (xs, L) = keepD g (xs, L)) := by
        show _ = _
        rw [List.take_of_length_le (by have := Hmm.out; omega)]
        exact HD.out
      have HOg : Hid (wr.heap[w.heap.size]? = some (.cells #[.slice A' n c', .int .u64 ((keepD g (xs, L)).2 : Nat)] 47 (0, 0))) := by
        have := HOr.out
        rwa [hG.out] at this
      have hO0 := cell_at HOg.out 0
      have hO1 := cell_at HOg.out 1
      have HRr := Lib.hid (Hkw.out.heapAt HR.out (by omega))
      have hR0 := cell_at HRr.out 0
      have hR1 := cell_at HRr.out 1
      have hf0 := frozen_at HRr.out 0
      have hf1 := frozen_at HRr.out 1
      simp only [List.getElem?_toArray, List.getElem?_cons_zero, List.getElem?_cons_succ] at hO0 hO1 hR0 hR1
      clear HOr hG
      generalize hGG : (keepD g (xs, L)).2 = G at *
      go_wp2_with fail
      have h2 : KeptBut (w.heap.size + 1) wr ((wr.setCell ⟨w.heap.size + 1, 0, none⟩ (.slice A' n c')).setCell ⟨w.heap.size + 1, 1, none⟩ (.int .u64 G)) := (KeptBut.set _ (a := ⟨w.heap.size + 1, 0, none⟩) rfl _).then (KeptBut.set _ (a := ⟨w.heap.size + 1, 1, none⟩) rfl _)
      refine bodyPost_ret (v := .agg #[.slice A' n c', .int .u64 G]) (by simp [results, Tryd.results44, go_sem, hR0, hR1]) rfl ?_
      refine ⟨A', c', ?_, HIr.out.keptBut0 h2 ?_, ((KeptBut.of HK.out (w.heap.size + 1)).then h2).kept (by omega), HA.out.imp id (fun h a ha => by have := h a ha; omega)⟩
      · rw [hGG]
      · intro hn a ha
        rcases HA.out with h | h
        · subst h
          subst ha
          have := HS.out.block hn
          omega
        · have := h a ha
          omega
end Go.Proofs.YtjmegicopdbkdaaDoor

set_option maxHeartbeats 1000000
namespace Go.Proofs.YtjmegicopdbkdaaDoor
open Go Go.RowKit Pl

/-- What a step hands back. -/
def StepPost (r : Option (List DomB)) (w : World) (e : Ending) (w' : World) : Prop :=
  match r with
  | Option.none => e = .returned (.tuple #[.slice Option.none 0 0, .int .i64 1]) ∧ Kept w w'
  | some ds => ∃ A c, e = .returned (.tuple #[.slice A ds.length c, .int .i64 0]) ∧ Doms w' A ds.length ds ∧ Kept w w'

theorem info_dom : (Tryd.prog.info? 47).map (fun i => (i.zero, i.size, i.bytes)) = some (some (.agg #[.slice Option.none 0 0, .int .u64 0]), 2, 32) := by kernel_rfl
end Go.Proofs.YtjmegicopdbkdaaDoor

set_option maxHeartbeats 4000000
set_option maxRecDepth 10000
namespace Go.Proofs.YtjmegicopdbkdaaDoor
open Go Go.RowKit Go.Maps Pl

theorem diff_parts {C : ConB} {V : Int} (hk : C.kind = 5) (h : rightB C V = true) : 2 ≤ C.vars.length ∧ C.vars.length ≤ 8 := by
  unfold rightB at h
  simp only [hk] at h
  unfold plainR at h
  simp only [hk] at h
  simp at h
  omega
theorem stepVars_set {vars : List Int} {g : Nat → Int → Bool} {ds : List DomB} {j p : Nat} (hp : p < ds.length) (hj : vars.getD j 0 = (p : Nat)) :
    stepB (varsKp vars g (j + 1)) ds = (stepB (varsKp vars g j) ds).set p (keepD (g j) ((stepB (varsKp vars g j) ds).getD p ([], 0))) := by
  apply ext_getD (by rw [List.length_set, stepB_length, stepB_length])
  intro i hi
  rw [stepB_length] at hi
  rw [stepB_getD _ _ hi, getD_set _ _ _ _ (by rw [stepB_length]; exact hp)]
  by_cases e : i = p
  · subst e
    rw [if_pos rfl, stepB_getD _ _ hi, keepD_keepD]
    congr 1
    funext x
    rw [varsKp_succ, hj, Int.toNat_natCast, decide_eq_true rfl]
    simp
  · rw [if_neg e, stepB_getD _ _ hi]
    congr 1
    funext x
    rw [varsKp_succ, hj, Int.toNat_natCast, decide_eq_false (fun h => e h.symm)]
    simp
theorem any_range_getD (l : List Int) (f : Int → Bool) : ((List.range l.length).any fun k => f (l.getD k 0)) = l.any f := by
  rw [Bool.eq_iff_iff, List.any_eq_true, List.any_eq_true]
  constructor
  · rintro ⟨k, hk, h⟩
    refine ⟨l.getD k 0, ?_, h⟩
    rw [List.getD_eq_getElem?_getD, List.getElem?_eq_getElem (List.mem_range.1 hk)]
    exact List.getElem_mem _
  · rintro ⟨x, hx, h⟩
    obtain ⟨k, hk, e⟩ := List.getElem_of_mem hx
    refine ⟨k, List.mem_range.2 hk, ?_⟩
    rw [List.getD_eq_getElem?_getD, List.getElem?_eq_getElem hk]
    simpa [e] using h

theorem diffstep_any (K R Ct : Int) (A1 A2 A3 : Option Addr) (n1 c1 n2 c2 n3 c3 : Nat) (C : ConB) (A : Option Addr) (n c : Nat) (ds : List DomB) (w : World) (hC : ConIn w K R Ct A1 A2 A3 n1 c1 n2 c2 n3 c3 C) (hS : Doms w A n ds) (hT : Tab w) (hn : n ≤ 1000) :
    Calls Tryd.prog 23 #[.agg #[.int .i64 K, .slice A1 n1 c1, .slice A2 n2 c2, .int .i64 R, .int .i64 Ct, .slice A3 n3 c3], .slice A n c] w (StepPost (if goK 5 C ds = true then some (stepB (varsKp C.vars (diffG C ds) C.vars.length) ds) else Option.none) w) := by
  have HC := Lib.hid hC
  have HS := Lib.hid hS
  have HT := Lib.hid hT
  have Hlen := Lib.hid hS.len
  have hKk := hC.kind
  clear hC hS hT
  by_cases g1 : ¬ K = 5
  · have hd : (K != 5) = true := by simpa using g1
    have hgo : goK 5 C ds = false := by unfold goK; rw [hKk]; simp [g1]
    rw [hgo]
    go_enter Tryd.func23, Tryd.ntmps23
    go_wp2_with fail
    go_ret2
    exact ⟨rfl, (Kept.box _ _).newBlock _⟩
  have g1 := Classical.not_not.1 g1
  subst g1
  have HR : Hid (∀ W, ConIn W 5 R Ct A1 A2 A3 n1 c1 n2 c2 n3 c3 C → Calls Tryd.prog 25 #[.agg #[.int .i64 5, .slice A1 n1 c1, .slice A2 n2 c2, .int .i64 R, .int .i64 Ct, .slice A3 n3 c3], .int .i64 n] W fun e w' => e = .returned (.bool (rightB C n)) ∧ Kept W w') := fun W hW => right5_any 5 R Ct A1 A2 A3 n1 c1 n2 c2 n3 c3 C n W hW rfl
  have HA : Hid (∀ W, Doms W A n ds → Calls Tryd.prog 26 #[.slice A n c, .func (.func 42) #[] #[]] W fun e w' => e = .returned (.bool (!allMay ds)) ∧ Kept W w') := fun W hW => diff_contains_any A n c ds W hW
  have Hgo : Hid (goK 5 C ds = (rightB C n && allMay ds)) := by
    show _ = _
    unfold goK; rw [hKk, Hlen.out]; simp
  generalize hb1 : rightB C n = b1 at HR Hgo
  generalize hb2 : allMay ds = b2 at HA Hgo
  have Hb1 := Lib.hid hb1
  have Hb2 := Lib.hid hb2
  have Hkk := Lib.hid hKk
  clear hb1 hb2 hKk
  rw [Hgo.out]
  clear Hgo
  cases b1 with
  | false =>
    go_enter Tryd.func23, Tryd.ntmps23
    go_wp2_with fail
    refine (HR.out _ (HC.out.kept ((Kept.box _ _).newBlock _))).mono ?_
    rintro e w1 ⟨rfl, hk⟩
    have Hk := Lib.hid (((Kept.box _ _).newBlock _).then hk)
    have Hlbx := Lib.hid (hk.heapAt (heap_new2 w _ _))
    have hl1 := cell_at Hlbx.out 0
    have hlb1 : w.heap.size + 1 < w1.heap.size := lt_at Hlbx.out
    simp only [List.getElem?_toArray, List.getElem?_cons_zero] at hl1
    clear hk
    go_wp2_with fail
    go_ret2
    exact ⟨rfl, Hk.out⟩
  | true =>
    cases b2 with
    | false =>
      go_enter Tryd.func23, Tryd.ntmps23
      go_wp2_with fail
      refine (HR.out _ (HC.out.kept ((Kept.box _ _).newBlock _))).mono ?_
      rintro e w1 ⟨rfl, hk⟩
      have Hk := Lib.hid (((Kept.box _ _).newBlock _).then hk)
      have Hlbx := Lib.hid (hk.heapAt (heap_new2 w _ _))
      have hl1 := cell_at Hlbx.out 0
      have hlb1 : w.heap.size + 1 < w1.heap.size := lt_at Hlbx.out
      simp only [List.getElem?_toArray, List.getElem?_cons_zero] at hl1
      clear hk
      go_wp2_with fail
      refine (HA.out _ (HS.out.kept Hk.out)).mono ?_
      rintro e w2 ⟨rfl, hk⟩
      have Hk2 := Lib.hid (Hk.out.then hk)
      clear hk
      go_wp2_with fail
      go_ret2
      exact ⟨rfl, Hk2.out⟩
    | true =>
      go_enter Tryd.func23, Tryd.ntmps23
      go_wp2_with fail
      refine (HR.out _ (HC.out.kept ((Kept.box _ _).newBlock _))).mono ?_
      rintro e w1 ⟨rfl, hk⟩
      have Hcon := Lib.hid (hk.heapAt ((Kept.box _ _).heapAt (heap_new w _)))
      have Hk := Lib.hid (((Kept.box _ _).newBlock _).then hk)
      have Hlbx := Lib.hid (hk.heapAt (heap_new2 w _ _))
      have hl1 := cell_at Hlbx.out 0
      have hlb1 : w.heap.size + 1 < w1.heap.size := lt_at Hlbx.out
      simp only [List.getElem?_toArray, List.getElem?_cons_zero] at hl1
      clear hk
      go_wp2_with fail
      refine (HA.out _ (HS.out.kept Hk.out)).mono ?_
      rintro e w2 ⟨rfl, hk⟩
      have Hcon2 := Lib.hid (hk.heapAt Hcon.out)
      have Hlb2 := Lib.hid (hk.heapAt Hlbx.out)
      have Hk2 := Lib.hid (Hk.out.then hk)
      clear hl1 hlb1
      have hl2 := cell_at Hlb2.out 0
      have hlb2 : w.heap.size + 1 < w2.heap.size := lt_at Hlb2.out
      simp only [List.getElem?_toArray, List.getElem?_cons_zero] at hl2
      clear hk
      go_wp2_with fail
      clear hl2 hlb2
      go_loopw [6, 28] (fun u v wr => ∃ k : Nat, k ≤ n ∧ v = .int .i64 k ∧ Hid (OwnD wr w2.heap.size u (ds.take k)) ∧ Hid (Kept w2 wr)) (fun _ v _ => n - (intOf v).toNat)
      case atStart => exact ⟨0, Nat.zero_le _, rfl, OwnD.nil _ _, Kept.same _⟩
      case round =>
        obtain ⟨k, hk, rfl, HO, Hkw⟩ := hrel
        by_cases hlt : k < n
        · have hSr := HS.out.kept (Hk2.out.then Hkw.out)
          obtain ⟨a, rfl, hblk⟩ := hSr.addr (by omega)
          obtain ⟨xs, L, B, m, cB, Hd, hc1, hc2, HI, hL⟩ := hSr.named k hlt
          have Hmay : Hid (mayB xs L = true) := by
            have := allMay_at Hb2.out (show k < ds.length by have := Hlen.out; omega)
            have h2 := Hd.out
            unfold nilD at h2
            rw [h2] at this
            exact this
          have hm64 : m ≤ 100000 := by have := mayB_len Hmay.out; have := HI.out.len; omega
          obtain ⟨vs, hown, hd⟩ := HO.out
          have hkl : (ds.take k).length = k := by rw [List.length_take]; have := Hlen.out; omega
          rw [hkl] at hown hd
          have Hown := Lib.hid hown
          have Hdd := Lib.hid hd
          have Hul : Hid (∀ i, u6.ownBlock = some i → w2.heap.size ≤ i ∧ i < wr.heap.size) := hown.lt
          have hszr := Hkw.out.size
          obtain ⟨i0, hi, hz0, hz1, hz2⟩ := info_parts info_dom
          clear hSr hown hd
          go_wp2_with fail
          have hlow : wr.heap.size < (wr.alloc (.cells #[.slice B m cB, .int .u64 L] 47)).heap.size := by simp
          go_region_held3 (fun W => W.cell? ⟨wr.heap.size, 0, none⟩ = some (.slice B m cB) ∧ W.cell? ⟨wr.heap.size, 1, none⟩ = some (.int .u64 L)) (first | go_keep | (exact ⟨hkC.cellAt (box2_0 _ _ _ _), hkC.cellAt (box2_1 _ _ _ _)⟩) | (exact ⟨hgrow.cell ((Kept.box _ _).cellAt (hkC.cellAt (box2_0 _ _ _ _))) (fun e => by have := Hul.out _ e.symm; simp at this), hgrow.cell ((Kept.box _ _).cellAt (hkC.cellAt (box2_1 _ _ _ _))) (fun e => by have := Hul.out _ e.symm; simp at this)⟩))
            (first
              | (go_at_call 29; refine (clone_any B m cB xs _ (HI.out.kept ((Kept.box _ _).then (Kept.drewn _))) hm64).mono ?_; rintro e wC ⟨B', c', rfl, hIB, hkC, hfB⟩)
              | (refine step_append_lies _ (by rfl) _ _ _ (by rfl) w2.heap.size 47 i0 _ 2 32 Tryd.underlying25 hi hz0 hz1 hz2 rfl (by omega) u6 k vs (by rfl) (own_kept Hown.out ((((Kept.box _ _).then (Kept.drewn _)).then hkC).newBlock _)) ⟨wC.heap.size, 0, none⟩ 1 1 [.slice B' m c', .int .u64 L] (by rfl) (by rfl) (World.news_of_block (cs := #[.slice B' m c', .int .u64 L]) (t := 47) (fr := (0, 0)) (heap_alloc_new wC _)) (by simp [Value.oneCell']) (by omega) (by unfold maxLen; omega) (by omega) (by have := hkC.size; simp at this ⊢; omega) (wC.heap.size + 1) (by simp) ?_; intro gg cap w3 hown3 hgrow hat hlt3))
          go_wp2
          go_roundw
          case rel =>
            refine ⟨k + 1, by omega, by go_num, ?_, ?_⟩
            · show OwnD w3 _ _ _
              rw [take_dom (by have := Hlen.out; omega) Hd.out]
              have hk2 := ((Kept.box wr (.cells #[.slice B m cB, .int .u64 L] 47)).then (Kept.drewn _)).then hkC
              have := OwnD.snoc (ds := ds.take k) (d := (xs, L)) (w1 := wC.alloc (.cells #[.slice B' m c', .int .u64 L] 47)) (B := B') (m := m) (c := c') (by rw [hkl]; exact own_kept Hown.out (hk2.newBlock _)) ?_ (hIB.kept (Kept.box _ _)) ?_ hL (by rw [hkl]; exact hown3) hgrow ?_
              · rw [hkl] at this; exact this
              · rw [hkl]
                intro j hj
                obtain ⟨hl, B1, m1, c1', e1, e2, e3, e4⟩ := Hdd.out j hj
                exact ⟨hl, B1, m1, c1', e1, e2, e3.kept (hk2.newBlock _), e4⟩
              · intro _ a' ha'
                have h5 := hfB a' ha'
                have h6 : wr.heap.size + 1 ≤ a'.block := by simpa using h5
                exact fun e => by have := Hul.out _ e; omega
              · rcases hat with h | h
                · exact Or.inl h
                · exact Or.inr (by rw [h]; simp)
            · show Kept w2 w3
              have hk2 := ((Kept.box wr (.cells #[.slice B m cB, .int .u64 L] 47)).then (Kept.drewn _)).then hkC
              exact (Hkw.out.then (hk2.newBlock _)).grown hgrow (by have := Hkw.out.size; have := hkC.size; simp at this ⊢; omega) (fun i hi => (Hul.out i hi).1)
          case measure => simp [intOf]; omega
        · have e : k = n := by omega
          subst e
          have HOn : Hid (OwnD wr w2.heap.size u6 ds) := by
            have := HO.out
            rwa [List.take_of_length_le (by have := Hlen.out; omega)] at this
          clear HO HA HR
          have hvl := diff_parts Hkk.out Hb1.out
          have Hvo := Lib.hid (rightB_vars Hb1.out)
          have Hvl := Lib.hid HC.out.vars.len
          have hn12 : 2 ≤ n1 ∧ n1 ≤ 8 := by have := Hvl.out; omega
          have HKr := Lib.hid (Hk2.out.then Hkw.out)
          have hkp : 0 < k := by have h1 := varsOk_rng Hvo.out (i := 0) (by omega); omega
          obtain ⟨A6, c6, rfl⟩ := HOn.out.parts
          obtain ⟨vs, hown, _⟩ := HOn.out
          obtain ⟨g, cap, hg, hgb, hglr⟩ := hown.form (by have := Hlen.out; omega)
          cases hg
          rw [Hlen.out] at HOn ⊢
          obtain ⟨G, hG⟩ : ∃ G, G = diffG C ds := ⟨_, rfl⟩
          have HGe := Lib.hid hG
          have HFw : Hid (∀ W, Kept wr W → Calls Tryd.prog 43 #[.agg #[.int .i64 5, .slice A1 n1 c1, .slice A2 n2 c2, .int .i64 R, .int .i64 Ct, .slice A3 n3 c3], .slice A k c] W fun e w' => e = .returned (.bool (fewB C ds)) ∧ Kept W w') := fun W hW =>
            few_any 5 R Ct A1 A2 A3 n1 c1 n2 c2 n3 c3 C A k c ds W (HC.out.kept (HKr.out.then hW)) (HS.out.kept (HKr.out.then hW)) (HT.out.kept (HKr.out.then hW)) (by have := Hvo.out; exact this) (by omega) (by omega)
          obtain ⟨bf, hbf⟩ : ∃ b, b = fewB C ds := ⟨_, rfl⟩
          rw [← hbf] at HFw
          have HG : Hid (∀ i v, G i v = (!bf && !(C.vars.any (onlyB ds (C.vars.getD i 0) v)))) := fun i v => by
            rw [hG, hbf]
            unfold diffG
            rw [soleB_only, any_range_getD]
          have hb := Hkw.out.heapAt Hcon2.out
          have b0 := cell_at hb 0
          have b1 := cell_at hb 1
          have b2 := cell_at hb 2
          have b3 := cell_at hb 3
          have b4 := cell_at hb 4
          have b5 := cell_at hb 5
          simp only [List.getElem?_toArray, List.getElem?_cons_zero, List.getElem?_cons_succ] at b0 b1 b2 b3 b4 b5
          clear hb
          have hl3 := cell_at (Hkw.out.heapAt Hlb2.out) 0
          have hlb3 : w.heap.size + 1 < wr.heap.size := lt_at (Hkw.out.heapAt Hlb2.out)
          simp only [List.getElem?_toArray, List.getElem?_cons_zero] at hl3
          clear hown hG hbf
          go_wp2_with fail
          refine (HFw.out _ (Kept.same _)).mono ?_
          rintro e W3 ⟨rfl, hk3⟩
          have Hk3 := Lib.hid (Hkw.out.then hk3)
          have HO3 := Lib.hid (HOn.out.kept hk3)
          have Hcon3 := Lib.hid (Hk3.out.heapAt Hcon2.out)
          have Hlb3 := Lib.hid (Hk3.out.heapAt Hlb2.out)
          have hg3 : g < W3.heap.size := by have := hk3.size; omega
          clear b0 b1 b2 b3 b4 b5 hl3 hlb3 hk3
          have hlc3 : w.heap.size < W3.heap.size := lt_at Hcon3.out
          have hb := Hcon3.out
          have b0 := cell_at hb 0
          have b1 := cell_at hb 1
          have b2 := cell_at hb 2
          have b3 := cell_at hb 3
          have b4 := cell_at hb 4
          have b5 := cell_at hb 5
          simp only [List.getElem?_toArray, List.getElem?_cons_zero, List.getElem?_cons_succ] at b0 b1 b2 b3 b4 b5
          clear hb
          go_wp2_with fail
          have HW4 : Hid (Kept W3 (W3.alloc (.cells #[.bool bf] 4))) := Kept.box _ _
          have Hnb : Hid ((W3.alloc (.cells #[.bool bf] 4)).heap[W3.heap.size]? = some (.cells #[.bool bf] 4)) := heap_new _ _
          obtain ⟨wR, hwR⟩ : ∃ wR : World, wR = wr := ⟨_, rfl⟩
          subst hwR
          clear b0 b1 b2 b3 b4 b5
          generalize W3.alloc (.cells #[.bool bf] 4) = W4 at *
          have Hcon4 := Lib.hid (HW4.out.heapAt Hcon3.out)
          have Hlb4 := Lib.hid (HW4.out.heapAt Hlb3.out)
          have HO4 := Lib.hid (HO3.out.kept HW4.out)
          have Hk4 := Lib.hid (Hk3.out.then HW4.out)
          have hb2 := Hk2.out.size
          have hg3' : g ≠ W3.heap.size := by omega
          clear HOn Hkw
          go_loopw [48] (fun u wq => ∃ j : Nat, j ≤ n1 ∧ u = .int .i64 j ∧ Hid (OwnD wq w2.heap.size (.slice (some ⟨g, 0, Option.none⟩) k c6) (stepB (varsKp C.vars G j) ds)) ∧ Hid (KeptBut g W4 wq)) (fun u _ => n1 - (intOf u).toNat)
          case atStart => exact ⟨0, Nat.zero_le _, rfl, by rw [stepB_varsKp_zero Hb2.out]; exact HO4.out, KeptBut.refl _ _⟩
          case round =>
            obtain ⟨j, hj, rfl, HOq, Hkq⟩ := hrel
            obtain ⟨wo, hwo⟩ : ∃ wo : World, wo = wr := ⟨_, rfl⟩
            subst hwo
            have HQ2 := Lib.hid (((KeptBut.of Hk4.out g).then Hkq.out).kept hgb)
            have HQ := Lib.hid (Hk2.out.then HQ2.out)
            have Hlq : Hid ((stepB (varsKp C.vars G j) ds).length = k) := by show _ = _; rw [stepB_length]; exact Hlen.out
            by_cases hlt : j < n1
            · obtain ⟨av, hav, hbv⟩ := (HC.out.vars.kept HQ.out).addr (by omega)
              subst hav
              obtain ⟨v, Hv1, hcv, _, _⟩ := (HC.out.vars.kept HQ.out).named j hlt
              obtain ⟨hv0, hv1⟩ := varsOk_rng Hvo.out (i := j) (by have := Hvl.out; omega)
              rw [Hv1.out] at hv0 hv1
              obtain ⟨p, rfl⟩ := Int.eq_ofNat_of_zero_le hv0
              have hpn : p < k := by omega
              have hg4 : g < wo.heap.size := by have := Hkq.out.size; have := HW4.out.size; omega
              go_wp2_with fail
              have HW5 : Hid (Kept wo (wo.alloc (.cells #[.int .i64 (p : Nat)] 3))) := Kept.box _ _
              have Hxb : Hid ((wo.alloc (.cells #[.int .i64 (p : Nat)] 3)).heap[wo.heap.size]? = some (.cells #[.int .i64 (p : Nat)] 3)) := heap_new _ _
              clear hcv
              generalize wo.alloc (.cells #[.int .i64 (p : Nat)] 3) = W5 at *
              have HO5 := Lib.hid (HOq.out.kept HW5.out)
              have hg5 : g < W5.heap.size := by have := HW5.out.size; omega
              have Hkq5 := Lib.hid (Hkq.out.then (KeptBut.of HW5.out g))
              have H05 := Lib.hid (HQ.out.then HW5.out)
              obtain ⟨xs2, L2, B2, mm2, cB2, Hd2, s1, s2, HI2, hL2, HB2, s3, s4⟩ := HO5.out.named Hlq.out p hpn
              have hv5 := cell_at Hxb.out 0
              have hlv5 : wo.heap.size < W5.heap.size := lt_at Hxb.out
              simp only [List.getElem?_toArray, List.getElem?_cons_zero] at hv5
              have HDB : Hid (∀ W, Kept W5 W → DiffBox W W3.heap.size w.heap.size (w.heap.size + 1) wo.heap.size (some av) n1 c1 A k c C.vars ds bf (p : Nat)) := fun W hW =>
                ⟨by rw [cell_at (hW.heapAt (Hkq5.out.heapAt Hnb.out hg3'.symm)) 0]; rfl,
                 by rw [cell_at (hW.heapAt (Hkq5.out.heapAt Hcon4.out (by have := lt_at Hlb2.out; omega))) 1]; rfl,
                 HC.out.vars.kept (H05.out.then hW),
                 by rw [cell_at (hW.heapAt (Hkq5.out.heapAt Hlb4.out (by have := lt_at Hlb2.out; omega))) 0]; rfl,
                 HS.out.kept (H05.out.then hW), hW.cellAt hv5, fun y hy => by
                   obtain ⟨i, hi, e⟩ := List.getElem_of_mem hy
                   have h := varsOk_rng Hvo.out (i := i) hi
                   rw [List.getD_eq_getElem?_getD, List.getElem?_eq_getElem hi] at h
                   simp only [Option.getD_some, e] at h
                   exact h⟩
              have Hmay2 : Hid (mayB xs2 L2 = true) := by
                have h := Hd2.out
                unfold nilD at h
                rw [stepB_getD _ _ (by have := Hlen.out; omega)] at h
                have h2 := keepD_may (f := varsKp C.vars G j p) (allMay_at Hb2.out (show p < ds.length by have := Hlen.out; omega))
                rw [h] at h2
                exact h2
              obtain ⟨d9, hd9⟩ : ∃ d9, d9 = keepD (G j) (xs2, L2) := ⟨_, rfl⟩
              have Hd9 : Hid (d9.2 < 2 ^ 64) := by show _ < _; rw [hd9]; exact keepD_lt _ _
              have Hd91 : Hid (d9.1 = xs2) := by show _ = _; rw [hd9]; rfl
              have Hc : Hid (∀ W, Kept W5 W → Calls Tryd.prog 44 #[.agg #[.slice B2 mm2 cB2, .int .u64 L2], .func (.func 45) #[] #[.pointer (some ⟨W3.heap.size, 0, Option.none⟩), .pointer (some ⟨w.heap.size, 0, Option.none⟩), .pointer (some ⟨w.heap.size + 1, 0, Option.none⟩), .pointer (some ⟨wo.heap.size, 0, Option.none⟩)]] W
                  fun e w' => ∃ A' c', e = .returned (.agg #[.slice A' mm2 c', .int .u64 (d9.2 : Nat)]) ∧ Ints w' A' mm2 xs2 ∧ Kept W w' ∧ (A' = B2 ∨ Fresh W A')) := fun W hW => by
                have h := diffkept_any B2 mm2 cB2 L2 xs2 (.pointer (some ⟨W3.heap.size, 0, Option.none⟩)) (.pointer (some ⟨w.heap.size, 0, Option.none⟩)) (.pointer (some ⟨w.heap.size + 1, 0, Option.none⟩)) (.pointer (some ⟨wo.heap.size, 0, Option.none⟩)) (G j) W (HI2.out.kept hW) hL2 (HT.out.kept (H05.out.then hW)) Hmay2.out
                  (fun v W' hW' _ => by
                    have h2 := diff2_any v W3.heap.size w.heap.size (w.heap.size + 1) wo.heap.size (some av) n1 c1 A k c C.vars ds bf (p : Nat) W' (HDB.out W' (hW.then hW')) (HT.out.kept ((H05.out.then hW).then hW'))
                    have h3 := HG.out j v
                    rw [Hv1.out] at h3
                    rwa [← h3] at h2)
                rwa [← hd9] at h
              have Hnx : Hid (stepB (varsKp C.vars G (j + 1)) ds = (stepB (varsKp C.vars G j) ds).set p d9) := by
                show _ = _
                rw [stepVars_set (by have := Hlen.out; omega) Hv1.out, hd9]
                have h := Hd2.out
                unfold nilD at h
                rw [h]
              have HF : Hid (∀ (W7 : World) (A7 : Option Addr) (c7 : Nat), Ints W7 A7 mm2 xs2 → Kept W5 W7 → (A7 = B2 ∨ Fresh W5 A7) →
                  OwnD ((W7.setCell ⟨g, p * 2, Option.none⟩ (.slice A7 mm2 c7)).setCell ⟨g, p * 2 + 1, Option.none⟩ (.int .u64 (d9.2 : Nat))) w2.heap.size (.slice (some ⟨g, 0, Option.none⟩) k c6) (stepB (varsKp C.vars G (j + 1)) ds) ∧
                  KeptBut g W4 ((W7.setCell ⟨g, p * 2, Option.none⟩ (.slice A7 mm2 c7)).setCell ⟨g, p * 2 + 1, Option.none⟩ (.int .u64 (d9.2 : Nat)))) := by
                intro W7 A7 c7 hI7 hk7 hA7
                have hO8 := (HO5.out.kept hk7).set Hlq.out hpn (d := d9) (B := A7) (m := mm2) (c := c7) (by rw [Hd91.out]; exact hI7) (fun hn a ha => by
                  rcases hA7 with h | h
                  · subst h; exact HB2.out hn a ha
                  · have := h a ha; omega) Hd9.out
                rw [← Hnx.out] at hO8
                exact ⟨hO8, (Hkq5.out.then (KeptBut.of hk7 g)).then ((KeptBut.set _ (a := ⟨g, p * 2, Option.none⟩) rfl _).then (KeptBut.set _ (a := ⟨g, p * 2 + 1, Option.none⟩) rfl _))⟩
              have Hxv := Lib.hid hv5
              clear hd9
              go_region_with (first
                | (go_at_call 44
                   refine (Hc.out _ (Kept.drewn _)).mono ?_
                   rintro e W7 ⟨A7, c7, rfl, hI7, hk7, hA7⟩
                   have HI7 := Lib.hid hI7
                   have HK7 := Lib.hid ((Kept.drewn _).then hk7)
                   have HA7 : Hid (A7 = B2 ∨ Fresh W5 A7) := hA7
                   have hv7 := hk7.cellAt ((Kept.drewn _).cellAt Hxv.out)
                   obtain ⟨_, _, _, _, _, _, t1, t2, _, _, _, t3, t4⟩ := (HO5.out.kept ((Kept.drewn _).then hk7)).named Hlq.out p hpn
                   clear hI7 hk7 hA7))
              all_goals go_wp2_with fail
              all_goals (
                go_roundw
                case rel =>
                  obtain ⟨hD, hK⟩ := HF.out _ _ _ HI7.out HK7.out HA7.out
                  exact ⟨j + 1, by omega, by go_num, hD, hK⟩
                case measure => simp [intOf]; omega)
            · have e : j = n1 := by omega
              subst e
              have Hres : Hid (stepB (varsKp C.vars (diffG C ds) C.vars.length) ds = stepB (varsKp C.vars G j) ds) := by show _ = _; rw [Hvl.out, HGe.out]
              generalize stepB (varsKp C.vars G j) ds = res at *
              have HD := Lib.hid (HOq.out.doms Hlq.out (by omega))
              clear HOq
              go_wp2_with fail
              go_ret2
              exact ⟨_, c6, by rw [Hres.out, Hlq.out]; rfl, by rw [Hres.out, Hlq.out]; exact HD.out, HQ.out⟩

theorem diffstep_law (K R Ct : Int) (A1 A2 A3 : Option Addr) (n1 c1 n2 c2 n3 c3 : Nat) (C : ConB) (A : Option Addr) (n c : Nat) (ds : List DomB) (w : World) (hC : ConIn w K R Ct A1 A2 A3 n1 c1 n2 c2 n3 c3 C) (hS : Doms w A n ds) (hT : Tab w) (hn : n ≤ 1000) :
    Calls Tryd.prog 23 #[.agg #[.int .i64 K, .slice A1 n1 c1, .slice A2 n2 c2, .int .i64 R, .int .i64 Ct, .slice A3 n3 c3], .slice A n c] w (StepPost (if diffGo C ds = true then some (stepB (diffKp C ds) ds) else Option.none) w) := diffstep_any K R Ct A1 A2 A3 n1 c1 n2 c2 n3 c3 C A n c ds w hC hS hT hn
end Go.Proofs.YtjmegicopdbkdaaDoor

/-
  Contracts and plain laws that the card rests on, part 14.
-/
import Derived.Test.YtekcenacpklpgaaDoorMContrary9
import Derived.Test.YtekcenacpklpgaaDoorMContrary13
import Derived.Test.YtekcenacpklpgaaDoorMContrary7
set_option maxHeartbeats 1000000
set_option maxRecDepth 10000
namespace Go.Proofs.YtekcenacpklpgaaDoor
open Go Go.RowKit Pl

/-- The same constraint, of the contrary rel. -/
def turnC (C : ConB) : ConB := ⟨C.kind, C.vars, C.coefs, contraB C.rel, C.const, C.nums⟩
theorem turn_go {C : ConB} {ds : List DomB} (hk : C.kind = 1) (h : linGo C ds = true) : linGo (turnC C) ds = true := by
  obtain ⟨_, h2, h3⟩ := linGo_parts h
  have hso := linear_parts hk h2
  refine linGo_of (.inl hk) ?_ h3
  unfold rightB at h2 ⊢
  rw [if_pos hk] at h2
  rw [if_pos (show (turnC C).kind = 1 from hk)]
  rw [Bool.and_eq_true] at h2 ⊢
  refine ⟨h2.1, ?_⟩
  have h4 := h2.2
  unfold sumR at h4 ⊢
  have hc := contra_rng hso.rel0 hso.rel5
  simp only [Bool.and_eq_true, decide_eq_true_eq] at h4 ⊢
  obtain ⟨⟨⟨⟨⟨⟨⟨⟨a1, a2⟩, a3⟩, a4⟩, a5⟩, _⟩, _⟩, a8⟩, a9⟩ := h4
  exact ⟨⟨⟨⟨⟨⟨⟨⟨a1, a2⟩, a3⟩, a4⟩, a5⟩, hc.1⟩, hc.2.1⟩, a8⟩, a9⟩

theorem lin_or {C : ConB} {ds : List DomB} (hk : C.kind = 1) (h : linGo C ds = true) (he : ∀ k, k < C.vars.length → (ds.getD (C.vars.getD k 0).toNat nilD).2 ≠ 0) {i : Nat} (hi : i < ds.length) :
    ((stepB (linKp C ds) ds).getD i nilD).2 ||| ((stepB (linKp (turnC C) ds) ds).getD i nilD).2 = (ds.getD i nilD).2 := by
  obtain ⟨_, h2, hm⟩ := linGo_parts h
  have hso := linear_parts hk h2
  have hv := rightB_vars h2
  have hmay := allMay_at hm hi
  have hls : ∀ q, q < C.vars.length → 0 < (leftOf C ds q).length := fun q hq => by
    have h1 := varsOk_rng hv hq
    have h3 := allMay_at hm (show (C.vars.getD q 0).toNat < ds.length by omega)
    have h4 := he q hq
    unfold leftOf
    refine Nat.pos_of_ne_zero fun e => h4 ?_
    refine Nat.eq_of_testBit_eq fun k => ?_
    rw [Nat.zero_testBit]
    cases hb : (ds.getD (C.vars.getD q 0).toNat nilD).2.testBit k with
    | false => rfl
    | true =>
      have h5 := bit_mem h3 hb
      have h6 := List.length_pos_of_mem h5
      unfold nilD at e
      omega
  have hw : wipedB C ds C.vars.length = false := wipedB_iff.2 hls
  have e1 : ∀ q x, linG C ds q x = sumG C.coefs (leftOf C ds) C.vars.length C.rel C.const q x := fun q x => by
    unfold linG; rw [if_neg (by rw [hw]; decide), if_pos hk]
  have e2 : ∀ q x, linG (turnC C) ds q x = sumG C.coefs (leftOf C ds) C.vars.length (contraB C.rel) C.const q x := fun q x => by
    have hw' : wipedB (turnC C) ds (turnC C).vars.length = false := hw
    unfold linG; rw [if_neg (by rw [hw']; decide), if_pos (show (turnC C).kind = 1 from hk)]; rfl
  have hor : ∀ v, linKp C ds i v = true ∨ linKp (turnC C) ds i v = true := fun v => by
    by_cases hx : ∃ q, q < C.vars.length ∧ (C.vars.getD q 0).toNat = i
    · obtain ⟨q, hq, hqi⟩ := hx
      have hun : ∀ k, k < C.vars.length → (C.vars.getD k 0).toNat = i → k = q := fun k hk2 e => by
        rcases Nat.decEq k q with h3 | h3
        · exact absurd (e.trans hqi.symm) (varsOk_ne' hv hq hk2 h3)
        · exact h3
      have hle := ends_le C.coefs (leftOf C ds) q C.vars.length
      have h4 := mayL_or (lo := lowBut C.coefs (leftOf C ds) q C.vars.length + C.coefs.getD q 0 * v) (hi := highBut C.coefs (leftOf C ds) q C.vars.length + C.coefs.getD q 0 * v) (rel := C.rel) (c := C.const) (by omega) hso.rel0 hso.rel5
      rw [Bool.or_eq_true] at h4
      rcases h4 with h4 | h4
      · left
        unfold linKp
        rw [varsKp_iff]
        intro k hk2 e
        rw [hun k hk2 e, e1]
        exact h4
      · right
        unfold linKp
        rw [varsKp_iff]
        intro k hk2 e
        rw [hun k hk2 e, e2]
        exact h4
    · left
      unfold linKp
      rw [varsKp_iff]
      intro k hk2 e
      exact absurd ⟨k, hk2, e⟩ hx
  have s1 := stepB_getD (linKp C ds) ds hi
  have s2 := stepB_getD (linKp (turnC C) ds) ds hi
  unfold nilD
  rw [s1, s2]
  refine Nat.eq_of_testBit_eq fun k => ?_
  rw [Nat.testBit_or, testBit_keepD, testBit_keepD]
  cases hb : (ds.getD i ([], 0)).2.testBit k with
  | false => simp
  | true =>
    have h64 := (may_bit hmay hb).2
    have hv2 := hor ((ds.getD i ([], 0)).1.getD k 0)
    rw [decide_eq_true h64]
    rcases hv2 with h9 | h9 <;> rw [h9] <;> simp

/-- Is nothing left of one of the first variables' domains? -/
def deadB (vars : List Int) (ds : List DomB) (k : Nat) : Bool := (List.range k).any fun i => decide ((ds.getD (vars.getD i 0).toNat nilD).2 = 0)
theorem deadB_succ (vars : List Int) (ds : List DomB) (k : Nat) : deadB vars ds (k + 1) = (deadB vars ds k || decide ((ds.getD (vars.getD k 0).toNat nilD).2 = 0)) := by
  unfold deadB; rw [List.range_succ, List.any_append]; simp
theorem deadB_not {vars : List Int} {ds : List DomB} {m : Nat} (h : deadB vars ds m = false) : ∀ k, k < m → (ds.getD (vars.getD k 0).toNat nilD).2 ≠ 0 := by
  unfold deadB at h
  rw [List.any_eq_false] at h
  intro k hk e
  exact h k (List.mem_range.2 hk) (by rw [decide_eq_true e])
end Go.Proofs.YtekcenacpklpgaaDoor

set_option maxHeartbeats 2000000
set_option maxRecDepth 10000
namespace Go.Proofs.YtekcenacpklpgaaDoor
open Go Go.RowKit Pl

theorem contrary12_any (K R Ct : Int) (A1 A2 A3 : Option Addr) (n1 c1 n2 c2 n3 c3 : Nat) (C : ConB) (A : Option Addr) (n c : Nat) (ds : List DomB) (w : World) (hC : ConIn w K R Ct A1 A2 A3 n1 c1 n2 c2 n3 c3 C) (hS : Doms w A n ds) (hT : Tab w) :
    Calls Tryd.prog 7 #[.agg #[.int .i64 K, .slice A1 n1 c1, .slice A2 n2 c2, .int .i64 R, .int .i64 Ct, .slice A3 n3 c3], .slice A n c] w fun e w' => e = .returned (.bool true) ∧ Kept w w' := by
  have HC := Lib.hid hC
  have HS := Lib.hid hS
  have HT := Lib.hid hT
  have Hlen := Lib.hid hS.len
  have hsmall := hS.small
  have hs1 := hC.vars.small
  clear hC hS hT
  have hhB : ∀ W, Kept (w.alloc (.cells #[.int .i64 K, .slice A1 n1 c1, .slice A2 n2 c2, .int .i64 R, .int .i64 Ct, .slice A3 n3 c3] 24)) W → W.heap[w.heap.size]? = some (.cells #[.int .i64 K, .slice A1 n1 c1, .slice A2 n2 c2, .int .i64 R, .int .i64 Ct, .slice A3 n3 c3] 24) := fun W h => h.heapAt (heap_new _ _)
  have HB := Lib.hid hhB
  clear hhB
  have HQL : Hid (∀ W, Kept w W → Calls Tryd.prog 9 #[.agg #[.int .i64 K, .slice A1 n1 c1, .slice A2 n2 c2, .int .i64 R, .int .i64 Ct, .slice A3 n3 c3], .slice A n c] W fun e w' => e = .returned (.bool (largeB C ds)) ∧ Kept W w') := fun W hW => large_det K R Ct A1 A2 A3 n1 c1 n2 c2 n3 c3 C A n c ds W (HC.out.kept hW) (HS.out.kept hW)
  have HL20 : Hid (largeB C ds = false → n ≤ 20) := fun h => by
    unfold largeB at h
    rw [Hlen.out] at h
    simp only [Bool.or_eq_false_iff, decide_eq_false_iff_not] at h
    omega
  obtain ⟨f, hf⟩ : ∃ f : Int → Int, f = contraB := ⟨_, rfl⟩
  have HQC : Hid (∀ r W, Calls Tryd.prog 19 #[.int .i64 r] W fun e w' => e = .returned (.int .i64 (f r)) ∧ Kept W w') := fun r W => by
    rw [hf]
    exact (lincontrary_any r W).mono fun _ _ ⟨h1, h2⟩ => ⟨h1, h2 ▸ Kept.same _⟩
  have HQE : Hid (∀ r W, Calls Tryd.prog 19 #[.int .i64 r] W fun e w' => e = .returned (.int .i64 (f r)) ∧ W = w') := fun r W => by
    rw [hf]
    exact lincontrary_any r W
  have hff : f (f R) = R := by rw [hf]; exact contra_contra R
  have HfR : Hid (f R = contraB R) := by show _ = _; rw [hf]
  generalize largeB C ds = bl at *
  clear hf
  go_enter Tryd.func7, Tryd.ntmps7
  go_wp2_with fail
  refine (awake12 _ (HT.out.kept (Kept.box _ _))).mono ?_
  rintro e W1 ⟨rfl, hk1⟩
  have hb := HB.out W1 hk1
  have b0 := cell_at hb 0
  have b1 := cell_at hb 1
  have b2 := cell_at hb 2
  have b3 := cell_at hb 3
  have b4 := cell_at hb 4
  have b5 := cell_at hb 5
  simp only [List.getElem?_toArray, List.getElem?_cons_zero, List.getElem?_cons_succ] at b0 b1 b2 b3 b4 b5
  clear hb
  have Hk1 := Lib.hid hk1
  have HK1 := Lib.hid ((Kept.box _ _).then hk1)
  have hlb : w.heap.size < W1.heap.size := World.block_lt_of_cell? W1 _ b0
  clear hk1
  cases bl with
  | true =>
    go_wp2_with fail
    refine wp_region_quiet_below (by kernel_rfl) (by kernel_rfl) ?_
    repeat (any_goals (first | go_big_quiet_step ((first | (go_at_call 9; exact Calls.regrown_of (HQL.out _ (HK1.out.then (below_regrown _ _ _)))) | (go_at_call 19; exact Calls.regrown_of (HQC.out _ _)))) | quiet_step ((first | (go_at_call 9; exact Calls.regrown_of (HQL.out _ (HK1.out.then (below_regrown _ _ _)))) | (go_at_call 19; exact Calls.regrown_of (HQC.out _ _)))) | (refine wpQuiet_step (fun K hK => ?_); go_simp; split <;> (refine hK _ ?_; clear hK K))))
    all_goals (refine wpQuiet_nil ?_; intro w1 hw'; replace hw' := Kept.regrown hw')
    all_goals try (exfalso; omega)
    obtain ⟨W2, hW2⟩ : ∃ W2 : World, W2 = w1 := ⟨_, rfl⟩
    subst hW2
    have Hk2 := Lib.hid (Hk1.out.then hw')
    have HK2 := Lib.hid (HK1.out.then hw')
    clear hw' b0 b1 b2 b3 b4 b5 hlb
    have hb := HB.out W2 Hk2.out
    have b0 := cell_at hb 0
    have b1 := cell_at hb 1
    have b2 := cell_at hb 2
    have b3 := cell_at hb 3
    have b4 := cell_at hb 4
    have b5 := cell_at hb 5
    simp only [List.getElem?_toArray, List.getElem?_cons_zero, List.getElem?_cons_succ] at b0 b1 b2 b3 b4 b5
    clear hb
    go_wp2_with fail
    refine (HQL.out _ HK2.out).mono ?_
    rintro e W3 ⟨rfl, hk3⟩
    have HK3 := Lib.hid (HK2.out.then hk3)
    clear hk3 b0 b1 b2 b3 b4 b5
    go_wp2_with fail
    go_ret
    exact ⟨rfl, HK3.out⟩
  | false =>
    have hn20 : n ≤ 20 := HL20.out (by first | rfl | trivial)
    go_wp2_with fail
    refine wp_region_quiet_below (by kernel_rfl) (by kernel_rfl) ?_
    repeat (any_goals (first | go_big_quiet_step ((first | (go_at_call 9; exact Calls.regrown_of (HQL.out _ (HK1.out.then (below_regrown _ _ _)))) | (go_at_call 19; exact Calls.regrown_of (HQC.out _ _)))) | quiet_step ((first | (go_at_call 9; exact Calls.regrown_of (HQL.out _ (HK1.out.then (below_regrown _ _ _)))) | (go_at_call 19; exact Calls.regrown_of (HQC.out _ _)))) | (refine wpQuiet_step (fun K hK => ?_); go_simp; split <;> (refine hK _ ?_; clear hK K))))
    all_goals (refine wpQuiet_nil ?_; intro w1 hw'; replace hw' := Kept.regrown hw')
    all_goals try (exfalso; omega)
    obtain ⟨W2, hW2⟩ : ∃ W2 : World, W2 = w1 := ⟨_, rfl⟩
    subst hW2
    have Hk2 := Lib.hid (Hk1.out.then hw')
    have HK2 := Lib.hid (HK1.out.then hw')
    clear hw' b0 b1 b2 b3 b4 b5 hlb HQL HL20
    have hb := HB.out W2 Hk2.out
    have b0 := cell_at hb 0
    have b1 := cell_at hb 1
    have b2 := cell_at hb 2
    have b3 := cell_at hb 3
    have b4 := cell_at hb 4
    have b5 := cell_at hb 5
    simp only [List.getElem?_toArray, List.getElem?_cons_zero, List.getElem?_cons_succ] at b0 b1 b2 b3 b4 b5
    clear hb
    have hlb : w.heap.size < W2.heap.size := World.block_lt_of_cell? W2 _ b0
    have H1 := linstep_law K R Ct A1 A2 A3 n1 c1 n2 c2 n3 c3 C A n c ds W2 (HC.out.kept HK2.out) (HS.out.kept HK2.out) (HT.out.kept HK2.out) (by omega)
    go_wp2_with fail
    cases hg : linGo C ds with
    | false =>
      rw [if_neg (by rw [hg]; decide)] at H1
      refine H1.mono ?_
      rintro e W3 ⟨rfl, hk3⟩
      have HK3 := Lib.hid (HK2.out.then hk3)
      clear H1 hk3 b0 b1 b2 b3 b4 b5
      go_wp2_with fail
      go_ret
      exact ⟨rfl, HK3.out⟩
    | true =>
      have Hg := Lib.hid hg
      rw [if_pos hg] at H1
      refine H1.mono ?_
      rintro e W3 ⟨Aa, ca, rfl, hDa, hk3⟩
      have Hla : Hid ((stepB (linKp C ds) ds).length = n) := by show _ = _; rw [stepB_length]; exact Hlen.out
      rw [Hla.out] at hDa ⊢
      have HDa := Lib.hid hDa
      have Hk3 := Lib.hid (Hk2.out.then hk3)
      have HK3 := Lib.hid (HK2.out.then hk3)
      clear H1 hk3 hDa hg b0 b1 b2 b3 b4 b5 hlb
      have hb := HB.out W3 Hk3.out
      have b0 := cell_at hb 0
      have b1 := cell_at hb 1
      have b2 := cell_at hb 2
      have b3 := cell_at hb 3
      have b4 := cell_at hb 4
      have b5 := cell_at hb 5
      simp only [List.getElem?_toArray, List.getElem?_cons_zero, List.getElem?_cons_succ] at b0 b1 b2 b3 b4 b5
      clear hb
      have hlb : w.heap.size < W3.heap.size := World.block_lt_of_cell? W3 _ b0
      by_cases gK : ¬ K = 1
      · have hd : (K != 1) = true := by simp [gK]
        go_wp2_with fail
        go_ret
        exact ⟨rfl, HK3.out⟩
      have gK := Classical.not_not.1 gK
      have HkK : Hid (C.kind = 1) := HC.out.kind.trans gK
      have hd : (K != 1) = false := by simp [gK]
      have HgK := Lib.hid gK
      clear gK
      have hso := linear_parts HkK.out (linGo_parts Hg.out).2.1
      have hR : C.rel = R := HC.out.rel
      have hr0 := hso.rel0
      have hr5 := hso.rel5
      rw [hR] at hr0 hr5
      obtain ⟨hc0, hc5, hcn⟩ := contra_rng hr0 hr5
      rw [← HfR.out] at hc0 hc5 hcn
      have hrc := HC.out.rc
      have hne : (f R == R) = false := by simp [hcn]
      have Hg2 := Lib.hid (turn_go HkK.out Hg.out)
      have HC2 : Hid (∀ W, Kept w W → ConIn W K (f R) Ct A1 A2 A3 n1 c1 n2 c2 n3 c3 (turnC C)) := fun W hW => by
        have h := HC.out.kept hW
        exact ⟨h.kind, by rw [HfR.out]; show contraB C.rel = _; rw [hR], h.const, h.vars, h.coefs, h.nums, h.cap1, h.cap3, h.rk, by omega, h.rc⟩
      clear hso hR hr0 hr5 hcn
      have hnr := hne
      go_wp2_with fail
      refine (HQE.out R _).mono ?_
      rintro e W4 ⟨rfl, rfl⟩
      have H2 : Hid (∀ W, Kept w W → Calls Tryd.prog 10 #[.agg #[.int .i64 K, .slice A1 n1 c1, .slice A2 n2 c2, .int .i64 (f R), .int .i64 Ct, .slice A3 n3 c3], .slice A n c] W (StepPost (some (stepB (linKp (turnC C) ds) ds)) W)) := fun W hW => by
        have h := linstep_law K (f R) Ct A1 A2 A3 n1 c1 n2 c2 n3 c3 (turnC C) A n c ds W (HC2.out W hW) (HS.out.kept hW) (HT.out.kept hW) (by omega)
        rwa [if_pos Hg2.out] at h
      go_wp2_with fail
      refine (H2.out _ (HK3.out.newBlock _)).mono ?_
      rintro e W5 ⟨Ab, cb, rfl, hDb, hk5⟩
      have Hlb : Hid ((stepB (linKp (turnC C) ds) ds).length = n) := by show _ = _; rw [stepB_length]; exact Hlen.out
      rw [Hlb.out] at hDb ⊢
      have HDb := Lib.hid hDb
      have Hnew := Lib.hid (hk5.heapAt (heap_new W3 (.cells #[.int .i64 K, .slice A1 n1 c1, .slice A2 n2 c2, .int .i64 (f R), .int .i64 Ct, .slice A3 n3 c3] 24)))
      have HDa5 := Lib.hid (HDa.out.kept ((Kept.box _ _).then hk5))
      have Hk5 := Lib.hid (Hk3.out.then ((Kept.box _ _).then hk5))
      have HK5 := Lib.hid (HK3.out.then ((Kept.box _ _).then hk5))
      have Hor : Hid (deadB C.vars ds n1 = false → ∀ i, i < n → ((stepB (linKp C ds) ds).getD i nilD).2 ||| ((stepB (linKp (turnC C) ds) ds).getD i nilD).2 = (ds.getD i nilD).2) := fun h i hi =>
        lin_or HkK.out Hg.out (fun k hk => deadB_not h k (by have := HC.out.vars.len; omega)) (by have := Hlen.out; omega)
      have Hvo : Hid (varsOk C.vars n = true) := by
        have h := rightB_vars (linGo_parts Hg.out).2.1
        rwa [Hlen.out] at h
      generalize stepB (linKp C ds) ds = ra at *
      generalize stepB (linKp (turnC C) ds) ds = rb at *
      clear hk5 hDb H2 HDa b0 b1 b2 b3 b4 b5 hlb
      have hb := HB.out W5 Hk5.out
      have b0 := cell_at hb 0
      have b1 := cell_at hb 1
      have b2 := cell_at hb 2
      have b3 := cell_at hb 3
      have b4 := cell_at hb 4
      have b5 := cell_at hb 5
      simp only [List.getElem?_toArray, List.getElem?_cons_zero, List.getElem?_cons_succ] at b0 b1 b2 b3 b4 b5
      clear hb
      have d3 := cell_at Hnew.out 3
      simp only [List.getElem?_toArray, List.getElem?_cons_zero, List.getElem?_cons_succ] at d3
      have hlb : w.heap.size < W5.heap.size := World.block_lt_of_cell? W5 _ b0
      have hlb3 : W3.heap.size < W5.heap.size := lt_at Hnew.out
      go_wp2_with fail
      go_loopw [80] (fun u wr => ∃ i : Nat, i ≤ n ∧ u = .int .i64 i ∧ Hid (Kept W5 wr)) (fun u _ => n - (intOf u).toNat)
      case atStart => exact ⟨0, Nat.zero_le _, rfl, Kept.same _⟩
      case round =>
        obtain ⟨i, hi, rfl, Hki⟩ := hrel
        obtain ⟨wi, hwi⟩ : ∃ wi : World, wi = wr := ⟨_, rfl⟩
        subst hwi
        have HKi := Lib.hid (HK5.out.then Hki.out)
        clear b0 b1 b2 b3 b4 b5 d3 hlb hlb3
        have hb := HB.out wi (Hk5.out.then Hki.out)
        have b0 := cell_at hb 0
        have b1 := cell_at hb 1
        have b2 := cell_at hb 2
        have b3 := cell_at hb 3
        have b4 := cell_at hb 4
        have b5 := cell_at hb 5
        simp only [List.getElem?_toArray, List.getElem?_cons_zero, List.getElem?_cons_succ] at b0 b1 b2 b3 b4 b5
        clear hb
        have hlb : w.heap.size < wi.heap.size := World.block_lt_of_cell? wi _ b0
        by_cases hlt : i < n
        · go_wp2_with fail
          clear b0 b1 b2 b3 b4 b5 hlb
          go_loopw [11, 86] (fun u v wz => ∃ j : Nat, j ≤ n1 ∧ v = .int .i64 j ∧ u = .bool (deadB C.vars ds j) ∧ Hid (Kept W5 wz)) (fun _ v _ => n1 - (intOf v).toNat)
          case atStart => exact ⟨0, Nat.zero_le _, rfl, rfl, Hki.out⟩
          case round =>
            obtain ⟨j, hj, rfl, rfl, Hkj⟩ := hrel
            obtain ⟨wj, hwj⟩ : ∃ wj : World, wj = wr := ⟨_, rfl⟩
            subst hwj
            have HKj := Lib.hid (HK5.out.then Hkj.out)
            by_cases hltj : j < n1
            · obtain ⟨av, hav, hbv⟩ := (HC.out.vars.kept HKj.out).addr (by omega)
              subst hav
              obtain ⟨v, Hv1, hcv, _, _⟩ := (HC.out.vars.kept HKj.out).named j hltj
              obtain ⟨hv0, hv1⟩ := varsOk_rng Hvo.out (i := j) (by have := HC.out.vars.len; omega)
              rw [Hv1.out] at hv0 hv1
              obtain ⟨p, rfl⟩ := Int.eq_ofNat_of_zero_le hv0
              have hpn : p < n := by omega
              obtain ⟨al, hal, hbal⟩ := (HS.out.kept HKj.out).addr (by omega)
              subst hal
              obtain ⟨xs, L, Bx, mx, cx, Hd, hs1', hs2', _, hL⟩ := (HS.out.kept HKj.out).named p hpn
              have Hnx : Hid (deadB C.vars ds (j + 1) = (deadB C.vars ds j || decide (L = 0))) := by
                show _ = _
                rw [deadB_succ, Hv1.out, Int.toNat_natCast, Hd.out]
              generalize deadB C.vars ds j = q at *
              cases q with
              | true =>
                go_wp2_with fail
                go_roundw
                case rel => exact ⟨j + 1, by omega, by go_num, by rw [Hnx.out]; rfl, Hkj.out⟩
                case measure => simp [intOf]; omega
              | false =>
                by_cases hL0 : L = 0
                · have hd0 : ((L : Int) == 0) = true := by simp [hL0]
                  have Hnx2 : Hid (deadB C.vars ds (j + 1) = true) := by show _ = _; rw [Hnx.out, decide_eq_true hL0]; rfl
                  clear hL0 hL
                  go_wp2_with fail
                  go_roundw
                  case rel => exact ⟨j + 1, by omega, by go_num, by rw [Hnx2.out], Hkj.out⟩
                  case measure => simp [intOf]; omega
                · have hd0 : ((L : Int) == 0) = false := by simp; omega
                  have Hnx2 : Hid (deadB C.vars ds (j + 1) = false) := by show _ = _; rw [Hnx.out, decide_eq_false hL0]; rfl
                  clear hL0 hL
                  go_wp2_with fail
                  go_roundw
                  case rel => exact ⟨j + 1, by omega, by go_num, by rw [Hnx2.out], Hkj.out⟩
                  case measure => simp [intOf]; omega
            · have e : j = n1 := by omega
              subst e
              obtain ⟨al, hal, hbal⟩ := (HS.out.kept HKj.out).addr (by omega)
              subst hal
              obtain ⟨xs, L, Bx, mx, cx, Hd, e1, e2, _, hL⟩ := (HS.out.kept HKj.out).named i hlt
              obtain ⟨aa, haa, hbaa⟩ := (HDa5.out.kept Hkj.out).addr (by omega)
              subst haa
              obtain ⟨ys, M, By, my, cy, Hda, e3, e4, _, hM⟩ := (HDa5.out.kept Hkj.out).named i hlt
              obtain ⟨ab, hab, hbab⟩ := (HDb.out.kept Hkj.out).addr (by omega)
              subst hab
              obtain ⟨zs, N, Bz, mz, cz, Hdb, e5, e6, _, hN⟩ := (HDb.out.kept Hkj.out).named i hlt
              have Ho : Hid (deadB C.vars ds j = false → bits BinOp.or IntKind.u64 (M : Int) (N : Int) = (L : Int)) := fun h => by
                have h9 := Hor.out h i hlt
                rw [Hda.out, Hdb.out, Hd.out] at h9
                rw [u64_or_nat M N hM hN, h9]
              have hi0 : (0 : Int) ≤ (i : Int) := by omega
              have hin : (i : Int) < (n : Int) := by omega
              clear e1 e3 e5
              generalize deadB C.vars ds j = q at *
              cases q with
              | true =>
                go_wp2_with fail
                refine wp_region_quiet_below (by kernel_rfl) (by kernel_rfl) ?_
                repeat (any_goals (first | go_big_quiet_step ((fail)) | quiet_step ((fail)) | (refine wpQuiet_step (fun K hK => ?_); go_simp; split <;> (refine hK _ ?_; clear hK K))))
                all_goals (refine wpQuiet_nil ?_; intro w1 hw'; replace hw' := Kept.regrown hw')
                all_goals try (exfalso; omega)
                have Hk9 := Lib.hid (Hkj.out.then hw')
                clear hw'
                go_wp2_with fail
                go_roundw
                case rel => first | exact ⟨i + 1, by omega, by go_num, Hk9.out⟩ | ((repeat apply Exists.intro); exact ⟨⟨i + 1, by omega, by go_num, Hk9.out⟩, rfl⟩)
                case measure => simp [intOf]; omega
              | false =>
                have ho := Ho.out (by first | rfl | trivial)
                go_wp2_with fail
                refine wp_region_quiet_below (by kernel_rfl) (by kernel_rfl) ?_
                repeat (any_goals (first | go_big_quiet_step ((fail)) | quiet_step ((fail)) | (refine wpQuiet_step (fun K hK => ?_); go_simp; split <;> (refine hK _ ?_; clear hK K))))
                all_goals (refine wpQuiet_nil ?_; intro w1 hw'; replace hw' := Kept.regrown hw')
                all_goals try (exfalso; omega)
                have Hk9 := Lib.hid (Hkj.out.then hw')
                clear hw'
                go_wp2_with fail
                go_roundw
                case rel => first | exact ⟨i + 1, by omega, by go_num, Hk9.out⟩ | ((repeat apply Exists.intro); exact ⟨⟨i + 1, by omega, by go_num, Hk9.out⟩, rfl⟩)
                case measure => simp [intOf]; omega
        · have e : i = n := by omega
          go_wp2_with fail
          go_ret
          exact ⟨rfl, HKi.out⟩
end Go.Proofs.YtekcenacpklpgaaDoor

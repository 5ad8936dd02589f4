/-
  Contracts and plain laws that the card rests on, part 10.
-/
import Derived.Test.YthddanjmnifloaaDoorG6
import Derived.Test.YthddanjmnifloaaDoorG5
import Derived.Test.YthddanjmnifloaaDoorG7
import Derived.Test.YthddanjmnifloaaDoorG9
import Derived.Test.YthddanjmnifloaaDoorG8
import Derived.Test.YthddanjmnifloaaDoorG4
set_option maxHeartbeats 1000000
set_option maxRecDepth 10000
namespace Go.Proofs.YthddanjmnifloaaDoor
open Go Go.RowKit Pl

theorem info_rdom : (Tryd.prog.info? 78).map (fun i => (i.zero, i.size, i.bytes)) = some (some (.agg #[.slice Option.none 0 0, .int .u64 0]), 2, 32) := by kernel_rfl

theorem own_any (A : Option Addr) (n c : Nat) (ds : List DomB) (w : World) (hS : Doms w A n ds) (hn : n ≤ 1000) :
    Calls Tryd.prog 32 #[.slice A n c] w (DomsPost ds w) := by
  obtain ⟨i0, hi, hz0, hz1, hz2⟩ := info_parts info_rdom
  have HS := Lib.hid hS
  have Hlen := Lib.hid hS.len
  clear hS
  go_enter Tryd.func32, Tryd.ntmps32
  go_wp2_with fail
  go_loopw [3, 9] (fun u v wr => ∃ k : Nat, k ≤ n ∧ v = .int .i64 k ∧ Hid (OwnR wr w.heap.size u (ds.take k)) ∧ Hid (Kept w wr)) (fun _ v _ => n - (intOf v).toNat)
  case atStart =>
    refine ⟨0, Nat.zero_le _, rfl, ?_, Kept.box _ _⟩
    rw [List.take_zero]
    exact ⟨[], World.ownsRow_made w #[] 0 (Nat.le_refl _) (by decide) rfl, fun j hj => by simp at hj⟩
  case round =>
    obtain ⟨k, hk, rfl, HO, Hkw⟩ := hrel
    by_cases hlt : k < n
    · have hSr := HS.out.kept Hkw.out
      obtain ⟨a, rfl, hblk⟩ := hSr.addr (by omega)
      obtain ⟨xs, L, B, m, cB, Hd, hc1, hc2, HI, hL⟩ := hSr.named k hlt
      have HIw : Hid (0 < m → ∀ a, B = some a → a.block < w.heap.size) := fun hm a' ha' => by
        obtain ⟨b, e, hc⟩ := HS.out.cell (by omega)
        cases e
        obtain ⟨B', m', c', q1, _, q3⟩ := hc k hlt
        have q4 := Hkw.out.cellAt q1
        rw [hc1] at q4
        cases q4
        subst ha'
        exact q3.block hm
      obtain ⟨vs, hown, hd⟩ := HO.out
      have hkl : (ds.take k).length = k := by rw [List.length_take]; have := Hlen.out; omega
      rw [hkl] at hown hd
      have Hown := Lib.hid hown
      have Hdd := Lib.hid hd
      have Hul : Hid (∀ i, u3.ownBlock = some i → w.heap.size ≤ i ∧ i < wr.heap.size) := hown.lt
      have hszr := Hkw.out.size
      clear hSr hown hd
      go_wp2_with (at_builtin; refine wpList_append_own_at _ rfl _ _ 43 rfl w.heap.size 78 i0 (.agg #[.slice Option.none 0 0, .int .u64 0]) 2 32 Tryd.underlying43 hi hz0 hz1 hz2 rfl (by decide) _ _ _ rfl (own_kept Hown.out ((Kept.box _ _).newBlock _)) ⟨wr.heap.size + 1, 0, none⟩ 1 1 [.slice B m cB, .int .u64 L] rfl rfl (World.news_of_block (cs := #[.slice B m cB, .int .u64 L]) (t := 78) (fr := (0, 0)) (heap_new2 _ _ _)) (by simp [Value.oneCell']) (by unfold maxLen; omega) (by omega) (by simp; omega) ?_; intro v' w2 hown' hgrow _ hloc; obtain ⟨g, cap, rfl, hgb, hgl⟩ := hown'.form (by omega))
      go_roundw
      case rel =>
        have hk2 := (Kept.box wr (.cells #[.slice B m cB, .int .u64 (L : Nat)] 58)).newBlock (.cells #[.slice B m cB, .int .u64 (L : Nat)] 78)
        refine ⟨k + 1, by omega, by go_num, ?_, ?_⟩
        · show OwnR _ _ _ _
          rw [take_dom (by have := Hlen.out; omega) Hd.out]
          have := OwnR.snoc (ds := ds.take k) (d := (xs, L)) (c := cB) (by rw [hkl]; exact own_kept Hown.out hk2) ?_ (HI.out.kept hk2) ?_ hL (by rw [hkl]; exact hown') hgrow ?_
          · rw [hkl] at this; exact this
          · rw [hkl]
            intro j hj
            obtain ⟨hl, B1, m1, c1', e1, e2, e3, e4⟩ := Hdd.out j hj
            exact ⟨hl, B1, m1, c1', e1, e2, e3.kept hk2, e4⟩
          · intro hm a' ha' e
            have := Hul.out _ e
            have := HIw.out hm a' ha'
            omega
          · rcases hloc with h | h
            · exact Or.inl (by rw [← h]; rfl)
            · right
              have : g = wr.heap.size + 1 + 1 := by simpa [Value.ownBlock] using h
              simp only [World.size_alloc]
              omega
        · show Kept w w2
          exact ((Hkw.out.newBlock _).newBlock _).grown hgrow (by simp; omega) (fun i hi => (Hul.out i hi).1)
      case measure => simp [intOf]; omega
    · have e : k = n := by omega
      subst e
      rw [List.take_of_length_le (by have := Hlen.out; omega)] at HO
      obtain ⟨A5, c5, rfl⟩ := HO.out.parts
      have HD := Lib.hid (HO.out.doms (n := ds.length) rfl (by have := Hlen.out; omega))
      clear HO
      go_wp2_with fail
      go_ret
      exact ⟨A5, c5, rfl, HD.out, Hkw.out⟩
end Go.Proofs.YthddanjmnifloaaDoor

set_option maxHeartbeats 1000000
namespace Go.Proofs.YthddanjmnifloaaDoor
open Pl

theorem less_zero {a b : Nat} (ha : a < 2 ^ 64) (hb : b < 2 ^ 64) (h : ∀ k, a.testBit k = true → b.testBit k = true) : less a b = 0 := by
  apply Nat.eq_of_testBit_eq
  intro i
  rw [testBit_less ha hb, Nat.zero_testBit]
  cases e : a.testBit i with
  | false => rfl
  | true => rw [h i e]; rfl

theorem withinL_of {us vs : List DomB} (hl : us.length = vs.length) (h : ∀ i, i < us.length → withinD (us.getD i nilD) (vs.getD i nilD) = true) : withinL us vs = true := by
  unfold withinL withinUpto
  rw [Bool.and_eq_true, List.all_eq_true]
  exact ⟨by simpa using hl, fun i hi => h i (List.mem_range.1 hi)⟩

theorem may_live {d : DomB} (h : mayB d.1 d.2 = true) : d.2 < 2 ^ 64 := Nat.lt_of_lt_of_le (mayB_lt h) (Nat.pow_le_pow_right (by decide) (mayB_len h))

/-- What is left was left. -/
theorem step_within {kp : Nat → Int → Bool} {ds : List DomB} (hm : allMay ds = true) : withinL (stepB kp ds) ds = true := by
  refine withinL_of (stepB_length _ _) fun i hi => ?_
  rw [stepB_length] at hi
  have h1 := stepB_getD kp ds hi
  unfold withinD
  unfold nilD
  rw [h1, keepD_fst]
  have h2 := allMay_at hm hi
  rw [less_zero (keepD_lt _ _) (may_live h2) (fun k hk => by
    rw [testBit_keepD] at hk
    simp only [Bool.and_eq_true] at hk
    exact hk.2.1)]
  simp

/-- Of less. -/
structure Fewer (vs us : List DomB) : Prop where
  len : vs.length = us.length
  vals : ∀ i, i < us.length → (vs.getD i nilD).1 = (us.getD i nilD).1
  bits : ∀ i, i < us.length → ∀ k, (vs.getD i nilD).2.testBit k = true → (us.getD i nilD).2.testBit k = true

theorem few_fewer (ds : List DomB) (ms : List Nat) (k : Nat) : Fewer (fewUpto ds ms k) ds := by
  refine ⟨fewUpto_length _ _ _, fun i hi => ?_, fun i hi j hj => ?_⟩
  · rw [fewUpto_getD _ _ _ hi]
    split <;> rfl
  · rw [fewUpto_getD _ _ _ hi] at hj
    split at hj
    · rw [Nat.testBit_and, Bool.and_eq_true] at hj
      exact hj.1
    · exact hj

theorem Fewer.may {vs us : List DomB} (h : Fewer vs us) (hm : allMay us = true) : allMay vs = true := by
  unfold allMay
  rw [List.all_eq_true]
  intro d hd
  obtain ⟨i, hi, rfl⟩ := List.getElem_of_mem hd
  have hi' : i < us.length := by have := h.len; omega
  have hm2 := allMay_at hm hi'
  rw [mayB_iff] at hm2 ⊢
  have e : vs.getD i nilD = vs[i] := by rw [List.getD_eq_getElem?_getD, List.getElem?_eq_getElem hi]; rfl
  have h1 := h.vals i hi'
  have h2 := h.bits i hi'
  rw [e] at h1 h2
  unfold nilD at h1 h2
  rw [h1]
  refine ⟨hm2.1, lt_of_testBit fun k hk => ?_, hm2.2.2⟩
  cases hb : vs[i].2.testBit k with
  | false => rfl
  | true =>
    have := h2 k hb
    rw [Nat.testBit_lt_two_pow] at this
    · cases this
    · exact Nat.lt_of_lt_of_le hm2.2.1 (Nat.pow_le_pow_right (by decide) hk)

theorem Fewer.mem {vs us : List DomB} (h : Fewer vs us) (hm : allMay us = true) {i : Nat} (hi : i < us.length) {v : Int} (hv : v ∈ listB (vs.getD i nilD).1 (vs.getD i nilD).2) : v ∈ listB (us.getD i nilD).1 (us.getD i nilD).2 := by
  rw [mem_listB] at hv ⊢
  obtain ⟨_, k, hk, hb, hx⟩ := hv
  refine ⟨allMay_at hm hi, k, ?_, h.bits i hi k hb, ?_⟩
  · rw [h.vals i hi] at hk; exact hk
  · rw [h.vals i hi] at hx; exact hx

theorem step_falls {kp kq : Nat → Int → Bool} {vs us : List DomB} (h : Fewer vs us) (hm : allMay us = true) (hk : ∀ i, i < us.length → ∀ v ∈ listB (vs.getD i nilD).1 (vs.getD i nilD).2, kq i v = true → kp i v = true) :
    withinL (stepB kq vs) (stepB kp us) = true := by
  refine withinL_of (by rw [stepB_length, stepB_length]; exact h.len) fun i hi => ?_
  rw [stepB_length, h.len] at hi
  have h1 := stepB_getD kq vs (show i < vs.length by rw [h.len]; exact hi)
  have h2 := stepB_getD kp us hi
  have hv := h.vals i hi
  unfold withinD
  unfold nilD at hv ⊢
  rw [h1, h2, keepD_fst, keepD_fst, hv, less_zero (keepD_lt _ _) (keepD_lt _ _) (fun k hb => by
    rw [testBit_keepD] at hb ⊢
    simp only [Bool.and_eq_true] at hb ⊢
    refine ⟨hb.1, h.bits i hi k hb.2.1, ?_⟩
    have hmem := bit_mem (allMay_at (h.may hm) (show i < vs.length by rw [h.len]; exact hi)) hb.2.1
    have := hk i hi _ hmem hb.2.2
    rw [hv] at this
    exact this)]
  simp
end Go.Proofs.YthddanjmnifloaaDoor

set_option maxHeartbeats 1000000
set_option maxRecDepth 10000
namespace Go.Proofs.YthddanjmnifloaaDoor
open Go Go.RowKit Pl

theorem rkeeps_any (kq : Nat → Int → Bool) (A B : Option Addr) (n c d : Nat) (ds : List DomB) (ls : List (List Int)) (w : World) (hS : Doms w A n ds) (hL : LL w B n ls) (hm : allMay ds = true) (hkq : ∀ i x, kq i x = (ls.getD i []).contains x) (hn : n ≤ 1000) :
    Calls Tryd.prog 60 #[.slice A n c, .slice B n d] w (DomsPost (stepB kq ds) w) := by
  obtain ⟨i0, hi, hz0, hz1, hz2⟩ := info_parts info_rdom
  have HS := Lib.hid hS
  have HL := Lib.hid hL
  have Hlen := Lib.hid hS.len
  have Hm := Lib.hid hm
  have Hkq := Lib.hid hkq
  have Hsl : Hid ((stepB kq ds).length = n) := by show _ = _; rw [stepB_length]; exact hS.len
  clear hS hL hm hkq
  go_enter Tryd.func60, Tryd.ntmps60
  go_wp2_with fail
  go_loopw [5, 6] (fun u v wr => ∃ k : Nat, k ≤ n ∧ v = .int .i64 k ∧ Hid (OwnR wr w.heap.size u ((stepB kq ds).take k)) ∧ Hid (Kept w wr)) (fun _ v _ => n - (intOf v).toNat)
  case atStart =>
    refine ⟨0, Nat.zero_le _, rfl, ?_, Kept.box _ _⟩
    rw [List.take_zero]
    exact ⟨[], World.ownsRow_made w #[] 0 (Nat.le_refl _) (by decide) rfl, fun j hj => by simp at hj⟩
  case round =>
    obtain ⟨k, hk, rfl, HO, Hkw⟩ := hrel
    by_cases hlt : k < n
    · obtain ⟨a, rfl, hblk0⟩ := HS.out.addr (by omega)
      obtain ⟨xs, L, B1, m, cB, Hd, hw1, hw2, HI0, hL⟩ := HS.out.named k hlt
      obtain ⟨b, l, B2, m2, cB2, rfl, hblk20, Hl, hw3, HI20⟩ := HL.out.named k hlt
      have HI := Lib.hid (HI0.out.kept Hkw.out)
      have HI2 := Lib.hid (HI20.out.kept Hkw.out)
      have Hw1 := Lib.hid hw1
      have Hw2 := Lib.hid hw2
      have Hw3 := Lib.hid hw3
      have hc1 := Hkw.out.cellAt hw1
      have hc2 := Hkw.out.cellAt hw2
      have hc3 := Hkw.out.cellAt hw3
      have hblk : a.block < wr.heap.size := by have := Hkw.out.size; omega
      have hblk2 : b.block < wr.heap.size := by have := Hkw.out.size; omega
      clear hw1 hw2 hw3
      have Hmay : Hid (mayB xs L = true) := by
        have := allMay_at Hm.out (show k < ds.length by have := Hlen.out; omega)
        have h2 := Hd.out
        unfold nilD at h2
        rw [h2] at this
        exact this
      obtain ⟨vs, hown, hd⟩ := HO.out
      have hkl : ((stepB kq ds).take k).length = k := by rw [List.length_take]; have := Hsl.out; omega
      rw [hkl] at hown hd
      have Hul : Hid (∀ i, u5.ownBlock = some i → w.heap.size ≤ i ∧ i < wr.heap.size) := hown.lt
      have Hown := Lib.hid hown
      have Hdd := Lib.hid hd
      have hszr := Hkw.out.size
      obtain ⟨dk, hdk⟩ : ∃ dk, dk = keepD (kq k) (xs, L) := ⟨_, rfl⟩
      have Hnext : Hid ((stepB kq ds).take (k + 1) = (stepB kq ds).take k ++ [dk]) := by
        show _ = _
        refine take_dom (by have := Hsl.out; omega) ?_
        rw [hdk, ← Hd.out]
        exact stepB_getD kq ds (by have := Hlen.out; omega)
      have Hdl : Hid (dk.2 < 2 ^ 64) := by show _ < _; rw [hdk]; exact keepD_lt _ _
      have Hd1 : Hid (dk.1 = xs) := by show _ = _; rw [hdk]; rfl
      have HK : Hid (∀ W, Kept wr W → Calls Tryd.prog 84 #[.agg #[.slice B1 m cB, .int .u64 L], .slice B2 m2 cB2] W fun e w' => ∃ A' c', e = .returned (.agg #[.slice A' m c', .int .u64 (dk.2 : Nat)]) ∧ Ints w' A' m dk.1 ∧ Kept W w' ∧ Fresh W A') := fun W hW => by
        have hml : xs.length = m := HI.out.len
        refine (rkeep_p (kq k) B1 B2 m cB m2 cB2 L xs l W (fun x => by rw [Hkq.out k x, Hl.out]) (HI.out.kept hW) (HI2.out.kept hW) hL Hmay.out).mono ?_
        rintro e w' ⟨A', c', rfl, h1, h2, h3⟩
        rw [← hdk] at h1 ⊢
        have e2 : dk.1.length = m := by rw [Hd1.out]; exact hml
        rw [e2] at h1 ⊢
        exact ⟨A', c', rfl, h1, h2, h3⟩
      have hn1 := World.new_ne wr _ hc1
      have hn2 := World.new_ne wr _ hc2
      have hn3 := World.new_ne wr _ hc3
      have Hc1 := Lib.hid hc1
      have Hc2 := Lib.hid hc2
      have Hc3 := Lib.hid hc3
      clear hown hd hdk
      go_wp2_with fail
      go_region_held3 (fun W => W.cell? (a.add (k * 2)) = some (.slice B1 m cB) ∧ W.cell? ⟨a.block, (a.add (k * 2)).off + 1, Option.none⟩ = some (.int .u64 L) ∧ W.cell? (b.add k) = some (.slice B2 m2 cB2))
        (first
          | exact ⟨Hc1.out, Hc2.out, Hc3.out⟩
          | exact ⟨(Kept.drewn _).cellAt Hc1.out, (Kept.drewn _).cellAt Hc2.out, (Kept.drewn _).cellAt Hc3.out⟩
          | exact ⟨HKe.out.cellAt Hc1.out, HKe.out.cellAt Hc2.out, HKe.out.cellAt Hc3.out⟩
          | exact ⟨HKp.out.cellAt Hw1.out, HKp.out.cellAt Hw2.out, HKp.out.cellAt Hw3.out⟩
          | exact ⟨(HKe.out.newBlock _).cellAt Hc1.out, (HKe.out.newBlock _).cellAt Hc2.out, (HKe.out.newBlock _).cellAt Hc3.out⟩)
        (first
          | (go_at_call 84; refine (HK.out _ (Kept.drewn _)).mono ?_; rintro e wC ⟨B', c', rfl, hIB, hkC, hfB⟩; have HKe : Hid (Kept wr wC) := (Kept.drewn _).then hkC)
          | (refine step_append_lies _ (by rfl) _ _ _ (by rfl) w.heap.size 78 i0 _ 2 32 Tryd.underlying43 hi hz0 hz1 hz2 rfl (by omega) u5 k vs (by rfl) (own_kept Hown.out (HKe.out.newBlock _)) ⟨wC.heap.size, 0, none⟩ 1 1 [.slice B' m c', .int .u64 dk.2] (by rfl) (by rfl) (World.news_of_block (cs := #[.slice B' m c', .int .u64 dk.2]) (t := 78) (fr := (0, 0)) (heap_alloc_new wC _)) (by simp [Value.oneCell']) (by omega) (by unfold maxLen; omega) (by omega) (by have := hkC.size; simp at this ⊢; omega) (wC.heap.size + 1) (by simp) ?_; intro gg cap w3 hown3 hgrow hat hlt3; have HKp : Hid (Kept w w3) := (Hkw.out.then (HKe.out.newBlock _)).grown hgrow (by have := hkC.size; simp at this ⊢; omega) (fun i hi => (Hul.out i hi).1)))
      go_wp2_with fail
      go_roundw
      case rel =>
        refine ⟨k + 1, by omega, by go_num, ?_, HKp.out⟩
        show OwnR w3 _ _ _
        rw [Hnext.out]
        have := OwnR.snoc (ds := (stepB kq ds).take k) (d := dk) (w1 := wC.alloc (.cells #[.slice B' m c', .int .u64 dk.2] 78)) (B := B') (m := m) (c := c') (by rw [hkl]; exact own_kept Hown.out (HKe.out.newBlock _)) ?_ (hIB.kept (Kept.box _ _)) ?_ Hdl.out (by rw [hkl]; exact hown3) hgrow ?_
        · rw [hkl] at this; exact this
        · rw [hkl]
          intro j hj
          obtain ⟨hl, B3, m3, c3', e1, e2, e3, e4⟩ := Hdd.out j hj
          exact ⟨hl, B3, m3, c3', e1, e2, e3.kept (HKe.out.newBlock _), e4⟩
        · intro _ a' ha' e
          have h5 : wr.heap.size ≤ a'.block := hfB a' ha'
          have := Hul.out _ e
          omega
        · rcases hat with h | h
          · exact Or.inl h
          · exact Or.inr (by rw [h]; simp)
      case measure => simp [intOf]; omega
    · have e : k = n := by omega
      subst e
      rw [List.take_of_length_le (by have := Hsl.out; omega)] at HO
      obtain ⟨A5, c5, rfl⟩ := HO.out.parts
      have HD := Lib.hid (HO.out.doms (n := (stepB kq ds).length) rfl (by have := Hsl.out; omega))
      clear HO
      go_wp2_with fail
      go_ret
      exact ⟨A5, c5, rfl, HD.out, Hkw.out⟩

end Go.Proofs.YthddanjmnifloaaDoor

set_option maxHeartbeats 1000000
set_option maxRecDepth 10000
namespace Go.Proofs.YthddanjmnifloaaDoor
open Go Go.RowKit Pl

theorem rr1_any (K R Ct : Int) (A1 A2 A3 : Option Addr) (n1 c1 n2 c2 n3 c3 : Nat) (C : ConB) (O : Nat) (A : Option Addr) (n c : Nat) (row : List Int) (w : World) (hO : w.heap[O]? = some (.cells #[.int .i64 K, .slice A1 n1 c1, .slice A2 n2 c2, .int .i64 R, .int .i64 Ct, .slice A3 n3 c3] 37)) (hC : ConIn w K R Ct A1 A2 A3 n1 c1 n2 c2 n3 c3 C) (hI : Ints w A n row) :
    Calls Tryd.prog 36 #[.slice (some ⟨O, 0, Option.none⟩) 1 1, .slice A n c] w fun e w' => e = .returned (.bool (withinB row 1048576 && rightB C n)) ∧ Kept w w' := by
  have HO := Lib.hid hO
  have HC := Lib.hid hC
  have HI := Lib.hid hI
  have hsm := hI.small
  have Hlen := Lib.hid hI.len
  clear hO hC hI
  go_enter Tryd.func36, Tryd.ntmps36
  go_wp2_with fail
  go_loop [5] (fun v => ∃ k : Nat, k ≤ n ∧ v = .int .i64 k ∧ Hid (withinB (row.take k) 1048576 = true)) (fun v => n - (intOf v).toNat)
  case atStart => exact ⟨0, Nat.zero_le _, rfl, rfl⟩
  case round =>
    obtain ⟨k, hk, rfl, Hok⟩ := hrel
    by_cases hlt : k < n
    · obtain ⟨a, rfl, hblk⟩ := HI.out.addr (by omega)
      obtain ⟨x, Hx, hcx, hx1, hx2⟩ := HI.out.named k hlt
      have Hnext : Hid (withinB (row.take (k + 1)) 1048576 = (decide (-1048576 ≤ x) && decide (x ≤ 1048576))) := within_take (by have := Hlen.out; omega) Hx.out Hok.out
      by_cases g1 : x < -1048576
      · have hd : decide (x < -1048576) = true := by simp [g1]
        go_wp2_with fail
        go_ret
        exact ⟨ret_bool (by rw [within_bad (k := k + 1) (by rw [Hnext.out]; simp; omega)]; rfl), Kept.same _⟩
      have hd : decide (x < -1048576) = false := by simp; omega
      by_cases g2 : 1048576 < x
      · have hd2 : decide (1048576 < x) = true := by simp [g2]
        go_wp2_with fail
        go_ret
        exact ⟨ret_bool (by rw [within_bad (k := k + 1) (by rw [Hnext.out]; simp; omega)]; rfl), Kept.same _⟩
      have hd2 : decide (1048576 < x) = false := by simp; omega
      go_wp2_with fail
      go_round
      case rel => exact ⟨k + 1, by omega, by go_num, by show _ = _; rw [Hnext.out]; simp; omega⟩
      case measure => simp [intOf]; omega
    · have e : k = n := by omega
      subst e
      have Hw : Hid (withinB row 1048576 = true) := by show _ = _; have := Hok.out; rwa [List.take_of_length_le (by have := Hlen.out; omega)] at this
      go_wp2_with fail
      go_loopw [6] (fun v wr => ∃ j : Nat, j ≤ 1 ∧ v = .int .i64 j ∧ Hid (Kept w wr) ∧ Hid (j = 1 → rightB C k = true)) (fun v _ => 1 - (intOf v).toNat)
      case atStart => exact ⟨0, Nat.zero_le _, rfl, Kept.same _, fun h => by cases h⟩
      case round =>
        obtain ⟨j, hj, rfl, Hkw, Hr⟩ := hrel
        by_cases hj1 : j = 1
        · subst hj1
          have hr := Hr.out rfl
          go_wp2_with fail
          go_ret
          exact ⟨ret_bool (by simp [Hw.out]), Hkw.out⟩
        · have e : j = 0 := by omega
          subst e
          have hb := Hkw.out.heapAt HO.out
          have b0 := cell_at hb 0
          have b1 := cell_at hb 1
          have b2 := cell_at hb 2
          have b3 := cell_at hb 3
          have b4 := cell_at hb 4
          have b5 := cell_at hb 5
          simp only [List.getElem?_toArray, List.getElem?_cons_zero, List.getElem?_cons_succ] at b0 b1 b2 b3 b4 b5
          clear hb
          have HQ := Lib.hid (rright_any K R Ct A1 A2 A3 n1 c1 n2 c2 n3 c3 C k wr (HC.out.kept Hkw.out))
          generalize hbq : rightB C k = b at HQ
          have Hbq := Lib.hid hbq
          clear hbq
          clear Hr
          cases b with
          | true =>
            go_wp2_with fail
            refine HQ.out.mono ?_
            rintro e w1 ⟨rfl, hk1⟩
            have Hk1 := Lib.hid (Hkw.out.then hk1)
            clear hk1 b0 b1 b2 b3 b4 b5 HQ
            go_wp2_with fail
            go_roundw
            case rel => exact ⟨1, by omega, by go_num, Hk1.out, by first | exact fun _ => Hbq.out | exact fun _ => trivial | trivial⟩
            case measure => simp [intOf]
          | false =>
            go_wp2_with fail
            refine HQ.out.mono ?_
            rintro e w1 ⟨rfl, hk1⟩
            have Hk1 := Lib.hid (Hkw.out.then hk1)
            clear hk1 b0 b1 b2 b3 b4 b5 HQ
            go_wp2_with fail
            go_ret
            exact ⟨ret_bool (by rw [Hbq.out]; simp), Hk1.out⟩

/-- A row's values at a constraint's variables. -/
def rowVals (C : ConB) (row : List Int) : List Int := C.vars.map fun v => row.getD v.toNat 0
/-- Does an element hold? -/
def holdsE (C : ConB) (row : List Int) : Bool :=
  decide (0 ≤ (rowVals C row).getD 0 0) && decide ((rowVals C row).getD 0 0 < C.nums.length) && decide (C.nums.getD ((rowVals C row).getD 0 0).toNat 0 = (rowVals C row).getD 1 0)

theorem holds4_any (K R Ct : Int) (A1 A2 A3 : Option Addr) (n1 c1 n2 c2 n3 c3 : Nat) (C : ConB) (A : Option Addr) (n c : Nat) (row : List Int) (w : World) (hC : ConIn w K R Ct A1 A2 A3 n1 c1 n2 c2 n3 c3 C) (hI : Ints w A n row) (hK : K = 4) (hv : varsOk C.vars n = true) (hl : C.vars.length = 2) :
    Calls Tryd.prog 37 #[.agg #[.int .i64 K, .slice A1 n1 c1, .slice A2 n2 c2, .int .i64 R, .int .i64 Ct, .slice A3 n3 c3], .slice A n c] w fun e w' => e = .returned (.bool (holdsE C row)) ∧ Kept w w' := by
  subst hK
  obtain ⟨i0, hi, hz0, hz1, hz2⟩ := info_parts info_int
  have HC := Lib.hid hC
  have HI := Lib.hid hI
  have hsm := hI.small
  have Hlen := Lib.hid hI.len
  have Hl1 := Lib.hid hC.vars.len
  have Hl3 := Lib.hid hC.nums.len
  have hs3 := hC.nums.small
  have Hv := Lib.hid hv
  have hn1 : n1 = 2 := by have := hC.vars.len; omega
  have hrl : (rowVals C row).length = 2 := by unfold rowVals; rw [List.length_map]; exact hl
  have Hrl := Lib.hid hrl
  have Hrng : Hid (∀ x ∈ rowVals C row, -9223372036854775808 ≤ x ∧ x ≤ 9223372036854775807) := fun x hx => by
    unfold rowVals at hx
    rw [List.mem_map] at hx
    obtain ⟨v, _, rfl⟩ := hx
    exact HI.out.getD_rng _
  subst hn1
  clear hC hI hv hl hrl
  have HB : Hid (∀ wr, Kept (w.alloc (.cells #[.int .i64 4, .slice A1 2 c1, .slice A2 n2 c2, .int .i64 R, .int .i64 Ct, .slice A3 n3 c3] 37)) wr → wr.heap[w.heap.size]? = some (.cells #[.int .i64 4, .slice A1 2 c1, .slice A2 n2 c2, .int .i64 R, .int .i64 Ct, .slice A3 n3 c3] 37)) := fun wr h => h.heapAt (heap_new _ _)
  go_enter Tryd.func37, Tryd.ntmps37
  go_wp2_with fail
  go_loopw [5, 6] (fun u v wr => ∃ k : Nat, k ≤ 2 ∧ v = .int .i64 k ∧ wr.ownsRow (w.heap.size + 1) 3 1 u k (((rowVals C row).take k).map (Value.int .i64)) ∧ Hid (Kept (w.alloc (.cells #[.int .i64 4, .slice A1 2 c1, .slice A2 n2 c2, .int .i64 R, .int .i64 Ct, .slice A3 n3 c3] 37)) wr)) (fun _ v _ => 2 - (intOf v).toNat)
  case atStart => exact ⟨0, Nat.zero_le _, rfl, own_empty (heap_new2 _ _ _) (Nat.le_refl _), Kept.box _ _⟩
  case round =>
    obtain ⟨k, hk, rfl, hown, Hkw⟩ := hrel
    have hb := HB.out wr Hkw.out
    have b0 := cell_at hb 0
    have b1 := cell_at hb 1
    have b2 := cell_at hb 2
    have b3 := cell_at hb 3
    have b4 := cell_at hb 4
    have b5 := cell_at hb 5
    simp only [List.getElem?_toArray, List.getElem?_cons_zero, List.getElem?_cons_succ] at b0 b1 b2 b3 b4 b5
    clear hb
    have hszr := Hkw.out.size
    simp only [World.size_alloc] at hszr
    by_cases hlt : k < 2
    · have hSr := HC.out.vars.kept ((Kept.box _ _).then Hkw.out)
      have hRr := HI.out.kept ((Kept.box _ _).then Hkw.out)
      obtain ⟨a, rfl, hblk⟩ := hSr.addr (by omega)
      obtain ⟨x, Hx, hcx, _, _⟩ := hSr.named k hlt
      obtain ⟨hx1, hx2⟩ := varsOk_rng Hv.out (show k < C.vars.length by have := Hl1.out; omega)
      rw [Hx.out] at hx1 hx2
      obtain ⟨p, rfl⟩ := Int.eq_ofNat_of_zero_le hx1
      have hpn : p < n := by omega
      obtain ⟨ar, rfl, hblk2⟩ := hRr.addr (by omega)
      obtain ⟨y, Hy, hcy, hy1, hy2⟩ := hRr.named p hpn
      have Htake : Hid (((rowVals C row).take (k + 1)).map (Value.int .i64) = ((rowVals C row).take k).map (Value.int .i64) ++ [.int .i64 y]) := by
        show _ = _
        rw [take_succ_getD (x := y) (by have := Hrl.out; omega) ?_]
        · simp
        · unfold rowVals
          rw [List.getD_eq_getElem?_getD, List.getElem?_map]
          have h2 := Hx.out
          rw [List.getD_eq_getElem?_getD, List.getElem?_eq_getElem (by have := Hl1.out; omega)] at h2
          rw [List.getElem?_eq_getElem (by have := Hl1.out; omega)]
          simp only [Option.getD_some] at h2
          simp only [Option.map_some, Option.getD_some, h2, Int.toNat_natCast]
          exact Hy.out
      clear hSr hRr
      go_wp2_with (at_builtin; refine wpList_append_own _ rfl _ _ 23 rfl (w.heap.size + 1) 3 i0 (.int .i64 0) 1 8 Tryd.underlying23 hi hz0 hz1 hz2 rfl (by decide) _ _ _ rfl (hown.alloc _) ⟨wr.heap.size, 0, none⟩ 1 1 [.int .i64 y] rfl rfl (cell_one_new _ _ _) (by simp [Value.oneCell']) (by unfold maxLen; omega) (by omega) (by simp; omega) ?_; intro v' w2 hown' hgrow _; clear b0 b1 b2 b3 b4 b5)
      go_roundw
      case rel => exact ⟨k + 1, by omega, by go_num, by rw [Htake.out]; exact hown', Hkw.out.appended hown (by simp) hgrow⟩
      case measure => simp [intOf]; omega
    · have e : k = 2 := by omega
      subst e
      rw [List.take_of_length_le (by have := Hrl.out; omega)] at hown
      obtain ⟨A', c', rfl, hI', hfr⟩ := Ints.of_own hown Hrng.out
      obtain ⟨a, rfl, hba⟩ := hI'.addr (by omega)
      obtain ⟨ba, oa, ea, hca⟩ := hI'.plain (by omega)
      cases ea
      have ca0 := hca 0 (by have := Hrl.out; omega)
      have ca1 := hca 1 (by have := Hrl.out; omega)
      obtain ⟨x0, hx0⟩ : ∃ x0, x0 = (rowVals C row).getD 0 0 := ⟨_, rfl⟩
      obtain ⟨x1, hx1⟩ : ∃ x1, x1 = (rowVals C row).getD 1 0 := ⟨_, rfl⟩
      have Hh : Hid (holdsE C row = (decide (0 ≤ x0) && decide (x0 < n3) && decide (C.nums.getD x0.toNat 0 = x1))) := by
        show _ = _
        unfold holdsE; rw [← hx0, ← hx1, Hl3.out]
      rw [← hx0] at ca0
      rw [← hx1] at ca1
      simp only [Nat.add_zero] at ca0
      have Hca0 := Lib.hid ca0
      have Hca1 := Lib.hid ca1
      clear hca hI' hfr hown hx0 hx1
      go_wp2_with fail
      clear b0 b1 b2 b3 b4 b5 ca0 ca1
      go_loopw [7] (fun v wq => ∃ j : Nat, j ≤ n3 ∧ v = .int .i64 j ∧ Hid (Kept wr wq) ∧ Hid (x0 < 0 ∨ (j : Int) ≤ x0)) (fun v _ => n3 - (intOf v).toNat)
      case atStart => exact ⟨0, Nat.zero_le _, rfl, Kept.same _, by show _ ∨ _; omega⟩
      case round =>
        obtain ⟨j, hj, rfl, Hkq, Hx0⟩ := hrel
        have Hk2 := Lib.hid (Hkw.out.then Hkq.out)
        have hb := HB.out wr Hk2.out
        have b0 := cell_at hb 0
        have b1 := cell_at hb 1
        have b2 := cell_at hb 2
        have b3 := cell_at hb 3
        have b4 := cell_at hb 4
        have b5 := cell_at hb 5
        simp only [List.getElem?_toArray, List.getElem?_cons_zero, List.getElem?_cons_succ] at b0 b1 b2 b3 b4 b5
        clear hb
        have ca0 := Hkq.out.cellAt Hca0.out
        have ca1 := Hkq.out.cellAt Hca1.out
        have hlb : w.heap.size < wr.heap.size := World.block_lt_of_cell? wr _ b0
        have hlv : ba < wr.heap.size := World.block_lt_of_cell? wr _ ca0
        by_cases hlt2 : j < n3
        · have hSq := HC.out.nums.kept ((Kept.box _ _).then Hk2.out)
          obtain ⟨a3, rfl, hb3⟩ := hSq.addr (by omega)
          obtain ⟨y, Hy, hcy, _, _⟩ := hSq.named j hlt2
          clear hSq
          by_cases he : x0 = (j : Int)
          · have hd5 : (x0 == (j : Int)) = true := by simp [he]
            have hh : holdsE C row = decide (y = x1) := by
              rw [Hh.out, he, Int.toNat_natCast, Hy.out]
              have a1 : decide ((0 : Int) ≤ j) = true := by simp
              have a2 : decide ((j : Int) < n3) = true := by simp; omega
              rw [a1, a2]; rfl
            have Hh2 := Lib.hid hh
            clear hh
            go_wp2_with fail
            refine wp_region_quiet_below (by kernel_rfl) (by kernel_rfl) ?_
            repeat (any_goals (first | go_big_quiet_step ((fail)) | quiet_step ((fail)) | (refine wpQuiet_step (fun K hK => ?_); go_simp; split <;> (refine hK _ ?_; clear hK K))))
            all_goals (refine wpQuiet_nil ?_; intro w1 hw'; replace hw' := Kept.regrown hw')
            have Hk9 := Lib.hid ((Kept.box _ _).then (Hk2.out.then hw'))
            clear hw'
            go_wp2_with fail
            go_ret
            exact ⟨ret_bool (by rw [Hh2.out]; rfl), Hk9.out⟩
          · have hd5 : (x0 == (j : Int)) = false := by simp [he]
            go_wp2_with fail
            go_roundw
            case rel => exact ⟨j + 1, by omega, by go_num, Hkq.out, by show _ ∨ _; have := Hx0.out; omega⟩
            case measure => simp [intOf]; omega
        · have e : j = n3 := by omega
          subst e
          have hh : holdsE C row = false := by
            rw [Hh.out]
            have := Hx0.out
            by_cases h0 : x0 < 0
            · have : decide (0 ≤ x0) = false := by simp; omega
              rw [this]; rfl
            · have : decide (x0 < (j : Int)) = false := by simp; omega
              rw [this]; simp
          have Hh2 := Lib.hid hh
          clear hh
          go_wp2_with fail
          go_ret
          exact ⟨ret_bool (by rw [Hh2.out]), (Kept.box _ _).then Hk2.out⟩
end Go.Proofs.YthddanjmnifloaaDoor

set_option maxHeartbeats 1000000
set_option maxRecDepth 10000
namespace Go.Proofs.YthddanjmnifloaaDoor
open Go Go.RowKit Pl

theorem box_con (w : World) (K R Ct : Int) (A1 A2 A3 : Option Addr) (n1 c1 n2 c2 n3 c3 : Nat) : (w.alloc (.cells #[.int .i64 K, .slice A1 n1 c1, .slice A2 n2 c2, .int .i64 R, .int .i64 Ct, .slice A3 n3 c3] 37)).heap[w.heap.size]? = some (.cells #[.int .i64 K, .slice A1 n1 c1, .slice A2 n2 c2, .int .i64 R, .int .i64 Ct, .slice A3 n3 c3] 37) := heap_new _ _

theorem conbox6 {W : World} {O : Nat} {v0 v1 v2 v3 v4 v5 : Value} {t : TypeId} {fr : Nat × Nat} (h : W.heap[O]? = some (.cells #[v0, v1, v2, v3, v4, v5] t fr)) : W.cell? ⟨O, 0, Option.none⟩ = some v0 ∧ W.cell? ⟨O, 1, Option.none⟩ = some v1 ∧ W.cell? ⟨O, 2, Option.none⟩ = some v2 ∧ W.cell? ⟨O, 3, Option.none⟩ = some v3 ∧ W.cell? ⟨O, 4, Option.none⟩ = some v4 ∧ W.cell? ⟨O, 5, Option.none⟩ = some v5 :=
  ⟨cell_at h 0, cell_at h 1, cell_at h 2, cell_at h 3, cell_at h 4, cell_at h 5⟩

theorem rowVals_getD (C : ConB) (row : List Int) {i : Nat} (hi : i < C.vars.length) : (rowVals C row).getD i 0 = row.getD (C.vars.getD i 0).toNat 0 := by
  unfold rowVals
  rw [List.getD_eq_getElem?_getD, List.getElem?_map, List.getD_eq_getElem?_getD (l := C.vars), List.getElem?_eq_getElem hi]
  rfl
theorem leftL_iff {row : List Int} {ds : List DomB} : leftL row ds = true ↔ row.length = ds.length ∧ ∀ i, i < ds.length → row.getD i 0 ∈ listB (ds.getD i nilD).1 (ds.getD i nilD).2 := by
  unfold leftL leftUpto
  rw [Bool.and_eq_true, List.all_eq_true, decide_eq_true_eq]
  constructor
  · rintro ⟨h1, h2⟩
    exact ⟨h1, fun i hi => List.contains_iff_mem.1 (h2 i (List.mem_range.2 hi))⟩
  · rintro ⟨h1, h2⟩
    exact ⟨h1, fun i hi => List.contains_iff_mem.2 (h2 i (List.mem_range.1 hi))⟩
/-- No value that the keeping lets by is lost. -/
theorem step_sound {kp : Nat → Int → Bool} {ds : List DomB} {row : List Int} (hm : allMay ds = true) (h : leftL row ds = true) (hk : ∀ i, i < ds.length → kp i (row.getD i 0) = true) : leftL row (stepB kp ds) = true := by
  rw [leftL_iff] at *
  rw [stepB_length]
  refine ⟨h.1, fun i hi => ?_⟩
  have e := stepB_getD kp ds hi
  unfold nilD at h ⊢
  rw [e]
  exact (mem_keepD (allMay_at hm hi)).2 ⟨h.2 i hi, hk i hi⟩

/-- Domains of single values. -/
def singles (row : List Int) : List DomB := row.map fun v => ([v], 1)
theorem singles_length (row : List Int) : (singles row).length = row.length := by simp [singles]
theorem singles_getD (row : List Int) {i : Nat} (hi : i < row.length) : (singles row).getD i nilD = ([row.getD i 0], 1) := by
  unfold singles
  rw [List.getD_eq_getElem?_getD, List.getElem?_map, List.getD_eq_getElem?_getD, List.getElem?_eq_getElem hi]
  rfl
theorem single_may {v : Int} (h : -1048576 ≤ v ∧ v ≤ 1048576) : mayB [v] 1 = true := by
  unfold mayB okUpto okAt
  simp [h.1, h.2]
theorem single_list {v : Int} (h : -1048576 ≤ v ∧ v ≤ 1048576) : listB [v] 1 = [v] := by
  unfold listB
  rw [if_pos (single_may h)]
  unfold valsOf
  have e : elemsI 1 = [0] := by decide
  rw [e]; rfl
theorem single_keep (f : Int → Bool) (v : Int) : (keepD f ([v], 1)).2 = if f v = true then 1 else 0 := by
  apply Nat.eq_of_testBit_eq
  intro i
  rw [testBit_keepD]
  by_cases hi : i = 0
  · subst hi
    cases h : f v <;> simp [h]
  · have h1 : Nat.testBit 1 i = false := by
      cases i with
      | zero => exact absurd rfl hi
      | succ n => rw [Nat.testBit_succ]; simp
    rw [h1]
    split
    · rw [h1]; simp
    · simp
theorem allMay_singles {row : List Int} (h : withinB row 1048576 = true) : allMay (singles row) = true := by
  unfold allMay singles
  rw [List.all_map, List.all_eq_true]
  intro v hv
  exact single_may (by have := withinB_mem h hv; omega)

/-- Is all left of the constraint's variables? -/
def allLive (vs : List Int) (ds : List DomB) (k : Nat) : Bool := (List.range k).all fun i => decide ((ds.getD (vs.getD i 0).toNat nilD).2 = 1)
theorem allLive_succ (vs : List Int) (ds : List DomB) (k : Nat) : allLive vs ds (k + 1) = (allLive vs ds k && decide ((ds.getD (vs.getD k 0).toNat nilD).2 = 1)) := by
  unfold allLive
  rw [List.range_succ, List.all_append]
  simp

theorem single_live {kp : Nat → Int → Bool} {row : List Int} {i : Nat} (hi : i < row.length) : ((stepB kp (singles row)).getD i nilD).2 = 1 ↔ kp i (row.getD i 0) = true := by
  have h1 := stepB_getD kp (singles row) (i := i) (by rw [singles_length]; exact hi)
  have h2 := singles_getD row hi
  unfold nilD at h2 ⊢
  rw [h1, h2, single_keep]
  cases kp i (row.getD i 0) <;> simp

end Go.Proofs.YthddanjmnifloaaDoor

set_option maxHeartbeats 1000000
set_option maxRecDepth 10000
namespace Go.Proofs.YthddanjmnifloaaDoor
open Go Go.RowKit Pl

theorem looktab_any (K R Ct : Int) (A1 A2 A3 : Option Addr) (n1 c1 n2 c2 n3 c3 : Nat) (C : ConB) (V : Int) (w : World) (hC : ConIn w K R Ct A1 A2 A3 n1 c1 n2 c2 n3 c3 C) :
    Calls Tryd.prog 80 #[.agg #[.int .i64 K, .slice A1 n1 c1, .slice A2 n2 c2, .int .i64 R, .int .i64 Ct, .slice A3 n3 c3, .int .i64 V]] w fun e w' => e = .returned (.bool (tabB C V)) ∧ Kept w w' := by
  have HC := Lib.hid hC
  clear hC
  go_enter Tryd.func80, Tryd.ntmps80
  go_wp2_with fail
  refine (variables_any K R Ct A1 A2 A3 n1 c1 n2 c2 n3 c3 C V 1 8 _ (HC.out.kept (Kept.box _ _))).mono ?_
  rintro e w1 ⟨rfl, hk⟩
  have Hb := Lib.hid (hk.heapAt (box_look w K R Ct V A1 A2 A3 n1 c1 n2 c2 n3 c3))
  have Hk := Lib.hid ((Kept.box _ _).then hk)
  have hb0 := cell_at Hb.out 0
  have hb1 := cell_at Hb.out 1
  have hb2 := cell_at Hb.out 2
  have hb3 := cell_at Hb.out 3
  have hb4 := cell_at Hb.out 4
  have hb5 := cell_at Hb.out 5
  have hb6 := cell_at Hb.out 6
  simp only [List.getElem?_toArray, List.getElem?_cons_zero, List.getElem?_cons_succ] at hb0 hb1 hb2 hb3 hb4 hb5 hb6
  have hl1 := HC.out.vars.len
  have hl3 := HC.out.nums.len
  have hs1 := HC.out.vars.small
  have hs3 := HC.out.nums.small
  have HB : Hid (tabB C V = (variablesB C V 1 8 && bareB C 0 96 && decide ((n3 : Int) % n1 = 0))) := by
    show _ = _
    unfold tabB; rw [hl1, hl3]
  have Hv : Hid (variablesB C V 1 8 = true → 1 ≤ n1) := by
    intro h
    unfold variablesB at h
    rw [hl1] at h
    simp at h
    omega
  clear hk
  generalize variablesB C V 1 8 = b at HB Hv
  cases b with
  | false =>
    go_wp2_with fail
    go_ret
    exact ⟨ret_bool (by rw [HB.out]; simp), Hk.out⟩
  | true =>
    have hn1 := Hv.out rfl
    go_wp2_with fail
    refine (bare_any K R Ct A1 A2 A3 n1 c1 n2 c2 n3 c3 C V 0 96 _ (HC.out.kept Hk.out)).mono ?_
    rintro e w2 ⟨rfl, hk2⟩
    have Hk2 := Lib.hid (Hk.out.then hk2)
    have c1 := hk2.cellAt hb1
    have c5 := hk2.cellAt hb5
    clear hk2 hb0 hb1 hb2 hb3 hb4 hb5 hb6
    generalize bareB C 0 96 = d at HB
    cases d with
    | false =>
      go_wp2_with fail
      go_ret
      exact ⟨ret_bool (by rw [HB.out]; simp), Hk2.out⟩
    | true =>
      have hne : ((n1 : Int) == 0) = false := by simp; omega
      have hn0 : (n1 : Int) ≠ 0 := by omega
      go_wp2_with fail
      go_ret
      exact ⟨ret_bool (by rw [HB.out]; simp only [Bool.true_and]; rfl), Hk2.out⟩

theorem lookelement_q {R Ct V : Int} {A1 A2 A3 : Option Addr} {n1 c1 n2 c2 n3 c3 : Nat} {C : ConB} (W : World) (h : ConIn W 4 R Ct A1 A2 A3 n1 c1 n2 c2 n3 c3 C) : Calls Tryd.prog 78 #[.agg #[.int .i64 4, .slice A1 n1 c1, .slice A2 n2 c2, .int .i64 R, .int .i64 Ct, .slice A3 n3 c3, .int .i64 V]] W fun e w' => e = .returned (.bool (elemB C V)) ∧ Kept W w' := lookelem_any 4 R Ct A1 A2 A3 n1 c1 n2 c2 n3 c3 C V W h
theorem looktable_q {R Ct V : Int} {A1 A2 A3 : Option Addr} {n1 c1 n2 c2 n3 c3 : Nat} {C : ConB} (W : World) (h : ConIn W 6 R Ct A1 A2 A3 n1 c1 n2 c2 n3 c3 C) : Calls Tryd.prog 80 #[.agg #[.int .i64 6, .slice A1 n1 c1, .slice A2 n2 c2, .int .i64 R, .int .i64 Ct, .slice A3 n3 c3, .int .i64 V]] W fun e w' => e = .returned (.bool (tabB C V)) ∧ Kept W w' := looktab_any 6 R Ct A1 A2 A3 n1 c1 n2 c2 n3 c3 C V W h
theorem right_elem (K R Ct : Int) (A1 A2 A3 : Option Addr) (n1 c1 n2 c2 n3 c3 : Nat) (C : ConB) (V : Int) (w : World) (hC : ConIn w K R Ct A1 A2 A3 n1 c1 n2 c2 n3 c3 C) (hK : K = 4) :
    Calls Tryd.prog 48 #[.agg #[.int .i64 K, .slice A1 n1 c1, .slice A2 n2 c2, .int .i64 R, .int .i64 Ct, .slice A3 n3 c3], .int .i64 V] w fun e w' => e = .returned (.bool (elemB C V)) ∧ Kept w w' := by
  subst hK
  have HC := Lib.hid hC
  clear hC
  go_enter Tryd.func48, Tryd.ntmps48
  go_wp2_with fail
  have HQ : Hid (∀ W, ConIn W 4 R Ct A1 A2 A3 n1 c1 n2 c2 n3 c3 C → Calls Tryd.prog 78 #[.agg #[.int .i64 4, .slice A1 n1 c1, .slice A2 n2 c2, .int .i64 R, .int .i64 Ct, .slice A3 n3 c3, .int .i64 V]] W fun e w' => e = .returned (.bool (elemB C V)) ∧ Kept W w') := fun W h => lookelement_q W h
  generalize hb : elemB C V = b at HQ
  have HC2 := Lib.hid (HC.out.kept ((Kept.box w (.cells #[.int .i64 4, .slice A1 n1 c1, .slice A2 n2 c2, .int .i64 R, .int .i64 Ct, .slice A3 n3 c3] 37)).newBlock (.cells #[.func (.func 75) #[] #[], .func (.func 76) #[] #[], .func (.func 77) #[] #[], .func (.func 78) #[] #[], .func (.func 79) #[] #[], .func (.func 80) #[] #[]] 91)))
  refine wp_region_quiet_below (by kernel_rfl) (by kernel_rfl) ?_
  repeat (any_goals (first | go_big_quiet_step (((go_at_call 78; exact Calls.regrown_of (HQ.out _ (HC2.out.kept (below_regrown _ _ _)))))) | quiet_step (((go_at_call 78; exact Calls.regrown_of (HQ.out _ (HC2.out.kept (below_regrown _ _ _)))))) | (refine wpQuiet_step (fun K hK => ?_); go_simp; split <;> (refine hK _ ?_; clear hK K))))
  all_goals (refine wpQuiet_nil ?_; intro w1 hw'; replace hw' := Kept.regrown hw')
  have Hk := Lib.hid (((Kept.box _ _).newBlock _).then hw')
  clear hw'
  go_wp2_with fail
  go_ret
  subst hb
  exact ⟨ret_bool (by simp), Hk.out⟩

theorem right_tab (K R Ct : Int) (A1 A2 A3 : Option Addr) (n1 c1 n2 c2 n3 c3 : Nat) (C : ConB) (V : Int) (w : World) (hC : ConIn w K R Ct A1 A2 A3 n1 c1 n2 c2 n3 c3 C) (hK : K = 6) :
    Calls Tryd.prog 48 #[.agg #[.int .i64 K, .slice A1 n1 c1, .slice A2 n2 c2, .int .i64 R, .int .i64 Ct, .slice A3 n3 c3], .int .i64 V] w fun e w' => e = .returned (.bool (tabB C V)) ∧ Kept w w' := by
  subst hK
  have HC := Lib.hid hC
  clear hC
  go_enter Tryd.func48, Tryd.ntmps48
  go_wp2_with fail
  have HQ : Hid (∀ W, ConIn W 6 R Ct A1 A2 A3 n1 c1 n2 c2 n3 c3 C → Calls Tryd.prog 80 #[.agg #[.int .i64 6, .slice A1 n1 c1, .slice A2 n2 c2, .int .i64 R, .int .i64 Ct, .slice A3 n3 c3, .int .i64 V]] W fun e w' => e = .returned (.bool (tabB C V)) ∧ Kept W w') := fun W h => looktable_q W h
  generalize hb : tabB C V = b at HQ
  have HC2 := Lib.hid (HC.out.kept ((Kept.box w (.cells #[.int .i64 6, .slice A1 n1 c1, .slice A2 n2 c2, .int .i64 R, .int .i64 Ct, .slice A3 n3 c3] 37)).newBlock (.cells #[.func (.func 75) #[] #[], .func (.func 76) #[] #[], .func (.func 77) #[] #[], .func (.func 78) #[] #[], .func (.func 79) #[] #[], .func (.func 80) #[] #[]] 91)))
  refine wp_region_quiet_below (by kernel_rfl) (by kernel_rfl) ?_
  repeat (any_goals (first | go_big_quiet_step (((go_at_call 80; exact Calls.regrown_of (HQ.out _ (HC2.out.kept (below_regrown _ _ _)))))) | quiet_step (((go_at_call 80; exact Calls.regrown_of (HQ.out _ (HC2.out.kept (below_regrown _ _ _)))))) | (refine wpQuiet_step (fun K hK => ?_); go_simp; split <;> (refine hK _ ?_; clear hK K))))
  all_goals (refine wpQuiet_nil ?_; intro w1 hw'; replace hw' := Kept.regrown hw')
  have Hk := Lib.hid (((Kept.box _ _).newBlock _).then hw')
  clear hw'
  go_wp2_with fail
  go_ret
  subst hb
  exact ⟨ret_bool (by simp), Hk.out⟩
end Go.Proofs.YthddanjmnifloaaDoor

set_option maxHeartbeats 1000000
set_option maxRecDepth 10000
namespace Go.Proofs.YthddanjmnifloaaDoor
open Go Go.RowKit Pl

/-- May a step of a constraint, of kind q, be taken? -/
def goK (q : Int) (C : ConB) (ds : List DomB) : Bool := decide (C.kind = q) && rightB C ds.length && allMay ds
theorem goK_parts {q : Int} {C : ConB} {ds : List DomB} (h : goK q C ds = true) : C.kind = q ∧ rightB C ds.length = true ∧ allMay ds = true := by
  unfold goK at h
  simp only [Bool.and_eq_true, decide_eq_true_eq] at h
  exact ⟨h.1.1, h.1.2, h.2⟩
theorem rightB_vars {C : ConB} {V : Int} (h : rightB C V = true) : varsOk C.vars V = true := by
  unfold rightB at h
  rw [Bool.and_eq_true] at h
  exact h.1
theorem rightB_len {C : ConB} {V : Int} (h : rightB C V = true) : 1 ≤ C.vars.length ∧ C.vars.length ≤ 9 := by
  unfold rightB sumR plainR at h
  rw [Bool.and_eq_true] at h
  obtain ⟨_, h⟩ := h
  split at h
  · simp at h; omega
  · split at h
    · simp at h; omega
    · simp only [Bool.and_eq_true] at h
      obtain ⟨_, h⟩ := h
      split at h
      · simp at h; omega
      · split at h
        · simp at h; omega
        · split at h
          · simp at h; omega
          · split at h
            · simp at h; omega
            · simp at h
theorem tabB_right {C : ConB} {V : Int} (hk : C.kind = 6) : tabB C V = rightB C V := by
  unfold rightB
  simp only [hk]
  unfold tabB variablesB bareB plainR
  simp only [hk]
  rw [Bool.eq_iff_iff]
  simp
  constructor
  · rintro ⟨⟨⟨⟨h1, h2⟩, h3⟩, ⟨⟨⟨⟨h4, h5⟩, h6⟩, h7⟩, h8⟩⟩, h9⟩
    exact ⟨h3, ⟨⟨⟨⟨h4, h5⟩, h6⟩, h8⟩, by omega⟩, ⟨by omega, by omega⟩, h9⟩
  · rintro ⟨h1, ⟨⟨⟨⟨h2, h3⟩, h4⟩, h5⟩, h6⟩, ⟨h7, h8⟩, h9⟩
    exact ⟨⟨⟨⟨by omega, by omega⟩, h1⟩, ⟨⟨⟨⟨h2, h3⟩, h4⟩, by omega⟩, h5⟩⟩, h9⟩
theorem right6_any (K R Ct : Int) (A1 A2 A3 : Option Addr) (n1 c1 n2 c2 n3 c3 : Nat) (C : ConB) (V : Int) (w : World) (hC : ConIn w K R Ct A1 A2 A3 n1 c1 n2 c2 n3 c3 C) (hK : K = 6) :
    Calls Tryd.prog 48 #[.agg #[.int .i64 K, .slice A1 n1 c1, .slice A2 n2 c2, .int .i64 R, .int .i64 Ct, .slice A3 n3 c3], .int .i64 V] w fun e w' => e = .returned (.bool (rightB C V)) ∧ Kept w w' := by
  have h := right_tab K R Ct A1 A2 A3 n1 c1 n2 c2 n3 c3 C V w hC hK
  rwa [tabB_right (hC.kind.trans hK)] at h
end Go.Proofs.YthddanjmnifloaaDoor

set_option maxHeartbeats 1000000
set_option maxRecDepth 10000
namespace Go.Proofs.YthddanjmnifloaaDoor
open Go Go.RowKit Pl

theorem tab_not_any (A : Option Addr) (n c L : Nat) (xs : List Int) (w : World) (hS : Ints w A n xs) (hL : L < 2 ^ 64) :
    Calls Tryd.prog 65 #[.agg #[.slice A n c, .int .u64 L]] w fun e w' => e = .returned (.bool (!mayB xs L)) ∧ Kept w w' := by
  have HS := Lib.hid hS
  have HL := Lib.hid hL
  clear hS hL
  go_enter Tryd.func65, Tryd.ntmps65
  go_wp2_with fail
  refine (may_any A n c L xs _ (HS.out.kept (Kept.box _ _)) HL.out).mono ?_
  rintro e w1 ⟨rfl, hk⟩
  have Hk := Lib.hid ((Kept.box _ _).then hk)
  clear hk
  generalize hb : mayB xs L = b
  go_wp2
  go_ret
  subst hb
  exact ⟨ret_bool rfl, Hk.out⟩

/-- Where the first one that may not be stands. -/
theorem tab_index_any (A : Option Addr) (n c : Nat) (ds : List DomB) (w : World) (hS : Doms w A n ds) :
    Calls Tryd.prog 81 #[.slice A n c, .func (.func 65) #[] #[]] w fun e w' => ∃ i : Int, e = .returned (.int .i64 i) ∧ (decide (0 ≤ i) = !allMay ds) ∧ Kept w w' := by
  have HS := Lib.hid hS
  have hsm := hS.small
  have Hlen := Lib.hid hS.len
  clear hS
  go_enter Tryd.func81, Tryd.ntmps81
  go_wp2_with fail
  go_loopw [8] (fun v wr => ∃ k : Nat, k ≤ n ∧ v = .int .i64 k ∧ Hid (Kept w wr) ∧ Hid (allMay (ds.take k) = true)) (fun v _ => n - (intOf v).toNat)
  case atStart => exact ⟨0, Nat.zero_le _, rfl, Below.refl _ _, rfl⟩
  case round =>
    obtain ⟨k, hk, rfl, Hkw, Hok⟩ := hrel
    by_cases hlt : k < n
    · have hSr := HS.out.kept Hkw.out
      obtain ⟨a, rfl, hblk⟩ := hSr.addr (by omega)
      obtain ⟨xs, L, B, m, cB, Hd, hc1, hc2, HI, hL⟩ := hSr.named k hlt
      have Hnext : Hid (allMay (ds.take (k + 1)) = mayB xs L) := allMay_take (by have := Hlen.out; omega) Hd.out Hok.out
      have HQ := Lib.hid (tab_not_any B m cB L xs wr HI.out hL)
      clear hSr
      generalize hm : mayB xs L = b at HQ Hnext
      clear hm
      go_wp2_with fail
      refine HQ.out.mono ?_
      rintro e w1 ⟨rfl, hk1⟩
      have Hk1 := Lib.hid (Hkw.out.then hk1)
      clear hk1 HQ
      cases b with
      | true =>
        simp only [Bool.not_true]
        go_wp2
        go_roundw
        case rel => exact ⟨k + 1, by omega, by go_num, Hk1.out, Hnext.out⟩
        case measure => simp [intOf]; omega
      | false =>
        simp only [Bool.not_false]
        go_wp2
        go_ret
        refine ⟨k, rfl, ?_, Hk1.out⟩
        rw [allMay_bad Hnext.out]
        simp
    · have e : k = n := by omega
      subst e
      have h2 : allMay ds = true := by have := Hok.out; rwa [List.take_of_length_le (by have := Hlen.out; omega)] at this
      go_wp2
      go_ret
      exact ⟨-1, rfl, by rw [h2]; decide, Hkw.out⟩

theorem tab_contains_any (A : Option Addr) (n c : Nat) (ds : List DomB) (w : World) (hS : Doms w A n ds) :
    Calls Tryd.prog 49 #[.slice A n c, .func (.func 65) #[] #[]] w fun e w' => e = .returned (.bool (!allMay ds)) ∧ Kept w w' := by
  have HS := Lib.hid hS
  clear hS
  go_enter Tryd.func49, Tryd.ntmps49
  go_wp2_with fail
  refine (tab_index_any A n c ds _ HS.out).mono ?_
  rintro e w1 ⟨i, rfl, hi, hk⟩
  have Hi := Lib.hid hi
  clear hi
  go_wp2
  go_ret
  exact ⟨ret_bool Hi.out, hk⟩
end Go.Proofs.YthddanjmnifloaaDoor

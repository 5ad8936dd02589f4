/-
  Contracts and plain laws that the card rests on, part 10.
-/
import Derived.Test.YtekcenacpklpgaaDoorMSingle9
import Derived.Test.YtekcenacpklpgaaDoorMSingle3
import Derived.Test.YtekcenacpklpgaaDoorMSingle6
import Derived.Test.YtekcenacpklpgaaDoorMSingle5
import Derived.Maps.OwnOps
import Derived.StillTailTactics
set_option maxHeartbeats 1000000
set_option maxRecDepth 10000
namespace Go.Proofs.YtekcenacpklpgaaDoor
open Go Go.RowKit Pl

theorem ends_bnd {cs : List Int} {ls : Nat → List Int} {but : Int} {m : Nat} (hc : ∀ i, -1048576 ≤ cs.getD i 0 ∧ cs.getD i 0 ≤ 1048576) (hl : ∀ i, i < m → 0 < (ls i).length ∧ ∀ x ∈ ls i, -1048576 ≤ x ∧ x ≤ 1048576) :
    ∀ j, j ≤ m → -(1099511627776 * (j : Int)) ≤ lowBut cs ls but j ∧ highBut cs ls but j ≤ 1099511627776 * (j : Int) := by
  intro j
  induction j with
  | zero => intro _; simp [lowBut, highBut]
  | succ j ih =>
    intro hj
    have h1 := ih (by omega)
    have h2 := mn_rng (hc j) (hl j (by omega)).2 (hl j (by omega)).1
    simp only [lowBut, highBut]
    have e : ((j + 1 : Nat) : Int) = (j : Int) + 1 := by omega
    rw [e]
    split <;> omega
theorem ends_all {cs : List Int} {ls : Nat → List Int} {but : Int} {m : Nat} (hc : ∀ i, -1048576 ≤ cs.getD i 0 ∧ cs.getD i 0 ≤ 1048576) (hl : ∀ i, i < m → 0 < (ls i).length ∧ ∀ x ∈ ls i, -1048576 ≤ x ∧ x ≤ 1048576) (h8 : m ≤ 8) {j : Nat} (hj : j ≤ m) :
    (-8796093022208 ≤ lowBut cs ls but j ∧ lowBut cs ls but j ≤ 8796093022208) ∧ (-8796093022208 ≤ highBut cs ls but j ∧ highBut cs ls but j ≤ 8796093022208) := by
  have h1 := ends_bnd (but := but) hc hl j hj
  have h2 := ends_le cs ls but j
  omega
theorem xs_pos {xs : List Int} {L : Nat} (hm : mayB xs L = true) (h : 0 < (listB xs L).length) : 0 < xs.length := by
  have h1 := live_pos hm h
  have h2 := mayB_lt hm
  refine Nat.pos_of_ne_zero fun e => ?_
  rw [e] at h2
  simp at h2
  exact h1 h2

theorem total_any (K R Ct : Int) (A1 A2 A3 : Option Addr) (n1 c1 n2 c2 n3 c3 : Nat) (C : ConB) (B : Option Addr) (m d : Nat) (vs : List Int) (A : Option Addr) (n c : Nat) (ds : List DomB) (w : World) (hC : ConIn w K R Ct A1 A2 A3 n1 c1 n2 c2 n3 c3 C) (hV : Ints w B m vs) (hS : Doms w A n ds) (hT : Tab w) (hm : allMay ds = true)
    (hl : n2 = m) (h8 : m ≤ 8) (hb : ∀ i, -1048576 ≤ C.coefs.getD i 0 ∧ C.coefs.getD i 0 ≤ 1048576) (hv : ∀ i, i < m → 0 ≤ vs.getD i 0 ∧ vs.getD i 0 < n) (h0 : ∀ i, i < m → 0 < (lsV vs ds i).length) :
    Calls Tryd.prog 59 #[.agg #[.int .i64 K, .slice A1 n1 c1, .slice A2 n2 c2, .int .i64 R, .int .i64 Ct, .slice A3 n3 c3], .slice B m d, .slice A n c] w fun e w' => e = .returned (.agg #[.int .i64 (lowBut C.coefs (lsV vs ds) (-1) m), .int .i64 (highBut C.coefs (lsV vs ds) (-1) m)]) ∧ Kept w w' := by
  subst hl
  have HC := Lib.hid hC
  have HV := Lib.hid hV
  have HS := Lib.hid hS
  have HT := Lib.hid hT
  have Hm := Lib.hid hm
  have Hb := Lib.hid hb
  have Hv := Lib.hid hv
  have H0 := Lib.hid h0
  have Hlen := Lib.hid hS.len
  have Hrng : Hid (∀ j, j ≤ n2 → (-8796093022208 ≤ lowBut C.coefs (lsV vs ds) (-1) j ∧ lowBut C.coefs (lsV vs ds) (-1) j ≤ 8796093022208) ∧ (-8796093022208 ≤ highBut C.coefs (lsV vs ds) (-1) j ∧ highBut C.coefs (lsV vs ds) (-1) j ≤ 8796093022208)) := fun j hj =>
    ends_all hb (fun i hi => ⟨h0 i hi, listB_rng _ _⟩) h8 hj
  clear hC hV hS hT hm hb hv h0
  go_enter Tryd.func59, Tryd.ntmps59
  go_wp2_with fail
  have HK0 : Hid (Kept w (((w.alloc (.cells #[.int .i64 K, .slice A1 n1 c1, .slice A2 n2 c2, .int .i64 R, .int .i64 Ct, .slice A3 n3 c3] 24)).alloc (.cells #[.int .i64 0, .int .i64 0] 86)).alloc (.cells #[.int .i64 0, .int .i64 0] 86))) := ((Kept.box _ _).newBlock _).newBlock _
  have HBc : Hid ((((w.alloc (.cells #[.int .i64 K, .slice A1 n1 c1, .slice A2 n2 c2, .int .i64 R, .int .i64 Ct, .slice A3 n3 c3] 24)).alloc (.cells #[.int .i64 0, .int .i64 0] 86)).alloc (.cells #[.int .i64 0, .int .i64 0] 86)).heap[w.heap.size]? = some (.cells #[.int .i64 K, .slice A1 n1 c1, .slice A2 n2 c2, .int .i64 R, .int .i64 Ct, .slice A3 n3 c3] 24)) := (Kept.box _ _).heapAt ((Kept.box _ _).heapAt (heap_new w _))
  have HBr : Hid ((((w.alloc (.cells #[.int .i64 K, .slice A1 n1 c1, .slice A2 n2 c2, .int .i64 R, .int .i64 Ct, .slice A3 n3 c3] 24)).alloc (.cells #[.int .i64 0, .int .i64 0] 86)).alloc (.cells #[.int .i64 0, .int .i64 0] 86)).heap[w.heap.size + 1]? = some (.cells #[.int .i64 0, .int .i64 0] 86 (0, 0))) := (Kept.box _ _).heapAt (heap_new2 w _ _)
  have HBe : Hid ((((w.alloc (.cells #[.int .i64 K, .slice A1 n1 c1, .slice A2 n2 c2, .int .i64 R, .int .i64 Ct, .slice A3 n3 c3] 24)).alloc (.cells #[.int .i64 0, .int .i64 0] 86)).alloc (.cells #[.int .i64 0, .int .i64 0] 86)).heap[w.heap.size + 1 + 1]? = some (.cells #[.int .i64 0, .int .i64 0] 86 (0, 0))) := heap_new3 w _ _ _
  generalize ((w.alloc (.cells #[.int .i64 K, .slice A1 n1 c1, .slice A2 n2 c2, .int .i64 R, .int .i64 Ct, .slice A3 n3 c3] 24)).alloc (.cells #[.int .i64 0, .int .i64 0] 86)).alloc (.cells #[.int .i64 0, .int .i64 0] 86) = W0 at *
  go_loopw [12] (fun u wr => ∃ k : Nat, k ≤ n2 ∧ u = .int .i64 k ∧ Hid (KeptBut (w.heap.size + 1 + 1) W0 wr) ∧ Hid (wr.heap[w.heap.size + 1 + 1]? = some (.cells #[.int .i64 (lowBut C.coefs (lsV vs ds) (-1) k), .int .i64 (highBut C.coefs (lsV vs ds) (-1) k)] 86 (0, 0)))) (fun u _ => n2 - (intOf u).toNat)
  case atStart => exact ⟨0, Nat.zero_le _, rfl, KeptBut.refl _ _, HBe.out⟩
  case round =>
    obtain ⟨k, hk, rfl, Hkw, HE⟩ := hrel
    have HK := Lib.hid (((KeptBut.of HK0.out (w.heap.size + 1 + 1)).then Hkw.out).kept (by omega))
    by_cases hlt : k < n2
    · obtain ⟨av, hav, hbv⟩ := (HV.out.kept HK.out).addr (by omega)
      subst hav
      obtain ⟨v, Hv1, hcv, _, _⟩ := (HV.out.kept HK.out).named k hlt
      obtain ⟨hv0, hv1⟩ := Hv.out k hlt
      rw [Hv1.out] at hv0 hv1
      obtain ⟨p, rfl⟩ := Int.eq_ofNat_of_zero_le hv0
      have hpn : p < n := by omega
      obtain ⟨aq, haq, hbq⟩ := (HC.out.coefs.kept HK.out).addr (by omega)
      subst haq
      obtain ⟨q, Hq1, hcq, _, _⟩ := (HC.out.coefs.kept HK.out).named k hlt
      obtain ⟨al, hal, hbal⟩ := (HS.out.kept HK.out).addr (by omega)
      subst hal
      obtain ⟨xs, L, Bx, mx, cx, Hd, hc1, hc2, HI, hL⟩ := (HS.out.kept HK.out).named p hpn
      have Hls : Hid (lsV vs ds k = listB xs L) := by show _ = _; unfold lsV; rw [Hv1.out, Int.toNat_natCast, Hd.out]
      have hmay : mayB xs L = true := by
        have := allMay_at Hm.out (show p < ds.length by have := Hlen.out; omega)
        have h2 := Hd.out
        unfold nilD at h2
        rw [h2] at this
        exact this
      have hpos : 0 < (listB xs L).length := by have := H0.out k hlt; rwa [Hls.out] at this
      obtain ⟨ax, hax, _⟩ := HI.out.addr (by have := xs_pos hmay hpos; have := HI.out.len; omega)
      subst hax
      have hqr := Hb.out k
      rw [Hq1.out] at hqr
      obtain ⟨hlo, hhi⟩ := Hrng.out k (by omega)
      have Hnl : Hid (lowBut C.coefs (lsV vs ds) (-1) (k + 1) = lowBut C.coefs (lsV vs ds) (-1) k + 1 * mnB q (listB xs L)) := by
        show _ = _
        simp only [lowBut]
        rw [if_neg (by omega), Hq1.out, Hls.out]; omega
      have Hnh : Hid (highBut C.coefs (lsV vs ds) (-1) (k + 1) = highBut C.coefs (lsV vs ds) (-1) k + 1 * mxB q (listB xs L)) := by
        show _ = _
        simp only [highBut]
        rw [if_neg (by omega), Hq1.out, Hls.out]; omega
      have HQ : Hid (∀ W, Kept wr W → Calls Tryd.prog 60 #[.agg #[.int .i64 (lowBut C.coefs (lsV vs ds) (-1) k), .int .i64 (highBut C.coefs (lsV vs ds) (-1) k)], .int .i64 q, .agg #[.slice (some ax) mx cx, .int .u64 L], .int .i64 1] W
          fun e w' => e = .returned (.agg #[.int .i64 (lowBut C.coefs (lsV vs ds) (-1) (k + 1)), .int .i64 (highBut C.coefs (lsV vs ds) (-1) (k + 1))]) ∧ Kept W w') := fun W hW => by
        rw [Hnl.out, Hnh.out]
        exact endsplus_any _ _ q 1 ax mx cx L xs W (HI.out.kept hW) hL (HT.out.kept (HK.out.then hW)) hmay hpos hqr (by omega) (by omega) (.inl rfl)
      have Hlow : Hid (lowBut C.coefs (lsV vs ds) (-1) (k + 1) = lowBut C.coefs (lsV vs ds) (-1) (k + 1)) := rfl
      generalize hlo' : lowBut C.coefs (lsV vs ds) (-1) (k + 1) = lo' at *
      generalize hhi' : highBut C.coefs (lsV vs ds) (-1) (k + 1) = hi' at *
      generalize lowBut C.coefs (lsV vs ds) (-1) k = lo at *
      generalize highBut C.coefs (lsV vs ds) (-1) k = hi at *
      have Hlo' := Lib.hid hlo'
      have Hhi' := Lib.hid hhi'
      have hb2 := cell_at (Hkw.out.heapAt HBc.out (by omega)) 2
      have e0 := cell_at HE.out 0
      have e1 := cell_at HE.out 1
      simp only [List.getElem?_toArray, List.getElem?_cons_zero, List.getElem?_cons_succ] at hb2 e0 e1
      have hlE : w.heap.size + 1 + 1 < wr.heap.size := lt_at HE.out
      have HF : Hid (∀ (W : World), Kept wr W → KeptBut (w.heap.size + 1 + 1) W0 ((W.setCell ⟨w.heap.size + 1 + 1, 0, none⟩ (.int .i64 lo')).setCell ⟨w.heap.size + 1 + 1, 1, none⟩ (.int .i64 hi')) ∧ ((W.setCell ⟨w.heap.size + 1 + 1, 0, none⟩ (.int .i64 lo')).setCell ⟨w.heap.size + 1 + 1, 1, none⟩ (.int .i64 hi')).heap[w.heap.size + 1 + 1]? = some (.cells #[.int .i64 lo', .int .i64 hi'] 86 (0, 0))) := fun W hW =>
        ⟨(Hkw.out.then (KeptBut.of hW _)).then ((KeptBut.set _ (a := ⟨w.heap.size + 1 + 1, 0, none⟩) rfl _).then (KeptBut.set _ (a := ⟨w.heap.size + 1 + 1, 1, none⟩) rfl _)), two_set01 (hW.heapAt HE.out) _ _⟩
      clear hlo' hhi' hlo hhi hqr hpos hmay Hnl Hnh Hlow hL
      go_wp2_with fail
      go_region_with (first
        | (go_at_call 60
           refine (HQ.out _ (Kept.drewn _)).mono ?_
           rintro e W7 ⟨rfl, hk7⟩
           have HK7 := Lib.hid ((Kept.drewn _).then hk7)
           have g0 := cell_at (HK7.out.heapAt HE.out) 0
           have g1 := cell_at (HK7.out.heapAt HE.out) 1
           have f0 := frozen_at (HK7.out.heapAt HE.out) 0
           have f1 := frozen_at (HK7.out.heapAt HE.out) 1
           simp only [List.getElem?_toArray, List.getElem?_cons_zero, List.getElem?_cons_succ] at g0 g1
           clear hk7))
      all_goals go_wp2_with fail
      all_goals (
        go_roundw
        case rel =>
          obtain ⟨h1, h2⟩ := HF.out _ HK7.out
          exact ⟨k + 1, by omega, by go_num, h1, by rw [Hlo'.out, Hhi'.out]; exact h2⟩
        case measure => simp [intOf]; omega)
    · have e : k = n2 := by omega
      subst e
      generalize hlo : lowBut C.coefs (lsV vs ds) (-1) k = lo at *
      generalize hhi : highBut C.coefs (lsV vs ds) (-1) k = hi at *
      have Hlo := Lib.hid hlo
      have Hhi := Lib.hid hhi
      clear hlo hhi
      have HR := Lib.hid (Hkw.out.heapAt HBr.out (by omega))
      have e0 := cell_at HE.out 0
      have e1 := cell_at HE.out 1
      have g0 := cell_at HR.out 0
      have g1 := cell_at HR.out 1
      have f0 := frozen_at HR.out 0
      have f1 := frozen_at HR.out 1
      simp only [List.getElem?_toArray, List.getElem?_cons_zero, List.getElem?_cons_succ] at e0 e1 g0 g1
      have hlE : w.heap.size + 1 + 1 < wr.heap.size := lt_at HE.out
      go_wp2_with fail
      refine bodyPost_ret (v := .agg #[.int .i64 lo, .int .i64 hi]) (by simp [results, Tryd.results59, go_sem, g0, g1]) rfl ?_
      refine ⟨by rw [Hlo.out, Hhi.out], ?_⟩
      have h2 : KeptBut (w.heap.size + 1) wr ((wr.setCell ⟨w.heap.size + 1, 0, none⟩ (.int .i64 lo)).setCell ⟨w.heap.size + 1, 1, none⟩ (.int .i64 hi)) := (KeptBut.set _ (a := ⟨w.heap.size + 1, 0, none⟩) rfl _).then (KeptBut.set _ (a := ⟨w.heap.size + 1, 1, none⟩) rfl _)
      exact ((KeptBut.of HK.out (w.heap.size + 1)).then h2).kept (by omega)

/-- What a sum's question reads. -/
structure SumBox (W : World) (Bc Bi Be Br : Nat) (A2 : Option Addr) (n2 c2 : Nat) (cs : List Int) (Ct i lo hi rel : Int) : Prop where
  c2 : W.cell? ⟨Bc, 2, Option.none⟩ = some (.slice A2 n2 c2)
  c4 : W.cell? ⟨Bc, 4, Option.none⟩ = some (.int .i64 Ct)
  ci : W.cell? ⟨Bi, 0, Option.none⟩ = some (.int .i64 i)
  e0 : W.cell? ⟨Be, 0, Option.none⟩ = some (.int .i64 lo)
  e1 : W.cell? ⟨Be, 1, Option.none⟩ = some (.int .i64 hi)
  r : W.cell? ⟨Br, 0, Option.none⟩ = some (.int .i64 rel)
  ints : Ints W A2 n2 cs

theorem linsum1_any (x : Int) (Bc Bi Be Br : Nat) (A2 : Option Addr) (n2 c2 : Nat) (cs : List Int) (Ct lo hi rel : Int) (i : Nat) (w : World) (hB : SumBox w Bc Bi Be Br A2 n2 c2 cs Ct i lo hi rel) (hi2 : i < n2) (h0 : 0 ≤ rel) (h5 : rel ≤ 5)
    (hx : -1048576 ≤ x ∧ x ≤ 1048576) (hc : -1048576 ≤ cs.getD i 0 ∧ cs.getD i 0 ≤ 1048576) (hlo : -8796093022208 ≤ lo ∧ lo ≤ 8796093022208) (hhi : -8796093022208 ≤ hi ∧ hi ≤ 8796093022208) :
    Calls Tryd.prog 61 #[.int .i64 x, .pointer (some ⟨Bc, 0, Option.none⟩), .pointer (some ⟨Bi, 0, Option.none⟩), .pointer (some ⟨Be, 0, Option.none⟩), .pointer (some ⟨Br, 0, Option.none⟩)] w
      fun e w' => e = .returned (.bool (mayL (lo + cs.getD i 0 * x) (hi + cs.getD i 0 * x) rel Ct)) ∧ Kept w w' := by
  obtain ⟨b2, b4, bi, be0, be1, br, hI⟩ := hB
  obtain ⟨aq, haq, hbq⟩ := hI.addr (by omega)
  subst haq
  obtain ⟨q, Hq1, hcq, _, _⟩ := hI.named i hi2
  rw [Hq1.out] at hc ⊢
  have hm := mul_small hc hx
  obtain ⟨p, hp⟩ : ∃ p, p = q * x := ⟨_, rfl⟩
  rw [← hp] at hm ⊢
  have hmw : IntKind.i64.wrap (q * x) = p := by rw [← hp]; exact IntWalk.i64_in _ (by omega)
  obtain ⟨h1, h2⟩ := hm
  obtain ⟨h3, h4⟩ := hlo
  obtain ⟨h6, h7⟩ := hhi
  have hi0 : (0 : Int) ≤ (i : Int) := by omega
  have hi3 : (i : Int) < (n2 : Int) := by omega
  have HQ : Hid (∀ W, Calls Tryd.prog 62 #[.agg #[.int .i64 (lo + p), .int .i64 (hi + p)], .int .i64 rel, .int .i64 Ct] W fun e w' => e = .returned (.bool (mayL (lo + p) (hi + p) rel Ct)) ∧ Kept W w') := fun W => endsmay_any _ _ _ _ W h0 h5
  have lb2 := World.block_lt_of_cell? w _ b2
  have lbi := World.block_lt_of_cell? w _ bi
  have lbe := World.block_lt_of_cell? w _ be0
  have lbr := World.block_lt_of_cell? w _ br
  clear hI hp hc hx
  go_enter Tryd.func61, Tryd.ntmps61
  go_wp2_with (go_at_call 62; refine (HQ.out _).mono ?_; rintro e w' ⟨rfl, hk⟩; have Hk := Lib.hid hk; clear hk)
  go_ret
  exact ⟨rfl, Hk.out⟩
end Go.Proofs.YtekcenacpklpgaaDoor

set_option maxHeartbeats 1000000
set_option maxRecDepth 10000
namespace Go.Proofs.YtekcenacpklpgaaDoor
open Go Go.RowKit Pl

end Go.Proofs.YtekcenacpklpgaaDoor

set_option maxHeartbeats 1000000
set_option maxRecDepth 10000
namespace Go.Proofs.YtekcenacpklpgaaDoor
open Go Go.RowKit Go.Maps Pl

theorem lawInt : Keyed Tryd.prog 3 := int_keyed Tryd.underlying3
theorem zeroInt (w : World) : (zeroValue 3).run Tryd.prog w = .ok (.int .i64 0) w := by kernel_rfl

/-- Whether a place's number may stand. -/
def isE (nums vals : List Int) (i : Int) : Bool := decide (0 ≤ i) && decide (i < nums.length) && vals.contains (nums.getD i.toNat 0)
/-- How often a number has been counted. -/
def cntE (nums vals l : List Int) (x : Int) : Nat := (l.filter fun i => isE nums vals i && (nums.getD i.toNat 0 == x)).length
/-- A map of counts. -/
def Counts (w : World) (M n : Nat) (f : Int → Nat) : Prop :=
  ∃ D : DataW Unit, w.ownsMap Tryd.prog 3 (plainElem Tryd.prog 3) M n D ∧ ∀ x, D.atKey (.int .i64 x) (.lit (.int .i64 0)) = .lit (.int .i64 (f x : Nat))

theorem Counts.made (w : World) : Counts (w.alloc (.map #[] 0)) w.heap.size 0 (fun _ => 0) := ⟨_, World.ownsMap_made _ _ _ _, fun _ => rfl⟩

/-- What Step's first question reads. -/
structure ElemBox (w : World) (Bc Bl Bv Bm M : Nat) (Al : Option Addr) (nl cl : Nat) (A3 : Option Addr) (n3 c3 : Nat) (nums : List Int) (ds : List DomB) (pv : Nat) : Prop where
  con : w.cell? ⟨Bc, 5, none⟩ = some (.slice A3 n3 c3)
  nums : Ints w A3 n3 nums
  lst : w.cell? ⟨Bl, 0, none⟩ = some (.slice Al nl cl)
  doms : Doms w Al nl ds
  val : w.cell? ⟨Bv, 0, none⟩ = some (.int .i64 (pv : Nat))
  lt : pv < nl
  map : w.cell? ⟨Bm, 0, none⟩ = some (.map (some M))
  may : mayB (ds.getD pv nilD).1 (ds.getD pv nilD).2 = true

theorem Counts.kept {w w' : World} {M n : Nat} {f : Int → Nat} (h : Counts w M n f) (hk : Kept w w') : Counts w' M n f := by
  obtain ⟨D, ⟨es, clock, hb, F, hs, hD⟩, hx⟩ := h
  exact ⟨D, ⟨es, clock, hk.heapAt hb, F, hs, hD⟩, hx⟩
theorem KeptBut.grown {M : Nat} {w w' : World} (h : w.grownBy w' (some M)) : KeptBut M w w' :=
  ⟨h.os, h.tape, h.output, h.size, fun k hk hB => h.block k hk (by simpa using hB)⟩
theorem isMap_of {w : World} {P : Program} {k : TypeId} {R : Value → Option (DataW Unit × List MemPlace)} {b n : Nat} {D : DataW Unit} (h : w.ownsMap P k R b n D) : IsMap D := by
  obtain ⟨es, clock, _, _, _, hD⟩ := h
  exact ⟨_, hD⟩
theorem Counts.same {w : World} {M n : Nat} {f : Int → Nat} (h : Counts w M n f) {b : Bool} (p : Int → Bool) (hb : b = false) : Counts w M (n + 1) (fun v => f v + if b && p v then 1 else 0) := by
  obtain ⟨D, hown, hx⟩ := h
  subst hb
  exact ⟨D, hown.mono (Nat.le_succ _), by simpa using hx⟩

end Go.Proofs.YtekcenacpklpgaaDoor

set_option maxHeartbeats 1000000
set_option maxRecDepth 10000
namespace Go.Proofs.YtekcenacpklpgaaDoor
open Go Go.RowKit Go.Maps Pl

/-- What is kept behind the first ones of a list. -/
def pk (g : Int → Bool) (l : List Int) (x : Int) : Bool := l.all fun v => x != v || g v
theorem pk_nil (g : Int → Bool) (d : DomB) (hm : mayB d.1 d.2 = true) : keepD (pk g []) d = d := keepD_all hm (fun _ _ => rfl)
theorem pk_yes {g : Int → Bool} {l : List Int} {v : Int} (hv : g v = true) : pk g (l ++ [v]) = pk g l := by
  funext x; unfold pk; rw [List.all_append]; simp [hv]
theorem pk_no {g : Int → Bool} {l : List Int} {v : Int} (hv : g v = false) (d : DomB) : keepD (fun x => x != v) (keepD (pk g l) d) = keepD (pk g (l ++ [v])) d := by
  rw [keepD_keepD]
  congr 1
  funext x; unfold pk; rw [List.all_append]; simp [hv]
theorem pk_all {g : Int → Bool} {d : DomB} (hm : mayB d.1 d.2 = true) : keepD (pk g (listB d.1 d.2)) d = keepD g d := by
  refine keepD_congr hm fun v hv => ?_
  unfold pk
  rw [Bool.eq_iff_iff, List.all_eq_true]
  constructor
  · intro h
    simpa using h v hv
  · intro h u _
    by_cases e : v = u
    · subst e; simp [h]
    · simp [e]

end Go.Proofs.YtekcenacpklpgaaDoor

set_option maxHeartbeats 1000000
set_option maxRecDepth 10000
namespace Go.Proofs.YtekcenacpklpgaaDoor
open Go Go.RowKit Go.Maps Pl

theorem linkept_sum (A : Option Addr) (n c L : Nat) (xs : List Int) (p0 p1 p2 p3 : Value) (g : Int → Bool) (w : World) (hS : Ints w A n xs) (hL : L < 2 ^ 64) (hT : Tab w) (hm : mayB xs L = true)
    (hF : ∀ (v : Int) (W : World), Kept w W → -1048576 ≤ v ∧ v ≤ 1048576 → Calls Tryd.prog 61 #[.int .i64 v, p0, p1, p2, p3] W fun e w' => e = .returned (.bool (g v)) ∧ Kept W w') :
    Calls Tryd.prog 57 #[.agg #[.slice A n c, .int .u64 L], .func (.func 61) #[] #[p0, p1, p2, p3]] w
      fun e w' => ∃ A' c', e = .returned (.agg #[.slice A' n c', .int .u64 (keepD g (xs, L)).2]) ∧ Ints w' A' n xs ∧ Kept w w' ∧ (A' = A ∨ Fresh w A') := by
  have HS := Lib.hid hS
  have HL := Lib.hid hL
  have HT := Lib.hid hT
  have Hm := Lib.hid hm
  have HF := Lib.hid hF
  have Hlen := Lib.hid hS.len
  clear hS hL hT hm hF
  have HD : Hid (keepD (pk g (listB xs L)) (xs, L) = keepD g (xs, L)) := pk_all (d := (xs, L)) Hm.out
  go_enter Tryd.func57, Tryd.ntmps57
  go_wp2_with fail
  refine (dlist_any A n c L xs _ (HS.out.kept ((Kept.box _ _).newBlock _)) HL.out (HT.out.kept ((Kept.box _ _).newBlock _))).mono ?_
  rintro e w2 ⟨Bl, cl, rfl, hIl, hk2, hfl⟩
  have HO : Hid (w2.heap[w.heap.size]? = some (.cells #[.slice A n c, .int .u64 L] 47 (0, 0))) := hk2.heapAt ((Kept.box _ _).heapAt (heap_new _ _))
  have HR := Lib.hid (hk2.heapAt (heap_new2 _ _ _))
  have HIl := Lib.hid hIl
  have Hfl := Lib.hid hfl
  have Hk2 := Lib.hid (((Kept.box _ _).newBlock _).then hk2)
  have hsz2 := hk2.size
  simp only [World.size_alloc] at hsz2
  have hel := listB_length xs L
  have Hrng := Lib.hid (listB_rng xs L)
  clear hIl hk2 hfl
  generalize hm : (listB xs L).length = m at *
  have Hmm := Lib.hid hm
  clear hm
  go_wp2_with fail
  go_loopw [10] (fun u wr => ∃ (k : Nat) (A' : Option Addr) (c' : Nat), k ≤ m ∧ u = .int .i64 k ∧ Hid (KeptBut w.heap.size w2 wr) ∧ Hid (wr.heap[w.heap.size]? = some (.cells #[.slice A' n c', .int .u64 ((keepD (pk g ((listB xs L).take k)) (xs, L)).2 : Nat)] 47 (0, 0))) ∧ Hid (Ints wr A' n xs) ∧ Hid (A' = A ∨ ∀ a, A' = some a → w.heap.size + 1 < a.block)) (fun u _ => m - (intOf u).toNat)
  case atStart => exact ⟨0, A, c, Nat.zero_le _, rfl, KeptBut.refl _ _, by rw [List.take_zero, pk_nil _ _ Hm.out]; exact HO, HS.out.kept Hk2.out, Or.inl rfl⟩
  case round =>
    obtain ⟨k, A', c', hk, rfl, Hkw, HOr, HIr, HA⟩ := hrel
    have HK := Lib.hid (((KeptBut.of Hk2.out w.heap.size).then Hkw.out).kept (Nat.le_refl _))
    by_cases hlt : k < m
    · have hbs := HIl.out.keptBut Hkw.out (fun a ha => by have := Hfl.out a ha; simp only [World.size_alloc] at this; omega)
      obtain ⟨b, rfl, hbb⟩ := hbs.addr (by omega)
      obtain ⟨v, Hv, hcv, _, _⟩ := hbs.named k hlt
      have Htake : Hid ((listB xs L).take (k + 1) = (listB xs L).take k ++ [v]) := take_succ_getD (by have := Hmm.out; omega) Hv.out
      have hvr : -1048576 ≤ v ∧ v ≤ 1048576 := by
        refine Hrng.out v ?_
        rw [← Hv.out, List.getD_eq_getElem?_getD, List.getElem?_eq_getElem (by have := Hmm.out; omega)]
        exact List.getElem_mem _
      have HQ : Hid (∀ W, Kept wr W → Calls Tryd.prog 61 #[.int .i64 v, p0, p1, p2, p3] W fun e w' => e = .returned (.bool (g v)) ∧ Kept W w') := fun W hW => HF.out v W (HK.out.then hW) hvr
      clear hbs
      generalize hb : g v = bb at HQ
      have Hb := Lib.hid hb
      clear hb
      cases bb with
      | true =>
        go_wp2_with fail
        refine (HQ.out _ (Kept.same _)).mono ?_
        rintro e WQ ⟨rfl, hkq⟩
        have Hkq := Lib.hid hkq
        clear hkq hcv
        go_wp2_with fail
        go_roundw
        case rel => exact ⟨k + 1, A', c', by omega, by go_num, Hkw.out.then (KeptBut.of Hkq.out _), by rw [Htake.out, pk_yes Hb.out]; exact Hkq.out.heapAt HOr.out, HIr.out.kept Hkq.out, HA.out⟩
        case measure => simp [intOf]; omega
      | false =>
        have Hno := Lib.hid (pk_no (l := (listB xs L).take k) Hb.out (xs, L))
        have Hmk : Hid (mayB xs (keepD (pk g ((listB xs L).take k)) (xs, L)).2 = true) := keepD_may (d := (xs, L)) Hm.out
        have Hlk := Lib.hid (keepD_lt (pk g ((listB xs L).take k)) (xs, L))
        have He : Hid ((xs, (keepD (pk g ((listB xs L).take k)) (xs, L)).2) = keepD (pk g ((listB xs L).take k)) (xs, L)) := rfl
        go_wp2_with fail
        refine (HQ.out _ (Kept.same _)).mono ?_
        rintro e WQ ⟨rfl, hkq⟩
        have Hkq := Lib.hid hkq
        have HOq : Hid _ := Lib.hid (hkq.heapAt HOr.out)
        have hO0 := cell_at HOq.out 0
        have hO1 := cell_at HOq.out 1
        have hf0 := frozen_at HOq.out 0
        have hf1 := frozen_at HOq.out 1
        simp only [List.getElem?_toArray, List.getElem?_cons_zero, List.getElem?_cons_succ] at hO0 hO1
        clear hkq hcv
        go_wp2_with fail
        refine (domless_any A' n c' (keepD (pk g ((listB xs L).take k)) (xs, L)).2 xs v _ (HIr.out.kept Hkq.out) Hlk.out (HT.out.kept (HK.out.then Hkq.out)) Hmk.out).mono ?_
        rintro e W ⟨B, cB, rfl, hIB, hkB, hfB⟩
        rw [He.out, Hno.out] at hIB ⊢
        have HOB := Lib.hid (hkB.heapAt HOq.out)
        have HIB : Hid (Ints W B n xs) := by
          have h2 : Ints W B xs.length xs := hIB
          rwa [Hlen.out] at h2
        have hlw := HK.out.size
        have hlB := Lib.hid hfB
        have HkB := Lib.hid (KeptBut.of (Hkq.out.then hkB) w.heap.size)
        have hsq := Hkq.out.size
        have e1 : (keepD (pk g ((listB xs L).take k ++ [v])) (xs, L)).1.length = n := Hlen.out
        rw [e1]
        have hP0 := cell_at HOB.out 0
        have hP1 := cell_at HOB.out 1
        have hp0 := frozen_at HOB.out 0
        have hp1 := frozen_at HOB.out 1
        simp only [List.getElem?_toArray, List.getElem?_cons_zero, List.getElem?_cons_succ] at hP0 hP1
        rw [← Htake.out]
        clear hIB hkB hfB hO0 hO1 hf0 hf1 HQ
        go_wp2_with fail
        go_roundw
        case rel =>
          refine ⟨k + 1, B, cB, by omega, by go_num, (Hkw.out.then HkB.out).then ((KeptBut.set _ (a := ⟨w.heap.size, 0, none⟩) rfl _).then (KeptBut.set _ (a := ⟨w.heap.size, 1, none⟩) rfl _)), two_set01 HOB.out _ _, HIB.out.keptBut0 ((KeptBut.set _ (a := ⟨w.heap.size, 0, none⟩) rfl _).then (KeptBut.set _ (a := ⟨w.heap.size, 1, none⟩) rfl _)) ?_, Or.inr (fun a ha => by have := hlB.out a ha; have := Hkw.out.size; omega)⟩
          intro _ a ha
          have := hlB.out a ha
          have h3 := lt_at HOr.out
          show a.block ≠ w.heap.size
          omega
        case measure => simp [intOf]; omega
    · have e : k = m := by omega
      have hG : Hid (keepD (pk g ((listB xs L).take k)) (xs, L) = keepD g (xs, L)) := by
        show _ = _
        rw [List.take_of_length_le (by have := Hmm.out; omega)]
        exact HD.out
      have HOg : Hid (wr.heap[w.heap.size]? = some (.cells #[.slice A' n c', .int .u64 ((keepD g (xs, L)).2 : Nat)] 47 (0, 0))) := by
        have := HOr.out
        rwa [hG.out] at this
      have hO0 := cell_at HOg.out 0
      have hO1 := cell_at HOg.out 1
      have HRr := Lib.hid (Hkw.out.heapAt HR.out (by omega))
      have hR0 := cell_at HRr.out 0
      have hR1 := cell_at HRr.out 1
      have hf0 := frozen_at HRr.out 0
      have hf1 := frozen_at HRr.out 1
      simp only [List.getElem?_toArray, List.getElem?_cons_zero, List.getElem?_cons_succ] at hO0 hO1 hR0 hR1
      clear HOr hG
      generalize hGG : (keepD g (xs, L)).2 = G at *
      go_wp2_with fail
      have h2 : KeptBut (w.heap.size + 1) wr ((wr.setCell ⟨w.heap.size + 1, 0, none⟩ (.slice A' n c')).setCell ⟨w.heap.size + 1, 1, none⟩ (.int .u64 G)) := (KeptBut.set _ (a := ⟨w.heap.size + 1, 0, none⟩) rfl _).then (KeptBut.set _ (a := ⟨w.heap.size + 1, 1, none⟩) rfl _)
      refine bodyPost_ret (v := .agg #[.slice A' n c', .int .u64 G]) (by simp [results, Tryd.results57, go_sem, hR0, hR1]) rfl ?_
      refine ⟨A', c', ?_, HIr.out.keptBut0 h2 ?_, ((KeptBut.of HK.out (w.heap.size + 1)).then h2).kept (by omega), HA.out.imp id (fun h a ha => by have := h a ha; omega)⟩
      · rw [hGG]
      · intro hn a ha
        rcases HA.out with h | h
        · subst h
          subst ha
          have := HS.out.block hn
          omega
        · have := h a ha
          omega
theorem linkept_iff (A : Option Addr) (n c L : Nat) (xs : List Int) (p0 p1 : Value) (g : Int → Bool) (w : World) (hS : Ints w A n xs) (hL : L < 2 ^ 64) (hT : Tab w) (hm : mayB xs L = true)
    (hF : ∀ (v : Int) (W : World), Kept w W → -1048576 ≤ v ∧ v ≤ 1048576 → Calls Tryd.prog 64 #[.int .i64 v, p0, p1] W fun e w' => e = .returned (.bool (g v)) ∧ Kept W w') :
    Calls Tryd.prog 57 #[.agg #[.slice A n c, .int .u64 L], .func (.func 64) #[] #[p0, p1]] w
      fun e w' => ∃ A' c', e = .returned (.agg #[.slice A' n c', .int .u64 (keepD g (xs, L)).2]) ∧ Ints w' A' n xs ∧ Kept w w' ∧ (A' = A ∨ Fresh w A') := by
  have HS := Lib.hid hS
  have HL := Lib.hid hL
  have HT := Lib.hid hT
  have Hm := Lib.hid hm
  have HF := Lib.hid hF
  have Hlen := Lib.hid hS.len
  clear hS hL hT hm hF
  have HD : Hid (keepD (pk g (listB xs L)) (xs, L) = keepD g (xs, L)) := pk_all (d := (xs, L)) Hm.out
  go_enter Tryd.func57, Tryd.ntmps57
  go_wp2_with fail
  refine (dlist_any A n c L xs _ (HS.out.kept ((Kept.box _ _).newBlock _)) HL.out (HT.out.kept ((Kept.box _ _).newBlock _))).mono ?_
  rintro e w2 ⟨Bl, cl, rfl, hIl, hk2, hfl⟩
  have HO : Hid (w2.heap[w.heap.size]? = some (.cells #[.slice A n c, .int .u64 L] 47 (0, 0))) := hk2.heapAt ((Kept.box _ _).heapAt (heap_new _ _))
  have HR := Lib.hid (hk2.heapAt (heap_new2 _ _ _))
  have HIl := Lib.hid hIl
  have Hfl := Lib.hid hfl
  have Hk2 := Lib.hid (((Kept.box _ _).newBlock _).then hk2)
  have hsz2 := hk2.size
  simp only [World.size_alloc] at hsz2
  have hel := listB_length xs L
  have Hrng := Lib.hid (listB_rng xs L)
  clear hIl hk2 hfl
  generalize hm : (listB xs L).length = m at *
  have Hmm := Lib.hid hm
  clear hm
  go_wp2_with fail
  go_loopw [10] (fun u wr => ∃ (k : Nat) (A' : Option Addr) (c' : Nat), k ≤ m ∧ u = .int .i64 k ∧ Hid (KeptBut w.heap.size w2 wr) ∧ Hid (wr.heap[w.heap.size]? = some (.cells #[.slice A' n c', .int .u64 ((keepD (pk g ((listB xs L).take k)) (xs, L)).2 : Nat)] 47 (0, 0))) ∧ Hid (Ints wr A' n xs) ∧ Hid (A' = A ∨ ∀ a, A' = some a → w.heap.size + 1 < a.block)) (fun u _ => m - (intOf u).toNat)
  case atStart => exact ⟨0, A, c, Nat.zero_le _, rfl, KeptBut.refl _ _, by rw [List.take_zero, pk_nil _ _ Hm.out]; exact HO, HS.out.kept Hk2.out, Or.inl rfl⟩
  case round =>
    obtain ⟨k, A', c', hk, rfl, Hkw, HOr, HIr, HA⟩ := hrel
    have HK := Lib.hid (((KeptBut.of Hk2.out w.heap.size).then Hkw.out).kept (Nat.le_refl _))
    by_cases hlt : k < m
    · have hbs := HIl.out.keptBut Hkw.out (fun a ha => by have := Hfl.out a ha; simp only [World.size_alloc] at this; omega)
      obtain ⟨b, rfl, hbb⟩ := hbs.addr (by omega)
      obtain ⟨v, Hv, hcv, _, _⟩ := hbs.named k hlt
      have Htake : Hid ((listB xs L).take (k + 1) = (listB xs L).take k ++ [v]) := take_succ_getD (by have := Hmm.out; omega) Hv.out
      have hvr : -1048576 ≤ v ∧ v ≤ 1048576 := by
        refine Hrng.out v ?_
        rw [← Hv.out, List.getD_eq_getElem?_getD, List.getElem?_eq_getElem (by have := Hmm.out; omega)]
        exact List.getElem_mem _
      have HQ : Hid (∀ W, Kept wr W → Calls Tryd.prog 64 #[.int .i64 v, p0, p1] W fun e w' => e = .returned (.bool (g v)) ∧ Kept W w') := fun W hW => HF.out v W (HK.out.then hW) hvr
      clear hbs
      generalize hb : g v = bb at HQ
      have Hb := Lib.hid hb
      clear hb
      cases bb with
      | true =>
        go_wp2_with fail
        refine (HQ.out _ (Kept.same _)).mono ?_
        rintro e WQ ⟨rfl, hkq⟩
        have Hkq := Lib.hid hkq
        clear hkq hcv
        go_wp2_with fail
        go_roundw
        case rel => exact ⟨k + 1, A', c', by omega, by go_num, Hkw.out.then (KeptBut.of Hkq.out _), by rw [Htake.out, pk_yes Hb.out]; exact Hkq.out.heapAt HOr.out, HIr.out.kept Hkq.out, HA.out⟩
        case measure => simp [intOf]; omega
      | false =>
        have Hno := Lib.hid (pk_no (l := (listB xs L).take k) Hb.out (xs, L))
        have Hmk : Hid (mayB xs (keepD (pk g ((listB xs L).take k)) (xs, L)).2 = true) := keepD_may (d := (xs, L)) Hm.out
        have Hlk := Lib.hid (keepD_lt (pk g ((listB xs L).take k)) (xs, L))
        have He : Hid ((xs, (keepD (pk g ((listB xs L).take k)) (xs, L)).2) = keepD (pk g ((listB xs L).take k)) (xs, L)) := rfl
        go_wp2_with fail
        refine (HQ.out _ (Kept.same _)).mono ?_
        rintro e WQ ⟨rfl, hkq⟩
        have Hkq := Lib.hid hkq
        have HOq : Hid _ := Lib.hid (hkq.heapAt HOr.out)
        have hO0 := cell_at HOq.out 0
        have hO1 := cell_at HOq.out 1
        have hf0 := frozen_at HOq.out 0
        have hf1 := frozen_at HOq.out 1
        simp only [List.getElem?_toArray, List.getElem?_cons_zero, List.getElem?_cons_succ] at hO0 hO1
        clear hkq hcv
        go_wp2_with fail
        refine (domless_any A' n c' (keepD (pk g ((listB xs L).take k)) (xs, L)).2 xs v _ (HIr.out.kept Hkq.out) Hlk.out (HT.out.kept (HK.out.then Hkq.out)) Hmk.out).mono ?_
        rintro e W ⟨B, cB, rfl, hIB, hkB, hfB⟩
        rw [He.out, Hno.out] at hIB ⊢
        have HOB := Lib.hid (hkB.heapAt HOq.out)
        have HIB : Hid (Ints W B n xs) := by
          have h2 : Ints W B xs.length xs := hIB
          rwa [Hlen.out] at h2
        have hlw := HK.out.size
        have hlB := Lib.hid hfB
        have HkB := Lib.hid (KeptBut.of (Hkq.out.then hkB) w.heap.size)
        have hsq := Hkq.out.size
        have e1 : (keepD (pk g ((listB xs L).take k ++ [v])) (xs, L)).1.length = n := Hlen.out
        rw [e1]
        have hP0 := cell_at HOB.out 0
        have hP1 := cell_at HOB.out 1
        have hp0 := frozen_at HOB.out 0
        have hp1 := frozen_at HOB.out 1
        simp only [List.getElem?_toArray, List.getElem?_cons_zero, List.getElem?_cons_succ] at hP0 hP1
        rw [← Htake.out]
        clear hIB hkB hfB hO0 hO1 hf0 hf1 HQ
        go_wp2_with fail
        go_roundw
        case rel =>
          refine ⟨k + 1, B, cB, by omega, by go_num, (Hkw.out.then HkB.out).then ((KeptBut.set _ (a := ⟨w.heap.size, 0, none⟩) rfl _).then (KeptBut.set _ (a := ⟨w.heap.size, 1, none⟩) rfl _)), two_set01 HOB.out _ _, HIB.out.keptBut0 ((KeptBut.set _ (a := ⟨w.heap.size, 0, none⟩) rfl _).then (KeptBut.set _ (a := ⟨w.heap.size, 1, none⟩) rfl _)) ?_, Or.inr (fun a ha => by have := hlB.out a ha; have := Hkw.out.size; omega)⟩
          intro _ a ha
          have := hlB.out a ha
          have h3 := lt_at HOr.out
          show a.block ≠ w.heap.size
          omega
        case measure => simp [intOf]; omega
    · have e : k = m := by omega
      have hG : Hid (keepD (pk g ((listB xs L).take k)) (xs, L) = keepD g (xs, L)) := by
        show _ = _
        rw [List.take_of_length_le (by have := Hmm.out; omega)]
        exact HD.out
      have HOg : Hid (wr.heap[w.heap.size]? = some (.cells #[.slice A' n c', .int .u64 ((keepD g (xs, L)).2 : Nat)] 47 (0, 0))) := by
        have := HOr.out
        rwa [hG.out] at this
      have hO0 := cell_at HOg.out 0
      have hO1 := cell_at HOg.out 1
      have HRr := Lib.hid (Hkw.out.heapAt HR.out (by omega))
      have hR0 := cell_at HRr.out 0
      have hR1 := cell_at HRr.out 1
      have hf0 := frozen_at HRr.out 0
      have hf1 := frozen_at HRr.out 1
      simp only [List.getElem?_toArray, List.getElem?_cons_zero, List.getElem?_cons_succ] at hO0 hO1 hR0 hR1
      clear HOr hG
      generalize hGG : (keepD g (xs, L)).2 = G at *
      go_wp2_with fail
      have h2 : KeptBut (w.heap.size + 1) wr ((wr.setCell ⟨w.heap.size + 1, 0, none⟩ (.slice A' n c')).setCell ⟨w.heap.size + 1, 1, none⟩ (.int .u64 G)) := (KeptBut.set _ (a := ⟨w.heap.size + 1, 0, none⟩) rfl _).then (KeptBut.set _ (a := ⟨w.heap.size + 1, 1, none⟩) rfl _)
      refine bodyPost_ret (v := .agg #[.slice A' n c', .int .u64 G]) (by simp [results, Tryd.results57, go_sem, hR0, hR1]) rfl ?_
      refine ⟨A', c', ?_, HIr.out.keptBut0 h2 ?_, ((KeptBut.of HK.out (w.heap.size + 1)).then h2).kept (by omega), HA.out.imp id (fun h a ha => by have := h a ha; omega)⟩
      · rw [hGG]
      · intro hn a ha
        rcases HA.out with h | h
        · subst h
          subst ha
          have := HS.out.block hn
          omega
        · have := h a ha
          omega
theorem linkept_none (A : Option Addr) (n c L : Nat) (xs : List Int)  (g : Int → Bool) (w : World) (hS : Ints w A n xs) (hL : L < 2 ^ 64) (hT : Tab w) (hm : mayB xs L = true)
    (hF : ∀ (v : Int) (W : World), Kept w W → -1048576 ≤ v ∧ v ≤ 1048576 → Calls Tryd.prog 58 #[.int .i64 v] W fun e w' => e = .returned (.bool (g v)) ∧ Kept W w') :
    Calls Tryd.prog 57 #[.agg #[.slice A n c, .int .u64 L], .func (.func 58) #[] #[]] w
      fun e w' => ∃ A' c', e = .returned (.agg #[.slice A' n c', .int .u64 (keepD g (xs, L)).2]) ∧ Ints w' A' n xs ∧ Kept w w' ∧ (A' = A ∨ Fresh w A') := by
  have HS := Lib.hid hS
  have HL := Lib.hid hL
  have HT := Lib.hid hT
  have Hm := Lib.hid hm
  have HF := Lib.hid hF
  have Hlen := Lib.hid hS.len
  clear hS hL hT hm hF
  have HD : Hid (keepD (pk g (listB xs L)) (xs, L) = keepD g (xs, L)) := pk_all (d := (xs, L)) Hm.out
  go_enter Tryd.func57, Tryd.ntmps57
  go_wp2_with fail
  refine (dlist_any A n c L xs _ (HS.out.kept ((Kept.box _ _).newBlock _)) HL.out (HT.out.kept ((Kept.box _ _).newBlock _))).mono ?_
  rintro e w2 ⟨Bl, cl, rfl, hIl, hk2, hfl⟩
  have HO : Hid (w2.heap[w.heap.size]? = some (.cells #[.slice A n c, .int .u64 L] 47 (0, 0))) := hk2.heapAt ((Kept.box _ _).heapAt (heap_new _ _))
  have HR := Lib.hid (hk2.heapAt (heap_new2 _ _ _))
  have HIl := Lib.hid hIl
  have Hfl := Lib.hid hfl
  have Hk2 := Lib.hid (((Kept.box _ _).newBlock _).then hk2)
  have hsz2 := hk2.size
  simp only [World.size_alloc] at hsz2
  have hel := listB_length xs L
  have Hrng := Lib.hid (listB_rng xs L)
  clear hIl hk2 hfl
  generalize hm : (listB xs L).length = m at *
  have Hmm := Lib.hid hm
  clear hm
  go_wp2_with fail
  go_loopw [10] (fun u wr => ∃ (k : Nat) (A' : Option Addr) (c' : Nat), k ≤ m ∧ u = .int .i64 k ∧ Hid (KeptBut w.heap.size w2 wr) ∧ Hid (wr.heap[w.heap.size]? = some (.cells #[.slice A' n c', .int .u64 ((keepD (pk g ((listB xs L).take k)) (xs, L)).2 : Nat)] 47 (0, 0))) ∧ Hid (Ints wr A' n xs) ∧ Hid (A' = A ∨ ∀ a, A' = some a → w.heap.size + 1 < a.block)) (fun u _ => m - (intOf u).toNat)
  case atStart => exact ⟨0, A, c, Nat.zero_le _, rfl, KeptBut.refl _ _, by rw [List.take_zero, pk_nil _ _ Hm.out]; exact HO, HS.out.kept Hk2.out, Or.inl rfl⟩
  case round =>
    obtain ⟨k, A', c', hk, rfl, Hkw, HOr, HIr, HA⟩ := hrel
    have HK := Lib.hid (((KeptBut.of Hk2.out w.heap.size).then Hkw.out).kept (Nat.le_refl _))
    by_cases hlt : k < m
    · have hbs := HIl.out.keptBut Hkw.out (fun a ha => by have := Hfl.out a ha; simp only [World.size_alloc] at this; omega)
      obtain ⟨b, rfl, hbb⟩ := hbs.addr (by omega)
      obtain ⟨v, Hv, hcv, _, _⟩ := hbs.named k hlt
      have Htake : Hid ((listB xs L).take (k + 1) = (listB xs L).take k ++ [v]) := take_succ_getD (by have := Hmm.out; omega) Hv.out
      have hvr : -1048576 ≤ v ∧ v ≤ 1048576 := by
        refine Hrng.out v ?_
        rw [← Hv.out, List.getD_eq_getElem?_getD, List.getElem?_eq_getElem (by have := Hmm.out; omega)]
        exact List.getElem_mem _
      have HQ : Hid (∀ W, Kept wr W → Calls Tryd.prog 58 #[.int .i64 v] W fun e w' => e = .returned (.bool (g v)) ∧ Kept W w') := fun W hW => HF.out v W (HK.out.then hW) hvr
      clear hbs
      generalize hb : g v = bb at HQ
      have Hb := Lib.hid hb
      clear hb
      cases bb with
      | true =>
        go_wp2_with fail
        refine (HQ.out _ (Kept.same _)).mono ?_
        rintro e WQ ⟨rfl, hkq⟩
        have Hkq := Lib.hid hkq
        clear hkq hcv
        go_wp2_with fail
        go_roundw
        case rel => exact ⟨k + 1, A', c', by omega, by go_num, Hkw.out.then (KeptBut.of Hkq.out _), by rw [Htake.out, pk_yes Hb.out]; exact Hkq.out.heapAt HOr.out, HIr.out.kept Hkq.out, HA.out⟩
        case measure => simp [intOf]; omega
      | false =>
        have Hno := Lib.hid (pk_no (l := (listB xs L).take k) Hb.out (xs, L))
        have Hmk : Hid (mayB xs (keepD (pk g ((listB xs L).take k)) (xs, L)).2 = true) := keepD_may (d := (xs, L)) Hm.out
        have Hlk := Lib.hid (keepD_lt (pk g ((listB xs L).take k)) (xs, L))
        have He : Hid ((xs, (keepD (pk g ((listB xs L).take k)) (xs, L)).2) = keepD (pk g ((listB xs L).take k)) (xs, L)) := rfl
        go_wp2_with fail
        refine (HQ.out _ (Kept.same _)).mono ?_
        rintro e WQ ⟨rfl, hkq⟩
        have Hkq := Lib.hid hkq
        have HOq : Hid _ := Lib.hid (hkq.heapAt HOr.out)
        have hO0 := cell_at HOq.out 0
        have hO1 := cell_at HOq.out 1
        have hf0 := frozen_at HOq.out 0
        have hf1 := frozen_at HOq.out 1
        simp only [List.getElem?_toArray, List.getElem?_cons_zero, List.getElem?_cons_succ] at hO0 hO1
        clear hkq hcv
        go_wp2_with fail
        refine (domless_any A' n c' (keepD (pk g ((listB xs L).take k)) (xs, L)).2 xs v _ (HIr.out.kept Hkq.out) Hlk.out (HT.out.kept (HK.out.then Hkq.out)) Hmk.out).mono ?_
        rintro e W ⟨B, cB, rfl, hIB, hkB, hfB⟩
        rw [He.out, Hno.out] at hIB ⊢
        have HOB := Lib.hid (hkB.heapAt HOq.out)
        have HIB : Hid (Ints W B n xs) := by
          have h2 : Ints W B xs.length xs := hIB
          rwa [Hlen.out] at h2
        have hlw := HK.out.size
        have hlB := Lib.hid hfB
        have HkB := Lib.hid (KeptBut.of (Hkq.out.then hkB) w.heap.size)
        have hsq := Hkq.out.size
        have e1 : (keepD (pk g ((listB xs L).take k ++ [v])) (xs, L)).1.length = n := Hlen.out
        rw [e1]
        have hP0 := cell_at HOB.out 0
        have hP1 := cell_at HOB.out 1
        have hp0 := frozen_at HOB.out 0
        have hp1 := frozen_at HOB.out 1
        simp only [List.getElem?_toArray, List.getElem?_cons_zero, List.getElem?_cons_succ] at hP0 hP1
        rw [← Htake.out]
        clear hIB hkB hfB hO0 hO1 hf0 hf1 HQ
        go_wp2_with fail
        go_roundw
        case rel =>
          refine ⟨k + 1, B, cB, by omega, by go_num, (Hkw.out.then HkB.out).then ((KeptBut.set _ (a := ⟨w.heap.size, 0, none⟩) rfl _).then (KeptBut.set _ (a := ⟨w.heap.size, 1, none⟩) rfl _)), two_set01 HOB.out _ _, HIB.out.keptBut0 ((KeptBut.set _ (a := ⟨w.heap.size, 0, none⟩) rfl _).then (KeptBut.set _ (a := ⟨w.heap.size, 1, none⟩) rfl _)) ?_, Or.inr (fun a ha => by have := hlB.out a ha; have := Hkw.out.size; omega)⟩
          intro _ a ha
          have := hlB.out a ha
          have h3 := lt_at HOr.out
          show a.block ≠ w.heap.size
          omega
        case measure => simp [intOf]; omega
    · have e : k = m := by omega
      have hG : Hid (keepD (pk g ((listB xs L).take k)) (xs, L) = keepD g (xs, L)) := by
        show _ = _
        rw [List.take_of_length_le (by have := Hmm.out; omega)]
        exact HD.out
      have HOg : Hid (wr.heap[w.heap.size]? = some (.cells #[.slice A' n c', .int .u64 ((keepD g (xs, L)).2 : Nat)] 47 (0, 0))) := by
        have := HOr.out
        rwa [hG.out] at this
      have hO0 := cell_at HOg.out 0
      have hO1 := cell_at HOg.out 1
      have HRr := Lib.hid (Hkw.out.heapAt HR.out (by omega))
      have hR0 := cell_at HRr.out 0
      have hR1 := cell_at HRr.out 1
      have hf0 := frozen_at HRr.out 0
      have hf1 := frozen_at HRr.out 1
      simp only [List.getElem?_toArray, List.getElem?_cons_zero, List.getElem?_cons_succ] at hO0 hO1 hR0 hR1
      clear HOr hG
      generalize hGG : (keepD g (xs, L)).2 = G at *
      go_wp2_with fail
      have h2 : KeptBut (w.heap.size + 1) wr ((wr.setCell ⟨w.heap.size + 1, 0, none⟩ (.slice A' n c')).setCell ⟨w.heap.size + 1, 1, none⟩ (.int .u64 G)) := (KeptBut.set _ (a := ⟨w.heap.size + 1, 0, none⟩) rfl _).then (KeptBut.set _ (a := ⟨w.heap.size + 1, 1, none⟩) rfl _)
      refine bodyPost_ret (v := .agg #[.slice A' n c', .int .u64 G]) (by simp [results, Tryd.results57, go_sem, hR0, hR1]) rfl ?_
      refine ⟨A', c', ?_, HIr.out.keptBut0 h2 ?_, ((KeptBut.of HK.out (w.heap.size + 1)).then h2).kept (by omega), HA.out.imp id (fun h a ha => by have := h a ha; omega)⟩
      · rw [hGG]
      · intro hn a ha
        rcases HA.out with h | h
        · subst h
          subst ha
          have := HS.out.block hn
          omega
        · have := h a ha
          omega
end Go.Proofs.YtekcenacpklpgaaDoor

/-
  Contracts and plain laws that the card rests on, part 5.
-/
import Derived.Test.YtjmegicopdbkdaaDoorL4
import Derived.StillTailTactics
import Derived.Deep.Slices
import Derived.Deep.Fields
import Derived.ChangeSame
import Derived.Lib.SmallJoins
import Derived.ProofKit
import Derived.Test.YtjmegicopdbkdaaDoorL2
import Derived.Test.YtjmegicopdbkdaaDoorL3
import Derived.Laws.OwnMore
set_option maxHeartbeats 1000000
set_option maxRecDepth 10000
namespace Go.Proofs.YtjmegicopdbkdaaDoor
open Go Go.RowKit Pl

/-- A slice that reads as whole numbers without sign, of 64 bits. -/
structure Words (w : World) (A : Option Addr) (n : Nat) (ms : List Nat) : Prop where
  len : ms.length = n
  small : n ≤ 9223372036854775807
  lt : ∀ j, ms.getD j 0 < 2 ^ 64
  cell : 0 < n → ∃ a, A = some a ∧ ∀ j, j < n → w.cell? (a.add j) = some (.int .u64 (ms.getD j 0 : Nat))
theorem Words.kept {w w' : World} {A : Option Addr} {n : Nat} {ms : List Nat} (h : Words w A n ms) (hk : Kept w w') : Words w' A n ms :=
  ⟨h.len, h.small, h.lt, fun hn => by
    obtain ⟨a, e, hc⟩ := h.cell hn
    exact ⟨a, e, fun j hj => hk.cellAt (hc j hj)⟩⟩
theorem Words.named {w : World} {A : Option Addr} {n : Nat} {ms : List Nat} (h : Words w A n ms) (k : Nat) (hk : k < n) :
    ∃ (a : Addr) (x : Nat), A = some a ∧ a.block < w.heap.size ∧ Hid (ms.getD k 0 = x) ∧ w.cell? (a.add k) = some (.int .u64 (x : Nat)) ∧ x < 2 ^ 64 := by
  obtain ⟨a, rfl, hc⟩ := h.cell (by omega)
  have := World.block_lt_of_cell? w _ (hc k hk)
  rw [add_block'] at this
  exact ⟨a, _, rfl, this, rfl, hc k hk, h.lt k⟩

/-- Domains of which less is left, up to a place. -/
def fewUpto (ds : List DomB) (ms : List Nat) (k : Nat) : List DomB :=
  (List.range ds.length).map fun i => if i < k ∧ i < ms.length then ((ds.getD i nilD).1, (ds.getD i nilD).2 &&& ms.getD i 0) else ds.getD i nilD
theorem fewUpto_length (ds : List DomB) (ms : List Nat) (k : Nat) : (fewUpto ds ms k).length = ds.length := by simp [fewUpto]
theorem fewUpto_getD (ds : List DomB) (ms : List Nat) (k : Nat) {i : Nat} (hi : i < ds.length) : (fewUpto ds ms k).getD i nilD = if i < k ∧ i < ms.length then ((ds.getD i nilD).1, (ds.getD i nilD).2 &&& ms.getD i 0) else ds.getD i nilD := by
  unfold fewUpto
  rw [List.getD_eq_getElem?_getD, List.getElem?_map, List.getElem?_range hi]
  rfl
theorem fewUpto_zero (ds : List DomB) (ms : List Nat) : fewUpto ds ms 0 = ds := by
  apply ext_getD (fewUpto_length _ _ _)
  intro i hi
  rw [fewUpto_length] at hi
  have := fewUpto_getD ds ms 0 hi
  rw [if_neg (by omega)] at this
  exact this
theorem fewUpto_out {ds : List DomB} {ms : List Nat} {k : Nat} (h : ms.length ≤ k) : fewUpto ds ms (k + 1) = fewUpto ds ms k := by
  apply ext_getD (by rw [fewUpto_length, fewUpto_length])
  intro i hi
  rw [fewUpto_length] at hi
  have h1 := fewUpto_getD ds ms (k + 1) hi
  have h2 := fewUpto_getD ds ms k hi
  unfold nilD at h1 h2
  rw [h1, h2]
  by_cases hc : i < k ∧ i < ms.length
  · rw [if_pos hc, if_pos ⟨by omega, hc.2⟩]
  · rw [if_neg hc, if_neg (by omega)]
theorem fewUpto_in {ds : List DomB} {ms : List Nat} {k : Nat} (hk : k < ds.length) (h : k < ms.length) : fewUpto ds ms (k + 1) = (fewUpto ds ms k).set k ((ds.getD k nilD).1, (ds.getD k nilD).2 &&& ms.getD k 0) := by
  apply ext_getD (by rw [List.length_set, fewUpto_length, fewUpto_length])
  intro i hi
  rw [fewUpto_length] at hi
  have h1 := fewUpto_getD ds ms (k + 1) hi
  have h2 := fewUpto_getD ds ms k hi
  unfold nilD at h1 h2
  rw [h1, getD_set _ _ _ _ (by rw [fewUpto_length]; exact hk), h2]
  by_cases e : i = k
  · subst e
    rw [if_pos ⟨by omega, h⟩, if_pos rfl]
  · rw [if_neg e]
    by_cases hc : i < k ∧ i < ms.length
    · rw [if_pos hc, if_pos ⟨by omega, hc.2⟩]
    · rw [if_neg hc, if_neg (by omega)]

/-- The cells of a slice of domains, one behind the other. -/
theorem Doms.row {w : World} {a : Addr} {n : Nat} {ds : List DomB} (h : Doms w (some a) n ds) (hn : 0 < n) :
    ∃ vs : List Value, vs.length = n * 2 ∧ (∀ j u, vs[j]? = some u → w.cell? (a.add j) = some u) ∧ (∀ u ∈ vs, u.oneCell' = true) ∧
      ∀ j, j < n → ∃ B m c, vs[j * 2]? = some (.slice B m c) ∧ vs[j * 2 + 1]? = some (.int .u64 ((ds.getD j nilD).2 : Nat)) ∧ Ints w B m (ds.getD j nilD).1 := by
  obtain ⟨b, e, hc⟩ := h.cell hn
  cases e
  have hc' : ∀ j, j < n → ∃ B m c, w.cell? (a.add (j * 2)) = some (.slice B m c) ∧ w.cell? (a.add (j * 2 + 1)) = some (.int .u64 ((ds.getD j nilD).2 : Nat)) ∧ Ints w B m (ds.getD j nilD).1 := by
    intro j hj
    obtain ⟨B, m, c, h1, h2, h3⟩ := hc j hj
    refine ⟨B, m, c, h1, ?_, h3⟩
    have hp : a = ⟨a.block, a.off, Option.none⟩ := by
      obtain ⟨_, _, _, k1, _, _⟩ := hc 0 hn
      have e0 : a.add (0 * 2) = a := by unfold Addr.add; simp
      rw [e0] at k1
      exact plain_of_cell k1
    rw [hp, add_plain] at h2 ⊢
    exact h2
  refine ⟨(List.range (n * 2)).map fun i => (w.cell? (a.add i)).getD undef, by simp, ?_, ?_, ?_⟩
  · intro j u hu
    rw [List.getElem?_map] at hu
    by_cases hj : j < n * 2
    · rw [List.getElem?_range hj] at hu
      simp only [Option.map_some, Option.some.injEq] at hu
      obtain ⟨B, m, c, h1, h2, _⟩ := hc' (j / 2) (by omega)
      have : j = j / 2 * 2 ∨ j = j / 2 * 2 + 1 := by omega
      rcases this with e | e
      · rw [← e] at h1; rw [h1] at hu ⊢; simpa using hu
      · rw [← e] at h2; rw [h2] at hu ⊢; simpa using hu
    · rw [List.getElem?_eq_none (by simp; omega)] at hu
      simp at hu
  · intro u hu
    rw [List.mem_map] at hu
    obtain ⟨j, hj, rfl⟩ := hu
    have hj := List.mem_range.1 hj
    obtain ⟨B, m, c, h1, h2, _⟩ := hc' (j / 2) (by omega)
    have : j = j / 2 * 2 ∨ j = j / 2 * 2 + 1 := by omega
    rcases this with e | e
    · rw [← e] at h1; rw [h1]; rfl
    · rw [← e] at h2; rw [h2]; rfl
  · intro j hj
    obtain ⟨B, m, c, h1, h2, h3⟩ := hc' j hj
    refine ⟨B, m, c, ?_, ?_, h3⟩
    · rw [List.getElem?_map, List.getElem?_range (by omega)]; simp [h1]
    · rw [List.getElem?_map, List.getElem?_range (by omega)]; simp [h2]

theorem and_gen {L M : Nat} (hL : L < 2 ^ 64) (hM : M < 2 ^ 64) : bits BinOp.and IntKind.u64 (L : Int) (M : Int) = ((L &&& M : Nat) : Int) := u64_and_nat L M hL hM

/-- Domains are handed back, in a slice of the call's own. -/
def DomsPost (ds : List DomB) (w : World) (e : Ending) (w' : World) : Prop :=
  ∃ A c, e = .returned (.slice A ds.length c) ∧ Doms w' A ds.length ds ∧ Kept w w'

theorem info_dom2 : (Tryd.prog.info? 47).map (fun i => (i.zero, i.size, i.bytes)) = some (some (.agg #[.slice Option.none 0 0, .int .u64 0]), 2, 32) := by kernel_rfl

theorem fewer_any (A B : Option Addr) (n c m d : Nat) (ds : List DomB) (ms : List Nat) (w : World) (hS : Doms w A n ds) (hM : Words w B m ms) (hn : n ≤ 1000) :
    Calls Tryd.prog 21 #[.slice A n c, .slice B m d] w (DomsPost (fewUpto ds ms n) w) := by
  have HS := Lib.hid hS
  have HM := Lib.hid hM
  have Hlen := Lib.hid hS.len
  have hms := hM.small
  have hml := Lib.hid hM.len
  clear hS hM
  by_cases h0 : 0 < n
  · obtain ⟨a, rfl, hba⟩ := HS.out.addr h0
    obtain ⟨vs, hvl, hvc, hvo, hvd⟩ := HS.out.row h0
    have Hvd := Lib.hid hvd
    obtain ⟨i0, hi, hz0, hz1, hz2⟩ := info_parts info_dom2
    have HR0 : Hid ((w.alloc (.cells #[] 47)).ownsRow w.heap.size 47 2 (.slice (some ⟨w.heap.size, 0, Option.none⟩) 0 0) 0 []) := World.ownsRow_made w #[] 0 (Nat.le_refl _) (by decide) rfl
    clear hvd
    go_enter Tryd.func21, Tryd.ntmps21
    go_wp2_with (at_builtin; refine wpList_append_own _ rfl _ _ 25 rfl w.heap.size 47 i0 (.agg #[.slice Option.none 0 0, .int .u64 0]) 2 32 Tryd.underlying25 hi hz0 hz1 hz2 rfl (by decide) _ _ _ rfl HR0.out a n c vs rfl hvl (fun j u hu => (Kept.box _ _).cellAt (hvc j u hu)) hvo (by unfold maxLen; omega) (by omega) (by simp) ?_; intro v' w2 hown' hgrow _; rw [Nat.zero_add, List.nil_append] at hown'; obtain ⟨g, cap, rfl, hgb, hgl⟩ := hown'.form h0)
    have HK : Hid (Kept w w2) := (Kept.box w _).grown hgrow (by simp) (fun i hi => by simp [Act.eval, Value.ownBlock] at hi; omega)
    have HO : Hid (OwnD w2 w.heap.size (.slice (some ⟨g, 0, Option.none⟩) n cap) ds) := by
      refine ⟨vs, by rw [Hlen.out]; exact hown', fun j hj => ?_⟩
      rw [Hlen.out] at hj
      obtain ⟨B', m', c', e1, e2, e3⟩ := Hvd.out j hj
      refine ⟨HS.out.live j hj, B', m', c', e1, e2, e3.kept HK.out, fun hm a' ha' e => ?_⟩
      subst ha'
      have := e3.block hm
      simp only [Value.ownBlock, Option.some.injEq] at e
      omega
    clear hown' hgrow hvc hvo
    go_wp2_with fail
    go_loopw [12] (fun v wr => ∃ k : Nat, k ≤ n ∧ v = .int .i64 k ∧ Hid (OwnD wr w.heap.size (.slice (some ⟨g, 0, Option.none⟩) n cap) (fewUpto ds ms k)) ∧ Hid (Kept w wr)) (fun v _ => n - (intOf v).toNat)
    case atStart => exact ⟨0, Nat.zero_le _, rfl, by rw [fewUpto_zero]; exact HO, HK⟩
    case round =>
      obtain ⟨k, hk, rfl, HOr, Hkw⟩ := hrel
      by_cases hlt : k < n
      · by_cases hkm : (k : Int) < m
        · have hd : decide ((k : Int) < m) = true := by simp [hkm]
          have Hlf : Hid ((fewUpto ds ms k).length = n) := by show _ = _; rw [fewUpto_length]; exact Hlen.out
          have HOd := Lib.hid (HOr.out.kept (Kept.drewn _))
          obtain ⟨xs, L, B1, m1, c1, Hd, s1, s2, HI, hL, _, s3, s4⟩ := HOd.out.named Hlf.out k hlt
          obtain ⟨b, x, rfl, hbl, Hx, hcx, hx⟩ := (HM.out.kept (Hkw.out.then (Kept.drewn _))).named k (by omega)
          have hand := and_gen hL hx
          have Hdk : Hid (ds.getD k nilD = (xs, L)) := by
            have := Hd.out
            rwa [fewUpto_getD _ _ _ (by have := Hlen.out; omega), if_neg (by omega)] at this
          have Hnext : Hid (fewUpto ds ms (k + 1) = (fewUpto ds ms k).set k (((fewUpto ds ms k).getD k nilD).1, L &&& x)) := by
            show _ = _
            rw [fewUpto_in (by have := Hlen.out; omega) (by have := hml.out; omega), Hdk.out, Hx.out, Hd.out]
          have HL : Hid (L &&& x < 2 ^ 64) := Nat.lt_of_le_of_lt Nat.and_le_left hL
          go_wp2_with fail
          go_still_tail 12, (by kernel_rfl)
          change wpList _ _ _ _ _ wr.drew
          go_wp2_with fail
          go_roundw
          case rel =>
            refine ⟨k + 1, by omega, by go_num, ?_, ?_⟩
            · show OwnD _ _ _ _
              rw [Hnext.out]
              exact HOd.out.setLive Hlf.out hlt HL.out
            · exact ((KeptBut.of (Hkw.out.then (Kept.drewn _)) g).then (KeptBut.set _ (a := ⟨g, k * 2 + 1, Option.none⟩) rfl _)).kept hgb
          case measure => simp [intOf]; omega
        · have hd : decide ((k : Int) < m) = false := by simp; omega
          go_wp2_with fail
          go_roundw
          case rel => exact ⟨k + 1, by omega, by go_num, by rw [fewUpto_out (by have := hml.out; omega)]; exact HOr, Hkw⟩
          case measure => simp [intOf]; omega
      · have e : k = n := by omega
        subst e
        go_wp2_with fail
        go_ret
        have hl : (fewUpto ds ms k).length = k := by rw [fewUpto_length]; exact Hlen.out
        exact ⟨_, cap, by rw [hl]; rfl, by rw [hl]; exact HOr.out.doms hl (by omega), Hkw.out⟩
  · have e : n = 0 := by omega
    subst e
    have hd0 : ds = [] := List.eq_nil_of_length_eq_zero Hlen.out
    subst hd0
    have hmk : fewUpto [] ms 0 = [] := rfl
    rw [hmk]
    cases A with
    | none =>
      go_enter Tryd.func21, Tryd.ntmps21
      go_wp2_with fail
      go_loopw [12] (fun v wr => v = .int .i64 0 ∧ Hid (Kept w wr)) (fun _ _ => 0)
      case atStart => exact ⟨rfl, Kept.box _ _⟩
      case round =>
        obtain ⟨rfl, Hkw⟩ := hrel
        go_wp2_with fail
        go_ret
        exact ⟨_, _, rfl, ⟨rfl, by decide, fun j hj => by simp at hj, fun h => by simp at h⟩, Hkw.out⟩
    | some a =>
      go_enter Tryd.func21, Tryd.ntmps21
      go_wp2_with fail
      go_loopw [12] (fun v wr => v = .int .i64 0 ∧ Hid (Kept w wr)) (fun _ _ => 0)
      case atStart => exact ⟨rfl, Kept.box _ _⟩
      case round =>
        obtain ⟨rfl, Hkw⟩ := hrel
        go_wp2_with fail
        go_ret
        exact ⟨_, _, rfl, ⟨rfl, by decide, fun j hj => by simp at hj, fun h => by simp at h⟩, Hkw.out⟩
end Go.Proofs.YtjmegicopdbkdaaDoor

set_option maxRecDepth 10000
set_option maxHeartbeats 1000000
namespace Go.Proofs.YtjmegicopdbkdaaDoor
open Go Pl Go.Joins Go.ChangeShapes Go.WideShapes Go.RowKit Go.Deep

section
variable {H : Type} {enc : TypeId × Value → H} {P : Program} {w : World} {base : Nat} {spare : Nat → Bool} {held : Bool}
theorem slice_fields {t e : TypeId} {fs : Array Field} {fuel : Nat} {cs : List Value} {x : DataW H × List MemPlace} (ht : P.underlying t = some (.slice e)) (he : P.underlying e = some (.struct fs))
    (hone : oneCellFields P fs = true) (hC : P.cellsOf e = fs.size) (h : DataW.trod enc P w base spare held fuel t cs = some x) :
    cs = [.slice Option.none 0 0] ∨
    ∃ (a : Addr) (len cap m : Nat), cs = [.slice (some a) len cap] ∧ len ≤ cap ∧ cap ≤ maxLen ∧ m = (if spare a.block then cap else len) ∧
      ∀ i, i < m → ∃ n : Nat, ∀ (j : Nat) (f : Field), fs[j]? = some f → ∃ (v : Value) (y : DataW H × List MemPlace), w.cell? (a.add (i * fs.size + j)) = some v ∧ DataW.trod enc P w base spare held n f.type [v] = some y := by
  rcases open_slice ht h with h0 | ⟨a, len, cap, m, n, D, Pl, hcs, hb, hl, hm, hmm, hx, hi⟩
  · exact .inl h0.1
  · refine .inr ⟨a, len, cap, m, hcs, hl, hm, hmm, fun i him => ?_⟩
    obtain ⟨cs', hc, ht'⟩ := hi i him
    rw [hC] at hc
    obtain ⟨ys, n', hn', hy, hlen, hyl, hf⟩ := DataW.trod_struct he ht'
    obtain ⟨_, hcl, hat⟩ := World.cells?_some hc
    refine ⟨n', fun j f hj => ?_⟩
    obtain ⟨ho, hk⟩ := hone_of hone j f hj
    have hjl : j < fs.size := (Array.getElem?_eq_some_iff.1 hj).1
    have hcell := hat j hjl
    have hv : cs'[j]? = some (cs'[j]'(by omega)) := List.getElem?_eq_getElem (by omega)
    have h1 := hf j f hj
    rw [ho, hk] at h1
    have hone' : (cs'.drop j).take 1 = [cs'[j]'(by omega)] := by
      rw [List.drop_eq_getElem_cons (by omega)]
      rfl
    rw [hone'] at h1
    have hys : ys[j]? = some (ys[j]'(by omega)) := List.getElem?_eq_getElem (by omega)
    refine ⟨_, _, ?_, h1.trans hys⟩
    rw [← Go.Deep.add_add, hcell, hv]

theorem agg6 {r : Reach} {b0 : Nat} {t : TypeId} {f0 f1 f2 f3 f4 f5 : Field} {v : Value} {d : DataW H} {p : List MemPlace} (hs : P.underlying t = some (.struct #[f0, f1, f2, f3, f4, f5])) (hone : oneCellFields P #[f0, f1, f2, f3, f4, f5] = true) (hC : P.cellsOf t = 6)
    (hv : Value.okWide P w r b0 t v) (h : DataW.Trod enc P w base spare held t v d p) :
    ∃ (v0 v1 v2 v3 v4 v5 : Value) (y0 y1 y2 y3 y4 y5 : DataW H × List MemPlace) (n : Nat), v = .agg #[v0, v1, v2, v3, v4, v5] ∧
      DataW.trod enc P w base spare held n f0.type [v0] = some y0 ∧ DataW.trod enc P w base spare held n f1.type [v1] = some y1 ∧ DataW.trod enc P w base spare held n f2.type [v2] = some y2 ∧ DataW.trod enc P w base spare held n f3.type [v3] = some y3 ∧ DataW.trod enc P w base spare held n f4.type [v4] = some y4 ∧ DataW.trod enc P w base spare held n f5.type [v5] = some y5 := by
  obtain ⟨cs, rfl, hsz⟩ := okWide_struct hs hv
  obtain ⟨l⟩ := cs
  match l, hsz.trans hC with
  | [c0, c1, c2, c3, c4, c5], _ =>
    obtain ⟨fuel, hf⟩ := h
    obtain ⟨xs, n, _, hx, _, hlen, hg⟩ := DataW.trod_struct hs hf
    obtain ⟨o0, k0⟩ := hone_of hone 0 f0 rfl
    obtain ⟨o1, k1⟩ := hone_of hone 1 f1 rfl
    obtain ⟨o2, k2⟩ := hone_of hone 2 f2 rfl
    obtain ⟨o3, k3⟩ := hone_of hone 3 f3 rfl
    obtain ⟨o4, k4⟩ := hone_of hone 4 f4 rfl
    obtain ⟨o5, k5⟩ := hone_of hone 5 f5 rfl
    match xs, hlen with
    | [y0, y1, y2, y3, y4, y5], _ =>
      exact ⟨c0, c1, c2, c3, c4, c5, y0, y1, y2, y3, y4, y5, n, rfl, by simpa [Value.cells, o0, k0] using hg 0 f0 rfl, by simpa [Value.cells, o1, k1] using hg 1 f1 rfl, by simpa [Value.cells, o2, k2] using hg 2 f2 rfl, by simpa [Value.cells, o3, k3] using hg 3 f3 rfl, by simpa [Value.cells, o4, k4] using hg 4 f4 rfl, by simpa [Value.cells, o5, k5] using hg 5 f5 rfl⟩
end

section
variable {H : Type} {enc : TypeId × Value → H} {w : World}

theorem lit_rng {k : Int} (h : (Lit.int .i64 k).wf = true) : -9223372036854775808 ≤ k ∧ k ≤ 9223372036854775807 := by
  simp [Lit.wf, IntKind.min, IntKind.max, IntKind.signed, IntKind.bits] at h
  omega
theorem lit_u64 {k : Int} (h : (Lit.int .u64 k).wf = true) : 0 ≤ k ∧ k < 18446744073709551616 := by
  simp [Lit.wf, IntKind.min, IntKind.max, IntKind.signed, IntKind.bits] at h
  omega

/-- A cell that reads as a slice of whole numbers. -/
theorem ints_of {fuel : Nat} {v : Value} {x : DataW H × List MemPlace} (h : DataW.trod enc Tryd.prog w 0 (fun _ => true) true fuel 22 [v] = some x) :
    ∃ (A : Option Addr) (n c : Nat) (xs : List Int), v = .slice A n c ∧ n ≤ c ∧ Ints w A n xs := by
  rcases open_ints Tryd.underlying22 Tryd.underlying3 (by kernel_rfl) h with ⟨hcs, _⟩ | ⟨a, l, c, zs, hcs, _, hl, hm, hz, _, hcell, hwz⟩
  · obtain rfl : v = .slice Option.none 0 0 := by simpa using hcs
    exact ⟨_, _, _, [], rfl, Nat.le_refl _, Ints.none _⟩
  · obtain rfl : v = .slice (some a) l c := by simpa using hcs
    refine ⟨_, _, _, _, rfl, hl, Ints.of_row (cap := c) (zs := zs) (.inr ⟨a, rfl, hl, hm, by simpa using hz, hcell, hwz⟩)⟩

/-- A constraint that comes in. -/
theorem con_of {b0 : Nat} {v : Value} {d : DataW H} {p : List MemPlace} (hv : Value.okWide Tryd.prog w .any b0 24 v) (h : DataW.Trod enc Tryd.prog w 0 (fun _ => true) true 24 v d p) :
    ∃ (K R Ct : Int) (A1 A2 A3 : Option Addr) (n1 c1 n2 c2 n3 c3 : Nat) (C : ConB), v = .agg #[.int .i64 K, .slice A1 n1 c1, .slice A2 n2 c2, .int .i64 R, .int .i64 Ct, .slice A3 n3 c3] ∧ ConIn w K R Ct A1 A2 A3 n1 c1 n2 c2 n3 c3 C := by
  obtain ⟨v0, v1, v2, v3, v4, v5, y0, y1, y2, y3, y4, y5, n, rfl, h0, h1, h2, h3, h4, h5⟩ := agg6 Tryd.underlying24 (by kernel_rfl) (by kernel_rfl) hv h
  obtain ⟨K, e0, _, w0⟩ := DataW.trod_int Tryd.underlying3 h0
  obtain ⟨R, e3, _, w3⟩ := DataW.trod_int Tryd.underlying3 h3
  obtain ⟨Ct, e4, _, w4⟩ := DataW.trod_int Tryd.underlying3 h4
  obtain ⟨A1, n1, c1, xs1, rfl, k1, I1⟩ := ints_of h1
  obtain ⟨A2, n2, c2, xs2, rfl, k2, I2⟩ := ints_of h2
  obtain ⟨A3, n3, c3, xs3, rfl, k3, I3⟩ := ints_of h5
  obtain rfl : v0 = .int .i64 K := by simpa using e0
  obtain rfl : v3 = .int .i64 R := by simpa using e3
  obtain rfl : v4 = .int .i64 Ct := by simpa using e4
  exact ⟨K, R, Ct, A1, A2, A3, n1, c1, n2, c2, n3, c3, ⟨K, xs1, xs2, R, Ct, xs3⟩, rfl, ⟨rfl, rfl, rfl, I1, I2, I3, k1, k3, lit_rng w0, lit_rng w3, lit_rng w4⟩⟩

theorem list_of {Q : Nat → DomB → Prop} (len : Nat) (h : ∀ j, j < len → ∃ d, Q j d) : ∀ k, k ≤ len → ∃ ds : List DomB, ds.length = k ∧ ∀ j, j < k → Q j (ds.getD j nilD)
  | 0, _ => ⟨[], rfl, fun j hj => by omega⟩
  | k + 1, hk => by
    obtain ⟨ds, hl, hd⟩ := list_of len h k (by omega)
    obtain ⟨d, hq⟩ := h k (by omega)
    refine ⟨ds ++ [d], by simp [hl], fun j hj => ?_⟩
    by_cases hlt : j < k
    · rw [getD_snoc (by omega)]; exact hd j hlt
    · have e : j = ds.length := by omega
      subst e
      rw [getD_last, hl]; exact hq

/-- A slice of domains that comes in. -/
theorem doms_of {A : Option Addr} {n c : Nat} {d : DataW H} {p : List MemPlace} (h : DataW.Trod enc Tryd.prog w 0 (fun _ => true) true 25 (.slice A n c) d p) :
    ∃ ds : List DomB, Doms w A n ds := by
  obtain ⟨fuel, hf⟩ := h
  rcases slice_fields Tryd.underlying25 Tryd.underlying47 (by kernel_rfl) (by kernel_rfl) hf with hcs | ⟨a, len, cap, m, hcs, hl, hm, hmm, hi⟩
  · simp [Value.cells] at hcs
    obtain ⟨rfl, rfl, rfl⟩ := hcs
    exact ⟨[], Doms.none _⟩
  · simp [Value.cells] at hcs
    obtain ⟨rfl, rfl, rfl⟩ := hcs
    simp only [if_true] at hmm
    have hq : ∀ j, j < n → ∃ d : DomB, d.2 < 2 ^ 64 ∧ ∃ B m' c', w.cell? (a.add (j * 2)) = some (.slice B m' c') ∧ w.cell? (a.add (j * 2 + 1)) = some (.int .u64 (d.2 : Nat)) ∧ Ints w B m' d.1 := by
      intro j hj
      obtain ⟨k, hk⟩ := hi j (by omega)
      obtain ⟨v0, y0, k1, k2⟩ := hk 0 _ rfl
      obtain ⟨v1, y1, k3, k4⟩ := hk 1 _ rfl
      obtain ⟨B, m', c', xs, rfl, _, hI⟩ := ints_of k2
      obtain ⟨u, e1, _, w1⟩ := DataW.trod_int Tryd.underlying45 k4
      obtain rfl : v1 = .int .u64 u := by simpa using e1
      obtain ⟨U, rfl⟩ := Int.eq_ofNat_of_zero_le (lit_u64 w1).1
      exact ⟨(xs, U), by have := (lit_u64 w1).2; show U < 2 ^ 64; omega, B, m', c', k1, k3, hI⟩
    obtain ⟨ds, hlen, hd⟩ := list_of n hq n (Nat.le_refl _)
    refine ⟨ds, hlen, by unfold maxLen at hm; omega, fun j hj => (hd j hj).1, fun h0 => ⟨a, rfl, fun j hj => ?_⟩⟩
    obtain ⟨_, B, m', c', k1, k2, k3⟩ := hd j hj
    refine ⟨B, m', c', k1, ?_, k3⟩
    obtain ⟨_, _, _, _, q1, _, _⟩ := hd 0 h0
    have e0 : a.add (0 * 2) = a := by unfold Addr.add; simp
    rw [e0] at q1
    have hp := plain_of_cell q1
    rw [hp, add_plain] at k2 ⊢
    exact k2

/-- A slice of whole numbers that comes in. -/
theorem row_of {A : Option Addr} {n c : Nat} {d : DataW H} {p : List MemPlace} (h : DataW.Trod enc Tryd.prog w 0 (fun _ => true) true 22 (.slice A n c) d p) :
    ∃ xs : List Int, Ints w A n xs := by
  obtain ⟨fuel, hf⟩ := h
  rcases open_ints Tryd.underlying22 Tryd.underlying3 (by kernel_rfl) hf with ⟨hcs, _⟩ | ⟨a, l, cap, zs, hcs, _, hl, hm, hz, _, hcell, hwz⟩
  · simp [Value.cells] at hcs
    obtain ⟨rfl, rfl, rfl⟩ := hcs
    exact ⟨[], Ints.none _⟩
  · simp [Value.cells] at hcs
    obtain ⟨rfl, rfl, rfl⟩ := hcs
    exact ⟨_, Ints.of_row (cap := c) (zs := zs) (.inr ⟨a, rfl, hl, hm, by simpa using hz, hcell, hwz⟩)⟩

/-- A slice of words that comes in. -/
theorem words_of {A : Option Addr} {n c : Nat} {d : DataW H} {p : List MemPlace} (h : DataW.Trod enc Tryd.prog w 0 (fun _ => true) true 42 (.slice A n c) d p) :
    ∃ ms : List Nat, Words w A n ms := by
  obtain ⟨fuel, hf⟩ := h
  rcases open_ints Tryd.underlying42 Tryd.underlying45 (by kernel_rfl) hf with ⟨hcs, _⟩ | ⟨a, l, cap, zs, hcs, _, hl, hm, hz, _, hcell, hwz⟩
  · simp [Value.cells] at hcs
    obtain ⟨rfl, rfl, rfl⟩ := hcs
    exact ⟨[], rfl, by omega, fun j => by simp, fun h => by omega⟩
  · simp [Value.cells] at hcs
    obtain ⟨rfl, rfl, rfl⟩ := hcs
    simp only [if_true] at hz
    have hg : ∀ j, (((zs.take n).map Int.toNat).getD j 0) = if j < n then (zs.getD j 0).toNat else 0 := by
      intro j
      simp only [List.getD_eq_getElem?_getD, List.getElem?_map]
      by_cases hj : j < n
      · rw [List.getElem?_take_of_lt hj, if_pos hj]
        cases zs[j]? <;> rfl
      · rw [if_neg hj, List.getElem?_eq_none (by rw [List.length_take]; omega)]; rfl
    have hr : ∀ j, j < zs.length → 0 ≤ zs.getD j 0 ∧ zs.getD j 0 < 18446744073709551616 := fun j hj => lit_u64 (hwz _ (by
      rw [List.getD_eq_getElem?_getD, List.getElem?_eq_getElem hj]; exact List.getElem_mem hj))
    refine ⟨(zs.take n).map Int.toNat, by simp; omega, by unfold maxLen at hm; omega, fun j => ?_, fun h0 => ⟨a, rfl, fun j hj => ?_⟩⟩
    · rw [hg]
      split
      · have := hr j (by omega); omega
      · decide
    · rw [hcell j (by omega), hg, if_pos hj]
      have := hr j (by omega)
      congr 2
      omega
end
end Go.Proofs.YtjmegicopdbkdaaDoor

namespace Go.Proofs.YtjmegicopdbkdaaDoor
namespace Pl

/-- What the questions of the first j variables keep. -/
def varsKp (vars : List Int) (g : Nat → Int → Bool) (j i : Nat) (x : Int) : Bool := (List.range j).all fun k => !decide ((vars.getD k 0).toNat = i) || g k x
theorem varsKp_iff {vars : List Int} {g : Nat → Int → Bool} {j i : Nat} {x : Int} : varsKp vars g j i x = true ↔ ∀ k, k < j → (vars.getD k 0).toNat = i → g k x = true := by
  unfold varsKp
  rw [List.all_eq_true]
  constructor
  · intro h k hk e
    have := h k (List.mem_range.2 hk)
    rw [decide_eq_true e] at this
    simpa using this
  · intro h k hk
    by_cases e : (vars.getD k 0).toNat = i
    · rw [h k (List.mem_range.1 hk) e]; simp
    · rw [decide_eq_false e]; rfl
theorem varsKp_succ (vars : List Int) (g : Nat → Int → Bool) (j i : Nat) (x : Int) : varsKp vars g (j + 1) i x = (varsKp vars g j i x && (!decide ((vars.getD j 0).toNat = i) || g j x)) := by
  unfold varsKp
  rw [List.range_succ, List.all_append]; simp

/-- What is kept behind the first ones of a list. -/
def pkV (g : Int → Bool) (l : List Int) (x : Int) : Bool := l.all fun v => x != v || g v
theorem pkV_none (g : Int → Bool) {d : DomB} (hm : mayB d.1 d.2 = true) : keepD (pkV g []) d = d := keepD_all hm (fun _ _ => rfl)
theorem pkV_yes {g : Int → Bool} {l : List Int} {v : Int} (hv : g v = true) : pkV g (l ++ [v]) = pkV g l := by
  funext x; unfold pkV; rw [List.all_append]; simp [hv]
theorem pkV_no {g : Int → Bool} {l : List Int} {v : Int} (hv : g v = false) (d : DomB) : keepD (fun x => x != v) (keepD (pkV g l) d) = keepD (pkV g (l ++ [v])) d := by
  rw [keepD_keepD]
  congr 1
  funext x; unfold pkV; rw [List.all_append]; simp [hv]

/-- The domains in the middle of a variable's round. -/
def midB (vars : List Int) (g : Nat → Int → Bool) (ds : List DomB) (j p m : Nat) : List DomB :=
  (stepB (varsKp vars g j) ds).set p (keepD (pkV (g j) ((listB (ds.getD p ([], 0)).1 (ds.getD p ([], 0)).2).take m)) ((stepB (varsKp vars g j) ds).getD p ([], 0)))

theorem set_getD_self {α : Type} (l : List α) (p : Nat) (d : α) (hp : p < l.length) : l.set p (l.getD p d) = l := by
  apply List.ext_getElem (by simp)
  intro i h1 h2
  rw [List.getElem_set]
  split
  · rename_i e; subst e
    rw [List.getD_eq_getElem?_getD, List.getElem?_eq_getElem hp]; rfl
  · rfl

theorem midB_length (vars : List Int) (g : Nat → Int → Bool) (ds : List DomB) (j p m : Nat) : (midB vars g ds j p m).length = ds.length := by
  unfold midB; rw [List.length_set, stepB_length]
theorem midB_at (vars : List Int) (g : Nat → Int → Bool) (ds : List DomB) (j p m : Nat) (hp : p < ds.length) :
    (midB vars g ds j p m).getD p ([], 0) = keepD (pkV (g j) ((listB (ds.getD p ([], 0)).1 (ds.getD p ([], 0)).2).take m)) (keepD (varsKp vars g j p) (ds.getD p ([], 0))) := by
  unfold midB
  rw [getD_set _ _ _ _ (by rw [stepB_length]; exact hp), if_pos rfl, stepB_getD _ _ hp]
theorem midB_may {vars : List Int} {g : Nat → Int → Bool} {ds : List DomB} {j p m : Nat} (hp : p < ds.length) (hm : allMay ds = true) : mayB ((midB vars g ds j p m).getD p ([], 0)).1 ((midB vars g ds j p m).getD p ([], 0)).2 = true := by
  rw [midB_at _ _ _ _ _ _ hp]
  exact keepD_may (keepD_may (allMay_at hm hp))
theorem midB_vals (vars : List Int) (g : Nat → Int → Bool) (ds : List DomB) (j p m : Nat) (hp : p < ds.length) : ((midB vars g ds j p m).getD p ([], 0)).1 = (ds.getD p ([], 0)).1 := by
  rw [midB_at _ _ _ _ _ _ hp, keepD_fst, keepD_fst]

theorem stepB_varsKp_zero {vars : List Int} {g : Nat → Int → Bool} {ds : List DomB} (hm : allMay ds = true) : stepB (varsKp vars g 0) ds = ds := by
  apply ext_getD (stepB_length _ _)
  intro i hi
  rw [stepB_length] at hi
  rw [stepB_getD _ _ hi]
  exact keepD_all (allMay_at hm hi) (fun _ _ => rfl)

theorem midB_zero {vars : List Int} {g : Nat → Int → Bool} {ds : List DomB} {j p : Nat} (hp : p < ds.length) (hm : allMay ds = true) : midB vars g ds j p 0 = stepB (varsKp vars g j) ds := by
  unfold midB
  rw [List.take_zero, stepB_getD _ _ hp, pkV_none _ (keepD_may (allMay_at hm hp)), ← stepB_getD _ _ hp]
  exact set_getD_self _ _ _ (by rw [stepB_length]; exact hp)

theorem take_one {l : List Int} {m : Nat} {v : Int} (hm : m < l.length) (hv : l.getD m 0 = v) : l.take (m + 1) = l.take m ++ [v] := by
  rw [List.take_succ_eq_append_getElem hm]
  rw [List.getD_eq_getElem?_getD, List.getElem?_eq_getElem hm] at hv
  simp only [Option.getD_some] at hv
  rw [hv]

theorem midB_yes {vars : List Int} {g : Nat → Int → Bool} {ds : List DomB} {j p m : Nat} {v : Int} (hl : m < (listB (ds.getD p ([], 0)).1 (ds.getD p ([], 0)).2).length) (hv : (listB (ds.getD p ([], 0)).1 (ds.getD p ([], 0)).2).getD m 0 = v) (hg : g j v = true) :
    midB vars g ds j p (m + 1) = midB vars g ds j p m := by
  unfold midB
  rw [take_one hl hv, pkV_yes hg]
theorem midB_no {vars : List Int} {g : Nat → Int → Bool} {ds : List DomB} {j p m : Nat} {v : Int} (hp : p < ds.length) (hl : m < (listB (ds.getD p ([], 0)).1 (ds.getD p ([], 0)).2).length) (hv : (listB (ds.getD p ([], 0)).1 (ds.getD p ([], 0)).2).getD m 0 = v) (hg : g j v = false) :
    midB vars g ds j p (m + 1) = (midB vars g ds j p m).set p (keepD (fun x => x != v) ((midB vars g ds j p m).getD p ([], 0))) := by
  rw [midB_at _ _ _ _ _ _ hp]
  unfold midB
  rw [List.set_set, take_one hl hv, stepB_getD _ _ hp, pkV_no hg]
theorem midB_end {vars : List Int} {g : Nat → Int → Bool} {ds : List DomB} {j p m : Nat} (hp : p < ds.length) (hm : allMay ds = true) (hj : vars.getD j 0 = (p : Nat)) (hl : (listB (ds.getD p ([], 0)).1 (ds.getD p ([], 0)).2).length = m) :
    midB vars g ds j p m = stepB (varsKp vars g (j + 1)) ds := by
  apply ext_getD (by rw [midB_length, stepB_length])
  intro i hi
  rw [midB_length] at hi
  rw [stepB_getD _ _ hi]
  by_cases e : i = p
  · subst e
    rw [midB_at _ _ _ _ _ _ hi, List.take_of_length_le (by omega), keepD_keepD]
    refine keepD_congr (allMay_at hm hi) fun v hv => ?_
    rw [varsKp_succ, hj, Int.toNat_natCast, decide_eq_true rfl]
    congr 1
    simp only [Bool.not_true, Bool.false_or]
    unfold pkV
    rw [Bool.eq_iff_iff, List.all_eq_true]
    constructor
    · intro h
      simpa using h v hv
    · intro h u _
      by_cases e : v = u
      · subst e; simp [h]
      · simp [e]
  · unfold midB
    rw [getD_set _ _ _ _ (by rw [stepB_length]; exact hp), if_neg e, stepB_getD _ _ hi]
    congr 1
    funext x
    rw [varsKp_succ, hj, Int.toNat_natCast, decide_eq_false (fun h => e h.symm)]
    simp

/-! ### The laws of a step that keeps so -/
theorem varsKp_mono {vars : List Int} {g h : Nat → Int → Bool} {j i : Nat} {x : Int} (hgh : ∀ k, k < j → (vars.getD k 0).toNat = i → g k x = true → h k x = true) (hx : varsKp vars g j i x = true) : varsKp vars h j i x = true :=
  varsKp_iff.2 fun k hk e => hgh k hk e (varsKp_iff.1 hx k hk e)

end Pl
end Go.Proofs.YtjmegicopdbkdaaDoor

namespace Go.Proofs.YtjmegicopdbkdaaDoor
namespace Pl

theorem getD_set3 {α : Type} (l : List α) (i j : Nat) (v d : α) (hi : i < l.length) : (l.set i v).getD j d = if j = i then v else l.getD j d := by
  by_cases e : j = i
  · subst e; rw [if_pos rfl]; simp [List.getD_eq_getElem?_getD, hi]
  · rw [if_neg e]; simp only [List.getD_eq_getElem?_getD, List.getElem?_set_ne (fun h => e h.symm)]

/-- The lists, those of the first j variables emptied. -/
def noneU (vars : List Int) (ls : List (List Int)) : Nat → List (List Int)
  | 0 => ls
  | j + 1 => (noneU vars ls j).set (vars.getD j 0).toNat []
theorem noneU_length (vars : List Int) (ls : List (List Int)) (j : Nat) : (noneU vars ls j).length = ls.length := by
  induction j with
  | zero => rfl
  | succ j ih => simp only [noneU, List.length_set, ih]
theorem noneU_out {vars : List Int} {ls : List (List Int)} {j q : Nat} (h : ∀ k, k < j → (vars.getD k 0).toNat ≠ q) : (noneU vars ls j).getD q [] = ls.getD q [] := by
  induction j with
  | zero => rfl
  | succ j ih =>
    simp only [noneU]
    rw [List.getD_eq_getElem?_getD, List.getElem?_set_ne (h j (by omega)), ← List.getD_eq_getElem?_getD]
    exact ih fun k hk => h k (by omega)
theorem noneU_in {vars : List Int} {ls : List (List Int)} {j q : Nat} (hv : ∀ k, k < j → (vars.getD k 0).toNat < ls.length) (h : ∃ k, k < j ∧ (vars.getD k 0).toNat = q) : (noneU vars ls j).getD q [] = [] := by
  induction j with
  | zero => obtain ⟨k, hk, _⟩ := h; omega
  | succ j ih =>
    simp only [noneU]
    rw [getD_set3 _ _ _ _ _ (by rw [noneU_length]; exact hv j (by omega))]
    split
    · rfl
    · rename_i hne
      obtain ⟨k, hk, e⟩ := h
      refine ih (fun k hk => hv k (by omega)) ⟨k, ?_, e⟩
      have : k ≠ j := fun h => hne (by rw [← e, h])
      omega

/-- .., and those of the first j filled by what their questions let by. -/
def fillU (vars : List Int) (ls : List (List Int)) (g : Nat → Int → Bool) (m : Nat) : Nat → List (List Int)
  | 0 => noneU vars ls m
  | j + 1 => (fillU vars ls g m j).set (vars.getD j 0).toNat ((ls.getD (vars.getD j 0).toNat []).filter (g j))
theorem fillU_length (vars : List Int) (ls : List (List Int)) (g : Nat → Int → Bool) (m j : Nat) : (fillU vars ls g m j).length = ls.length := by
  induction j with
  | zero => exact noneU_length _ _ _
  | succ j ih => simp only [fillU, List.length_set, ih]
theorem fillU_out {vars : List Int} {ls : List (List Int)} {g : Nat → Int → Bool} {m j q : Nat} (h : ∀ k, k < j → (vars.getD k 0).toNat ≠ q) : (fillU vars ls g m j).getD q [] = (noneU vars ls m).getD q [] := by
  induction j with
  | zero => rfl
  | succ j ih =>
    simp only [fillU]
    rw [List.getD_eq_getElem?_getD, List.getElem?_set_ne (h j (by omega)), ← List.getD_eq_getElem?_getD]
    exact ih fun k hk => h k (by omega)
theorem fillU_in {vars : List Int} {ls : List (List Int)} {g : Nat → Int → Bool} {m j i : Nat} (hv : ∀ k, k < j → (vars.getD k 0).toNat < ls.length) (hd : ∀ k, k < j → k ≠ i → (vars.getD k 0).toNat ≠ (vars.getD i 0).toNat) (hi : i < j) :
    (fillU vars ls g m j).getD (vars.getD i 0).toNat [] = (ls.getD (vars.getD i 0).toNat []).filter (g i) := by
  induction j with
  | zero => omega
  | succ j ih =>
    simp only [fillU]
    rw [getD_set3 _ _ _ _ _ (by rw [fillU_length]; exact hv j (by omega))]
    by_cases e : j = i
    · subst e; rw [if_pos rfl]
    · rw [if_neg (fun h => hd j (by omega) e h.symm)]
      exact ih (fun k hk => hv k (by omega)) (fun k hk => hd k (by omega)) (by omega)

theorem varsOk_ne' {vs : List Int} {V : Int} (h : varsOk vs V = true) {i k : Nat} (hi : i < vs.length) (hk : k < vs.length) (e : k ≠ i) : (vs.getD k 0).toNat ≠ (vs.getD i 0).toNat := by
  have h1 := varsOk_rng h hi
  have h2 := varsOk_rng h hk
  have h3 : vs.getD k 0 ≠ vs.getD i 0 := by
    rcases Nat.lt_or_ge k i with h4 | h4
    · exact varsOk_ne h hi h4
    · exact (varsOk_ne h hk (by omega)).symm
  omega

/-- In the middle of a variable's round. -/
def midL (vars : List Int) (ls : List (List Int)) (g : Nat → Int → Bool) (m j p k : Nat) : List (List Int) := (fillU vars ls g m j).set p (((ls.getD p []).take k).filter (g j))
theorem midL_length (vars : List Int) (ls : List (List Int)) (g : Nat → Int → Bool) (m j p k : Nat) : (midL vars ls g m j p k).length = ls.length := by
  unfold midL; rw [List.length_set, fillU_length]
theorem midL_zero {vars : List Int} {ls : List (List Int)} {g : Nat → Int → Bool} {j p : Nat} (hv : varsOk vars ls.length = true) (hj : j < vars.length) (hp : vars.getD j 0 = (p : Nat)) : midL vars ls g vars.length j p 0 = fillU vars ls g vars.length j := by
  have hpl : p < ls.length := by have := varsOk_rng hv hj; omega
  unfold midL
  rw [List.take_zero, List.filter_nil]
  have e : (fillU vars ls g vars.length j).getD p [] = [] := by
    rw [fillU_out (fun k hk => by have := varsOk_ne' hv hj (show k < vars.length by omega) (by omega); rw [hp] at this; exact this)]
    exact noneU_in (fun k hk => by have := varsOk_rng hv hk; omega) ⟨j, hj, by rw [hp]; rfl⟩
  have h := set_getD_self (fillU vars ls g vars.length j) p [] (by rw [fillU_length]; exact hpl)
  rw [e] at h
  exact h
theorem midL_at {vars : List Int} {ls : List (List Int)} {g : Nat → Int → Bool} {m j p k : Nat} (hp : p < ls.length) : (midL vars ls g m j p k).getD p [] = ((ls.getD p []).take k).filter (g j) := by
  unfold midL
  rw [getD_set3 _ _ _ _ _ (by rw [fillU_length]; exact hp), if_pos rfl]
theorem midL_no {vars : List Int} {ls : List (List Int)} {g : Nat → Int → Bool} {m j p k : Nat} {v : Int} (hk : k < (ls.getD p []).length) (hv : (ls.getD p []).getD k 0 = v) (hg : g j v = false) : midL vars ls g m j p (k + 1) = midL vars ls g m j p k := by
  unfold midL
  rw [take_one hk hv, List.filter_append]
  simp [hg]
theorem midL_yes {vars : List Int} {ls : List (List Int)} {g : Nat → Int → Bool} {m j p k : Nat} {v : Int} (hp : p < ls.length) (hk : k < (ls.getD p []).length) (hv : (ls.getD p []).getD k 0 = v) (hg : g j v = true) :
    midL vars ls g m j p (k + 1) = (midL vars ls g m j p k).set p ((midL vars ls g m j p k).getD p [] ++ [v]) := by
  rw [midL_at hp]
  unfold midL
  rw [List.set_set, take_one hk hv, List.filter_append]
  simp [hg]
theorem midL_end {vars : List Int} {ls : List (List Int)} {g : Nat → Int → Bool} {m j p k : Nat} (hp : vars.getD j 0 = (p : Nat)) (hk : (ls.getD p []).length = k) : midL vars ls g m j p k = fillU vars ls g m (j + 1) := by
  unfold midL
  simp only [fillU]
  rw [hp, Int.toNat_natCast, List.take_of_length_le (by omega)]

/-- What is kept by the lists so filled. -/
theorem fillU_keeps {vars : List Int} {ls : List (List Int)} {g : Nat → Int → Bool} {q : Nat} {v : Int} (hv : varsOk vars ls.length = true) (hm : v ∈ ls.getD q []) : ((fillU vars ls g vars.length vars.length).getD q []).contains v = varsKp vars g vars.length q v := by
  have hr : ∀ k, k < vars.length → (vars.getD k 0).toNat < ls.length := fun k hk => by have := varsOk_rng hv hk; omega
  rw [Bool.eq_iff_iff, List.contains_iff_mem, varsKp_iff]
  by_cases h : ∃ i, i < vars.length ∧ (vars.getD i 0).toNat = q
  · obtain ⟨i, hi, rfl⟩ := h
    rw [fillU_in hr (fun k hk e => varsOk_ne' hv hi hk e) hi, List.mem_filter]
    constructor
    · rintro ⟨_, h2⟩ k hk e
      have : k = i := by
        rcases Nat.decEq k i with h3 | h3
        · exact absurd e (varsOk_ne' hv hi hk h3)
        · exact h3
      subst this; exact h2
    · intro h2
      exact ⟨hm, h2 i hi rfl⟩
  · have hn : ∀ k, k < vars.length → (vars.getD k 0).toNat ≠ q := fun k hk e => h ⟨k, hk, e⟩
    rw [fillU_out hn, noneU_out hn]
    exact ⟨fun _ k hk e => absurd e (hn k hk), fun _ => hm⟩
end Pl
end Go.Proofs.YtjmegicopdbkdaaDoor

set_option maxHeartbeats 1000000
namespace Go.Proofs.YtjmegicopdbkdaaDoor
open Go Go.RowKit Pl

/-- The slice u, in blocks from base on, owns the domains ds; their values do not lie in its own block. -/
def OwnR (w : World) (base : Nat) (u : Value) (ds : List DomB) : Prop :=
  ∃ vs : List Value, w.ownsRow base 64 2 u ds.length vs ∧ ∀ j, j < ds.length → (ds.getD j nilD).2 < 2 ^ 64 ∧
    ∃ B m c, vs[j * 2]? = some (.slice B m c) ∧ vs[j * 2 + 1]? = some (.int .u64 ((ds.getD j nilD).2 : Nat)) ∧ Ints w B m (ds.getD j nilD).1 ∧ (0 < m → ∀ a, B = some a → u.ownBlock ≠ some a.block)

theorem OwnR.nil (w : World) (base : Nat) : OwnR w base (.slice Option.none 0 0) [] :=
  ⟨[], World.ownsRow_nil _ _ _ _, fun j hj => by simp at hj⟩

theorem OwnR.kept {w w' : World} {base : Nat} {u : Value} {ds : List DomB} (h : OwnR w base u ds) (hk : Kept w w') : OwnR w' base u ds := by
  obtain ⟨vs, hown, hd⟩ := h
  refine ⟨vs, hown.kept (row := Option.none) ⟨hk.os, hk.tape, hk.output, hk.size, fun k hk' _ => hk.block k hk'⟩ ?_, fun j hj => ?_⟩
  · cases u.ownBlock <;> simp
  · obtain ⟨hl, B, m, c, h1, h2, h3, h4⟩ := hd j hj
    exact ⟨hl, B, m, c, h1, h2, h3.kept hk, h4⟩

/-- One more: behind the copy of its values and the append. w1: where the append begins (its element laid in a block of its own). -/
theorem OwnR.snoc {w1 w2 : World} {base g cap : Nat} {u : Value} {ds : List DomB} {d : DomB} {B : Option Addr} {m c : Nat} {vs : List Value}
    (hown : w1.ownsRow base 64 2 u ds.length vs) (hd : ∀ j, j < ds.length → (ds.getD j nilD).2 < 2 ^ 64 ∧ ∃ B m c, vs[j * 2]? = some (.slice B m c) ∧ vs[j * 2 + 1]? = some (.int .u64 ((ds.getD j nilD).2 : Nat)) ∧ Ints w1 B m (ds.getD j nilD).1 ∧ (0 < m → ∀ a, B = some a → u.ownBlock ≠ some a.block))
    (hI : Ints w1 B m d.1) (hB : 0 < m → ∀ a, B = some a → u.ownBlock ≠ some a.block) (hL : d.2 < 2 ^ 64)
    (h2 : w2.ownsRow base 64 2 (.slice (some ⟨g, 0, Option.none⟩) (ds.length + 1) cap) (ds.length + 1) (vs ++ [.slice B m c, .int .u64 (d.2 : Nat)]))
    (hg : w1.grownBy w2 u.ownBlock) (hat : u.ownBlock = some g ∨ w1.heap.size ≤ g) : OwnR w2 base (.slice (some ⟨g, 0, Option.none⟩) (ds.length + 1) cap) (ds ++ [d]) := by
  have hlen : vs.length = ds.length * 2 := hown.1
  have hne : ∀ a : Addr, a.block < w1.heap.size → u.ownBlock ≠ some a.block → Value.ownBlock (.slice (some ⟨g, 0, Option.none⟩) (ds.length + 1) cap) ≠ some a.block := by
    intro a h1 h2 e
    simp only [Value.ownBlock, Option.some.injEq] at e
    rcases hat with h | h
    · rw [h, e] at h2; exact h2 rfl
    · omega
  have hint : ∀ {B : Option Addr} {m : Nat} {xs : List Int}, Ints w1 B m xs → (0 < m → ∀ a, B = some a → u.ownBlock ≠ some a.block) → Ints w2 B m xs := by
    intro B m xs h hb
    refine ⟨h.len, h.small, h.rng, fun hn => ?_⟩
    obtain ⟨a, e, hc⟩ := h.cell hn
    exact ⟨a, e, fun j hj => hg.cell (hc j hj) (by rw [add_block']; exact fun e' => hb hn a e e'.symm)⟩
  have hblk : ∀ {B : Option Addr} {m : Nat} {xs : List Int}, Ints w1 B m xs → 0 < m → ∀ a, B = some a → a.block < w1.heap.size := by
    intro B m xs h hn a ha
    subst ha
    exact h.block hn
  refine ⟨vs ++ [.slice B m c, .int .u64 (d.2 : Nat)], by rw [List.length_append]; exact h2, fun j hj => ?_⟩
  rw [List.length_append] at hj
  simp only [List.length_cons, List.length_nil] at hj
  by_cases hlt : j < ds.length
  · rw [getD_snoc hlt]
    obtain ⟨hl, B', m', c', e1, e2, e3, e4⟩ := hd j hlt
    refine ⟨hl, B', m', c', ?_, ?_, hint e3 e4, fun hn a ha => hne a (hblk e3 hn a ha) (e4 hn a ha)⟩
    · rw [List.getElem?_append_left (by omega)]; exact e1
    · rw [List.getElem?_append_left (by omega)]; exact e2
  · have e : j = ds.length := by omega
    subst e
    rw [getD_last]
    refine ⟨hL, B, m, c, ?_, ?_, hint hI hB, fun hn a ha => hne a (hblk hI hn a ha) (hB hn a ha)⟩
    · rw [List.getElem?_append_right (by omega), hlen]; simp
    · rw [List.getElem?_append_right (by omega), hlen]
      have : ds.length * 2 + 1 - ds.length * 2 = 1 := by omega
      rw [this]; rfl

theorem OwnR.parts {w : World} {base : Nat} {u : Value} {ds : List DomB} (h : OwnR w base u ds) : ∃ A c, u = .slice A ds.length c := by
  obtain ⟨vs, hown, _⟩ := h
  rcases hown.2 with ⟨rfl, h0⟩ | ⟨g, cap, cur, rfl, _⟩
  · rw [h0]; exact ⟨_, _, rfl⟩
  · exact ⟨_, _, rfl⟩

theorem OwnR.doms {w : World} {base c : Nat} {A : Option Addr} {n : Nat} {ds : List DomB} (h : OwnR w base (.slice A n c) ds) (hn : ds.length = n) (hs : n ≤ 9223372036854775807) : Doms w A n ds := by
  obtain ⟨vs, hown, hd⟩ := h
  subst hn
  refine ⟨rfl, hs, fun j hj => (hd j hj).1, fun h0 => ?_⟩
  obtain ⟨g, cap, e, hb, hlt⟩ := hown.form h0
  cases e
  refine ⟨_, rfl, fun j hj => ?_⟩
  obtain ⟨_, B, m, c, e1, e2, e3, _⟩ := hd j hj
  refine ⟨B, m, c, hown.cells (g := g) rfl _ _ e1, ?_, e3⟩
  have := hown.cells (g := g) rfl _ _ e2
  rw [add_plain] at this ⊢
  exact this

/-- A domain of the row is turned. -/
theorem OwnR.set {w : World} {base g n cap p : Nat} {ds : List DomB} {d : DomB} {B : Option Addr} {m c : Nat} (h : OwnR w base (.slice (some ⟨g, 0, Option.none⟩) n cap) ds) (hn : ds.length = n) (_hp : p < n) (hI : Ints w B m d.1) (hB : 0 < m → ∀ a, B = some a → a.block ≠ g) (hL : d.2 < 2 ^ 64) :
    OwnR ((w.setCell ⟨g, p * 2, Option.none⟩ (.slice B m c)).setCell ⟨g, p * 2 + 1, Option.none⟩ (.int .u64 (d.2 : Nat))) base (.slice (some ⟨g, 0, Option.none⟩) n cap) (ds.set p d) := by
  obtain ⟨vs, hown, hd⟩ := h
  subst hn
  have hlen : vs.length = ds.length * 2 := hown.1
  have h2 := (((hown.stored (p * 2) (.slice B m c)).1).stored (p * 2 + 1) (.int .u64 (d.2 : Nat))).1
  have hk : KeptBut g w ((w.setCell ⟨g, p * 2, Option.none⟩ (.slice B m c)).setCell ⟨g, p * 2 + 1, Option.none⟩ (.int .u64 (d.2 : Nat))) := (KeptBut.set _ (a := ⟨g, p * 2, Option.none⟩) rfl _).then (KeptBut.set _ (a := ⟨g, p * 2 + 1, Option.none⟩) rfl _)
  refine ⟨_, by rw [List.length_set]; exact h2, fun j hj => ?_⟩
  rw [List.length_set] at hj
  rw [getD_set ds p j d (by omega)]
  by_cases e : j = p
  · subst e
    rw [if_pos rfl]
    refine ⟨hL, B, m, c, ?_, ?_, hI.keptBut0 hk hB, fun hn a ha e => hB hn a ha (by simpa [Value.ownBlock] using e.symm)⟩
    · rw [List.getElem?_set_ne (by omega), List.getElem?_set_self (by omega)]
    · rw [List.getElem?_set_self (by rw [List.length_set]; omega)]
  · rw [if_neg e]
    obtain ⟨hl, B', m', c', e1, e2, e3, e4⟩ := hd j hj
    refine ⟨hl, B', m', c', ?_, ?_, e3.keptBut0 hk (fun hn a ha e => e4 hn a ha (by simp [Value.ownBlock, e])), e4⟩
    · rw [List.getElem?_set_ne (by omega), List.getElem?_set_ne (by omega)]; exact e1
    · rw [List.getElem?_set_ne (by omega), List.getElem?_set_ne (by omega)]; exact e2

/-- What is left of a domain of the row is turned. -/
theorem OwnR.setLive {w : World} {base g n cap p L : Nat} {ds : List DomB} (h : OwnR w base (.slice (some ⟨g, 0, Option.none⟩) n cap) ds) (hn : ds.length = n) (_hp : p < n) (hL : L < 2 ^ 64) :
    OwnR (w.setCell ⟨g, p * 2 + 1, Option.none⟩ (.int .u64 (L : Nat))) base (.slice (some ⟨g, 0, Option.none⟩) n cap) (ds.set p ((ds.getD p nilD).1, L)) := by
  obtain ⟨vs, hown, hd⟩ := h
  subst hn
  have hlen : vs.length = ds.length * 2 := hown.1
  have h2 := (hown.stored (p * 2 + 1) (.int .u64 (L : Nat))).1
  have hk : KeptBut g w (w.setCell ⟨g, p * 2 + 1, Option.none⟩ (.int .u64 (L : Nat))) := KeptBut.set _ (a := ⟨g, p * 2 + 1, Option.none⟩) rfl _
  refine ⟨_, by rw [List.length_set]; exact h2, fun j hj => ?_⟩
  rw [List.length_set] at hj
  rw [getD_set ds p j _ (by omega)]
  obtain ⟨hl, B', m', c', e1, e2, e3, e4⟩ := hd j hj
  have e3' := e3.keptBut0 hk (fun hn a ha e => e4 hn a ha (by simp [Value.ownBlock, e]))
  by_cases e : j = p
  · subst e
    rw [if_pos rfl]
    refine ⟨hL, B', m', c', ?_, ?_, e3', e4⟩
    · rw [List.getElem?_set_ne (by omega)]; exact e1
    · rw [List.getElem?_set_self (by omega)]
  · rw [if_neg e]
    refine ⟨hl, B', m', c', ?_, ?_, e3', e4⟩
    · rw [List.getElem?_set_ne (by omega)]; exact e1
    · rw [List.getElem?_set_ne (by omega)]; exact e2

/-- The domain at a place of the row, behind names; where it lies; that it may be written. -/
theorem OwnR.named {w : World} {base g n cap : Nat} {ds : List DomB} (h : OwnR w base (.slice (some ⟨g, 0, Option.none⟩) n cap) ds) (hn : ds.length = n) (p : Nat) (hp : p < n) :
    ∃ (xs : List Int) (L : Nat) (B : Option Addr) (m c : Nat), Hid (ds.getD p nilD = (xs, L)) ∧ w.cell? ⟨g, p * 2, Option.none⟩ = some (.slice B m c) ∧ w.cell? ⟨g, p * 2 + 1, Option.none⟩ = some (.int .u64 (L : Nat)) ∧ Hid (Ints w B m xs) ∧ L < 2 ^ 64 ∧
      Hid (0 < m → ∀ a, B = some a → a.block ≠ g) ∧ w.frozen? ⟨g, p * 2, Option.none⟩ = false ∧ w.frozen? ⟨g, p * 2 + 1, Option.none⟩ = false := by
  obtain ⟨vs, hown, hd⟩ := h
  subst hn
  obtain ⟨hl, B, m, c, e1, e2, e3, e4⟩ := hd p hp
  refine ⟨_, _, B, m, c, rfl, ?_, ?_, e3, hl, fun hn a ha e => e4 hn a ha (by simp [Value.ownBlock, e]), hown.frozenAt _, hown.frozenAt _⟩
  · rw [hown.cellAt _ (by omega)]; exact e1
  · rw [hown.cellAt _ (by omega)]; exact e2
end Go.Proofs.YtjmegicopdbkdaaDoor

/-
  Contracts and plain laws that the card rests on, part 4.
-/
import Derived.Test.YtekcenacpklpgaaDoorMTells3
import Derived.StillTailTactics
import Derived.Deep.Slices
import Derived.Deep.Fields
import Derived.ChangeSame
import Derived.Lib.SmallJoins
import Derived.ProofKit
import Derived.Test.YtekcenacpklpgaaDoorMTells2
set_option maxHeartbeats 1000000
set_option maxRecDepth 10000
namespace Go.Proofs.YtekcenacpklpgaaDoor
open Go Go.RowKit Pl

/-- A slice that reads as whole numbers without sign, of 64 bits. -/
structure Words (w : World) (A : Option Addr) (n : Nat) (ms : List Nat) : Prop where
  len : ms.length = n
  small : n ≤ 9223372036854775807
  lt : ∀ j, ms.getD j 0 < 2 ^ 64
  cell : 0 < n → ∃ a, A = some a ∧ ∀ j, j < n → w.cell? (a.add j) = some (.int .u64 (ms.getD j 0 : Nat))
theorem Words.kept {w w' : World} {A : Option Addr} {n : Nat} {ms : List Nat} (h : Words w A n ms) (hk : Kept w w') : Words w' A n ms :=
  ⟨h.len, h.small, h.lt, fun hn => by
    obtain ⟨a, e, hc⟩ := h.cell hn
    exact ⟨a, e, fun j hj => hk.cellAt (hc j hj)⟩⟩
theorem Words.named {w : World} {A : Option Addr} {n : Nat} {ms : List Nat} (h : Words w A n ms) (k : Nat) (hk : k < n) :
    ∃ (a : Addr) (x : Nat), A = some a ∧ a.block < w.heap.size ∧ Hid (ms.getD k 0 = x) ∧ w.cell? (a.add k) = some (.int .u64 (x : Nat)) ∧ x < 2 ^ 64 := by
  obtain ⟨a, rfl, hc⟩ := h.cell (by omega)
  have := World.block_lt_of_cell? w _ (hc k hk)
  rw [add_block'] at this
  exact ⟨a, _, rfl, this, rfl, hc k hk, h.lt k⟩

/-- Domains of which less is left, up to a place. -/
def fewUpto (ds : List DomB) (ms : List Nat) (k : Nat) : List DomB :=
  (List.range ds.length).map fun i => if i < k ∧ i < ms.length then ((ds.getD i nilD).1, (ds.getD i nilD).2 &&& ms.getD i 0) else ds.getD i nilD
theorem fewUpto_length (ds : List DomB) (ms : List Nat) (k : Nat) : (fewUpto ds ms k).length = ds.length := by simp [fewUpto]
theorem fewUpto_getD (ds : List DomB) (ms : List Nat) (k : Nat) {i : Nat} (hi : i < ds.length) : (fewUpto ds ms k).getD i nilD = if i < k ∧ i < ms.length then ((ds.getD i nilD).1, (ds.getD i nilD).2 &&& ms.getD i 0) else ds.getD i nilD := by
  unfold fewUpto
  rw [List.getD_eq_getElem?_getD, List.getElem?_map, List.getElem?_range hi]
  rfl
theorem fewUpto_zero (ds : List DomB) (ms : List Nat) : fewUpto ds ms 0 = ds := by
  apply ext_getD (fewUpto_length _ _ _)
  intro i hi
  rw [fewUpto_length] at hi
  have := fewUpto_getD ds ms 0 hi
  rw [if_neg (by omega)] at this
  exact this
theorem fewUpto_out {ds : List DomB} {ms : List Nat} {k : Nat} (h : ms.length ≤ k) : fewUpto ds ms (k + 1) = fewUpto ds ms k := by
  apply ext_getD (by rw [fewUpto_length, fewUpto_length])
  intro i hi
  rw [fewUpto_length] at hi
  have h1 := fewUpto_getD ds ms (k + 1) hi
  have h2 := fewUpto_getD ds ms k hi
  unfold nilD at h1 h2
  rw [h1, h2]
  by_cases hc : i < k ∧ i < ms.length
  · rw [if_pos hc, if_pos ⟨by omega, hc.2⟩]
  · rw [if_neg hc, if_neg (by omega)]
theorem fewUpto_in {ds : List DomB} {ms : List Nat} {k : Nat} (hk : k < ds.length) (h : k < ms.length) : fewUpto ds ms (k + 1) = (fewUpto ds ms k).set k ((ds.getD k nilD).1, (ds.getD k nilD).2 &&& ms.getD k 0) := by
  apply ext_getD (by rw [List.length_set, fewUpto_length, fewUpto_length])
  intro i hi
  rw [fewUpto_length] at hi
  have h1 := fewUpto_getD ds ms (k + 1) hi
  have h2 := fewUpto_getD ds ms k hi
  unfold nilD at h1 h2
  rw [h1, getD_set _ _ _ _ (by rw [fewUpto_length]; exact hk), h2]
  by_cases e : i = k
  · subst e
    rw [if_pos ⟨by omega, h⟩, if_pos rfl]
  · rw [if_neg e]
    by_cases hc : i < k ∧ i < ms.length
    · rw [if_pos hc, if_pos ⟨by omega, hc.2⟩]
    · rw [if_neg hc, if_neg (by omega)]

/-- The cells of a slice of domains, one behind the other. -/
theorem Doms.row {w : World} {a : Addr} {n : Nat} {ds : List DomB} (h : Doms w (some a) n ds) (hn : 0 < n) :
    ∃ vs : List Value, vs.length = n * 2 ∧ (∀ j u, vs[j]? = some u → w.cell? (a.add j) = some u) ∧ (∀ u ∈ vs, u.oneCell' = true) ∧
      ∀ j, j < n → ∃ B m c, vs[j * 2]? = some (.slice B m c) ∧ vs[j * 2 + 1]? = some (.int .u64 ((ds.getD j nilD).2 : Nat)) ∧ Ints w B m (ds.getD j nilD).1 := by
  obtain ⟨b, e, hc⟩ := h.cell hn
  cases e
  have hc' : ∀ j, j < n → ∃ B m c, w.cell? (a.add (j * 2)) = some (.slice B m c) ∧ w.cell? (a.add (j * 2 + 1)) = some (.int .u64 ((ds.getD j nilD).2 : Nat)) ∧ Ints w B m (ds.getD j nilD).1 := by
    intro j hj
    obtain ⟨B, m, c, h1, h2, h3⟩ := hc j hj
    refine ⟨B, m, c, h1, ?_, h3⟩
    have hp : a = ⟨a.block, a.off, Option.none⟩ := by
      obtain ⟨_, _, _, k1, _, _⟩ := hc 0 hn
      have e0 : a.add (0 * 2) = a := by unfold Addr.add; simp
      rw [e0] at k1
      exact plain_of_cell k1
    rw [hp, add_plain] at h2 ⊢
    exact h2
  refine ⟨(List.range (n * 2)).map fun i => (w.cell? (a.add i)).getD undef, by simp, ?_, ?_, ?_⟩
  · intro j u hu
    rw [List.getElem?_map] at hu
    by_cases hj : j < n * 2
    · rw [List.getElem?_range hj] at hu
      simp only [Option.map_some, Option.some.injEq] at hu
      obtain ⟨B, m, c, h1, h2, _⟩ := hc' (j / 2) (by omega)
      have : j = j / 2 * 2 ∨ j = j / 2 * 2 + 1 := by omega
      rcases this with e | e
      · rw [← e] at h1; rw [h1] at hu ⊢; simpa using hu
      · rw [← e] at h2; rw [h2] at hu ⊢; simpa using hu
    · rw [List.getElem?_eq_none (by simp; omega)] at hu
      simp at hu
  · intro u hu
    rw [List.mem_map] at hu
    obtain ⟨j, hj, rfl⟩ := hu
    have hj := List.mem_range.1 hj
    obtain ⟨B, m, c, h1, h2, _⟩ := hc' (j / 2) (by omega)
    have : j = j / 2 * 2 ∨ j = j / 2 * 2 + 1 := by omega
    rcases this with e | e
    · rw [← e] at h1; rw [h1]; rfl
    · rw [← e] at h2; rw [h2]; rfl
  · intro j hj
    obtain ⟨B, m, c, h1, h2, h3⟩ := hc' j hj
    refine ⟨B, m, c, ?_, ?_, h3⟩
    · rw [List.getElem?_map, List.getElem?_range (by omega)]; simp [h1]
    · rw [List.getElem?_map, List.getElem?_range (by omega)]; simp [h2]

theorem and_gen {L M : Nat} (hL : L < 2 ^ 64) (hM : M < 2 ^ 64) : bits BinOp.and IntKind.u64 (L : Int) (M : Int) = ((L &&& M : Nat) : Int) := u64_and_nat L M hL hM

/-- Domains are handed back, in a slice of the call's own. -/
def DomsPost (ds : List DomB) (w : World) (e : Ending) (w' : World) : Prop :=
  ∃ A c, e = .returned (.slice A ds.length c) ∧ Doms w' A ds.length ds ∧ Kept w w'

theorem info_dom2 : (Tryd.prog.info? 47).map (fun i => (i.zero, i.size, i.bytes)) = some (some (.agg #[.slice Option.none 0 0, .int .u64 0]), 2, 32) := by kernel_rfl

theorem fewer_any (A B : Option Addr) (n c m d : Nat) (ds : List DomB) (ms : List Nat) (w : World) (hS : Doms w A n ds) (hM : Words w B m ms) (hn : n ≤ 1000) :
    Calls Tryd.prog 18 #[.slice A n c, .slice B m d] w (DomsPost (fewUpto ds ms n) w) := by
  have HS := Lib.hid hS
  have HM := Lib.hid hM
  have Hlen := Lib.hid hS.len
  have hms := hM.small
  have hml := Lib.hid hM.len
  clear hS hM
  by_cases h0 : 0 < n
  · obtain ⟨a, rfl, hba⟩ := HS.out.addr h0
    obtain ⟨vs, hvl, hvc, hvo, hvd⟩ := HS.out.row h0
    have Hvd := Lib.hid hvd
    obtain ⟨i0, hi, hz0, hz1, hz2⟩ := info_parts info_dom2
    have HR0 : Hid ((w.alloc (.cells #[] 47)).ownsRow w.heap.size 47 2 (.slice (some ⟨w.heap.size, 0, Option.none⟩) 0 0) 0 []) := World.ownsRow_made w #[] 0 (Nat.le_refl _) (by decide) rfl
    clear hvd
    go_enter Tryd.func18, Tryd.ntmps18
    go_wp2_with (at_builtin; refine wpList_append_own _ rfl _ _ 25 rfl w.heap.size 47 i0 (.agg #[.slice Option.none 0 0, .int .u64 0]) 2 32 Tryd.underlying25 hi hz0 hz1 hz2 rfl (by decide) _ _ _ rfl HR0.out a n c vs rfl hvl (fun j u hu => (Kept.box _ _).cellAt (hvc j u hu)) hvo (by unfold maxLen; omega) (by omega) (by simp) ?_; intro v' w2 hown' hgrow _; rw [Nat.zero_add, List.nil_append] at hown'; obtain ⟨g, cap, rfl, hgb, hgl⟩ := hown'.form h0)
    have HK : Hid (Kept w w2) := (Kept.box w _).grown hgrow (by simp) (fun i hi => by simp [Act.eval, Value.ownBlock] at hi; omega)
    have HO : Hid (OwnD w2 w.heap.size (.slice (some ⟨g, 0, Option.none⟩) n cap) ds) := by
      refine ⟨vs, by rw [Hlen.out]; exact hown', fun j hj => ?_⟩
      rw [Hlen.out] at hj
      obtain ⟨B', m', c', e1, e2, e3⟩ := Hvd.out j hj
      refine ⟨HS.out.live j hj, B', m', c', e1, e2, e3.kept HK.out, fun hm a' ha' e => ?_⟩
      subst ha'
      have := e3.block hm
      simp only [Value.ownBlock, Option.some.injEq] at e
      omega
    clear hown' hgrow hvc hvo
    go_wp2_with fail
    go_loopw [12] (fun v wr => ∃ k : Nat, k ≤ n ∧ v = .int .i64 k ∧ Hid (OwnD wr w.heap.size (.slice (some ⟨g, 0, Option.none⟩) n cap) (fewUpto ds ms k)) ∧ Hid (Kept w wr)) (fun v _ => n - (intOf v).toNat)
    case atStart => exact ⟨0, Nat.zero_le _, rfl, by rw [fewUpto_zero]; exact HO, HK⟩
    case round =>
      obtain ⟨k, hk, rfl, HOr, Hkw⟩ := hrel
      by_cases hlt : k < n
      · by_cases hkm : (k : Int) < m
        · have hd : decide ((k : Int) < m) = true := by simp [hkm]
          have Hlf : Hid ((fewUpto ds ms k).length = n) := by show _ = _; rw [fewUpto_length]; exact Hlen.out
          have HOd := Lib.hid (HOr.out.kept (Kept.drewn _))
          obtain ⟨xs, L, B1, m1, c1, Hd, s1, s2, HI, hL, _, s3, s4⟩ := HOd.out.named Hlf.out k hlt
          obtain ⟨b, x, rfl, hbl, Hx, hcx, hx⟩ := (HM.out.kept (Hkw.out.then (Kept.drewn _))).named k (by omega)
          have hand := and_gen hL hx
          have Hdk : Hid (ds.getD k nilD = (xs, L)) := by
            have := Hd.out
            rwa [fewUpto_getD _ _ _ (by have := Hlen.out; omega), if_neg (by omega)] at this
          have Hnext : Hid (fewUpto ds ms (k + 1) = (fewUpto ds ms k).set k (((fewUpto ds ms k).getD k nilD).1, L &&& x)) := by
            show _ = _
            rw [fewUpto_in (by have := Hlen.out; omega) (by have := hml.out; omega), Hdk.out, Hx.out, Hd.out]
          have HL : Hid (L &&& x < 2 ^ 64) := Nat.lt_of_le_of_lt Nat.and_le_left hL
          go_wp2_with fail
          go_still_tail 12, (by kernel_rfl)
          change wpList _ _ _ _ _ wr.drew
          go_wp2_with fail
          go_roundw
          case rel =>
            refine ⟨k + 1, by omega, by go_num, ?_, ?_⟩
            · show OwnD _ _ _ _
              rw [Hnext.out]
              exact HOd.out.setLive Hlf.out hlt HL.out
            · exact ((KeptBut.of (Hkw.out.then (Kept.drewn _)) g).then (KeptBut.set _ (a := ⟨g, k * 2 + 1, Option.none⟩) rfl _)).kept hgb
          case measure => simp [intOf]; omega
        · have hd : decide ((k : Int) < m) = false := by simp; omega
          go_wp2_with fail
          go_roundw
          case rel => exact ⟨k + 1, by omega, by go_num, by rw [fewUpto_out (by have := hml.out; omega)]; exact HOr, Hkw⟩
          case measure => simp [intOf]; omega
      · have e : k = n := by omega
        subst e
        go_wp2_with fail
        go_ret
        have hl : (fewUpto ds ms k).length = k := by rw [fewUpto_length]; exact Hlen.out
        exact ⟨_, cap, by rw [hl]; rfl, by rw [hl]; exact HOr.out.doms hl (by omega), Hkw.out⟩
  · have e : n = 0 := by omega
    subst e
    have hd0 : ds = [] := List.eq_nil_of_length_eq_zero Hlen.out
    subst hd0
    have hmk : fewUpto [] ms 0 = [] := rfl
    rw [hmk]
    cases A with
    | none =>
      go_enter Tryd.func18, Tryd.ntmps18
      go_wp2_with fail
      go_loopw [12] (fun v wr => v = .int .i64 0 ∧ Hid (Kept w wr)) (fun _ _ => 0)
      case atStart => exact ⟨rfl, Kept.box _ _⟩
      case round =>
        obtain ⟨rfl, Hkw⟩ := hrel
        go_wp2_with fail
        go_ret
        exact ⟨_, _, rfl, ⟨rfl, by decide, fun j hj => by simp at hj, fun h => by simp at h⟩, Hkw.out⟩
    | some a =>
      go_enter Tryd.func18, Tryd.ntmps18
      go_wp2_with fail
      go_loopw [12] (fun v wr => v = .int .i64 0 ∧ Hid (Kept w wr)) (fun _ _ => 0)
      case atStart => exact ⟨rfl, Kept.box _ _⟩
      case round =>
        obtain ⟨rfl, Hkw⟩ := hrel
        go_wp2_with fail
        go_ret
        exact ⟨_, _, rfl, ⟨rfl, by decide, fun j hj => by simp at hj, fun h => by simp at h⟩, Hkw.out⟩
end Go.Proofs.YtekcenacpklpgaaDoor

set_option maxRecDepth 10000
set_option maxHeartbeats 1000000
namespace Go.Proofs.YtekcenacpklpgaaDoor
open Go Pl Go.Joins Go.ChangeShapes Go.WideShapes Go.RowKit Go.Deep

section
variable {H : Type} {enc : TypeId × Value → H} {P : Program} {w : World} {base : Nat} {spare : Nat → Bool} {held : Bool}
theorem slice_fields {t e : TypeId} {fs : Array Field} {fuel : Nat} {cs : List Value} {x : DataW H × List MemPlace} (ht : P.underlying t = some (.slice e)) (he : P.underlying e = some (.struct fs))
    (hone : oneCellFields P fs = true) (hC : P.cellsOf e = fs.size) (h : DataW.trod enc P w base spare held fuel t cs = some x) :
    cs = [.slice Option.none 0 0] ∨
    ∃ (a : Addr) (len cap m : Nat), cs = [.slice (some a) len cap] ∧ len ≤ cap ∧ cap ≤ maxLen ∧ m = (if spare a.block then cap else len) ∧
      ∀ i, i < m → ∃ n : Nat, ∀ (j : Nat) (f : Field), fs[j]? = some f → ∃ (v : Value) (y : DataW H × List MemPlace), w.cell? (a.add (i * fs.size + j)) = some v ∧ DataW.trod enc P w base spare held n f.type [v] = some y := by
  rcases open_slice ht h with h0 | ⟨a, len, cap, m, n, D, Pl, hcs, hb, hl, hm, hmm, hx, hi⟩
  · exact .inl h0.1
  · refine .inr ⟨a, len, cap, m, hcs, hl, hm, hmm, fun i him => ?_⟩
    obtain ⟨cs', hc, ht'⟩ := hi i him
    rw [hC] at hc
    obtain ⟨ys, n', hn', hy, hlen, hyl, hf⟩ := DataW.trod_struct he ht'
    obtain ⟨_, hcl, hat⟩ := World.cells?_some hc
    refine ⟨n', fun j f hj => ?_⟩
    obtain ⟨ho, hk⟩ := hone_of hone j f hj
    have hjl : j < fs.size := (Array.getElem?_eq_some_iff.1 hj).1
    have hcell := hat j hjl
    have hv : cs'[j]? = some (cs'[j]'(by omega)) := List.getElem?_eq_getElem (by omega)
    have h1 := hf j f hj
    rw [ho, hk] at h1
    have hone' : (cs'.drop j).take 1 = [cs'[j]'(by omega)] := by
      rw [List.drop_eq_getElem_cons (by omega)]
      rfl
    rw [hone'] at h1
    have hys : ys[j]? = some (ys[j]'(by omega)) := List.getElem?_eq_getElem (by omega)
    refine ⟨_, _, ?_, h1.trans hys⟩
    rw [← Go.Deep.add_add, hcell, hv]

theorem agg6 {r : Reach} {b0 : Nat} {t : TypeId} {f0 f1 f2 f3 f4 f5 : Field} {v : Value} {d : DataW H} {p : List MemPlace} (hs : P.underlying t = some (.struct #[f0, f1, f2, f3, f4, f5])) (hone : oneCellFields P #[f0, f1, f2, f3, f4, f5] = true) (hC : P.cellsOf t = 6)
    (hv : Value.okWide P w r b0 t v) (h : DataW.Trod enc P w base spare held t v d p) :
    ∃ (v0 v1 v2 v3 v4 v5 : Value) (y0 y1 y2 y3 y4 y5 : DataW H × List MemPlace) (n : Nat), v = .agg #[v0, v1, v2, v3, v4, v5] ∧
      DataW.trod enc P w base spare held n f0.type [v0] = some y0 ∧ DataW.trod enc P w base spare held n f1.type [v1] = some y1 ∧ DataW.trod enc P w base spare held n f2.type [v2] = some y2 ∧ DataW.trod enc P w base spare held n f3.type [v3] = some y3 ∧ DataW.trod enc P w base spare held n f4.type [v4] = some y4 ∧ DataW.trod enc P w base spare held n f5.type [v5] = some y5 := by
  obtain ⟨cs, rfl, hsz⟩ := okWide_struct hs hv
  obtain ⟨l⟩ := cs
  match l, hsz.trans hC with
  | [c0, c1, c2, c3, c4, c5], _ =>
    obtain ⟨fuel, hf⟩ := h
    obtain ⟨xs, n, _, hx, _, hlen, hg⟩ := DataW.trod_struct hs hf
    obtain ⟨o0, k0⟩ := hone_of hone 0 f0 rfl
    obtain ⟨o1, k1⟩ := hone_of hone 1 f1 rfl
    obtain ⟨o2, k2⟩ := hone_of hone 2 f2 rfl
    obtain ⟨o3, k3⟩ := hone_of hone 3 f3 rfl
    obtain ⟨o4, k4⟩ := hone_of hone 4 f4 rfl
    obtain ⟨o5, k5⟩ := hone_of hone 5 f5 rfl
    match xs, hlen with
    | [y0, y1, y2, y3, y4, y5], _ =>
      exact ⟨c0, c1, c2, c3, c4, c5, y0, y1, y2, y3, y4, y5, n, rfl, by simpa [Value.cells, o0, k0] using hg 0 f0 rfl, by simpa [Value.cells, o1, k1] using hg 1 f1 rfl, by simpa [Value.cells, o2, k2] using hg 2 f2 rfl, by simpa [Value.cells, o3, k3] using hg 3 f3 rfl, by simpa [Value.cells, o4, k4] using hg 4 f4 rfl, by simpa [Value.cells, o5, k5] using hg 5 f5 rfl⟩
end

section
variable {H : Type} {enc : TypeId × Value → H} {w : World}

theorem lit_rng {k : Int} (h : (Lit.int .i64 k).wf = true) : -9223372036854775808 ≤ k ∧ k ≤ 9223372036854775807 := by
  simp [Lit.wf, IntKind.min, IntKind.max, IntKind.signed, IntKind.bits] at h
  omega
theorem lit_u64 {k : Int} (h : (Lit.int .u64 k).wf = true) : 0 ≤ k ∧ k < 18446744073709551616 := by
  simp [Lit.wf, IntKind.min, IntKind.max, IntKind.signed, IntKind.bits] at h
  omega

/-- A cell that reads as a slice of whole numbers. -/
theorem ints_of {fuel : Nat} {v : Value} {x : DataW H × List MemPlace} (h : DataW.trod enc Tryd.prog w 0 (fun _ => true) true fuel 22 [v] = some x) :
    ∃ (A : Option Addr) (n c : Nat) (xs : List Int), v = .slice A n c ∧ n ≤ c ∧ Ints w A n xs := by
  rcases open_ints Tryd.underlying22 Tryd.underlying3 (by kernel_rfl) h with ⟨hcs, _⟩ | ⟨a, l, c, zs, hcs, _, hl, hm, hz, _, hcell, hwz⟩
  · obtain rfl : v = .slice Option.none 0 0 := by simpa using hcs
    exact ⟨_, _, _, [], rfl, Nat.le_refl _, Ints.none _⟩
  · obtain rfl : v = .slice (some a) l c := by simpa using hcs
    refine ⟨_, _, _, _, rfl, hl, Ints.of_row (cap := c) (zs := zs) (.inr ⟨a, rfl, hl, hm, by simpa using hz, hcell, hwz⟩)⟩

/-- A constraint that comes in. -/
theorem con_of {b0 : Nat} {v : Value} {d : DataW H} {p : List MemPlace} (hv : Value.okWide Tryd.prog w .any b0 24 v) (h : DataW.Trod enc Tryd.prog w 0 (fun _ => true) true 24 v d p) :
    ∃ (K R Ct : Int) (A1 A2 A3 : Option Addr) (n1 c1 n2 c2 n3 c3 : Nat) (C : ConB), v = .agg #[.int .i64 K, .slice A1 n1 c1, .slice A2 n2 c2, .int .i64 R, .int .i64 Ct, .slice A3 n3 c3] ∧ ConIn w K R Ct A1 A2 A3 n1 c1 n2 c2 n3 c3 C := by
  obtain ⟨v0, v1, v2, v3, v4, v5, y0, y1, y2, y3, y4, y5, n, rfl, h0, h1, h2, h3, h4, h5⟩ := agg6 Tryd.underlying24 (by kernel_rfl) (by kernel_rfl) hv h
  obtain ⟨K, e0, _, w0⟩ := DataW.trod_int Tryd.underlying3 h0
  obtain ⟨R, e3, _, w3⟩ := DataW.trod_int Tryd.underlying3 h3
  obtain ⟨Ct, e4, _, w4⟩ := DataW.trod_int Tryd.underlying3 h4
  obtain ⟨A1, n1, c1, xs1, rfl, k1, I1⟩ := ints_of h1
  obtain ⟨A2, n2, c2, xs2, rfl, k2, I2⟩ := ints_of h2
  obtain ⟨A3, n3, c3, xs3, rfl, k3, I3⟩ := ints_of h5
  obtain rfl : v0 = .int .i64 K := by simpa using e0
  obtain rfl : v3 = .int .i64 R := by simpa using e3
  obtain rfl : v4 = .int .i64 Ct := by simpa using e4
  exact ⟨K, R, Ct, A1, A2, A3, n1, c1, n2, c2, n3, c3, ⟨K, xs1, xs2, R, Ct, xs3⟩, rfl, ⟨rfl, rfl, rfl, I1, I2, I3, k1, k3, lit_rng w0, lit_rng w3, lit_rng w4⟩⟩

theorem list_of {Q : Nat → DomB → Prop} (len : Nat) (h : ∀ j, j < len → ∃ d, Q j d) : ∀ k, k ≤ len → ∃ ds : List DomB, ds.length = k ∧ ∀ j, j < k → Q j (ds.getD j nilD)
  | 0, _ => ⟨[], rfl, fun j hj => by omega⟩
  | k + 1, hk => by
    obtain ⟨ds, hl, hd⟩ := list_of len h k (by omega)
    obtain ⟨d, hq⟩ := h k (by omega)
    refine ⟨ds ++ [d], by simp [hl], fun j hj => ?_⟩
    by_cases hlt : j < k
    · rw [getD_snoc (by omega)]; exact hd j hlt
    · have e : j = ds.length := by omega
      subst e
      rw [getD_last, hl]; exact hq

/-- A slice of domains that comes in. -/
theorem doms_of {A : Option Addr} {n c : Nat} {d : DataW H} {p : List MemPlace} (h : DataW.Trod enc Tryd.prog w 0 (fun _ => true) true 25 (.slice A n c) d p) :
    ∃ ds : List DomB, Doms w A n ds := by
  obtain ⟨fuel, hf⟩ := h
  rcases slice_fields Tryd.underlying25 Tryd.underlying47 (by kernel_rfl) (by kernel_rfl) hf with hcs | ⟨a, len, cap, m, hcs, hl, hm, hmm, hi⟩
  · simp [Value.cells] at hcs
    obtain ⟨rfl, rfl, rfl⟩ := hcs
    exact ⟨[], Doms.none _⟩
  · simp [Value.cells] at hcs
    obtain ⟨rfl, rfl, rfl⟩ := hcs
    simp only [if_true] at hmm
    have hq : ∀ j, j < n → ∃ d : DomB, d.2 < 2 ^ 64 ∧ ∃ B m' c', w.cell? (a.add (j * 2)) = some (.slice B m' c') ∧ w.cell? (a.add (j * 2 + 1)) = some (.int .u64 (d.2 : Nat)) ∧ Ints w B m' d.1 := by
      intro j hj
      obtain ⟨k, hk⟩ := hi j (by omega)
      obtain ⟨v0, y0, k1, k2⟩ := hk 0 _ rfl
      obtain ⟨v1, y1, k3, k4⟩ := hk 1 _ rfl
      obtain ⟨B, m', c', xs, rfl, _, hI⟩ := ints_of k2
      obtain ⟨u, e1, _, w1⟩ := DataW.trod_int Tryd.underlying45 k4
      obtain rfl : v1 = .int .u64 u := by simpa using e1
      obtain ⟨U, rfl⟩ := Int.eq_ofNat_of_zero_le (lit_u64 w1).1
      exact ⟨(xs, U), by have := (lit_u64 w1).2; show U < 2 ^ 64; omega, B, m', c', k1, k3, hI⟩
    obtain ⟨ds, hlen, hd⟩ := list_of n hq n (Nat.le_refl _)
    refine ⟨ds, hlen, by unfold maxLen at hm; omega, fun j hj => (hd j hj).1, fun h0 => ⟨a, rfl, fun j hj => ?_⟩⟩
    obtain ⟨_, B, m', c', k1, k2, k3⟩ := hd j hj
    refine ⟨B, m', c', k1, ?_, k3⟩
    obtain ⟨_, _, _, _, q1, _, _⟩ := hd 0 h0
    have e0 : a.add (0 * 2) = a := by unfold Addr.add; simp
    rw [e0] at q1
    have hp := plain_of_cell q1
    rw [hp, add_plain] at k2 ⊢
    exact k2

/-- A slice of whole numbers that comes in. -/
theorem row_of {A : Option Addr} {n c : Nat} {d : DataW H} {p : List MemPlace} (h : DataW.Trod enc Tryd.prog w 0 (fun _ => true) true 22 (.slice A n c) d p) :
    ∃ xs : List Int, Ints w A n xs := by
  obtain ⟨fuel, hf⟩ := h
  rcases open_ints Tryd.underlying22 Tryd.underlying3 (by kernel_rfl) hf with ⟨hcs, _⟩ | ⟨a, l, cap, zs, hcs, _, hl, hm, hz, _, hcell, hwz⟩
  · simp [Value.cells] at hcs
    obtain ⟨rfl, rfl, rfl⟩ := hcs
    exact ⟨[], Ints.none _⟩
  · simp [Value.cells] at hcs
    obtain ⟨rfl, rfl, rfl⟩ := hcs
    exact ⟨_, Ints.of_row (cap := c) (zs := zs) (.inr ⟨a, rfl, hl, hm, by simpa using hz, hcell, hwz⟩)⟩

/-- A slice of words that comes in. -/
theorem words_of {A : Option Addr} {n c : Nat} {d : DataW H} {p : List MemPlace} (h : DataW.Trod enc Tryd.prog w 0 (fun _ => true) true 42 (.slice A n c) d p) :
    ∃ ms : List Nat, Words w A n ms := by
  obtain ⟨fuel, hf⟩ := h
  rcases open_ints Tryd.underlying42 Tryd.underlying45 (by kernel_rfl) hf with ⟨hcs, _⟩ | ⟨a, l, cap, zs, hcs, _, hl, hm, hz, _, hcell, hwz⟩
  · simp [Value.cells] at hcs
    obtain ⟨rfl, rfl, rfl⟩ := hcs
    exact ⟨[], rfl, by omega, fun j => by simp, fun h => by omega⟩
  · simp [Value.cells] at hcs
    obtain ⟨rfl, rfl, rfl⟩ := hcs
    simp only [if_true] at hz
    have hg : ∀ j, (((zs.take n).map Int.toNat).getD j 0) = if j < n then (zs.getD j 0).toNat else 0 := by
      intro j
      simp only [List.getD_eq_getElem?_getD, List.getElem?_map]
      by_cases hj : j < n
      · rw [List.getElem?_take_of_lt hj, if_pos hj]
        cases zs[j]? <;> rfl
      · rw [if_neg hj, List.getElem?_eq_none (by rw [List.length_take]; omega)]; rfl
    have hr : ∀ j, j < zs.length → 0 ≤ zs.getD j 0 ∧ zs.getD j 0 < 18446744073709551616 := fun j hj => lit_u64 (hwz _ (by
      rw [List.getD_eq_getElem?_getD, List.getElem?_eq_getElem hj]; exact List.getElem_mem hj))
    refine ⟨(zs.take n).map Int.toNat, by simp; omega, by unfold maxLen at hm; omega, fun j => ?_, fun h0 => ⟨a, rfl, fun j hj => ?_⟩⟩
    · rw [hg]
      split
      · have := hr j (by omega); omega
      · decide
    · rw [hcell j (by omega), hg, if_pos hj]
      have := hr j (by omega)
      congr 2
      omega
end
end Go.Proofs.YtekcenacpklpgaaDoor

set_option maxHeartbeats 1000000
set_option maxRecDepth 10000
namespace Go.Proofs.YtekcenacpklpgaaDoor
open Go Go.RowKit Pl

theorem looktab_any (K R Ct : Int) (A1 A2 A3 : Option Addr) (n1 c1 n2 c2 n3 c3 : Nat) (C : ConB) (V : Int) (w : World) (hC : ConIn w K R Ct A1 A2 A3 n1 c1 n2 c2 n3 c3 C) :
    Calls Tryd.prog 50 #[.agg #[.int .i64 K, .slice A1 n1 c1, .slice A2 n2 c2, .int .i64 R, .int .i64 Ct, .slice A3 n3 c3, .int .i64 V]] w fun e w' => e = .returned (.bool (tabB C V)) ∧ Kept w w' := by
  have HC := Lib.hid hC
  clear hC
  go_enter Tryd.func50, Tryd.ntmps50
  go_wp2_with fail
  refine (variables_any K R Ct A1 A2 A3 n1 c1 n2 c2 n3 c3 C V 1 8 _ (HC.out.kept (Kept.box _ _))).mono ?_
  rintro e w1 ⟨rfl, hk⟩
  have Hb := Lib.hid (hk.heapAt (box_look w K R Ct V A1 A2 A3 n1 c1 n2 c2 n3 c3))
  have Hk := Lib.hid ((Kept.box _ _).then hk)
  have hb0 := cell_at Hb.out 0
  have hb1 := cell_at Hb.out 1
  have hb2 := cell_at Hb.out 2
  have hb3 := cell_at Hb.out 3
  have hb4 := cell_at Hb.out 4
  have hb5 := cell_at Hb.out 5
  have hb6 := cell_at Hb.out 6
  simp only [List.getElem?_toArray, List.getElem?_cons_zero, List.getElem?_cons_succ] at hb0 hb1 hb2 hb3 hb4 hb5 hb6
  have hl1 := HC.out.vars.len
  have hl3 := HC.out.nums.len
  have hs1 := HC.out.vars.small
  have hs3 := HC.out.nums.small
  have HB : Hid (tabB C V = (variablesB C V 1 8 && bareB C 0 96 && decide ((n3 : Int) % n1 = 0))) := by
    show _ = _
    unfold tabB; rw [hl1, hl3]
  have Hv : Hid (variablesB C V 1 8 = true → 1 ≤ n1) := by
    intro h
    unfold variablesB at h
    rw [hl1] at h
    simp at h
    omega
  clear hk
  generalize variablesB C V 1 8 = b at HB Hv
  cases b with
  | false =>
    go_wp2_with fail
    go_ret
    exact ⟨ret_bool (by rw [HB.out]; simp), Hk.out⟩
  | true =>
    have hn1 := Hv.out rfl
    go_wp2_with fail
    refine (bare_any K R Ct A1 A2 A3 n1 c1 n2 c2 n3 c3 C V 0 96 _ (HC.out.kept Hk.out)).mono ?_
    rintro e w2 ⟨rfl, hk2⟩
    have Hk2 := Lib.hid (Hk.out.then hk2)
    have c1 := hk2.cellAt hb1
    have c5 := hk2.cellAt hb5
    clear hk2 hb0 hb1 hb2 hb3 hb4 hb5 hb6
    generalize bareB C 0 96 = d at HB
    cases d with
    | false =>
      go_wp2_with fail
      go_ret
      exact ⟨ret_bool (by rw [HB.out]; simp), Hk2.out⟩
    | true =>
      have hne : ((n1 : Int) == 0) = false := by simp; omega
      have hn0 : (n1 : Int) ≠ 0 := by omega
      go_wp2_with fail
      go_ret
      exact ⟨ret_bool (by rw [HB.out]; simp only [Bool.true_and]; rfl), Hk2.out⟩

theorem lookelement_q {R Ct V : Int} {A1 A2 A3 : Option Addr} {n1 c1 n2 c2 n3 c3 : Nat} {C : ConB} (W : World) (h : ConIn W 4 R Ct A1 A2 A3 n1 c1 n2 c2 n3 c3 C) : Calls Tryd.prog 48 #[.agg #[.int .i64 4, .slice A1 n1 c1, .slice A2 n2 c2, .int .i64 R, .int .i64 Ct, .slice A3 n3 c3, .int .i64 V]] W fun e w' => e = .returned (.bool (elemB C V)) ∧ Kept W w' := lookelem_any 4 R Ct A1 A2 A3 n1 c1 n2 c2 n3 c3 C V W h
theorem looktable_q {R Ct V : Int} {A1 A2 A3 : Option Addr} {n1 c1 n2 c2 n3 c3 : Nat} {C : ConB} (W : World) (h : ConIn W 6 R Ct A1 A2 A3 n1 c1 n2 c2 n3 c3 C) : Calls Tryd.prog 50 #[.agg #[.int .i64 6, .slice A1 n1 c1, .slice A2 n2 c2, .int .i64 R, .int .i64 Ct, .slice A3 n3 c3, .int .i64 V]] W fun e w' => e = .returned (.bool (tabB C V)) ∧ Kept W w' := looktab_any 6 R Ct A1 A2 A3 n1 c1 n2 c2 n3 c3 C V W h
theorem right_elem (K R Ct : Int) (A1 A2 A3 : Option Addr) (n1 c1 n2 c2 n3 c3 : Nat) (C : ConB) (V : Int) (w : World) (hC : ConIn w K R Ct A1 A2 A3 n1 c1 n2 c2 n3 c3 C) (hK : K = 4) :
    Calls Tryd.prog 20 #[.agg #[.int .i64 K, .slice A1 n1 c1, .slice A2 n2 c2, .int .i64 R, .int .i64 Ct, .slice A3 n3 c3], .int .i64 V] w fun e w' => e = .returned (.bool (elemB C V)) ∧ Kept w w' := by
  subst hK
  have HC := Lib.hid hC
  clear hC
  go_enter Tryd.func20, Tryd.ntmps20
  go_wp2_with fail
  have HQ : Hid (∀ W, ConIn W 4 R Ct A1 A2 A3 n1 c1 n2 c2 n3 c3 C → Calls Tryd.prog 48 #[.agg #[.int .i64 4, .slice A1 n1 c1, .slice A2 n2 c2, .int .i64 R, .int .i64 Ct, .slice A3 n3 c3, .int .i64 V]] W fun e w' => e = .returned (.bool (elemB C V)) ∧ Kept W w') := fun W h => lookelement_q W h
  generalize hb : elemB C V = b at HQ
  have HC2 := Lib.hid (HC.out.kept ((Kept.box w (.cells #[.int .i64 4, .slice A1 n1 c1, .slice A2 n2 c2, .int .i64 R, .int .i64 Ct, .slice A3 n3 c3] 24)).newBlock (.cells #[.func (.func 45) #[] #[], .func (.func 46) #[] #[], .func (.func 47) #[] #[], .func (.func 48) #[] #[], .func (.func 49) #[] #[], .func (.func 50) #[] #[]] 75)))
  refine wp_region_quiet_below (by kernel_rfl) (by kernel_rfl) ?_
  repeat (any_goals (first | go_big_quiet_step (((go_at_call 48; exact Calls.regrown_of (HQ.out _ (HC2.out.kept (below_regrown _ _ _)))))) | quiet_step (((go_at_call 48; exact Calls.regrown_of (HQ.out _ (HC2.out.kept (below_regrown _ _ _)))))) | (refine wpQuiet_step (fun K hK => ?_); go_simp; split <;> (refine hK _ ?_; clear hK K))))
  all_goals (refine wpQuiet_nil ?_; intro w1 hw'; replace hw' := Kept.regrown hw')
  have Hk := Lib.hid (((Kept.box _ _).newBlock _).then hw')
  clear hw'
  go_wp2_with fail
  go_ret
  subst hb
  exact ⟨ret_bool (by simp), Hk.out⟩

theorem right_tab (K R Ct : Int) (A1 A2 A3 : Option Addr) (n1 c1 n2 c2 n3 c3 : Nat) (C : ConB) (V : Int) (w : World) (hC : ConIn w K R Ct A1 A2 A3 n1 c1 n2 c2 n3 c3 C) (hK : K = 6) :
    Calls Tryd.prog 20 #[.agg #[.int .i64 K, .slice A1 n1 c1, .slice A2 n2 c2, .int .i64 R, .int .i64 Ct, .slice A3 n3 c3], .int .i64 V] w fun e w' => e = .returned (.bool (tabB C V)) ∧ Kept w w' := by
  subst hK
  have HC := Lib.hid hC
  clear hC
  go_enter Tryd.func20, Tryd.ntmps20
  go_wp2_with fail
  have HQ : Hid (∀ W, ConIn W 6 R Ct A1 A2 A3 n1 c1 n2 c2 n3 c3 C → Calls Tryd.prog 50 #[.agg #[.int .i64 6, .slice A1 n1 c1, .slice A2 n2 c2, .int .i64 R, .int .i64 Ct, .slice A3 n3 c3, .int .i64 V]] W fun e w' => e = .returned (.bool (tabB C V)) ∧ Kept W w') := fun W h => looktable_q W h
  generalize hb : tabB C V = b at HQ
  have HC2 := Lib.hid (HC.out.kept ((Kept.box w (.cells #[.int .i64 6, .slice A1 n1 c1, .slice A2 n2 c2, .int .i64 R, .int .i64 Ct, .slice A3 n3 c3] 24)).newBlock (.cells #[.func (.func 45) #[] #[], .func (.func 46) #[] #[], .func (.func 47) #[] #[], .func (.func 48) #[] #[], .func (.func 49) #[] #[], .func (.func 50) #[] #[]] 75)))
  refine wp_region_quiet_below (by kernel_rfl) (by kernel_rfl) ?_
  repeat (any_goals (first | go_big_quiet_step (((go_at_call 50; exact Calls.regrown_of (HQ.out _ (HC2.out.kept (below_regrown _ _ _)))))) | quiet_step (((go_at_call 50; exact Calls.regrown_of (HQ.out _ (HC2.out.kept (below_regrown _ _ _)))))) | (refine wpQuiet_step (fun K hK => ?_); go_simp; split <;> (refine hK _ ?_; clear hK K))))
  all_goals (refine wpQuiet_nil ?_; intro w1 hw'; replace hw' := Kept.regrown hw')
  have Hk := Lib.hid (((Kept.box _ _).newBlock _).then hw')
  clear hw'
  go_wp2_with fail
  go_ret
  subst hb
  exact ⟨ret_bool (by simp), Hk.out⟩
end Go.Proofs.YtekcenacpklpgaaDoor

set_option maxHeartbeats 1000000
set_option maxRecDepth 10000
namespace Go.Proofs.YtekcenacpklpgaaDoor
open Go Go.RowKit Pl

theorem rbox_0 (w : World) (v0 v1 : Value) (t : TypeId) : (w.alloc (.cells #[v0, v1] t)).heap[w.heap.size]? = some (.cells #[v0, v1] t) := heap_new _ _

theorem rmay_any (A : Option Addr) (n c : Nat) (L : Nat) (xs : List Int) (w : World) (hS : Ints w A n xs) (hL : L < 2 ^ 64) :
    Calls Tryd.prog 65 #[.agg #[.slice A n c, .int .u64 L]] w fun e w' => e = .returned (.bool (mayB xs L)) ∧ Kept w w' := by
  have HS := Lib.hid hS
  have Hlen := Lib.hid hS.len
  have hsm := hS.small
  clear hS
  by_cases hn : (64 : Int) < n
  · have hd : decide ((64 : Int) < n) = true := by simp [hn]
    go_enter Tryd.func65, Tryd.ntmps65
    go_wp2_with fail
    go_ret
    exact ⟨ret_bool (by simp [mayB, Hlen.out]; omega), Kept.box _ _⟩
  have hd : decide ((64 : Int) < n) = false := by simp; omega
  have HB : Hid (∀ wr, Kept (w.alloc (.cells #[.slice A n c, .int .u64 (L : Nat)] 71)) wr → wr.heap[w.heap.size]? = some (.cells #[.slice A n c, .int .u64 (L : Nat)] 71)) := fun wr h => h.heapAt (heap_new _ _)
  go_enter Tryd.func65, Tryd.ntmps65
  go_wp2_with fail
  go_loopw [3] (fun v wr => ∃ k : Nat, k ≤ n ∧ v = .int .i64 k ∧ Hid (Kept (w.alloc (.cells #[.slice A n c, .int .u64 (L : Nat)] 71)) wr) ∧ Hid (okUpto xs k = true)) (fun v _ => n - (intOf v).toNat)
  case atStart => exact ⟨0, Nat.zero_le _, rfl, Kept.same _, rfl⟩
  case round =>
    obtain ⟨k, hk, rfl, Hkw, Hok⟩ := hrel
    have hbk := HB.out wr Hkw.out
    have hb0 := cell_at hbk 0
    have hb1 := cell_at hbk 1
    simp only [List.getElem?_toArray, List.getElem?_cons_zero, List.getElem?_cons_succ] at hb0 hb1
    have hlb : w.heap.size < wr.heap.size := lt_at hbk
    clear hbk
    by_cases hlt : k < n
    · have hSr := HS.out.kept ((Kept.box _ _).then Hkw.out)
      obtain ⟨a, rfl, hblk⟩ := hSr.addr (by omega)
      obtain ⟨x, Hx, hck, hx1, hx2⟩ := hSr.named k hlt
      obtain ⟨y, Hy, hck1, hy1, hy2⟩ := hSr.named (k - 1) (by omega)
      have Hnext : Hid (okUpto xs (k + 1) = (decide (-1048576 ≤ x) && decide (x ≤ 1048576) && (decide (k = 0) || decide (y < x)))) := by
        show _ = _
        rw [okUpto_succ, Hok.out, okAt_named Hx.out Hy.out, Bool.true_and]
      have Hbad : Hid (okUpto xs (k + 1) = false → mayB xs L = false) := fun h => by
        rw [okUpto_succ, Hok.out, Bool.true_and] at h
        exact (may_bad Hlen.out hlt h).symm
      clear hSr
      by_cases g1 : x < -1048576
      · have hd1 : decide (x < -1048576) = true := by simp [g1]
        go_wp2_with fail
        refine wp_region_quiet_below (by kernel_rfl) (by kernel_rfl) ?_
        repeat (any_goals (first | go_big_quiet_step ((fail)) | quiet_step ((fail)) | (refine wpQuiet_step (fun K hK => ?_); go_simp; split <;> (refine hK _ ?_; clear hK K))))
        all_goals (refine wpQuiet_nil ?_; intro w1 hw'; replace hw' := Kept.regrown hw')
        all_goals try (exfalso; omega)
        have Hk9 := Lib.hid ((Kept.box _ _).then (Hkw.out.then hw'))
        clear hw'
        go_wp2_with fail
        go_ret
        exact ⟨ret_bool (by rw [Hbad.out (by rw [Hnext.out]; simp; omega)]), Hk9.out⟩
      have hd1 : decide (x < -1048576) = false := by simp; omega
      by_cases g2 : 1048576 < x
      · have hd2 : decide (1048576 < x) = true := by simp [g2]
        go_wp2_with fail
        refine wp_region_quiet_below (by kernel_rfl) (by kernel_rfl) ?_
        repeat (any_goals (first | go_big_quiet_step ((fail)) | quiet_step ((fail)) | (refine wpQuiet_step (fun K hK => ?_); go_simp; split <;> (refine hK _ ?_; clear hK K))))
        all_goals (refine wpQuiet_nil ?_; intro w1 hw'; replace hw' := Kept.regrown hw')
        all_goals try (exfalso; omega)
        have Hk9 := Lib.hid ((Kept.box _ _).then (Hkw.out.then hw'))
        clear hw'
        go_wp2_with fail
        go_ret
        exact ⟨ret_bool (by rw [Hbad.out (by rw [Hnext.out]; simp; omega)]), Hk9.out⟩
      have hd2 : decide (1048576 < x) = false := by simp; omega
      by_cases g3 : (0 : Int) < k
      · have hd3 : decide ((0 : Int) < k) = true := by simp; omega
        have e1 : ((k - 1 : Nat) : Int) = (k : Int) - 1 := by omega
        by_cases g4 : x ≤ y
        · have hd4 : decide (x ≤ y) = true := by simp [g4]
          go_wp2_with fail
          refine wp_region_quiet_below (by kernel_rfl) (by kernel_rfl) ?_
          repeat (any_goals (first | go_big_quiet_step ((fail)) | quiet_step ((fail)) | (refine wpQuiet_step (fun K hK => ?_); go_simp; split <;> (refine hK _ ?_; clear hK K))))
          all_goals (refine wpQuiet_nil ?_; intro w1 hw'; replace hw' := Kept.regrown hw')
          all_goals try (exfalso; omega)
          have Hk9 := Lib.hid ((Kept.box _ _).then (Hkw.out.then hw'))
          clear hw'
          go_wp2_with fail
          go_ret
          exact ⟨ret_bool (by rw [Hbad.out (by rw [Hnext.out]; simp; omega)]), Hk9.out⟩
        · have hd4 : decide (x ≤ y) = false := by simp; omega
          go_wp2_with fail
          refine wp_region_quiet_below (by kernel_rfl) (by kernel_rfl) ?_
          repeat (any_goals (first | go_big_quiet_step ((fail)) | quiet_step ((fail)) | (refine wpQuiet_step (fun K hK => ?_); go_simp; split <;> (refine hK _ ?_; clear hK K))))
          all_goals (refine wpQuiet_nil ?_; intro w1 hw'; replace hw' := Kept.regrown hw')
          all_goals try (exfalso; omega)
          have Hk9 := Lib.hid (Hkw.out.then hw')
          clear hw'
          go_wp2_with fail
          have HR : Hid (∃ j : Nat, j ≤ n ∧ (Value.int .i64 ((k : Int) + 1)) = .int .i64 j ∧ Hid (Kept (w.alloc (.cells #[.slice (some a) n c, .int .u64 (L : Nat)] 71)) w1) ∧ Hid (okUpto xs j = true)) := ⟨k + 1, by omega, by simp, Hk9.out, by show _ = _; rw [Hnext.out]; simp; omega⟩
          go_roundw
          case rel => exact HR.out
          case measure => simp [intOf]; omega
      · have hd3 : decide ((0 : Int) < k) = false := by simp; omega
        go_wp2_with fail
        refine wp_region_quiet_below (by kernel_rfl) (by kernel_rfl) ?_
        repeat (any_goals (first | go_big_quiet_step ((fail)) | quiet_step ((fail)) | (refine wpQuiet_step (fun K hK => ?_); go_simp; split <;> (refine hK _ ?_; clear hK K))))
        all_goals (refine wpQuiet_nil ?_; intro w1 hw'; replace hw' := Kept.regrown hw')
        all_goals try (exfalso; omega)
        have Hk9 := Lib.hid (Hkw.out.then hw')
        clear hw'
        go_wp2_with fail
        have HR : Hid (∃ j : Nat, j ≤ n ∧ (Value.int .i64 ((k : Int) + 1)) = .int .i64 j ∧ Hid (Kept (w.alloc (.cells #[.slice (some a) n c, .int .u64 (L : Nat)] 71)) w1) ∧ Hid (okUpto xs j = true)) := ⟨k + 1, by omega, by simp, Hk9.out, by show _ = _; rw [Hnext.out]; simp; omega⟩
        go_roundw
        case rel => exact HR.out
        case measure => simp [intOf]; omega
    · have e : k = n := by omega
      subst e
      go_wp2_with fail
      go_loopw [4, 5] (fun u v wr => ∃ (k' : Nat) (z : Nat), k' ≤ k ∧ v = .int .i64 k' ∧ u = .int .u64 (z : Nat) ∧ Hid (z < 2 ^ 64) ∧ Hid (k' < 64 → z = 2 ^ k') ∧ Hid (Kept (w.alloc (.cells #[.slice A k c, .int .u64 (L : Nat)] 71)) wr)) (fun _ v _ => k - (intOf v).toNat)
      case atStart => exact ⟨0, 1, Nat.zero_le _, rfl, rfl, by show 1 < 2 ^ 64; decide, fun _ => rfl, Hkw.out⟩
      case round =>
        obtain ⟨k', z, hk', rfl, rfl, Hz, Hz2, Hkw2⟩ := hrel
        rename_i wq
        have hbk := HB.out _ Hkw2.out
        have hb0 := cell_at hbk 0
        have hb1 := cell_at hbk 1
        simp only [List.getElem?_toArray, List.getElem?_cons_zero, List.getElem?_cons_succ] at hb0 hb1
        clear hbk
        have Hm : Hid (mayB xs L = decide (L < 2 ^ k)) := by
          show _ = _
          have h1 := Hok.out
          have h2 := Hlen.out
          unfold mayB
          rw [h2, h1]
          have : decide (k ≤ 64) = true := by simp; omega
          rw [this]; simp
        by_cases hlt2 : k' < k
        · obtain ⟨z', hz'⟩ : ∃ z' : Nat, z' = 2 * z % 18446744073709551616 := ⟨_, rfl⟩
          have hw : IntKind.u64.wrap (2 * (z : Int)) = (z' : Int) := by rw [IntKind.wrap_u64]; omega
          have hw2 : (2 * (z : Int)) % 18446744073709551616 = (z' : Int) := by omega
          have Hz1 : Hid (z' < 2 ^ 64) := by show z' < 18446744073709551616; omega
          have Hz3 : Hid (k' + 1 < 64 → z' = 2 ^ (k' + 1)) := fun h => by
            have h1 := Hz2.out (by omega)
            have h2 : 2 ^ (k' + 1) < 2 ^ 64 := Nat.pow_lt_pow_right (by decide) h
            rw [Nat.pow_succ] at h2 ⊢
            have h3 : (2 : Nat) ^ 64 = 18446744073709551616 := by decide
            omega
          clear hz'
          go_wp2_with fail
          go_roundw
          case rel => exact ⟨k' + 1, z', by omega, by go_num, rfl, Hz1.out, Hz3.out, Hkw2.out⟩
          case measure => simp [intOf]; omega
        · have e : k' = k := by omega
          subst e
          by_cases g : (k' : Int) = 64
          · have hd5 : ((k' : Int) == 64) = true := by simp [g]
            have e : k' = 64 := by omega
            subst e
            go_wp2_with fail
            go_ret
            exact ⟨ret_bool (by rw [Hm.out]; simpa using hL), (Kept.box _ _).then Hkw2.out⟩
          · have hd5 : ((k' : Int) == 64) = false := by simp; omega
            have Hzz := Lib.hid (Hz2.out (by omega))
            go_wp2_with fail
            go_ret
            exact ⟨ret_bool (by rw [Hm.out, ← Hzz.out]), (Kept.box _ _).then Hkw2.out⟩

theorem own_empty {w : World} {base g : Nat} {e : TypeId} {size : Nat} (h : w.heap[g]? = some (.cells #[] e (0, 0))) (hb : base ≤ g) : w.ownsRow base e size (.slice (some ⟨g, 0, Option.none⟩) 0 0) 0 [] :=
  ⟨by simp, .inr ⟨g, 0, #[], rfl, hb, h, Nat.le_refl 0, by unfold maxLen; omega, by simp, by simp⟩⟩

/-- The values that are left, up to a place. -/
def valsUpto (xs : List Int) (L k : Nat) : List Int := ((upto L k).map Int.ofNat).map fun i => xs.getD i.toNat 0
theorem valsUpto_succ (xs : List Int) (L k : Nat) : valsUpto xs L (k + 1) = valsUpto xs L k ++ (if L.testBit k then [xs.getD k 0] else []) := by
  unfold valsUpto
  rw [upto_succ]
  split <;> simp
theorem valsUpto_all {xs : List Int} {L : Nat} (h : mayB xs L = true) : valsUpto xs L xs.length = valsOf xs L := by
  unfold valsUpto valsOf elemsI
  rw [elems_of_lt (mayB_lt h) (mayB_len h)]

theorem rdlist_any (A : Option Addr) (n c L : Nat) (xs : List Int) (w : World) (hS : Ints w A n xs) (hL : L < 2 ^ 64) :
    Calls Tryd.prog 42 #[.agg #[.slice A n c, .int .u64 L]] w (ListPost (listB xs L) w) := by
  obtain ⟨i0, hi, hz0, hz1, hz2⟩ := info_parts info_int
  have HS := Lib.hid hS
  have HL := Lib.hid hL
  have Hlen := Lib.hid hS.len
  have hsm := hS.small
  have hmay : Hid (∀ W, Ints W A n xs → Calls Tryd.prog 65 #[.agg #[.slice A n c, .int .u64 L]] W fun e w' => e = .returned (.bool (mayB xs L)) ∧ Kept W w') := fun W hW => rmay_any A n c L xs W hW HL.out
  have HB : Hid (∀ wr, Kept (w.alloc (.cells #[.slice A n c, .int .u64 (L : Nat)] 71)) wr → wr.heap[w.heap.size]? = some (.cells #[.slice A n c, .int .u64 (L : Nat)] 71)) := fun wr h => h.heapAt (heap_new _ _)
  clear hS hL
  by_cases hm : mayB xs L = true
  · have hl : listB xs L = valsOf xs L := if_pos hm
    rw [hl]
    rw [hm] at hmay
    have Hm := Lib.hid hm
    have Hrng := Lib.hid (valsOf_rng hm)
    have hn64 : n ≤ 64 := by have := mayB_len hm; have := Hlen.out; omega
    clear hm hl
    go_enter Tryd.func42, Tryd.ntmps42
    go_wp2_with fail
    refine (hmay.out _ (HS.out.kept ((Kept.box _ _).newBlock _))).mono ?_
    rintro e w1 ⟨rfl, hk⟩
    have HK1 := Lib.hid ((Kept.box (w.alloc (.cells #[.slice A n c, .int .u64 (L : Nat)] 71)) (.cells #[] 3)).then hk)
    have Hown1 : Hid (w1.ownsRow (w.heap.size + 1) 3 1 (.slice (some ⟨w.heap.size + 1, 0, Option.none⟩) 0 0) 0 []) := own_empty (hk.heapAt (heap_new2 _ _ _)) (Nat.le_refl _)
    have hbk := HB.out _ HK1.out
    have hb0 := cell_at hbk 0
    have hb1 := cell_at hbk 1
    simp only [List.getElem?_toArray, List.getElem?_cons_zero, List.getElem?_cons_succ] at hb0 hb1
    clear hbk hk hmay
    go_wp2_with fail
    clear hb0 hb1
    go_loopw [3, 4, 5] (fun u x v wr => ∃ (k z : Nat), k ≤ n ∧ v = .int .i64 k ∧ x = .int .u64 (z : Nat) ∧ Hid (z = L / 2 ^ k) ∧ wr.ownsRow (w.heap.size + 1) 3 1 u (valsUpto xs L k).length ((valsUpto xs L k).map (Value.int .i64)) ∧ Hid (Kept (w.alloc (.cells #[.slice A n c, .int .u64 (L : Nat)] 71)) wr)) (fun _ _ v _ => n - (intOf v).toNat)
    case atStart => exact ⟨0, L, Nat.zero_le _, rfl, rfl, by show L = L / 2 ^ 0; simp, Hown1.out, HK1.out⟩
    case round =>
      obtain ⟨k, z, hk, rfl, rfl, Hz, hown, Hkw⟩ := hrel
      have hbk := HB.out _ Hkw.out
      have hb0 := cell_at hbk 0
      have hb1 := cell_at hbk 1
      simp only [List.getElem?_toArray, List.getElem?_cons_zero, List.getElem?_cons_succ] at hb0 hb1
      have hszr := Hkw.out.size
      simp only [World.size_alloc] at hszr
      clear hbk
      by_cases hlt : k < n
      · have hSr := HS.out.kept ((Kept.box _ _).then Hkw.out)
        obtain ⟨a, rfl, hblk⟩ := hSr.addr (by omega)
        obtain ⟨x, Hx, hcx, hx1, hx2⟩ := hSr.named k hlt
        have hzL : z ≤ L := by rw [Hz.out]; exact Nat.div_le_self _ _
        have hwz : IntKind.u64.wrap ((z : Int) / 2) = (z : Int) / 2 := by rw [IntKind.wrap_u64]; have := HL.out; omega
        have Hnz : Hid (z / 2 = L / 2 ^ (k + 1)) := by show _ = _; rw [Hz.out, Nat.div_div_eq_div_mul, Nat.pow_succ]
        have Hvl : Hid ((valsUpto xs L k).length ≤ k) := by
          show _ ≤ _
          unfold valsUpto
          rw [List.length_map]
          exact uptoI_length_le L k
        have hvl := Hvl.out
        have Hsucc := Lib.hid (valsUpto_succ xs L k)
        have Hbit : Hid (L.testBit k = decide (z % 2 = 1)) := by show _ = _; rw [testBit_div, Hz.out]
        clear hSr
        by_cases hbit : z % 2 = 1
        · have hd : ((z : Int) % 2 == 1) = true := by simp; omega
          have Hs2 : Hid (valsUpto xs L (k + 1) = valsUpto xs L k ++ [x]) := by
            show _ = _
            rw [Hsucc.out, Hbit.out, Hx.out]; simp [hbit]
          clear Hsucc Hbit Hvl
          generalize valsUpto xs L k = ys at *
          go_wp2_with (at_builtin; refine wpList_append_own _ rfl _ _ 22 rfl (w.heap.size + 1) 3 i0 (.int .i64 0) 1 8 Tryd.underlying22 hi hz0 hz1 hz2 rfl (by decide) _ _ _ rfl (hown.alloc _) ⟨wr.heap.size, 0, none⟩ 1 1 [.int .i64 x] rfl rfl (cell_one_new _ _ _) (by simp [Value.oneCell']) (by unfold maxLen; omega) (by omega) (by simp; omega) ?_; intro v' w2 hown' hgrow _; clear hcx hb0 hb1)
          go_roundw
          case rel => exact ⟨k + 1, z / 2, by omega, by go_num, by simp, Hnz.out, by rw [Hs2.out]; simpa using hown', Hkw.out.appended hown (by simp) hgrow⟩
          case measure => simp [intOf]; omega
        · have hd : ((z : Int) % 2 == 1) = false := by simp; omega
          have Hs2 : Hid (valsUpto xs L (k + 1) = valsUpto xs L k) := by
            show _ = _
            rw [Hsucc.out, Hbit.out]; simp [hbit]
          clear Hsucc Hbit Hvl
          go_wp2_with fail
          go_roundw
          case rel => exact ⟨k + 1, z / 2, by omega, by go_num, by simp, Hnz.out, by rw [Hs2.out]; exact hown, Hkw.out⟩
          case measure => simp [intOf]; omega
      · have e : k = n := by omega
        subst e
        have e2 : valsUpto xs L k = valsOf xs L := by rw [← Hlen.out]; exact valsUpto_all Hm.out
        rw [e2] at hown
        obtain ⟨A', c', rfl, hI, hfr⟩ := Ints.of_own hown (fun x hx => by have := Hrng.out x hx; omega)
        have HI := Lib.hid hI
        have Hfr : Hid (Fresh w A') := fun a ha => by have := hfr a ha; omega
        clear hfr hI hown e2
        go_wp2_with fail
        go_ret
        exact ⟨A', c', rfl, HI.out, (Kept.box _ _).then Hkw.out, Hfr.out⟩
  · have hl : listB xs L = [] := if_neg hm
    rw [hl]
    rw [Bool.eq_false_iff.2 hm] at hmay
    clear hm hl
    go_enter Tryd.func42, Tryd.ntmps42
    go_wp2_with fail
    refine (hmay.out _ (HS.out.kept ((Kept.box _ _).newBlock _))).mono ?_
    rintro e w1 ⟨rfl, hk⟩
    have HK1 := Lib.hid (((Kept.box _ _).newBlock _).then hk)
    clear hk hmay
    go_wp2_with fail
    go_ret
    exact ⟨_, _, rfl, ⟨rfl, by decide, by simp, fun h => by simp at h⟩, HK1.out, fun a ha => by cases ha; simp⟩
end Go.Proofs.YtekcenacpklpgaaDoor

set_option maxHeartbeats 1000000
set_option maxRecDepth 10000
namespace Go.Proofs.YtekcenacpklpgaaDoor
open Go Go.RowKit Pl

def leftUpto (row : List Int) (ds : List DomB) (k : Nat) : Bool := (List.range k).all fun i => (listB (ds.getD i nilD).1 (ds.getD i nilD).2).contains (row.getD i 0)
/-- Is each value of a row left? -/
def leftL (row : List Int) (ds : List DomB) : Bool := decide (row.length = ds.length) && leftUpto row ds ds.length
theorem leftUpto_succ (row : List Int) (ds : List DomB) (k : Nat) : leftUpto row ds (k + 1) = (leftUpto row ds k && (listB (ds.getD k nilD).1 (ds.getD k nilD).2).contains (row.getD k 0)) := by
  unfold leftUpto
  rw [List.range_succ, List.all_append]
  simp
theorem leftUpto_bad {row : List Int} {ds : List DomB} {m n : Nat} (h : leftUpto row ds m = false) (hm : m ≤ n) : leftUpto row ds n = false := by
  cases e : leftUpto row ds n with
  | false => rfl
  | true =>
    unfold leftUpto at *
    rw [List.all_eq_true] at e
    have : (List.range m).all (fun i => (listB (ds.getD i nilD).1 (ds.getD i nilD).2).contains (row.getD i 0)) = true := List.all_eq_true.2 fun i hi => e i (List.mem_range.2 (by have := List.mem_range.1 hi; omega))
    rw [h] at this
    cases this
theorem contains_snoc (l : List Int) (v x : Int) : (l ++ [v]).contains x = (l.contains x || decide (v = x)) := by
  rw [Bool.eq_iff_iff, Bool.or_eq_true, List.contains_iff_mem, List.contains_iff_mem, List.mem_append, decide_eq_true_eq, List.mem_singleton]
  constructor
  · rintro (h | h)
    · exact Or.inl h
    · exact Or.inr h.symm
  · rintro (h | h)
    · exact Or.inl h
    · exact Or.inr h.symm

theorem left_any (A B : Option Addr) (n c m d : Nat) (row : List Int) (ds : List DomB) (w : World) (hR : Ints w A n row) (hS : Doms w B m ds) :
    Calls Tryd.prog 15 #[.slice A n c, .slice B m d] w fun e w' => e = .returned (.bool (leftL row ds)) ∧ Kept w w' := by
  have HR := Lib.hid hR
  have HS := Lib.hid hS
  have hsm := hR.small
  have hsm2 := hS.small
  have hla := hR.len
  have hlb := hS.len
  by_cases g1 : ¬ (n : Int) = m
  · have hd : ((n : Int) != m) = true := by simpa using g1
    have hw : leftL row ds = false := by unfold leftL; rw [hla, hlb]; simp; omega
    rw [hw]
    clear hR hS hla hlb
    go_enter Tryd.func15, Tryd.ntmps15
    go_wp2_with fail
    go_ret
    exact ⟨rfl, Kept.same _⟩
  have e : n = m := by omega
  subst e
  have hw : Hid (leftL row ds = leftUpto row ds n) := by show _ = _; unfold leftL; rw [hla, hlb]; simp
  clear hR hS hla hlb g1
  go_enter Tryd.func15, Tryd.ntmps15
  go_wp2_with fail
  go_loopw [17] (fun v wr => ∃ k : Nat, k ≤ n ∧ v = .int .i64 k ∧ Hid (Kept w wr) ∧ Hid (leftUpto row ds k = true)) (fun v _ => n - (intOf v).toNat)
  case atStart => exact ⟨0, Nat.zero_le _, rfl, Kept.same _, rfl⟩
  case round =>
    obtain ⟨k, hk, rfl, Hkw, Hok⟩ := hrel
    by_cases hlt : k < n
    · have hSr := HS.out.kept Hkw.out
      have hRr := HR.out.kept Hkw.out
      obtain ⟨b, rfl, hblk⟩ := hSr.addr (by omega)
      obtain ⟨a, rfl, hblk2⟩ := hRr.addr (by omega)
      obtain ⟨xs, L, Bx, mx, cx, Hdx, hc1, hc2, HIx, hLx⟩ := hSr.named k hlt
      obtain ⟨x, Hx, _, hx1, hx2⟩ := hRr.named k hlt
      have Hnext : Hid (leftUpto row ds (k + 1) = (listB xs L).contains x) := by
        show _ = _
        rw [leftUpto_succ, Hok.out, Hdx.out, Hx.out, Bool.true_and]
      clear hSr hRr
      go_wp2_with fail
      refine (rdlist_any Bx mx cx L xs _ (HIx.out.kept (Kept.box _ _)) hLx).mono ?_
      rintro e w1 ⟨Bl, cl, rfl, hIl, hk1, _⟩
      have HK1 := Lib.hid (Hkw.out.then ((Kept.box _ _).then hk1))
      have HIl := Lib.hid hIl
      have hel := listB_length xs L
      clear hIl hk1
      generalize listB xs L = l at *
      generalize hm : l.length = mm at *
      have Hmm := Lib.hid hm
      clear hm
      go_wp2_with fail
      go_loopw [7, 25] (fun u v wr => ∃ j : Nat, j ≤ mm ∧ v = .int .i64 j ∧ u = .bool ((l.take j).contains x) ∧ Hid (Kept w1 wr)) (fun _ v _ => mm - (intOf v).toNat)
      case atStart => exact ⟨0, Nat.zero_le _, rfl, by simp, Kept.same _⟩
      case round =>
        obtain ⟨j, hj, rfl, rfl, Hkw2⟩ := hrel
        by_cases hlt2 : j < mm
        · have hIr := HIl.out.kept Hkw2.out
          obtain ⟨bl, rfl, hbl⟩ := hIr.addr (by omega)
          obtain ⟨y, Hy, hcy, _, _⟩ := hIr.named j hlt2
          obtain ⟨x', Hx', hcx, _, _⟩ := (HR.out.kept (HK1.out.then Hkw2.out)).named k hlt
          have ex : x' = x := Hx'.out.symm.trans Hx.out
          subst ex
          have Hs : Hid ((l.take (j + 1)).contains x' = ((l.take j).contains x' || decide (y = x'))) := by
            show _ = _
            rw [take_succ_getD (by have := Hmm.out; omega) Hy.out]
            exact contains_snoc _ _ _
          clear hIr
          generalize (l.take j).contains x' = b1 at *
          cases b1 with
          | true =>
            go_wp2_with fail
            go_roundw
            case rel => exact ⟨j + 1, by omega, by go_num, by rw [Hs.out]; rfl, Hkw2.out⟩
            case measure => simp [intOf]; omega
          | false =>
            go_wp2_with fail
            go_roundw
            case rel => exact ⟨j + 1, by omega, by go_num, by rw [Hs.out]; rfl, Hkw2.out⟩
            case measure => simp [intOf]; omega
        · have e : j = mm := by omega
          subst e
          have e2 : l.take j = l := List.take_of_length_le (by have := Hmm.out; omega)
          rw [e2]
          clear e2
          have Hk2 := Lib.hid (HK1.out.then Hkw2.out)
          generalize l.contains x = b1 at *
          cases b1 with
          | true =>
            go_wp2_with fail
            go_roundw
            case rel => exact ⟨k + 1, by omega, by go_num, Hk2.out, Hnext.out⟩
            case measure => simp [intOf]; omega
          | false =>
            go_wp2_with fail
            go_ret
            exact ⟨ret_bool (by rw [hw.out, leftUpto_bad Hnext.out hlt]), Hk2.out⟩
    · have e : k = n := by omega
      subst e
      go_wp2_with fail
      go_ret
      exact ⟨ret_bool (by rw [hw.out, Hok.out]), Hkw.out⟩
end Go.Proofs.YtekcenacpklpgaaDoor

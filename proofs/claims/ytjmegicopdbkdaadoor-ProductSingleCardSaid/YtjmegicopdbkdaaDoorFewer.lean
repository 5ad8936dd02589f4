/-
  Contracts of what the laws of the steps share: Fewer.
-/
import Derived.Test.YtjmegicopdbkdaaDoorL12
import Derived.Test.YtjmegicopdbkdaaDoorOwnD
import Derived.StillTailTactics
set_option maxHeartbeats 1000000
set_option maxRecDepth 10000
namespace Go.Proofs.YtjmegicopdbkdaaDoor
open Go Go.RowKit Pl

/-- A slice that reads as whole numbers without sign, of 64 bits. -/
structure Words (w : World) (A : Option Addr) (n : Nat) (ms : List Nat) : Prop where
  len : ms.length = n
  small : n ≤ 9223372036854775807
  lt : ∀ j, ms.getD j 0 < 2 ^ 64
  cell : 0 < n → ∃ a, A = some a ∧ ∀ j, j < n → w.cell? (a.add j) = some (.int .u64 (ms.getD j 0 : Nat))
theorem Words.kept {w w' : World} {A : Option Addr} {n : Nat} {ms : List Nat} (h : Words w A n ms) (hk : Kept w w') : Words w' A n ms :=
  ⟨h.len, h.small, h.lt, fun hn => by
    obtain ⟨a, e, hc⟩ := h.cell hn
    exact ⟨a, e, fun j hj => hk.cellAt (hc j hj)⟩⟩
theorem Words.named {w : World} {A : Option Addr} {n : Nat} {ms : List Nat} (h : Words w A n ms) (k : Nat) (hk : k < n) :
    ∃ (a : Addr) (x : Nat), A = some a ∧ a.block < w.heap.size ∧ Hid (ms.getD k 0 = x) ∧ w.cell? (a.add k) = some (.int .u64 (x : Nat)) ∧ x < 2 ^ 64 := by
  obtain ⟨a, rfl, hc⟩ := h.cell (by omega)
  have := World.block_lt_of_cell? w _ (hc k hk)
  rw [add_block'] at this
  exact ⟨a, _, rfl, this, rfl, hc k hk, h.lt k⟩

/-- Domains of which less is left, up to a place. -/
def fewUpto (ds : List DomB) (ms : List Nat) (k : Nat) : List DomB :=
  (List.range ds.length).map fun i => if i < k ∧ i < ms.length then ((ds.getD i nilD).1, (ds.getD i nilD).2 &&& ms.getD i 0) else ds.getD i nilD
theorem fewUpto_length (ds : List DomB) (ms : List Nat) (k : Nat) : (fewUpto ds ms k).length = ds.length := by simp [fewUpto]
theorem fewUpto_getD (ds : List DomB) (ms : List Nat) (k : Nat) {i : Nat} (hi : i < ds.length) : (fewUpto ds ms k).getD i nilD = if i < k ∧ i < ms.length then ((ds.getD i nilD).1, (ds.getD i nilD).2 &&& ms.getD i 0) else ds.getD i nilD := by
  unfold fewUpto
  rw [List.getD_eq_getElem?_getD, List.getElem?_map, List.getElem?_range hi]
  rfl
theorem fewUpto_zero (ds : List DomB) (ms : List Nat) : fewUpto ds ms 0 = ds := by
  apply ext_getD (fewUpto_length _ _ _)
  intro i hi
  rw [fewUpto_length] at hi
  have := fewUpto_getD ds ms 0 hi
  rw [if_neg (by omega)] at this
  exact this
theorem fewUpto_out {ds : List DomB} {ms : List Nat} {k : Nat} (h : ms.length ≤ k) : fewUpto ds ms (k + 1) = fewUpto ds ms k := by
  apply ext_getD (by rw [fewUpto_length, fewUpto_length])
  intro i hi
  rw [fewUpto_length] at hi
  have h1 := fewUpto_getD ds ms (k + 1) hi
  have h2 := fewUpto_getD ds ms k hi
  unfold nilD at h1 h2
  rw [h1, h2]
  by_cases hc : i < k ∧ i < ms.length
  · rw [if_pos hc, if_pos ⟨by omega, hc.2⟩]
  · rw [if_neg hc, if_neg (by omega)]
theorem fewUpto_in {ds : List DomB} {ms : List Nat} {k : Nat} (hk : k < ds.length) (h : k < ms.length) : fewUpto ds ms (k + 1) = (fewUpto ds ms k).set k ((ds.getD k nilD).1, (ds.getD k nilD).2 &&& ms.getD k 0) := by
  apply ext_getD (by rw [List.length_set, fewUpto_length, fewUpto_length])
  intro i hi
  rw [fewUpto_length] at hi
  have h1 := fewUpto_getD ds ms (k + 1) hi
  have h2 := fewUpto_getD ds ms k hi
  unfold nilD at h1 h2
  rw [h1, getD_set _ _ _ _ (by rw [fewUpto_length]; exact hk), h2]
  by_cases e : i = k
  · subst e
    rw [if_pos ⟨by omega, h⟩, if_pos rfl]
  · rw [if_neg e]
    by_cases hc : i < k ∧ i < ms.length
    · rw [if_pos hc, if_pos ⟨by omega, hc.2⟩]
    · rw [if_neg hc, if_neg (by omega)]

/-- The cells of a slice of domains, one behind the other. -/
theorem Doms.row {w : World} {a : Addr} {n : Nat} {ds : List DomB} (h : Doms w (some a) n ds) (hn : 0 < n) :
    ∃ vs : List Value, vs.length = n * 2 ∧ (∀ j u, vs[j]? = some u → w.cell? (a.add j) = some u) ∧ (∀ u ∈ vs, u.oneCell' = true) ∧
      ∀ j, j < n → ∃ B m c, vs[j * 2]? = some (.slice B m c) ∧ vs[j * 2 + 1]? = some (.int .u64 ((ds.getD j nilD).2 : Nat)) ∧ Ints w B m (ds.getD j nilD).1 := by
  obtain ⟨b, e, hc⟩ := h.cell hn
  cases e
  have hc' : ∀ j, j < n → ∃ B m c, w.cell? (a.add (j * 2)) = some (.slice B m c) ∧ w.cell? (a.add (j * 2 + 1)) = some (.int .u64 ((ds.getD j nilD).2 : Nat)) ∧ Ints w B m (ds.getD j nilD).1 := by
    intro j hj
    obtain ⟨B, m, c, h1, h2, h3⟩ := hc j hj
    refine ⟨B, m, c, h1, ?_, h3⟩
    have hp : a = ⟨a.block, a.off, Option.none⟩ := by
      obtain ⟨_, _, _, k1, _, _⟩ := hc 0 hn
      have e0 : a.add (0 * 2) = a := by unfold Addr.add; simp
      rw [e0] at k1
      exact plain_of_cell k1
    rw [hp, add_plain] at h2 ⊢
    exact h2
  refine ⟨(List.range (n * 2)).map fun i => (w.cell? (a.add i)).getD undef, by simp, ?_, ?_, ?_⟩
  · intro j u hu
    rw [List.getElem?_map] at hu
    by_cases hj : j < n * 2
    · rw [List.getElem?_range hj] at hu
      simp only [Option.map_some, Option.some.injEq] at hu
      obtain ⟨B, m, c, h1, h2, _⟩ := hc' (j / 2) (by omega)
      have : j = j / 2 * 2 ∨ j = j / 2 * 2 + 1 := by omega
      rcases this with e | e
      · rw [← e] at h1; rw [h1] at hu ⊢; simpa using hu
      · rw [← e] at h2; rw [h2] at hu ⊢; simpa using hu
    · rw [List.getElem?_eq_none (by simp; omega)] at hu
      simp at hu
  · intro u hu
    rw [List.mem_map] at hu
    obtain ⟨j, hj, rfl⟩ := hu
    have hj := List.mem_range.1 hj
    obtain ⟨B, m, c, h1, h2, _⟩ := hc' (j / 2) (by omega)
    have : j = j / 2 * 2 ∨ j = j / 2 * 2 + 1 := by omega
    rcases this with e | e
    · rw [← e] at h1; rw [h1]; rfl
    · rw [← e] at h2; rw [h2]; rfl
  · intro j hj
    obtain ⟨B, m, c, h1, h2, h3⟩ := hc' j hj
    refine ⟨B, m, c, ?_, ?_, h3⟩
    · rw [List.getElem?_map, List.getElem?_range (by omega)]; simp [h1]
    · rw [List.getElem?_map, List.getElem?_range (by omega)]; simp [h2]

theorem and_gen {L M : Nat} (hL : L < 2 ^ 64) (hM : M < 2 ^ 64) : bits BinOp.and IntKind.u64 (L : Int) (M : Int) = ((L &&& M : Nat) : Int) := u64_and_nat L M hL hM

/-- Domains are handed back, in a slice of the call's own. -/
def DomsPost (ds : List DomB) (w : World) (e : Ending) (w' : World) : Prop :=
  ∃ A c, e = .returned (.slice A ds.length c) ∧ Doms w' A ds.length ds ∧ Kept w w'

theorem info_dom2 : (Tryd.prog.info? 47).map (fun i => (i.zero, i.size, i.bytes)) = some (some (.agg #[.slice Option.none 0 0, .int .u64 0]), 2, 32) := by kernel_rfl

theorem fewer_any (A B : Option Addr) (n c m d : Nat) (ds : List DomB) (ms : List Nat) (w : World) (hS : Doms w A n ds) (hM : Words w B m ms) (hn : n ≤ 1000) :
    Calls Tryd.prog 21 #[.slice A n c, .slice B m d] w (DomsPost (fewUpto ds ms n) w) := by
  have HS := Lib.hid hS
  have HM := Lib.hid hM
  have Hlen := Lib.hid hS.len
  have hms := hM.small
  have hml := Lib.hid hM.len
  clear hS hM
  by_cases h0 : 0 < n
  · obtain ⟨a, rfl, hba⟩ := HS.out.addr h0
    obtain ⟨vs, hvl, hvc, hvo, hvd⟩ := HS.out.row h0
    have Hvd := Lib.hid hvd
    obtain ⟨i0, hi, hz0, hz1, hz2⟩ := info_parts info_dom2
    have HR0 : Hid ((w.alloc (.cells #[] 47)).ownsRow w.heap.size 47 2 (.slice (some ⟨w.heap.size, 0, Option.none⟩) 0 0) 0 []) := World.ownsRow_made w #[] 0 (Nat.le_refl _) (by decide) rfl
    clear hvd
    go_enter Tryd.func21, Tryd.ntmps21
    go_wp2_with (at_builtin; refine wpList_append_own _ rfl _ _ 25 rfl w.heap.size 47 i0 (.agg #[.slice Option.none 0 0, .int .u64 0]) 2 32 Tryd.underlying25 hi hz0 hz1 hz2 rfl (by decide) _ _ _ rfl HR0.out a n c vs rfl hvl (fun j u hu => (Kept.box _ _).cellAt (hvc j u hu)) hvo (by unfold maxLen; omega) (by omega) (by simp) ?_; intro v' w2 hown' hgrow _; rw [Nat.zero_add, List.nil_append] at hown'; obtain ⟨g, cap, rfl, hgb, hgl⟩ := hown'.form h0)
    have HK : Hid (Kept w w2) := (Kept.box w _).grown hgrow (by simp) (fun i hi => by simp [Act.eval, Value.ownBlock] at hi; omega)
    have HO : Hid (OwnD w2 w.heap.size (.slice (some ⟨g, 0, Option.none⟩) n cap) ds) := by
      refine ⟨vs, by rw [Hlen.out]; exact hown', fun j hj => ?_⟩
      rw [Hlen.out] at hj
      obtain ⟨B', m', c', e1, e2, e3⟩ := Hvd.out j hj
      refine ⟨HS.out.live j hj, B', m', c', e1, e2, e3.kept HK.out, fun hm a' ha' e => ?_⟩
      subst ha'
      have := e3.block hm
      simp only [Value.ownBlock, Option.some.injEq] at e
      omega
    clear hown' hgrow hvc hvo
    go_wp2_with fail
    go_loopw [12] (fun v wr => ∃ k : Nat, k ≤ n ∧ v = .int .i64 k ∧ Hid (OwnD wr w.heap.size (.slice (some ⟨g, 0, Option.none⟩) n cap) (fewUpto ds ms k)) ∧ Hid (Kept w wr)) (fun v _ => n - (intOf v).toNat)
    case atStart => exact ⟨0, Nat.zero_le _, rfl, by rw [fewUpto_zero]; exact HO, HK⟩
    case round =>
      obtain ⟨k, hk, rfl, HOr, Hkw⟩ := hrel
      by_cases hlt : k < n
      · by_cases hkm : (k : Int) < m
        · have hd : decide ((k : Int) < m) = true := by simp [hkm]
          have Hlf : Hid ((fewUpto ds ms k).length = n) := by show _ = _; rw [fewUpto_length]; exact Hlen.out
          have HOd := Lib.hid (HOr.out.kept (Kept.drewn _))
          obtain ⟨xs, L, B1, m1, c1, Hd, s1, s2, HI, hL, _, s3, s4⟩ := HOd.out.named Hlf.out k hlt
          obtain ⟨b, x, rfl, hbl, Hx, hcx, hx⟩ := (HM.out.kept (Hkw.out.then (Kept.drewn _))).named k (by omega)
          have hand := and_gen hL hx
          have Hdk : Hid (ds.getD k nilD = (xs, L)) := by
            have := Hd.out
            rwa [fewUpto_getD _ _ _ (by have := Hlen.out; omega), if_neg (by omega)] at this
          have Hnext : Hid (fewUpto ds ms (k + 1) = (fewUpto ds ms k).set k (((fewUpto ds ms k).getD k nilD).1, L &&& x)) := by
            show _ = _
            rw [fewUpto_in (by have := Hlen.out; omega) (by have := hml.out; omega), Hdk.out, Hx.out, Hd.out]
          have HL : Hid (L &&& x < 2 ^ 64) := Nat.lt_of_le_of_lt Nat.and_le_left hL
          go_wp2_with fail
          go_still_tail 12, (by kernel_rfl)
          change wpList _ _ _ _ _ wr.drew
          go_wp2_with fail
          go_roundw
          case rel =>
            refine ⟨k + 1, by omega, by go_num, ?_, ?_⟩
            · show OwnD _ _ _ _
              rw [Hnext.out]
              exact HOd.out.setLive Hlf.out hlt HL.out
            · exact ((KeptBut.of (Hkw.out.then (Kept.drewn _)) g).then (KeptBut.set _ (a := ⟨g, k * 2 + 1, Option.none⟩) rfl _)).kept hgb
          case measure => simp [intOf]; omega
        · have hd : decide ((k : Int) < m) = false := by simp; omega
          go_wp2_with fail
          go_roundw
          case rel => exact ⟨k + 1, by omega, by go_num, by rw [fewUpto_out (by have := hml.out; omega)]; exact HOr, Hkw⟩
          case measure => simp [intOf]; omega
      · have e : k = n := by omega
        subst e
        go_wp2_with fail
        go_ret
        have hl : (fewUpto ds ms k).length = k := by rw [fewUpto_length]; exact Hlen.out
        exact ⟨_, cap, by rw [hl]; rfl, by rw [hl]; exact HOr.out.doms hl (by omega), Hkw.out⟩
  · have e : n = 0 := by omega
    subst e
    have hd0 : ds = [] := List.eq_nil_of_length_eq_zero Hlen.out
    subst hd0
    have hmk : fewUpto [] ms 0 = [] := rfl
    rw [hmk]
    cases A with
    | none =>
      go_enter Tryd.func21, Tryd.ntmps21
      go_wp2_with fail
      go_loopw [12] (fun v wr => v = .int .i64 0 ∧ Hid (Kept w wr)) (fun _ _ => 0)
      case atStart => exact ⟨rfl, Kept.box _ _⟩
      case round =>
        obtain ⟨rfl, Hkw⟩ := hrel
        go_wp2_with fail
        go_ret
        exact ⟨_, _, rfl, ⟨rfl, by decide, fun j hj => by simp at hj, fun h => by simp at h⟩, Hkw.out⟩
    | some a =>
      go_enter Tryd.func21, Tryd.ntmps21
      go_wp2_with fail
      go_loopw [12] (fun v wr => v = .int .i64 0 ∧ Hid (Kept w wr)) (fun _ _ => 0)
      case atStart => exact ⟨rfl, Kept.box _ _⟩
      case round =>
        obtain ⟨rfl, Hkw⟩ := hrel
        go_wp2_with fail
        go_ret
        exact ⟨_, _, rfl, ⟨rfl, by decide, fun j hj => by simp at hj, fun h => by simp at h⟩, Hkw.out⟩
end Go.Proofs.YtjmegicopdbkdaaDoor

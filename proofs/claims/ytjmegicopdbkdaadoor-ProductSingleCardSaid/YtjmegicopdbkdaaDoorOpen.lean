/-
  Arguments that come in: constraints, slices of domains, of words, of whole numbers, as the contracts read them.
-/
import Derived.Test.YtjmegicopdbkdaaDoorFewer
import Derived.Deep.Slices
import Derived.Deep.Fields
import Derived.ChangeSame
import Derived.Lib.SmallJoins
import Derived.ProofKit
set_option maxRecDepth 10000
set_option maxHeartbeats 1000000
namespace Go.Proofs.YtjmegicopdbkdaaDoor
open Go Pl Go.Joins Go.ChangeShapes Go.WideShapes Go.RowKit Go.Deep

section
variable {H : Type} {enc : TypeId × Value → H} {P : Program} {w : World} {base : Nat} {spare : Nat → Bool} {held : Bool}
theorem slice_fields {t e : TypeId} {fs : Array Field} {fuel : Nat} {cs : List Value} {x : DataW H × List MemPlace} (ht : P.underlying t = some (.slice e)) (he : P.underlying e = some (.struct fs))
    (hone : oneCellFields P fs = true) (hC : P.cellsOf e = fs.size) (h : DataW.trod enc P w base spare held fuel t cs = some x) :
    cs = [.slice Option.none 0 0] ∨
    ∃ (a : Addr) (len cap m : Nat), cs = [.slice (some a) len cap] ∧ len ≤ cap ∧ cap ≤ maxLen ∧ m = (if spare a.block then cap else len) ∧
      ∀ i, i < m → ∃ n : Nat, ∀ (j : Nat) (f : Field), fs[j]? = some f → ∃ (v : Value) (y : DataW H × List MemPlace), w.cell? (a.add (i * fs.size + j)) = some v ∧ DataW.trod enc P w base spare held n f.type [v] = some y := by
  rcases open_slice ht h with h0 | ⟨a, len, cap, m, n, D, Pl, hcs, hb, hl, hm, hmm, hx, hi⟩
  · exact .inl h0.1
  · refine .inr ⟨a, len, cap, m, hcs, hl, hm, hmm, fun i him => ?_⟩
    obtain ⟨cs', hc, ht'⟩ := hi i him
    rw [hC] at hc
    obtain ⟨ys, n', hn', hy, hlen, hyl, hf⟩ := DataW.trod_struct he ht'
    obtain ⟨_, hcl, hat⟩ := World.cells?_some hc
    refine ⟨n', fun j f hj => ?_⟩
    obtain ⟨ho, hk⟩ := hone_of hone j f hj
    have hjl : j < fs.size := (Array.getElem?_eq_some_iff.1 hj).1
    have hcell := hat j hjl
    have hv : cs'[j]? = some (cs'[j]'(by omega)) := List.getElem?_eq_getElem (by omega)
    have h1 := hf j f hj
    rw [ho, hk] at h1
    have hone' : (cs'.drop j).take 1 = [cs'[j]'(by omega)] := by
      rw [List.drop_eq_getElem_cons (by omega)]
      rfl
    rw [hone'] at h1
    have hys : ys[j]? = some (ys[j]'(by omega)) := List.getElem?_eq_getElem (by omega)
    refine ⟨_, _, ?_, h1.trans hys⟩
    rw [← Go.Deep.add_add, hcell, hv]

theorem agg6 {r : Reach} {b0 : Nat} {t : TypeId} {f0 f1 f2 f3 f4 f5 : Field} {v : Value} {d : DataW H} {p : List MemPlace} (hs : P.underlying t = some (.struct #[f0, f1, f2, f3, f4, f5])) (hone : oneCellFields P #[f0, f1, f2, f3, f4, f5] = true) (hC : P.cellsOf t = 6)
    (hv : Value.okWide P w r b0 t v) (h : DataW.Trod enc P w base spare held t v d p) :
    ∃ (v0 v1 v2 v3 v4 v5 : Value) (y0 y1 y2 y3 y4 y5 : DataW H × List MemPlace) (n : Nat), v = .agg #[v0, v1, v2, v3, v4, v5] ∧
      DataW.trod enc P w base spare held n f0.type [v0] = some y0 ∧ DataW.trod enc P w base spare held n f1.type [v1] = some y1 ∧ DataW.trod enc P w base spare held n f2.type [v2] = some y2 ∧ DataW.trod enc P w base spare held n f3.type [v3] = some y3 ∧ DataW.trod enc P w base spare held n f4.type [v4] = some y4 ∧ DataW.trod enc P w base spare held n f5.type [v5] = some y5 := by
  obtain ⟨cs, rfl, hsz⟩ := okWide_struct hs hv
  obtain ⟨l⟩ := cs
  match l, hsz.trans hC with
  | [c0, c1, c2, c3, c4, c5], _ =>
    obtain ⟨fuel, hf⟩ := h
    obtain ⟨xs, n, _, hx, _, hlen, hg⟩ := DataW.trod_struct hs hf
    obtain ⟨o0, k0⟩ := hone_of hone 0 f0 rfl
    obtain ⟨o1, k1⟩ := hone_of hone 1 f1 rfl
    obtain ⟨o2, k2⟩ := hone_of hone 2 f2 rfl
    obtain ⟨o3, k3⟩ := hone_of hone 3 f3 rfl
    obtain ⟨o4, k4⟩ := hone_of hone 4 f4 rfl
    obtain ⟨o5, k5⟩ := hone_of hone 5 f5 rfl
    match xs, hlen with
    | [y0, y1, y2, y3, y4, y5], _ =>
      exact ⟨c0, c1, c2, c3, c4, c5, y0, y1, y2, y3, y4, y5, n, rfl, by simpa [Value.cells, o0, k0] using hg 0 f0 rfl, by simpa [Value.cells, o1, k1] using hg 1 f1 rfl, by simpa [Value.cells, o2, k2] using hg 2 f2 rfl, by simpa [Value.cells, o3, k3] using hg 3 f3 rfl, by simpa [Value.cells, o4, k4] using hg 4 f4 rfl, by simpa [Value.cells, o5, k5] using hg 5 f5 rfl⟩
end

section
variable {H : Type} {enc : TypeId × Value → H} {w : World}

theorem lit_rng {k : Int} (h : (Lit.int .i64 k).wf = true) : -9223372036854775808 ≤ k ∧ k ≤ 9223372036854775807 := by
  simp [Lit.wf, IntKind.min, IntKind.max, IntKind.signed, IntKind.bits] at h
  omega
theorem lit_u64 {k : Int} (h : (Lit.int .u64 k).wf = true) : 0 ≤ k ∧ k < 18446744073709551616 := by
  simp [Lit.wf, IntKind.min, IntKind.max, IntKind.signed, IntKind.bits] at h
  omega

/-- A cell that reads as a slice of whole numbers. -/
theorem ints_of {fuel : Nat} {v : Value} {x : DataW H × List MemPlace} (h : DataW.trod enc Tryd.prog w 0 (fun _ => true) true fuel 22 [v] = some x) :
    ∃ (A : Option Addr) (n c : Nat) (xs : List Int), v = .slice A n c ∧ n ≤ c ∧ Ints w A n xs := by
  rcases open_ints Tryd.underlying22 Tryd.underlying3 (by kernel_rfl) h with ⟨hcs, _⟩ | ⟨a, l, c, zs, hcs, _, hl, hm, hz, _, hcell, hwz⟩
  · obtain rfl : v = .slice Option.none 0 0 := by simpa using hcs
    exact ⟨_, _, _, [], rfl, Nat.le_refl _, Ints.none _⟩
  · obtain rfl : v = .slice (some a) l c := by simpa using hcs
    refine ⟨_, _, _, _, rfl, hl, Ints.of_row (cap := c) (zs := zs) (.inr ⟨a, rfl, hl, hm, by simpa using hz, hcell, hwz⟩)⟩

/-- A constraint that comes in. -/
theorem con_of {b0 : Nat} {v : Value} {d : DataW H} {p : List MemPlace} (hv : Value.okWide Tryd.prog w .any b0 24 v) (h : DataW.Trod enc Tryd.prog w 0 (fun _ => true) true 24 v d p) :
    ∃ (K R Ct : Int) (A1 A2 A3 : Option Addr) (n1 c1 n2 c2 n3 c3 : Nat) (C : ConB), v = .agg #[.int .i64 K, .slice A1 n1 c1, .slice A2 n2 c2, .int .i64 R, .int .i64 Ct, .slice A3 n3 c3] ∧ ConIn w K R Ct A1 A2 A3 n1 c1 n2 c2 n3 c3 C := by
  obtain ⟨v0, v1, v2, v3, v4, v5, y0, y1, y2, y3, y4, y5, n, rfl, h0, h1, h2, h3, h4, h5⟩ := agg6 Tryd.underlying24 (by kernel_rfl) (by kernel_rfl) hv h
  obtain ⟨K, e0, _, w0⟩ := DataW.trod_int Tryd.underlying3 h0
  obtain ⟨R, e3, _, w3⟩ := DataW.trod_int Tryd.underlying3 h3
  obtain ⟨Ct, e4, _, w4⟩ := DataW.trod_int Tryd.underlying3 h4
  obtain ⟨A1, n1, c1, xs1, rfl, k1, I1⟩ := ints_of h1
  obtain ⟨A2, n2, c2, xs2, rfl, k2, I2⟩ := ints_of h2
  obtain ⟨A3, n3, c3, xs3, rfl, k3, I3⟩ := ints_of h5
  obtain rfl : v0 = .int .i64 K := by simpa using e0
  obtain rfl : v3 = .int .i64 R := by simpa using e3
  obtain rfl : v4 = .int .i64 Ct := by simpa using e4
  exact ⟨K, R, Ct, A1, A2, A3, n1, c1, n2, c2, n3, c3, ⟨K, xs1, xs2, R, Ct, xs3⟩, rfl, ⟨rfl, rfl, rfl, I1, I2, I3, k1, k3, lit_rng w0, lit_rng w3, lit_rng w4⟩⟩

theorem list_of {Q : Nat → DomB → Prop} (len : Nat) (h : ∀ j, j < len → ∃ d, Q j d) : ∀ k, k ≤ len → ∃ ds : List DomB, ds.length = k ∧ ∀ j, j < k → Q j (ds.getD j nilD)
  | 0, _ => ⟨[], rfl, fun j hj => by omega⟩
  | k + 1, hk => by
    obtain ⟨ds, hl, hd⟩ := list_of len h k (by omega)
    obtain ⟨d, hq⟩ := h k (by omega)
    refine ⟨ds ++ [d], by simp [hl], fun j hj => ?_⟩
    by_cases hlt : j < k
    · rw [getD_snoc (by omega)]; exact hd j hlt
    · have e : j = ds.length := by omega
      subst e
      rw [getD_last, hl]; exact hq

/-- A slice of domains that comes in. -/
theorem doms_of {A : Option Addr} {n c : Nat} {d : DataW H} {p : List MemPlace} (h : DataW.Trod enc Tryd.prog w 0 (fun _ => true) true 25 (.slice A n c) d p) :
    ∃ ds : List DomB, Doms w A n ds := by
  obtain ⟨fuel, hf⟩ := h
  rcases slice_fields Tryd.underlying25 Tryd.underlying47 (by kernel_rfl) (by kernel_rfl) hf with hcs | ⟨a, len, cap, m, hcs, hl, hm, hmm, hi⟩
  · simp [Value.cells] at hcs
    obtain ⟨rfl, rfl, rfl⟩ := hcs
    exact ⟨[], Doms.none _⟩
  · simp [Value.cells] at hcs
    obtain ⟨rfl, rfl, rfl⟩ := hcs
    simp only [if_true] at hmm
    have hq : ∀ j, j < n → ∃ d : DomB, d.2 < 2 ^ 64 ∧ ∃ B m' c', w.cell? (a.add (j * 2)) = some (.slice B m' c') ∧ w.cell? (a.add (j * 2 + 1)) = some (.int .u64 (d.2 : Nat)) ∧ Ints w B m' d.1 := by
      intro j hj
      obtain ⟨k, hk⟩ := hi j (by omega)
      obtain ⟨v0, y0, k1, k2⟩ := hk 0 _ rfl
      obtain ⟨v1, y1, k3, k4⟩ := hk 1 _ rfl
      obtain ⟨B, m', c', xs, rfl, _, hI⟩ := ints_of k2
      obtain ⟨u, e1, _, w1⟩ := DataW.trod_int Tryd.underlying45 k4
      obtain rfl : v1 = .int .u64 u := by simpa using e1
      obtain ⟨U, rfl⟩ := Int.eq_ofNat_of_zero_le (lit_u64 w1).1
      exact ⟨(xs, U), by have := (lit_u64 w1).2; show U < 2 ^ 64; omega, B, m', c', k1, k3, hI⟩
    obtain ⟨ds, hlen, hd⟩ := list_of n hq n (Nat.le_refl _)
    refine ⟨ds, hlen, by unfold maxLen at hm; omega, fun j hj => (hd j hj).1, fun h0 => ⟨a, rfl, fun j hj => ?_⟩⟩
    obtain ⟨_, B, m', c', k1, k2, k3⟩ := hd j hj
    refine ⟨B, m', c', k1, ?_, k3⟩
    obtain ⟨_, _, _, _, q1, _, _⟩ := hd 0 h0
    have e0 : a.add (0 * 2) = a := by unfold Addr.add; simp
    rw [e0] at q1
    have hp := plain_of_cell q1
    rw [hp, add_plain] at k2 ⊢
    exact k2

/-- A slice of whole numbers that comes in. -/
theorem row_of {A : Option Addr} {n c : Nat} {d : DataW H} {p : List MemPlace} (h : DataW.Trod enc Tryd.prog w 0 (fun _ => true) true 22 (.slice A n c) d p) :
    ∃ xs : List Int, Ints w A n xs := by
  obtain ⟨fuel, hf⟩ := h
  rcases open_ints Tryd.underlying22 Tryd.underlying3 (by kernel_rfl) hf with ⟨hcs, _⟩ | ⟨a, l, cap, zs, hcs, _, hl, hm, hz, _, hcell, hwz⟩
  · simp [Value.cells] at hcs
    obtain ⟨rfl, rfl, rfl⟩ := hcs
    exact ⟨[], Ints.none _⟩
  · simp [Value.cells] at hcs
    obtain ⟨rfl, rfl, rfl⟩ := hcs
    exact ⟨_, Ints.of_row (cap := c) (zs := zs) (.inr ⟨a, rfl, hl, hm, by simpa using hz, hcell, hwz⟩)⟩

/-- A slice of words that comes in. -/
theorem words_of {A : Option Addr} {n c : Nat} {d : DataW H} {p : List MemPlace} (h : DataW.Trod enc Tryd.prog w 0 (fun _ => true) true 42 (.slice A n c) d p) :
    ∃ ms : List Nat, Words w A n ms := by
  obtain ⟨fuel, hf⟩ := h
  rcases open_ints Tryd.underlying42 Tryd.underlying45 (by kernel_rfl) hf with ⟨hcs, _⟩ | ⟨a, l, cap, zs, hcs, _, hl, hm, hz, _, hcell, hwz⟩
  · simp [Value.cells] at hcs
    obtain ⟨rfl, rfl, rfl⟩ := hcs
    exact ⟨[], rfl, by omega, fun j => by simp, fun h => by omega⟩
  · simp [Value.cells] at hcs
    obtain ⟨rfl, rfl, rfl⟩ := hcs
    simp only [if_true] at hz
    have hg : ∀ j, (((zs.take n).map Int.toNat).getD j 0) = if j < n then (zs.getD j 0).toNat else 0 := by
      intro j
      simp only [List.getD_eq_getElem?_getD, List.getElem?_map]
      by_cases hj : j < n
      · rw [List.getElem?_take_of_lt hj, if_pos hj]
        cases zs[j]? <;> rfl
      · rw [if_neg hj, List.getElem?_eq_none (by rw [List.length_take]; omega)]; rfl
    have hr : ∀ j, j < zs.length → 0 ≤ zs.getD j 0 ∧ zs.getD j 0 < 18446744073709551616 := fun j hj => lit_u64 (hwz _ (by
      rw [List.getD_eq_getElem?_getD, List.getElem?_eq_getElem hj]; exact List.getElem_mem hj))
    refine ⟨(zs.take n).map Int.toNat, by simp; omega, by unfold maxLen at hm; omega, fun j => ?_, fun h0 => ⟨a, rfl, fun j hj => ?_⟩⟩
    · rw [hg]
      split
      · have := hr j (by omega); omega
      · decide
    · rw [hcell j (by omega), hg, if_pos hj]
      have := hr j (by omega)
      congr 2
      omega
end
end Go.Proofs.YtjmegicopdbkdaaDoor

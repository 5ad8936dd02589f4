/-
  Contracts and plain laws that the card rests on, part 10.
-/
import Derived.Test.YtjmegicopdbkdaaDoorG9
import Derived.Test.YtjmegicopdbkdaaDoorG4
import Derived.Deep.RegionHeld3
import Derived.Test.YtjmegicopdbkdaaDoorG7
import Derived.Test.YtjmegicopdbkdaaDoorG6
set_option maxHeartbeats 4000000
set_option maxRecDepth 10000
namespace Go.Proofs.YtjmegicopdbkdaaDoor
open Go Go.RowKit Pl

/-- Are there numbers of three lists, a product and its factors? -/
def some3 (X Y Z : List Int) : Bool := X.any fun a => Y.any fun b => Z.any fun c => a * b == c
/-- The lists, one of them a number alone. -/
def own3 (L : Nat → List Int) (i : Nat) (v : Int) (q : Nat) : List Int := if q = i then [v] else L q

theorem rsome_any (K R Ct : Int) (A1 A2 A3 : Option Addr) (n1 c1 n2 c2 n3 c3 : Nat) (C : ConB) (A : Option Addr) (n c : Nat) (ls : List (List Int)) (i : Nat) (v : Int) (w : World) (hC : ConIn w K R Ct A1 A2 A3 n1 c1 n2 c2 n3 c3 C) (hL : LL w A n ls) (hv : varsOk C.vars n = true) (h3 : n1 = 3) (hi : i < 3)
    (h64 : ∀ j, (ls.getD j []).length ≤ 64) (hr : ∀ j, ∀ x ∈ ls.getD j [], -1048576 ≤ x ∧ x ≤ 1048576) (hvr : -1048576 ≤ v ∧ v ≤ 1048576) :
    Calls Tryd.prog 36 #[.agg #[.int .i64 K, .slice A1 n1 c1, .slice A2 n2 c2, .int .i64 R, .int .i64 Ct, .slice A3 n3 c3], .slice A n c, .int .i64 i, .int .i64 v] w fun e w' =>
      e = .returned (.bool (some3 (own3 (fun q => ls.getD (C.vars.getD q 0).toNat []) i v 0) (own3 (fun q => ls.getD (C.vars.getD q 0).toNat []) i v 1) (own3 (fun q => ls.getD (C.vars.getD q 0).toNat []) i v 2))) ∧ Kept w w' := by
  subst h3
  have Hl1 := Lib.hid hC.vars.len
  have hrng : ∀ i, i < 3 → ∃ p : Nat, C.vars.getD i 0 = (p : Nat) ∧ p < n := fun i hi => by
    obtain ⟨h1, h2⟩ := varsOk_rng hv (i := i) (by have := hC.vars.len; omega)
    obtain ⟨p, hp⟩ := Int.eq_ofNat_of_zero_le h1
    exact ⟨p, hp, by omega⟩
  obtain ⟨p0, hp0, hp0n⟩ := hrng 0 (by omega)
  obtain ⟨p1, hp1, hp1n⟩ := hrng 1 (by omega)
  obtain ⟨p2, hp2, hp2n⟩ := hrng 2 (by omega)
  obtain ⟨L, hLL⟩ : ∃ L : Nat → List Int, L = fun q => ls.getD (C.vars.getD q 0).toNat [] := ⟨_, rfl⟩
  have e0 : L 0 = ls.getD p0 [] := by rw [hLL]; simp only [hp0, Int.toNat_natCast]
  have e1 : L 1 = ls.getD p1 [] := by rw [hLL]; simp only [hp1, Int.toNat_natCast]
  have e2 : L 2 = ls.getD p2 [] := by rw [hLL]; simp only [hp2, Int.toNat_natCast]
  rw [← hLL]
  obtain ⟨bv, ov, rfl, hcv⟩ := hC.vars.plain (by omega)
  have hv0 := hcv 0 (by have := Hl1.out; omega)
  have hv1 := hcv 1 (by have := Hl1.out; omega)
  have hv2 := hcv 2 (by have := Hl1.out; omega)
  rw [hp0] at hv0
  rw [hp1] at hv1
  rw [hp2] at hv2
  simp only [Nat.add_zero] at hv0
  obtain ⟨al, l0, B0, m0, d0, rfl, hbal, Hl0, hc0, HI0⟩ := hL.named p0 hp0n
  obtain ⟨al', l1, B1, m1, d1, ea1, _, Hl1', hc1, HI1⟩ := hL.named p1 hp1n
  obtain ⟨al'', l2, B2, m2, d2, ea2, _, Hl2, hc2, HI2⟩ := hL.named p2 hp2n
  cases ea1
  cases ea2
  rw [Hl0.out] at e0
  rw [Hl1'.out] at e1
  rw [Hl2.out] at e2
  have H0 : Hid (l0.length ≤ 64 ∧ ∀ x ∈ l0, -1048576 ≤ x ∧ x ≤ 1048576) := by rw [← Hl0.out]; exact ⟨h64 p0, hr p0⟩
  have H1 : Hid (l1.length ≤ 64 ∧ ∀ x ∈ l1, -1048576 ≤ x ∧ x ≤ 1048576) := by rw [← Hl1'.out]; exact ⟨h64 p1, hr p1⟩
  have H2 : Hid (l2.length ≤ 64 ∧ ∀ x ∈ l2, -1048576 ≤ x ∧ x ≤ 1048576) := by rw [← Hl2.out]; exact ⟨h64 p2, hr p2⟩
  have HE0 := Lib.hid e0
  have HE1 := Lib.hid e1
  have HE2 := Lib.hid e2
  have HSf : Hid (∀ W, Kept w W → W.cell? ⟨bv, ov, Option.none⟩ = some (.int .i64 p0) ∧ W.cell? ⟨bv, ov + 1, Option.none⟩ = some (.int .i64 p1) ∧ W.cell? ⟨bv, ov + 2, Option.none⟩ = some (.int .i64 p2)
      ∧ W.cell? (al.add p0) = some (.slice B0 m0 d0) ∧ W.cell? (al.add p1) = some (.slice B1 m1 d1) ∧ W.cell? (al.add p2) = some (.slice B2 m2 d2)) := fun W hW =>
    ⟨hW.cellAt hv0, hW.cellAt hv1, hW.cellAt hv2, hW.cellAt hc0, hW.cellAt hc1, hW.cellAt hc2⟩
  have hbvl : bv < w.heap.size := World.block_lt_of_cell? w _ hv0
  have hi0 : (0 : Int) ≤ (i : Int) := by omega
  have hi3 : (i : Int) < 3 := by omega
  clear hC hL hv hrng hcv hLL h64 hr hp0 hp1 hp2 e0 e1 e2
  go_enter Tryd.func36, Tryd.ntmps36
  go_wp2_with fail
  have HKb := Lib.hid (Kept.box w (.cells #[.int .i64 K, .slice (some ⟨bv, ov, Option.none⟩) 3 c1, .slice A2 n2 c2, .int .i64 R, .int .i64 Ct, .slice A3 n3 c3] 24))
  have HBb : Hid (∀ W, Kept (w.alloc (.cells #[.int .i64 K, .slice (some ⟨bv, ov, Option.none⟩) 3 c1, .slice A2 n2 c2, .int .i64 R, .int .i64 Ct, .slice A3 n3 c3] 24)) W → W.cell? ⟨w.heap.size, 1, Option.none⟩ = some (.slice (some ⟨bv, ov, Option.none⟩) 3 c1) ∧ W.cell? ⟨bv, ov, Option.none⟩ = some (.int .i64 p0) ∧ W.cell? ⟨bv, ov + 1, Option.none⟩ = some (.int .i64 p1) ∧ W.cell? ⟨bv, ov + 2, Option.none⟩ = some (.int .i64 p2)
      ∧ W.cell? (al.add p0) = some (.slice B0 m0 d0) ∧ W.cell? (al.add p1) = some (.slice B1 m1 d1) ∧ W.cell? (al.add p2) = some (.slice B2 m2 d2)) := fun W hW =>
    ⟨by rw [cell_at (hW.heapAt (heap_new w _)) 1]; rfl, HSf.out W (HKb.out.then hW)⟩
  have HBs : Hid (∀ (W : World) (Kb : Nat) (x0 x1 x2 : Value), Kept (w.alloc (.cells #[.int .i64 K, .slice (some ⟨bv, ov, Option.none⟩) 3 c1, .slice A2 n2 c2, .int .i64 R, .int .i64 Ct, .slice A3 n3 c3] 24)) W → (w.alloc (.cells #[.int .i64 K, .slice (some ⟨bv, ov, Option.none⟩) 3 c1, .slice A2 n2 c2, .int .i64 R, .int .i64 Ct, .slice A3 n3 c3] 24)).heap.size ≤ Kb → ∀ W', W' = (((W.setCell ⟨Kb, 0, Option.none⟩ x0).setCell ⟨Kb, 1, Option.none⟩ x1).setCell ⟨Kb, 2, Option.none⟩ x2) → W'.cell? ⟨w.heap.size, 1, Option.none⟩ = some (.slice (some ⟨bv, ov, Option.none⟩) 3 c1) ∧ W'.cell? ⟨bv, ov, Option.none⟩ = some (.int .i64 p0) ∧ W'.cell? ⟨bv, ov + 1, Option.none⟩ = some (.int .i64 p1) ∧ W'.cell? ⟨bv, ov + 2, Option.none⟩ = some (.int .i64 p2)
      ∧ W'.cell? (al.add p0) = some (.slice B0 m0 d0) ∧ W'.cell? (al.add p1) = some (.slice B1 m1 d1) ∧ W'.cell? (al.add p2) = some (.slice B2 m2 d2)) := fun W Kb x0 x1 x2 hW hKb W' e => by
    subst e
    exact HBb.out _ ((((KeptBut.of hW Kb).then (((KeptBut.set _ (a := ⟨Kb, 0, Option.none⟩) rfl _).then (KeptBut.set _ (a := ⟨Kb, 1, Option.none⟩) rfl _)).then (KeptBut.set _ (a := ⟨Kb, 2, Option.none⟩) rfl _)))).kept hKb)
  have hsb : (w.alloc (.cells #[.int .i64 K, .slice (some ⟨bv, ov, Option.none⟩) 3 c1, .slice A2 n2 c2, .int .i64 R, .int .i64 Ct, .slice A3 n3 c3] 24)).heap.size = w.heap.size + 1 := by simp
  have Hsb := Lib.hid hsb
  have Hbox := Lib.hid (heap_new w (.cells #[.int .i64 K, .slice (some ⟨bv, ov, Option.none⟩) 3 c1, .slice A2 n2 c2, .int .i64 R, .int .i64 Ct, .slice A3 n3 c3] 24))
  clear hsb hv0 hv1 hv2 hc0 hc1 hc2
  generalize w.alloc (.cells #[.int .i64 K, .slice (some ⟨bv, ov, Option.none⟩) 3 c1, .slice A2 n2 c2, .int .i64 R, .int .i64 Ct, .slice A3 n3 c3] 24) = wb at *
  go_region_held3 (fun W => W.cell? ⟨w.heap.size, 1, Option.none⟩ = some (.slice (some ⟨bv, ov, Option.none⟩) 3 c1) ∧ W.cell? ⟨bv, ov, Option.none⟩ = some (.int .i64 p0) ∧ W.cell? ⟨bv, ov + 1, Option.none⟩ = some (.int .i64 p1) ∧ W.cell? ⟨bv, ov + 2, Option.none⟩ = some (.int .i64 p2)
      ∧ W.cell? (al.add p0) = some (.slice B0 m0 d0) ∧ W.cell? (al.add p1) = some (.slice B1 m1 d1) ∧ W.cell? (al.add p2) = some (.slice B2 m2 d2))
    (first
      | with_reducible exact HBb.out _ (Kept.drewn _)
      | with_reducible exact HBb.out _ ((Kept.box _ _).then (Kept.drewn _))
      | with_reducible exact HBb.out _ ((Kept.drewn _).newBlock _)) (fail)
  have HW1 : Hid ((wb.alloc (.cells #[.slice B0 m0 d0, .slice B1 m1 d1, .slice B2 m2 d2] 87)).drew.heap[wb.heap.size]? = some (.cells #[.slice B0 m0 d0, .slice B1 m1 d1, .slice B2 m2 d2] 87)) := (Kept.drewn _).heapAt (heap_new _ _)
  have HKW : Hid (Kept w (wb.alloc (.cells #[.slice B0 m0 d0, .slice B1 m1 d1, .slice B2 m2 d2] 87)).drew) := HKb.out.then ((Kept.box _ _).then (Kept.drewn _))
  generalize (wb.alloc (.cells #[.slice B0 m0 d0, .slice B1 m1 d1, .slice B2 m2 d2] 87)).drew = W1 at *
  have hbi : ∃ x, W1.cell? ⟨wb.heap.size, i, Option.none⟩ = some x := by
    rw [cell_at HW1.out]
    have h : i = 0 ∨ i = 1 ∨ i = 2 := by omega
    rcases h with rfl | rfl | rfl <;> exact ⟨_, rfl⟩
  obtain ⟨x0, hbi⟩ := hbi
  have hfi := frozen_at HW1.out i
  have hlK := lt_at HW1.out
  have Hold : ∀ q, q < 3 → ∃ X m d, (#[.slice B0 m0 d0, .slice B1 m1 d1, .slice B2 m2 d2] : Array Value)[q]? = some (.slice X m d) ∧ Ints w X m (L q) ∧ m ≤ 64 ∧ ∀ x ∈ L q, -1048576 ≤ x ∧ x ≤ 1048576 := fun q hq => by
    have h : q = 0 ∨ q = 1 ∨ q = 2 := by omega
    rcases h with rfl | rfl | rfl
    · rw [HE0.out]; exact ⟨B0, m0, d0, rfl, HI0.out, by have := HI0.out.len; have := H0.out.1; omega, H0.out.2⟩
    · rw [HE1.out]; exact ⟨B1, m1, d1, rfl, HI1.out, by have := HI1.out.len; have := H1.out.1; omega, H1.out.2⟩
    · rw [HE2.out]; exact ⟨B2, m2, d2, rfl, HI2.out, by have := HI2.out.len; have := H2.out.1; omega, H2.out.2⟩
  have hszw := HKW.out.size
  have hszb := HKb.out.size
  have hB2 : KeptBut wb.heap.size W1 ((W1.setCell ⟨wb.heap.size, i, Option.none⟩ (.slice (some ⟨W1.heap.size, 0, Option.none⟩) 1 1)).alloc (.cells #[.int .i64 v] 3)) := (KeptBut.set W1 (a := ⟨wb.heap.size, i, Option.none⟩) (B := wb.heap.size) rfl _).then (KeptBut.of (Kept.box _ _) _)
  have HK2 : Hid (Kept w ((W1.setCell ⟨wb.heap.size, i, Option.none⟩ (.slice (some ⟨W1.heap.size, 0, Option.none⟩) 1 1)).alloc (.cells #[.int .i64 v] 3))) := ((KeptBut.of HKW.out wb.heap.size).then hB2).kept hszb
  have Hq : ∀ q, q < 3 → ∃ X m d, ((W1.setCell ⟨wb.heap.size, i, Option.none⟩ (.slice (some ⟨W1.heap.size, 0, Option.none⟩) 1 1)).alloc (.cells #[.int .i64 v] 3)).cell? ⟨wb.heap.size, q, Option.none⟩ = some (.slice X m d) ∧ Hid (Ints ((W1.setCell ⟨wb.heap.size, i, Option.none⟩ (.slice (some ⟨W1.heap.size, 0, Option.none⟩) 1 1)).alloc (.cells #[.int .i64 v] 3)) X m (own3 L i v q)) ∧ m ≤ 64 ∧ Hid (∀ x ∈ own3 L i v q, -1048576 ≤ x ∧ x ≤ 1048576) := fun q hq => by
    have hb := (Kept.box (W1.setCell ⟨wb.heap.size, i, Option.none⟩ (.slice (some ⟨W1.heap.size, 0, Option.none⟩) 1 1)) (.cells #[.int .i64 v] 3)).heapAt (heap_setCell_same W1 wb.heap.size i _ _ (.slice (some ⟨W1.heap.size, 0, Option.none⟩) 1 1) HW1.out)
    by_cases e : q = i
    · subst e
      have eo : own3 L q v q = [v] := by unfold own3; rw [if_pos rfl]
      rw [eo]
      refine ⟨_, 1, 1, by rw [cell_at hb]; simp [hi]; rfl, ?_, by omega, fun x hx => by rw [List.mem_singleton] at hx; subst hx; exact hvr⟩
      have := lit1 (W1.setCell ⟨wb.heap.size, q, Option.none⟩ (.slice (some ⟨W1.heap.size, 0, Option.none⟩) 1 1)) v 3 (0, 0) (by omega)
      have es : (W1.setCell ⟨wb.heap.size, q, Option.none⟩ (.slice (some ⟨W1.heap.size, 0, Option.none⟩) 1 1)).heap.size = W1.heap.size := by simp [World.setCell]
      rw [es] at this
      exact this
    · have eo : own3 L i v q = L q := by unfold own3; rw [if_neg e]
      rw [eo]
      obtain ⟨X, m, d, h1, h2, h3, h4⟩ := Hold q hq
      refine ⟨X, m, d, ?_, h2.kept HK2.out, h3, h4⟩
      rw [cell_at hb]
      rw [Array.getElem?_setIfInBounds_ne (fun h => e h.symm)]
      exact h1
  obtain ⟨XA, xn, xd, hx0, HX, hxn, HrX⟩ := Hq 0 (by omega)
  obtain ⟨YA, yn, yd, hy0, HY, hyn, HrY⟩ := Hq 1 (by omega)
  obtain ⟨ZA, zn, zd, hz0, HZ, hzn, HrZ⟩ := Hq 2 (by omega)
  have HlX := Lib.hid HX.out.len
  have HlY := Lib.hid HY.out.len
  have HlZ := Lib.hid HZ.out.len
  have Hx0 := Lib.hid hx0
  have Hy0 := Lib.hid hy0
  have Hz0 := Lib.hid hz0
  clear Hold hB2 Hq hx0 hy0 hz0
  go_wp2_with fail
  generalize hX0 : own3 L i v 0 = X at *
  generalize hY0 : own3 L i v 1 = Y at *
  generalize hZ0 : own3 L i v 2 = Z at *
  have HX0 := Lib.hid hX0
  have HY0 := Lib.hid hY0
  have HZ0 := Lib.hid hZ0
  clear hX0 hY0 hZ0
  clear hbi hfi
  generalize ((W1.setCell ⟨wb.heap.size, i, Option.none⟩ (.slice (some ⟨W1.heap.size, 0, Option.none⟩) 1 1)).alloc (.cells #[.int .i64 v] 3)) = W2 at *
  have hK2s : wb.heap.size < W2.heap.size := World.block_lt_of_cell? W2 _ Hx0.out
  obtain ⟨f, hf⟩ : ∃ f : Int → Int → Bool, f = fun a b => Z.any fun c => a * b == c := ⟨_, rfl⟩
  obtain ⟨h, hh⟩ : ∃ h : Int → Bool, h = fun a => Y.any (f a) := ⟨_, rfl⟩
  have HS3 : Hid (some3 X Y Z = X.any h) := by show _ = _; rw [hh, hf]; rfl
  have Hh : Hid (∀ a, h a = Y.any (f a)) := fun a => by rw [hh]
  have Hf : Hid (∀ a b, f a b = Z.any fun c => a * b == c) := fun a b => by rw [hf]
  have HRes : Hid (some3 (own3 L i v 0) (own3 L i v 1) (own3 L i v 2) = X.any h) := by show _ = _; rw [HX0.out, HY0.out, HZ0.out, HS3.out]
  clear hf hh
  go_loopw [10] (fun u wq => ∃ x : Nat, x ≤ xn ∧ u = .int .i64 x ∧ Hid (Kept W2 wq) ∧ Hid ((X.take x).any h = false)) (fun u _ => xn - (intOf u).toNat)
  case atStart => exact ⟨0, Nat.zero_le _, rfl, Kept.same _, rfl⟩
  case round =>
    obtain ⟨x, hx, rfl, Hkx, Hnx⟩ := hrel
    have cX := Hkx.out.cellAt Hx0.out
    have hsx := Hkx.out.size
    have hKx : wb.heap.size < wr.heap.size := by omega
    by_cases hltx : x < xn
    · obtain ⟨xa, hxa, hbxa⟩ := HX.out.addr (by omega)
      subst hxa
      obtain ⟨a, Ha, _, _, _⟩ := HX.out.named x hltx
      have hra := HrX.out a (by rw [← Ha.out, List.getD_eq_getElem?_getD, List.getElem?_eq_getElem (by have := HlX.out; omega)]; exact List.getElem_mem _)
      have HtX : Hid ((X.take (x + 1)).any h = h a) := by
        show _ = _
        rw [take_one (by have := HlX.out; omega) Ha.out, List.any_append, Hnx.out]; simp
      obtain ⟨wx, hwx⟩ : ∃ wx : World, wx = wr := ⟨_, rfl⟩
      subst hwx
      go_wp2_with fail
      clear cX
      go_loopw [11] (fun u wq => ∃ y : Nat, y ≤ yn ∧ u = .int .i64 y ∧ Hid (Kept W2 wq) ∧ Hid ((Y.take y).any (f a) = false)) (fun u _ => yn - (intOf u).toNat)
      case atStart => exact ⟨0, Nat.zero_le _, rfl, Hkx.out, rfl⟩
      case round =>
        obtain ⟨y, hy, rfl, Hky, Hny⟩ := hrel
        have cY := Hky.out.cellAt Hy0.out
        have hsy := Hky.out.size
        have hKy : wb.heap.size < wr.heap.size := by omega
        by_cases hlty : y < yn
        · obtain ⟨ya, hya, hbya⟩ := HY.out.addr (by omega)
          subst hya
          obtain ⟨b, Hb, _, _, _⟩ := HY.out.named y hlty
          have hrb := HrY.out b (by rw [← Hb.out, List.getD_eq_getElem?_getD, List.getElem?_eq_getElem (by have := HlY.out; omega)]; exact List.getElem_mem _)
          have HtY : Hid ((Y.take (y + 1)).any (f a) = f a b) := by
            show _ = _
            rw [take_one (by have := HlY.out; omega) Hb.out, List.any_append, Hny.out]; simp
          obtain ⟨wy, hwy⟩ : ∃ wy : World, wy = wr := ⟨_, rfl⟩
          subst hwy
          go_wp2_with fail
          clear cY
          go_loopw [12] (fun u wq => ∃ z : Nat, z ≤ zn ∧ u = .int .i64 z ∧ Hid (Kept W2 wq) ∧ Hid (((Z.take z).any fun c => a * b == c) = false)) (fun u _ => zn - (intOf u).toNat)
          case atStart => exact ⟨0, Nat.zero_le _, rfl, Hky.out, rfl⟩
          case round =>
            obtain ⟨z, hz, rfl, Hkz, Hnz⟩ := hrel
            have cX := Hkz.out.cellAt Hx0.out
            have cY := Hkz.out.cellAt Hy0.out
            have cZ := Hkz.out.cellAt Hz0.out
            have hsz := Hkz.out.size
            have hKz : wb.heap.size < wr.heap.size := by omega
            by_cases hltz : z < zn
            · obtain ⟨za, hza, hbza⟩ := HZ.out.addr (by omega)
              subst hza
              obtain ⟨a', Ha', hca, _, _⟩ := (HX.out.kept Hkz.out).named x hltx
              have ea : a' = a := Ha'.out.symm.trans Ha.out
              subst ea
              obtain ⟨b', Hb', hcb, _, _⟩ := (HY.out.kept Hkz.out).named y hlty
              have eb : b' = b := Hb'.out.symm.trans Hb.out
              subst eb
              obtain ⟨c9, Hc9, hcc, _, _⟩ := (HZ.out.kept Hkz.out).named z hltz
              have hb1 : xa.block < wr.heap.size := by omega
              have hb2 : ya.block < wr.heap.size := by omega
              have hb3 : za.block < wr.heap.size := by omega
              obtain ⟨m9, hm9⟩ : ∃ m9, m9 = a' * b' := ⟨_, rfl⟩
              have hmr : -9223372036854775808 ≤ m9 ∧ m9 ≤ 9223372036854775807 := by rw [hm9]; exact mul_rng hra hrb
              have hmw : IntKind.i64.wrap (a' * b') = m9 := by rw [← hm9]; exact IntWalk.i64_in _ (by omega)
              have HtZ : Hid (((Z.take (z + 1)).any fun c => a' * b' == c) = (m9 == c9)) := by
                show _ = _
                rw [take_one (by have := HlZ.out; omega) Hc9.out, List.any_append, Hnz.out, hm9]; simp
              clear hm9
              by_cases hmc : m9 = c9
              · have hd5 : (m9 == c9) = true := by simp [hmc]
                have HR : Hid (X.any h = true) := by
                  have h1 : f a' b' = true := by
                    rw [Hf.out, List.any_eq_true]
                    have h2 := HtZ.out
                    rw [hd5, List.any_eq_true] at h2
                    obtain ⟨c0, hc0, hcc0⟩ := h2
                    exact ⟨c0, List.mem_of_mem_take hc0, hcc0⟩
                  have h3 : h a' = true := by
                    rw [Hh.out, List.any_eq_true]
                    exact ⟨b', by rw [← Hb.out, List.getD_eq_getElem?_getD, List.getElem?_eq_getElem (by have := HlY.out; omega)]; exact List.getElem_mem _, h1⟩
                  show _ = _
                  rw [List.any_eq_true]
                  exact ⟨a', by rw [← Ha.out, List.getD_eq_getElem?_getD, List.getElem?_eq_getElem (by have := HlX.out; omega)]; exact List.getElem_mem _, h3⟩
                go_wp2_with fail
                refine wp_region_quiet_below (by kernel_rfl) (by kernel_rfl) ?_
                repeat (any_goals (first | go_big_quiet_step ((fail)) | quiet_step ((fail)) | (refine wpQuiet_step (fun K hK => ?_); go_simp; split <;> (refine hK _ ?_; clear hK K))))
                all_goals (refine wpQuiet_nil ?_; intro w1 hw'; replace hw' := Kept.regrown hw')
                all_goals try (exfalso; omega)
                have Hk9 := Lib.hid (HK2.out.then (Hkz.out.then hw'))
                clear hw'
                go_wp2_with fail
                go_ret
                exact ⟨ret_bool (by rw [HRes.out, HR.out]), Hk9.out⟩
              · have hd5 : (m9 == c9) = false := by simp [hmc]
                have HtZ2 : Hid (((Z.take (z + 1)).any fun c => a' * b' == c) = false) := by show _ = _; rw [HtZ.out, hd5]
                go_wp2_with fail
                refine wp_region_quiet_below (by kernel_rfl) (by kernel_rfl) ?_
                repeat (any_goals (first | go_big_quiet_step ((fail)) | quiet_step ((fail)) | (refine wpQuiet_step (fun K hK => ?_); go_simp; split <;> (refine hK _ ?_; clear hK K))))
                all_goals (refine wpQuiet_nil ?_; intro w1 hw'; replace hw' := Kept.regrown hw')
                all_goals try (exfalso; omega)
                have Hk9 := Lib.hid (Hkz.out.then hw')
                clear hw' cX cY cZ hca hcb hcc
                go_wp2_with fail
                go_roundw
                case rel => exact ⟨z + 1, by omega, by go_num, Hk9.out, HtZ2.out⟩
                case measure => simp [intOf]; omega
            · have e : z = zn := by omega
              subst e
              have Hfab : Hid ((Y.take (y + 1)).any (f a) = false) := by
                show _ = _
                rw [HtY.out, Hf.out]
                have := Hnz.out
                rwa [List.take_of_length_le (by have := HlZ.out; omega)] at this
              clear cX cY
              go_wp2_with fail
              go_roundw
              case rel => exact ⟨y + 1, by omega, by go_num, Hkz.out, Hfab.out⟩
              case measure => simp [intOf]; omega
        · have e : y = yn := by omega
          subst e
          have Hha : Hid ((X.take (x + 1)).any h = false) := by
            show _ = _
            rw [HtX.out, Hh.out]
            have := Hny.out
            rwa [List.take_of_length_le (by have := HlY.out; omega)] at this
          go_wp2_with fail
          go_roundw
          case rel => exact ⟨x + 1, by omega, by go_num, Hky.out, Hha.out⟩
          case measure => simp [intOf]; omega
    · have e : x = xn := by omega
      subst e
      have HR : Hid (X.any h = false) := by
        have := Hnx.out
        rwa [List.take_of_length_le (by have := HlX.out; omega)] at this
      go_wp2_with fail
      go_ret
      exact ⟨ret_bool (by rw [HRes.out, HR.out]), HK2.out.then Hkx.out⟩
end Go.Proofs.YtjmegicopdbkdaaDoor

namespace Go.Proofs.YtjmegicopdbkdaaDoor
namespace Pl

theorem getD_set3 {α : Type} (l : List α) (i j : Nat) (v d : α) (hi : i < l.length) : (l.set i v).getD j d = if j = i then v else l.getD j d := by
  by_cases e : j = i
  · subst e; rw [if_pos rfl]; simp [List.getD_eq_getElem?_getD, hi]
  · rw [if_neg e]; simp only [List.getD_eq_getElem?_getD, List.getElem?_set_ne (fun h => e h.symm)]

/-- The lists, those of the first j variables emptied. -/
def noneU (vars : List Int) (ls : List (List Int)) : Nat → List (List Int)
  | 0 => ls
  | j + 1 => (noneU vars ls j).set (vars.getD j 0).toNat []
theorem noneU_length (vars : List Int) (ls : List (List Int)) (j : Nat) : (noneU vars ls j).length = ls.length := by
  induction j with
  | zero => rfl
  | succ j ih => simp only [noneU, List.length_set, ih]
theorem noneU_out {vars : List Int} {ls : List (List Int)} {j q : Nat} (h : ∀ k, k < j → (vars.getD k 0).toNat ≠ q) : (noneU vars ls j).getD q [] = ls.getD q [] := by
  induction j with
  | zero => rfl
  | succ j ih =>
    simp only [noneU]
    rw [List.getD_eq_getElem?_getD, List.getElem?_set_ne (h j (by omega)), ← List.getD_eq_getElem?_getD]
    exact ih fun k hk => h k (by omega)
theorem noneU_in {vars : List Int} {ls : List (List Int)} {j q : Nat} (hv : ∀ k, k < j → (vars.getD k 0).toNat < ls.length) (h : ∃ k, k < j ∧ (vars.getD k 0).toNat = q) : (noneU vars ls j).getD q [] = [] := by
  induction j with
  | zero => obtain ⟨k, hk, _⟩ := h; omega
  | succ j ih =>
    simp only [noneU]
    rw [getD_set3 _ _ _ _ _ (by rw [noneU_length]; exact hv j (by omega))]
    split
    · rfl
    · rename_i hne
      obtain ⟨k, hk, e⟩ := h
      refine ih (fun k hk => hv k (by omega)) ⟨k, ?_, e⟩
      have : k ≠ j := fun h => hne (by rw [← e, h])
      omega

/-- .., and those of the first j filled by what their questions let by. -/
def fillU (vars : List Int) (ls : List (List Int)) (g : Nat → Int → Bool) (m : Nat) : Nat → List (List Int)
  | 0 => noneU vars ls m
  | j + 1 => (fillU vars ls g m j).set (vars.getD j 0).toNat ((ls.getD (vars.getD j 0).toNat []).filter (g j))
theorem fillU_length (vars : List Int) (ls : List (List Int)) (g : Nat → Int → Bool) (m j : Nat) : (fillU vars ls g m j).length = ls.length := by
  induction j with
  | zero => exact noneU_length _ _ _
  | succ j ih => simp only [fillU, List.length_set, ih]
theorem fillU_out {vars : List Int} {ls : List (List Int)} {g : Nat → Int → Bool} {m j q : Nat} (h : ∀ k, k < j → (vars.getD k 0).toNat ≠ q) : (fillU vars ls g m j).getD q [] = (noneU vars ls m).getD q [] := by
  induction j with
  | zero => rfl
  | succ j ih =>
    simp only [fillU]
    rw [List.getD_eq_getElem?_getD, List.getElem?_set_ne (h j (by omega)), ← List.getD_eq_getElem?_getD]
    exact ih fun k hk => h k (by omega)
theorem fillU_in {vars : List Int} {ls : List (List Int)} {g : Nat → Int → Bool} {m j i : Nat} (hv : ∀ k, k < j → (vars.getD k 0).toNat < ls.length) (hd : ∀ k, k < j → k ≠ i → (vars.getD k 0).toNat ≠ (vars.getD i 0).toNat) (hi : i < j) :
    (fillU vars ls g m j).getD (vars.getD i 0).toNat [] = (ls.getD (vars.getD i 0).toNat []).filter (g i) := by
  induction j with
  | zero => omega
  | succ j ih =>
    simp only [fillU]
    rw [getD_set3 _ _ _ _ _ (by rw [fillU_length]; exact hv j (by omega))]
    by_cases e : j = i
    · subst e; rw [if_pos rfl]
    · rw [if_neg (fun h => hd j (by omega) e h.symm)]
      exact ih (fun k hk => hv k (by omega)) (fun k hk => hd k (by omega)) (by omega)

theorem varsOk_ne' {vs : List Int} {V : Int} (h : varsOk vs V = true) {i k : Nat} (hi : i < vs.length) (hk : k < vs.length) (e : k ≠ i) : (vs.getD k 0).toNat ≠ (vs.getD i 0).toNat := by
  have h1 := varsOk_rng h hi
  have h2 := varsOk_rng h hk
  have h3 : vs.getD k 0 ≠ vs.getD i 0 := by
    rcases Nat.lt_or_ge k i with h4 | h4
    · exact varsOk_ne h hi h4
    · exact (varsOk_ne h hk (by omega)).symm
  omega

/-- In the middle of a variable's round. -/
def midL (vars : List Int) (ls : List (List Int)) (g : Nat → Int → Bool) (m j p k : Nat) : List (List Int) := (fillU vars ls g m j).set p (((ls.getD p []).take k).filter (g j))
theorem midL_length (vars : List Int) (ls : List (List Int)) (g : Nat → Int → Bool) (m j p k : Nat) : (midL vars ls g m j p k).length = ls.length := by
  unfold midL; rw [List.length_set, fillU_length]
theorem midL_zero {vars : List Int} {ls : List (List Int)} {g : Nat → Int → Bool} {j p : Nat} (hv : varsOk vars ls.length = true) (hj : j < vars.length) (hp : vars.getD j 0 = (p : Nat)) : midL vars ls g vars.length j p 0 = fillU vars ls g vars.length j := by
  have hpl : p < ls.length := by have := varsOk_rng hv hj; omega
  unfold midL
  rw [List.take_zero, List.filter_nil]
  have e : (fillU vars ls g vars.length j).getD p [] = [] := by
    rw [fillU_out (fun k hk => by have := varsOk_ne' hv hj (show k < vars.length by omega) (by omega); rw [hp] at this; exact this)]
    exact noneU_in (fun k hk => by have := varsOk_rng hv hk; omega) ⟨j, hj, by rw [hp]; rfl⟩
  have h := set_getD_self (fillU vars ls g vars.length j) p [] (by rw [fillU_length]; exact hpl)
  rw [e] at h
  exact h
theorem midL_at {vars : List Int} {ls : List (List Int)} {g : Nat → Int → Bool} {m j p k : Nat} (hp : p < ls.length) : (midL vars ls g m j p k).getD p [] = ((ls.getD p []).take k).filter (g j) := by
  unfold midL
  rw [getD_set3 _ _ _ _ _ (by rw [fillU_length]; exact hp), if_pos rfl]
theorem midL_no {vars : List Int} {ls : List (List Int)} {g : Nat → Int → Bool} {m j p k : Nat} {v : Int} (hk : k < (ls.getD p []).length) (hv : (ls.getD p []).getD k 0 = v) (hg : g j v = false) : midL vars ls g m j p (k + 1) = midL vars ls g m j p k := by
  unfold midL
  rw [take_one hk hv, List.filter_append]
  simp [hg]
theorem midL_yes {vars : List Int} {ls : List (List Int)} {g : Nat → Int → Bool} {m j p k : Nat} {v : Int} (hp : p < ls.length) (hk : k < (ls.getD p []).length) (hv : (ls.getD p []).getD k 0 = v) (hg : g j v = true) :
    midL vars ls g m j p (k + 1) = (midL vars ls g m j p k).set p ((midL vars ls g m j p k).getD p [] ++ [v]) := by
  rw [midL_at hp]
  unfold midL
  rw [List.set_set, take_one hk hv, List.filter_append]
  simp [hg]
theorem midL_end {vars : List Int} {ls : List (List Int)} {g : Nat → Int → Bool} {m j p k : Nat} (hp : vars.getD j 0 = (p : Nat)) (hk : (ls.getD p []).length = k) : midL vars ls g m j p k = fillU vars ls g m (j + 1) := by
  unfold midL
  simp only [fillU]
  rw [hp, Int.toNat_natCast, List.take_of_length_le (by omega)]

/-- What is kept by the lists so filled. -/
theorem fillU_keeps {vars : List Int} {ls : List (List Int)} {g : Nat → Int → Bool} {q : Nat} {v : Int} (hv : varsOk vars ls.length = true) (hm : v ∈ ls.getD q []) : ((fillU vars ls g vars.length vars.length).getD q []).contains v = varsKp vars g vars.length q v := by
  have hr : ∀ k, k < vars.length → (vars.getD k 0).toNat < ls.length := fun k hk => by have := varsOk_rng hv hk; omega
  rw [Bool.eq_iff_iff, List.contains_iff_mem, varsKp_iff]
  by_cases h : ∃ i, i < vars.length ∧ (vars.getD i 0).toNat = q
  · obtain ⟨i, hi, rfl⟩ := h
    rw [fillU_in hr (fun k hk e => varsOk_ne' hv hi hk e) hi, List.mem_filter]
    constructor
    · rintro ⟨_, h2⟩ k hk e
      have : k = i := by
        rcases Nat.decEq k i with h3 | h3
        · exact absurd e (varsOk_ne' hv hi hk h3)
        · exact h3
      subst this; exact h2
    · intro h2
      exact ⟨hm, h2 i hi rfl⟩
  · have hn : ∀ k, k < vars.length → (vars.getD k 0).toNat ≠ q := fun k hk e => h ⟨k, hk, e⟩
    rw [fillU_out hn, noneU_out hn]
    exact ⟨fun _ k hk e => absurd e (hn k hk), fun _ => hm⟩
end Pl
end Go.Proofs.YtjmegicopdbkdaaDoor

set_option maxHeartbeats 1000000
set_option maxRecDepth 10000
namespace Go.Proofs.YtjmegicopdbkdaaDoor
open Go Go.RowKit Pl

/-- Lists are handed back, in a slice that the call owns. -/
def OwnLPost (n : Nat) (ls : List (List Int)) (w : World) (e : Ending) (w' : World) : Prop :=
  ∃ g c, e = .returned (.slice (some ⟨g, 0, Option.none⟩) n c) ∧ OwnL w' w.heap.size (.slice (some ⟨g, 0, Option.none⟩) n c) ls ∧ w.heap.size ≤ g ∧ g < w'.heap.size ∧ Kept w w'

theorem own_lower {w : World} {base base' : Nat} {e : TypeId} {size n : Nat} {v : Value} {xs : List Value} (h : w.ownsRow base e size v n xs) (hb : base' ≤ base) : w.ownsRow base' e size v n xs :=
  ⟨h.1, h.2.imp id (fun ⟨g, cap, cur, hv, hb2, r⟩ => ⟨g, cap, cur, hv, Nat.le_trans hb hb2, r⟩)⟩

theorem rnone_any (K R Ct : Int) (A1 A2 A3 : Option Addr) (n1 c1 n2 c2 n3 c3 : Nat) (C : ConB) (A : Option Addr) (n c : Nat) (ls : List (List Int)) (w : World) (hC : ConIn w K R Ct A1 A2 A3 n1 c1 n2 c2 n3 c3 C) (hL : LL w A n ls) (hv : varsOk C.vars n = true) (h0 : 0 < n) (hn : n ≤ 1000) :
    Calls Tryd.prog 35 #[.agg #[.int .i64 K, .slice A1 n1 c1, .slice A2 n2 c2, .int .i64 R, .int .i64 Ct, .slice A3 n3 c3], .slice A n c] w (OwnLPost n (noneU C.vars ls n1) w) := by
  obtain ⟨i0, hi, hz0, hz1, hz2⟩ := info_parts info_ints
  have HC := Lib.hid hC
  have HL := Lib.hid hL
  have Hv := Lib.hid hv
  have Hlen := Lib.hid hL.len
  have Hl1 := Lib.hid hC.vars.len
  have hs1 := hC.vars.small
  obtain ⟨a, _, _, _, _, rfl, hba, _, _, _⟩ := hL.named 0 h0
  obtain ⟨vs, hvl, hvc, hvo, hvd⟩ := hL.row h0
  have Hvd := Lib.hid hvd
  have Hvc := Lib.hid hvc
  clear hC hL hv hvd hvc
  have HR0 : Hid (((w.alloc (.cells #[.int .i64 K, .slice A1 n1 c1, .slice A2 n2 c2, .int .i64 R, .int .i64 Ct, .slice A3 n3 c3] 24)).alloc (.cells #[] 22)).ownsRow (w.heap.size + 1) 22 1 (.slice (some ⟨w.heap.size + 1, 0, Option.none⟩) 0 0) 0 []) := own_empty (heap_new2 _ _ _) (Nat.le_refl _)
  have HB : Hid (∀ wr, Kept (w.alloc (.cells #[.int .i64 K, .slice A1 n1 c1, .slice A2 n2 c2, .int .i64 R, .int .i64 Ct, .slice A3 n3 c3] 24)) wr → wr.heap[w.heap.size]? = some (.cells #[.int .i64 K, .slice A1 n1 c1, .slice A2 n2 c2, .int .i64 R, .int .i64 Ct, .slice A3 n3 c3] 24)) := fun wr h => h.heapAt (heap_new _ _)
  go_enter Tryd.func35, Tryd.ntmps35
  go_wp2_with (at_builtin; refine wpList_append_own _ rfl _ _ 59 rfl (w.heap.size + 1) 22 i0 (.slice Option.none 0 0) 1 24 Tryd.underlying59 hi hz0 hz1 hz2 rfl (by decide) _ _ _ rfl HR0.out a n c vs rfl hvl (fun j u hu => ((Kept.box w _).newBlock _).cellAt (Hvc.out j u hu)) hvo (by unfold maxLen; omega) (by omega) (by simp) ?_; intro v' w2 hown' hgrow _; rw [Nat.zero_add, List.nil_append] at hown'; obtain ⟨g, cap, rfl, hgb, hgl⟩ := hown'.form h0)
  have HK : Hid (Kept (w.alloc (.cells #[.int .i64 K, .slice A1 n1 c1, .slice A2 n2 c2, .int .i64 R, .int .i64 Ct, .slice A3 n3 c3] 24)) w2) := (Kept.box _ (.cells #[] 22)).grown hgrow (by simp) (fun i hi => by simp [Act.eval, Value.ownBlock] at hi; simp; omega)
  have HKw := Lib.hid ((Kept.box w _).then HK.out)
  have HO : Hid (OwnL w2 w.heap.size (.slice (some ⟨g, 0, Option.none⟩) n cap) ls) := by
    refine ⟨vs, by rw [Hlen.out]; exact own_lower hown' (Nat.le_succ _), fun j hj => ?_⟩
    rw [Hlen.out] at hj
    obtain ⟨B', m', c', e1, e3⟩ := Hvd.out j hj
    refine ⟨B', m', c', e1, e3.kept HKw.out, fun hm a' ha' e => ?_⟩
    subst ha'
    have := e3.block hm
    simp only [Value.ownBlock, Option.some.injEq] at e
    omega
  clear hown' hgrow hvo hvl
  go_wp2_with fail
  go_loopw [6] (fun u wr => ∃ j : Nat, j ≤ n1 ∧ u = .int .i64 j ∧ Hid (OwnL wr w.heap.size (.slice (some ⟨g, 0, Option.none⟩) n cap) (noneU C.vars ls j)) ∧ Hid (KeptBut g w2 wr)) (fun u _ => n1 - (intOf u).toNat)
  case atStart => exact ⟨0, Nat.zero_le _, rfl, HO.out, KeptBut.refl _ _⟩
  case round =>
    obtain ⟨j, hj, rfl, HOr, Hkr⟩ := hrel
    have HKb : Hid (Kept (w.alloc (.cells #[.int .i64 K, .slice A1 n1 c1, .slice A2 n2 c2, .int .i64 R, .int .i64 Ct, .slice A3 n3 c3] 24)) wr) := ((KeptBut.of HK.out g).then Hkr.out).kept (by simp; omega)
    have HKq := Lib.hid ((Kept.box w _).then HKb.out)
    have hb := HB.out wr HKb.out
    have b0 := cell_at hb 0
    have b1 := cell_at hb 1
    have b2 := cell_at hb 2
    have b3 := cell_at hb 3
    have b4 := cell_at hb 4
    have b5 := cell_at hb 5
    simp only [List.getElem?_toArray, List.getElem?_cons_zero, List.getElem?_cons_succ] at b0 b1 b2 b3 b4 b5
    clear hb
    have hlb : w.heap.size < wr.heap.size := World.block_lt_of_cell? wr _ b0
    have hgr : g < wr.heap.size := by have := Hkr.out.size; omega
    by_cases hlt : j < n1
    · obtain ⟨av, hav, hbv⟩ := (HC.out.vars.kept HKq.out).addr (by omega)
      subst hav
      obtain ⟨v, Hv1, hcv, _, _⟩ := (HC.out.vars.kept HKq.out).named j hlt
      obtain ⟨hv0, hv1⟩ := varsOk_rng Hv.out (i := j) (by have := Hl1.out; omega)
      rw [Hv1.out] at hv0 hv1
      obtain ⟨p, rfl⟩ := Int.eq_ofNat_of_zero_le hv0
      have hpn : p < n := by omega
      have Hln : Hid ((noneU C.vars ls j).length = n) := by show _ = _; rw [noneU_length]; exact Hlen.out
      obtain ⟨⟨vv, hcc⟩, hfz⟩ := HOr.out.at Hln.out p hpn
      have hset := HOr.out.set Hln.out hpn (B := Option.none) (m := 0) (c := 0) (l := []) (Ints.none _) (fun h => absurd h (Nat.lt_irrefl _))
      have Hnx : Hid (noneU C.vars ls (j + 1) = (noneU C.vars ls j).set p []) := by show _ = _; simp only [noneU]; rw [Hv1.out, Int.toNat_natCast]
      have HOn : Hid (OwnL (wr.setCell ⟨g, p, Option.none⟩ (.slice Option.none 0 0)) w.heap.size (.slice (some ⟨g, 0, Option.none⟩) n cap) (noneU C.vars ls (j + 1))) := by
        show OwnL _ _ _ _
        rw [Hnx.out]; exact hset
      clear hset
      go_wp2_with fail
      go_roundw
      case rel => exact ⟨j + 1, by omega, by go_num, HOn.out, Hkr.out.then (KeptBut.set _ (a := ⟨g, p, Option.none⟩) rfl _)⟩
      case measure => simp [intOf]; omega
    · have e : j = n1 := by omega
      subst e
      go_wp2_with fail
      go_ret
      exact ⟨g, cap, rfl, HOr.out, by omega, hgr, HKq.out⟩
end Go.Proofs.YtjmegicopdbkdaaDoor

set_option maxHeartbeats 1000000
set_option maxRecDepth 10000
namespace Go.Proofs.YtjmegicopdbkdaaDoor
open Go Go.RowKit Pl

theorem doms_nil (w : World) : Doms w Option.none 0 [] := ⟨rfl, by decide, fun j hj => absurd hj (Nat.not_lt_zero _), fun h => absurd h (Nat.lt_irrefl _)⟩
theorem beq_decide (a b : Int) : (a == b) = decide (b = a) := by
  rw [Bool.eq_iff_iff, beq_iff_eq, decide_eq_true_eq]; exact eq_comm

theorem rsames_any (A B : Option Addr) (n c d : Nat) (ds : List DomB) (w : World) (hA : Doms w A n ds) (hB : Doms w B n ds) :
    Calls Tryd.prog 16 #[.slice A n c, .slice B n d] w fun e w' => e = .returned (.bool true) ∧ Kept w w' := by
  have HA := Lib.hid hA
  have HB := Lib.hid hB
  have hsm := hA.small
  clear hA hB
  go_enter Tryd.func16, Tryd.ntmps16
  go_wp2_with fail
  go_loopw [5] (fun v wr => ∃ k : Nat, k ≤ n ∧ v = .int .i64 k ∧ Hid (Kept w wr)) (fun v _ => n - (intOf v).toNat)
  case atStart => exact ⟨0, Nat.zero_le _, rfl, Kept.same _⟩
  case round =>
    obtain ⟨k, hk, rfl, Hkw⟩ := hrel
    by_cases hlt : k < n
    · have hSr := HA.out.kept Hkw.out
      have hSb := HB.out.kept Hkw.out
      obtain ⟨a, rfl, hblk⟩ := hSr.addr (by omega)
      obtain ⟨b, rfl, hblk2⟩ := hSb.addr (by omega)
      obtain ⟨xs, L, Bx, mx, cx, Hdx, hc1, hc2, HIx, hLx⟩ := hSr.named k hlt
      obtain ⟨ys, M, By, my, cy, Hdy, hc3, hc4, HIy, hLy⟩ := hSb.named k hlt
      have e := Hdx.out.symm.trans Hdy.out
      simp only [Prod.mk.injEq] at e
      obtain ⟨rfl, rfl⟩ := e
      have HQ : Hid (∀ W, Kept wr W → Calls Tryd.prog 38 #[.agg #[.slice Bx mx cx, .int .u64 L], .agg #[.slice By my cy, .int .u64 L]] W fun e w' => e = .returned (.bool true) ∧ Kept W w') := fun W hW => by
        have := rdsame_any Bx By mx my cx cy L L xs xs W (HIx.out.kept hW) (HIy.out.kept hW)
        simpa using this
      have hl1 := World.block_lt_of_cell? wr _ hc1
      have hl2 := World.block_lt_of_cell? wr _ hc2
      have hl3 := World.block_lt_of_cell? wr _ hc3
      have hl4 := World.block_lt_of_cell? wr _ hc4
      clear hSr hSb
      go_wp2_with fail
      refine wp_region_quiet_below (by kernel_rfl) (by kernel_rfl) ?_
      repeat (any_goals (first | go_big_quiet_step (((go_at_call 38; exact Calls.regrown_of (HQ.out _ (below_regrown _ _ _))))) | quiet_step (((go_at_call 38; exact Calls.regrown_of (HQ.out _ (below_regrown _ _ _))))) | (refine wpQuiet_step (fun K hK => ?_); go_simp; split <;> (refine hK _ ?_; clear hK K))))
      all_goals (refine wpQuiet_nil ?_; intro w1 hw'; replace hw' := Kept.regrown hw')
      have Hk9 := Lib.hid (Hkw.out.then hw')
      clear hw'
      go_wp2_with fail
      go_roundw
      case rel => exact ⟨k + 1, by omega, by go_num, Hk9.out⟩
      case measure => simp [intOf]; omega
    · have e : k = n := by omega
      subst e
      go_wp2_with fail
      go_ret
      exact ⟨rfl, Hkw.out⟩

theorem rright12_any (K R Ct : Int) (A1 A2 A3 : Option Addr) (n1 c1 n2 c2 n3 c3 : Nat) (C : ConB) (q : Int) (O : Nat) (A : Option Addr) (n c : Nat) (ds : List DomB) (w : World) (hC : ConIn w K R Ct A1 A2 A3 n1 c1 n2 c2 n3 c3 C) (hS : Doms w A n ds) (hO : w.heap[O]? = some (.cells #[.int .i64 q] 3)) :
    Calls Tryd.prog 33 #[.agg #[.int .i64 K, .slice A1 n1 c1, .slice A2 n2 c2, .int .i64 R, .int .i64 Ct, .slice A3 n3 c3], .slice A n c, .slice (some ⟨O, 0, Option.none⟩) 1 1] w fun e w' => e = .returned (.bool (decide (C.kind = q) && allMay ds && rightB C n)) ∧ Kept w w' := by
  have HC := Lib.hid hC
  have HS := Lib.hid hS
  have HO := Lib.hid hO
  have Hlen := Lib.hid hS.len
  have hsm := hS.small
  have Hkind := Lib.hid hC.kind
  clear hC hS hO
  have HB : Hid (∀ wr, Kept (w.alloc (.cells #[.int .i64 K, .slice A1 n1 c1, .slice A2 n2 c2, .int .i64 R, .int .i64 Ct, .slice A3 n3 c3] 24)) wr → wr.heap[w.heap.size]? = some (.cells #[.int .i64 K, .slice A1 n1 c1, .slice A2 n2 c2, .int .i64 R, .int .i64 Ct, .slice A3 n3 c3] 24)) := fun wr h => h.heapAt (heap_new _ _)
  go_enter Tryd.func33, Tryd.ntmps33
  go_wp2_with fail
  go_loopw [7, 8] (fun u v wr => ∃ k : Nat, k ≤ 1 ∧ v = .int .i64 k ∧ u = .bool (decide (k = 1) && decide (K = q)) ∧ Hid (Kept (w.alloc (.cells #[.int .i64 K, .slice A1 n1 c1, .slice A2 n2 c2, .int .i64 R, .int .i64 Ct, .slice A3 n3 c3] 24)) wr)) (fun _ v _ => 1 - (intOf v).toNat)
  case atStart => exact ⟨0, Nat.zero_le _, rfl, rfl, Kept.same _⟩
  case round =>
    obtain ⟨k, hk, rfl, rfl, Hkw⟩ := hrel
    have hb := HB.out wr Hkw.out
    have b0 := cell_at hb 0
    have b1 := cell_at hb 1
    have b2 := cell_at hb 2
    have b3 := cell_at hb 3
    have b4 := cell_at hb 4
    have b5 := cell_at hb 5
    simp only [List.getElem?_toArray, List.getElem?_cons_zero, List.getElem?_cons_succ] at b0 b1 b2 b3 b4 b5
    clear hb
    have hlb : w.heap.size < wr.heap.size := World.block_lt_of_cell? wr _ b0
    have hq := cell_at (((Kept.box _ _).then Hkw.out).heapAt HO.out) 0
    simp only [List.getElem?_toArray, List.getElem?_cons_zero] at hq
    have hlO : O < wr.heap.size := World.block_lt_of_cell? wr _ hq
    by_cases hk1 : k = 1
    · subst hk1
      have eK : (decide (1 = 1) && decide (K = q)) = decide (K = q) := by simp
      rw [eK]
      have Hb : Hid (decide (C.kind = q) = decide (K = q)) := by show _ = _; rw [Hkind.out]
      clear eK hq
      generalize decide (K = q) = b at *
      go_wp2_with fail
      clear b0 b1 b2 b3 b4 b5
      have Hkw0 := Lib.hid Hkw.out
      go_loopw [7, 9] (fun u v wq => ∃ j : Nat, j ≤ n ∧ v = .int .i64 j ∧ u = .bool (b && allMay (ds.take j)) ∧ Hid (Kept wr wq)) (fun _ v _ => n - (intOf v).toNat)
      case atStart => exact ⟨0, Nat.zero_le _, rfl, by simp [allMay], Kept.same _⟩
      case round =>
        obtain ⟨j, hj, rfl, rfl, Hkq⟩ := hrel
        have Hk2 := Lib.hid (Hkw0.out.then Hkq.out)
        have hb := HB.out wr Hk2.out
        have b0 := cell_at hb 0
        have b1 := cell_at hb 1
        have b2 := cell_at hb 2
        have b3 := cell_at hb 3
        have b4 := cell_at hb 4
        have b5 := cell_at hb 5
        simp only [List.getElem?_toArray, List.getElem?_cons_zero, List.getElem?_cons_succ] at b0 b1 b2 b3 b4 b5
        clear hb
        by_cases hlt : j < n
        · have hSr := HS.out.kept ((Kept.box _ _).then Hk2.out)
          obtain ⟨a, rfl, hblk⟩ := hSr.addr (by omega)
          obtain ⟨xs, L, Bx, mx, cx, Hdx, hc1, hc2, HIx, hLx⟩ := hSr.named j hlt
          have Hs : Hid (allMay (ds.take (j + 1)) = (allMay (ds.take j) && mayB xs L)) := by
            show _ = _
            rw [take_dom (by have := Hlen.out; omega) Hdx.out]
            unfold allMay
            rw [List.all_append]
            simp
          have HQ := Lib.hid (rmay_any Bx mx cx L xs wr HIx.out hLx)
          clear hSr
          generalize mayB xs L = m1 at HQ Hs
          generalize hq1 : (b && allMay (ds.take j)) = q1
          have Hq1 := Lib.hid hq1
          clear hq1
          cases q1 with
          | false =>
            go_wp2_with fail
            go_roundw
            case rel => exact ⟨j + 1, by omega, by go_num, by rw [Hs.out, ← Bool.and_assoc, Hq1.out]; rfl, Hkq.out⟩
            case measure => simp [intOf]; omega
          | true =>
            go_wp2_with fail
            refine HQ.out.mono ?_
            rintro e w1 ⟨rfl, hk1⟩
            have Hk1 := Lib.hid (Hkq.out.then hk1)
            clear hk1 b0 b1 b2 b3 b4 b5
            go_wp2_with fail
            go_roundw
            case rel => (repeat apply Exists.intro); exact ⟨⟨j + 1, by omega, by go_num, by rw [Hs.out, ← Bool.and_assoc, Hq1.out]; simp, Hk1.out⟩, rfl⟩
            case measure => simp [intOf]; omega
        · have e : j = n := by omega
          subst e
          rw [List.take_of_length_le (by have := Hlen.out; omega)]
          generalize hq1 : (b && allMay ds) = q1
          have Hq2 : Hid ((decide (C.kind = q) && allMay ds && rightB C j) = (q1 && rightB C j)) := by show _ = _; rw [Hb.out, hq1]
          clear hq1
          have HQ := Lib.hid (rright_any K R Ct A1 A2 A3 n1 c1 n2 c2 n3 c3 C j wr (HC.out.kept ((Kept.box _ _).then Hk2.out)))
          have HK2 := Lib.hid ((Kept.box _ _).then Hk2.out)
          cases q1 with
          | false =>
            go_wp2_with fail
            go_ret
            exact ⟨ret_bool (by rw [Hq2.out]; rfl), HK2.out⟩
          | true =>
            generalize hr : rightB C j = r at HQ
            have Hr := Lib.hid hr
            clear hr
            go_wp2_with fail
            refine HQ.out.mono ?_
            rintro e w1 ⟨rfl, hk1⟩
            have HK3 := Lib.hid (HK2.out.then hk1)
            clear hk1 b0 b1 b2 b3 b4 b5
            go_wp2_with fail
            go_ret
            exact ⟨ret_bool (by rw [Hq2.out, Hr.out]; simp), HK3.out⟩
    · have e : k = 0 := by omega
      subst e
      go_wp2_with fail
      refine wp_region_quiet_below (by kernel_rfl) (by kernel_rfl) ?_
      repeat (any_goals (first | go_big_quiet_step ((fail)) | quiet_step ((fail)) | (refine wpQuiet_step (fun K hK => ?_); go_simp; split <;> (refine hK _ ?_; clear hK K))))
      all_goals (refine wpQuiet_nil ?_; intro w1 hw'; replace hw' := Kept.regrown hw')
      all_goals try (exfalso; omega)
      have Hk9 := Lib.hid (Hkw.out.then hw')
      clear hw' b0 b1 b2 b3 b4 b5 hq
      go_wp2_with fail
      go_roundw
      case rel => exact ⟨1, by omega, by go_num, by first | rfl | (simp; exact beq_decide _ _), Hk9.out⟩
      case measure => simp [intOf]
end Go.Proofs.YtjmegicopdbkdaaDoor

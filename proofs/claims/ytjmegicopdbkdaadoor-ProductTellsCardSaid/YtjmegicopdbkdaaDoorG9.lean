/-
  Contracts and plain laws that the card rests on, part 9.
-/
import Derived.Test.YtjmegicopdbkdaaDoorG6
import Derived.Test.YtjmegicopdbkdaaDoorG5
import Derived.Test.YtjmegicopdbkdaaDoorG8
import Derived.StillTailTactics
import Derived.Test.YtjmegicopdbkdaaDoorG4
import Derived.Laws.OwnMore
set_option maxHeartbeats 2000000
set_option maxRecDepth 10000
namespace Go.Proofs.YtjmegicopdbkdaaDoor
open Go Go.RowKit Go.Maps Pl

theorem bs_any (A : Option Addr) (n c : Nat) (zs : List Int) (x : Int) (w : World) (hI : Ints w A n zs) (hn : n ≤ 100000) (hs : zs.Pairwise (· ≤ ·)) :
    Calls Tryd.prog 60 #[.slice A n c, .int .i64 x] w fun e w' => ∃ i : Int, e = .returned (.tuple #[.int .i64 i, .bool (zs.contains x)]) ∧ Kept w w' := by
  by_cases h0 : 0 < n
  · obtain ⟨b, off, rfl, hc⟩ := hI.plain h0
    have hl := hI.len
    refine (Tryd.slices_BinarySearch_int b off n c zs x w (by omega) (by omega) (fun j hj => hc j (by omega)) (by rw [← hl, List.take_length]; exact hs)).mono ?_
    rintro e w' ⟨he, q, rfl⟩
    rw [← hl, List.take_length] at he
    exact ⟨_, he, (Kept.same w).drewN q⟩
  · have h1 : n = 0 := by omega
    subst h1
    have hz : zs = [] := List.eq_nil_of_length_eq_zero hI.len
    subst hz
    refine (Tryd.slices_BinarySearch_int_empty A c x w).mono ?_
    rintro e w' ⟨he, rfl⟩
    exact ⟨0, he, Kept.same _⟩

/-- A map in which the numbers of a list stand. -/
def Marks (w : World) (M n : Nat) (K : List Int) : Prop := Counts w M n (fun x => if K.contains x = true then 1 else 0)
theorem Marks.made (w : World) : Marks (w.alloc (.map #[] 0)) w.heap.size 0 [] := ⟨_, World.ownsMap_made _ _ _ _, fun _ => rfl⟩
theorem Marks.of_heap {w : World} {M : Nat} (h : w.heap[M]? = some (.map #[] 0)) : Marks w M 0 [] := by
  obtain ⟨D, ⟨es, clock, hb, F, hs, hD⟩, hx⟩ := Marks.made w
  rw [heap_new] at hb
  cases hb
  exact ⟨D, ⟨_, _, h, F, hs, hD⟩, hx⟩
theorem Marks.kept {w w' : World} {M n : Nat} {K : List Int} (h : Marks w M n K) (hk : Kept w w') : Marks w' M n K := Counts.kept h hk
theorem Marks.but {w w' : World} {M O n : Nat} {K : List Int} (h : Marks w M n K) (hk : KeptBut O w w') (hne : M ≠ O) : Marks w' M n K := by
  obtain ⟨D, ⟨es, clock, hb, F, hs, hD⟩, hx⟩ := h
  exact ⟨D, ⟨es, clock, hk.heapAt hb hne, F, hs, hD⟩, hx⟩
theorem Marks.grown {w w' : World} {M M' n : Nat} {K : List Int} (h : Marks w M n K) (hk : w.grownBy w' (some M')) (hne : M ≠ M') : Marks w' M n K := by
  obtain ⟨D, ⟨es, clock, hb, F, hs, hD⟩, hx⟩ := h
  exact ⟨D, ⟨es, clock, (hk.block M (lt_at hb) (by simpa using hne)).trans hb, F, hs, hD⟩, hx⟩
theorem own_grown {w w' : World} {M M' n : Nat} {D : DataW Unit} (h : w.ownsMap Tryd.prog 3 (plainElem Tryd.prog 3) M n D) (hk : w.grownBy w' (some M')) (hne : M ≠ M') : w'.ownsMap Tryd.prog 3 (plainElem Tryd.prog 3) M n D := by
  obtain ⟨es, clock, hb, F, hs, hD⟩ := h
  exact ⟨es, clock, (hk.block M (lt_at hb) (by simpa using hne)).trans hb, F, hs, hD⟩
theorem KeptX.grown {X : Nat → Prop} {M : Nat} {w w' : World} (h : w.grownBy w' (some M)) (hX : X M) : KeptX X w w' := KeptX.ofBut (KeptBut.grown h) hX
theorem keyI {y : Int} (h : -9223372036854775808 ≤ y ∧ y ≤ 9223372036854775807) : keyOf Tryd.prog 3 (.int .i64 y) = some (.int .i64 y) := keyOf_int_mk Tryd.underlying3 (WalkArith.wf_i64 (by omega))
theorem marks_put {w w' : World} {M n : Nat} {K : List Int} {y : Int} {D : DataW Unit} (hown : w.ownsMap Tryd.prog 3 (plainElem Tryd.prog 3) M n D)
    (hD : ∀ x, D.atKey (.int .i64 x) (.lit (.int .i64 0)) = .lit (.int .i64 ((if K.contains x = true then 1 else 0 : Nat) : Int))) (hy : -9223372036854775808 ≤ y ∧ y ≤ 9223372036854775807)
    (hown2 : w'.ownsMap Tryd.prog 3 (plainElem Tryd.prog 3) M (n + 1) (D.put (.int .i64 y) (.lit (.int .i64 1)))) : Marks w' M (n + 1) (K ++ [y]) := by
  refine ⟨_, hown2, fun v => ?_⟩
  by_cases hv : y = v
  · subst hv
    rw [atKey_put_same (isMap_of hown) (lawInt.key (keyI hy))]
    simp
  · rw [atKey_put_other (by intro e; cases e; exact hv rfl), hD v]
    have : (K ++ [y]).contains v = K.contains v := by
      rw [Bool.eq_iff_iff, List.contains_iff_mem, List.contains_iff_mem, List.mem_append, List.mem_singleton]
      exact ⟨fun h => h.resolve_right (fun e => hv e.symm), .inl⟩
    show _ = DataW.lit (.int .i64 ((if (K ++ [y]).contains v = true then 1 else 0 : Nat) : Int))
    rw [this]

/-- The pairs whose product is among Z, of the first values of X. -/
def pairsOf (Y Z : List Int) (a : Int) (j : Nat) : List (Int × Int) := ((Y.take j).filter fun b => Z.contains (a * b)).map fun b => (a, b)
def pairsU (X Y Z : List Int) : Nat → List (Int × Int)
  | 0 => []
  | i + 1 => pairsU X Y Z i ++ pairsOf Y Z (X.getD i 0) Y.length
theorem mem_pairsU {X Y Z : List Int} {i : Nat} (hi : i ≤ X.length) {p : Int × Int} : p ∈ pairsU X Y Z i ↔ p.1 ∈ X.take i ∧ p.2 ∈ Y ∧ p.1 * p.2 ∈ Z := by
  induction i with
  | zero => simp [pairsU]
  | succ i ih =>
    simp only [pairsU]
    rw [List.mem_append, ih (by omega), take_one (by omega) rfl, List.mem_append, List.mem_singleton]
    unfold pairsOf
    rw [List.take_length, List.mem_map]
    constructor
    · rintro (⟨h1, h2, h3⟩ | ⟨b, hb, rfl⟩)
      · exact ⟨.inl h1, h2, h3⟩
      · rw [List.mem_filter, List.contains_iff_mem] at hb
        exact ⟨.inr rfl, hb.1, hb.2⟩
    · rintro ⟨h1 | h1, h2, h3⟩
      · exact .inl ⟨h1, h2, h3⟩
      · right
        refine ⟨p.2, ?_, by rw [← h1]⟩
        rw [List.mem_filter, List.contains_iff_mem, ← h1]
        exact ⟨h2, h3⟩
theorem pairsOf_len (Y Z : List Int) (a : Int) (j : Nat) : (pairsOf Y Z a j).length ≤ j := by
  unfold pairsOf
  rw [List.length_map]
  exact Nat.le_trans (List.length_filter_le _ _) (by rw [List.length_take]; exact Nat.min_le_left _ _)
theorem pairsU_len (X Y Z : List Int) (i : Nat) : (pairsU X Y Z i).length ≤ i * Y.length := by
  induction i with
  | zero => simp [pairsU]
  | succ i ih =>
    simp only [pairsU]
    rw [List.length_append, Nat.add_mul, Nat.one_mul]
    have := pairsOf_len Y Z (X.getD i 0) Y.length
    omega
theorem pairsOf_succ {Y Z : List Int} {a : Int} {j : Nat} {b : Int} (hj : j < Y.length) (hb : Y.getD j 0 = b) : pairsOf Y Z a (j + 1) = pairsOf Y Z a j ++ (if Z.contains (a * b) = true then [(a, b)] else []) := by
  unfold pairsOf
  rw [take_one hj hb, List.filter_append, List.map_append]
  congr 1
  by_cases h : Z.contains (a * b) = true
  · rw [if_pos h, List.filter_cons, if_pos h]; rfl
  · rw [if_neg h, List.filter_cons, if_neg h]; rfl

/-- The three maps. -/
def Keeps (w : World) (M0 M1 M2 n : Nat) (P : List (Int × Int)) : Prop := Marks w M0 n (P.map (·.1)) ∧ Marks w M1 n (P.map (·.2)) ∧ Marks w M2 n (P.map fun p => p.1 * p.2)
/-- What try hands back. -/
def TryPost (P : List (Int × Int)) (w : World) (e : Ending) (w' : World) : Prop :=
  ∃ M0 M1 M2 n, e = .returned (.agg #[.map (some M0), .map (some M1), .map (some M2)]) ∧ Keeps w' M0 M1 M2 n P ∧ w.heap.size ≤ M0 ∧ w.heap.size ≤ M1 ∧ w.heap.size ≤ M2 ∧ Kept w w'

theorem mul_rng {a b : Int} (ha : -1048576 ≤ a ∧ a ≤ 1048576) (hb : -1048576 ≤ b ∧ b ≤ 1048576) : -9223372036854775808 ≤ a * b ∧ a * b ≤ 9223372036854775807 := by
  have h1 : (a * b).natAbs ≤ 1048576 * 1048576 := by
    rw [Int.natAbs_mul]
    exact Nat.mul_le_mul (by omega) (by omega)
  omega

theorem try_any (A B D : Option Addr) (n m q c d f : Nat) (X Y Z : List Int) (w : World) (hX : Ints w A n X) (hY : Ints w B m Y) (hZ : Ints w D q Z) (hn : n ≤ 64) (hm : m ≤ 64) (hq : q ≤ 64)
    (hrX : ∀ x ∈ X, -1048576 ≤ x ∧ x ≤ 1048576) (hrY : ∀ x ∈ Y, -1048576 ≤ x ∧ x ≤ 1048576) (hs : Z.Pairwise (· ≤ ·)) :
    Calls Tryd.prog 30 #[.slice A n c, .slice B m d, .slice D q f] w (TryPost (pairsU X Y Z n) w) := by
  have HX := Lib.hid hX
  have HY := Lib.hid hY
  have HZ := Lib.hid hZ
  have HrX := Lib.hid hrX
  have HrY := Lib.hid hrY
  have Hs := Lib.hid hs
  have HlX := Lib.hid hX.len
  have HlY := Lib.hid hY.len
  clear hX hY hZ hrX hrY hs
  have hmm := @run_makeMap Tryd.prog
  go_enter Tryd.func30, Tryd.ntmps30
  go_wp2_with fail
  have HF := fun k o h => (heap_allocs [.cells #[.map none, .map none, .map none] 54, .map #[] 0, .map #[] 0, .map #[] 0,
    .cells #[.map (some (w.heap.size + 1)), .map (some (w.heap.size + 1 + 1)), .map (some (w.heap.size + 1 + 1 + 1))] 54] w k o h).1
  have HR0 : Hid ((allocs w [.cells #[.map none, .map none, .map none] 54, .map #[] 0, .map #[] 0, .map #[] 0,
    .cells #[.map (some (w.heap.size + 1)), .map (some (w.heap.size + 1 + 1)), .map (some (w.heap.size + 1 + 1 + 1))] 54]).heap[w.heap.size]? = some (.cells #[.map none, .map none, .map none] 54)) := HF 0 _ rfl
  have F1 := HF 1 _ rfl
  have F2 := HF 2 _ rfl
  have F3 := HF 3 _ rfl
  have Hb0 : Hid ((allocs w [.cells #[.map none, .map none, .map none] 54, .map #[] 0, .map #[] 0, .map #[] 0,
    .cells #[.map (some (w.heap.size + 1)), .map (some (w.heap.size + 1 + 1)), .map (some (w.heap.size + 1 + 1 + 1))] 54]).heap[w.heap.size + 1 + 1 + 1 + 1]? = some (.cells #[.map (some (w.heap.size + 1)), .map (some (w.heap.size + 1 + 1)), .map (some (w.heap.size + 1 + 1 + 1))] 54)) := HF 4 _ rfl
  have HK0 := Lib.hid (heap_allocs.kept_allocs [.cells #[.map none, .map none, .map none] 54, .map #[] 0, .map #[] 0, .map #[] 0,
    .cells #[.map (some (w.heap.size + 1)), .map (some (w.heap.size + 1 + 1)), .map (some (w.heap.size + 1 + 1 + 1))] 54] w)
  have hsz0 : (allocs w [.cells #[.map none, .map none, .map none] 54, .map #[] 0, .map #[] 0, .map #[] 0,
    .cells #[.map (some (w.heap.size + 1)), .map (some (w.heap.size + 1 + 1)), .map (some (w.heap.size + 1 + 1 + 1))] 54]).heap.size = w.heap.size + 5 := by simp [allocs]
  have Hs0 := Lib.hid hsz0
  change Code.wp _ _ _ _ (allocs w [.cells #[.map none, .map none, .map none] 54, .map #[] 0, .map #[] 0, .map #[] 0,
    .cells #[.map (some (w.heap.size + 1)), .map (some (w.heap.size + 1 + 1)), .map (some (w.heap.size + 1 + 1 + 1))] 54])
  generalize allocs w [.cells #[.map none, .map none, .map none] 54, .map #[] 0, .map #[] 0, .map #[] 0,
    .cells #[.map (some (w.heap.size + 1)), .map (some (w.heap.size + 1 + 1)), .map (some (w.heap.size + 1 + 1 + 1))] 54] = W0 at *
  have HM0 : Hid (Keeps W0 (w.heap.size + 1) (w.heap.size + 1 + 1) (w.heap.size + 1 + 1 + 1) 0 []) := ⟨Marks.of_heap F1, Marks.of_heap F2, Marks.of_heap F3⟩
  clear HF F1 F2 F3 hsz0 hmm
  go_loopw [20] (fun u wr => ∃ i : Nat, i ≤ n ∧ u = .int .i64 i ∧ Hid (Keeps wr (w.heap.size + 1) (w.heap.size + 1 + 1) (w.heap.size + 1 + 1 + 1) (pairsU X Y Z i).length (pairsU X Y Z i)) ∧ Hid (KeptX (fun b => b = w.heap.size + 1 ∨ b = w.heap.size + 1 + 1 ∨ b = w.heap.size + 1 + 1 + 1) W0 wr)) (fun u _ => n - (intOf u).toNat)
  case atStart => exact ⟨0, Nat.zero_le _, rfl, HM0.out, KeptX.refl _ _⟩
  case round =>
    obtain ⟨i, hi, rfl, HMi, Hki⟩ := hrel
    obtain ⟨wi, hwi⟩ : ∃ wi : World, wi = wr := ⟨_, rfl⟩
    subst hwi
    by_cases hlt : i < n
    · have HKi := Lib.hid (Hki.out.below HK0.out (fun b hb => by omega))
      obtain ⟨aX, haX, hbX⟩ := (HX.out.kept HKi.out).addr (by omega)
      subst haX
      obtain ⟨a, Ha, hca, _, _⟩ := (HX.out.kept HKi.out).named i hlt
      have hra : -1048576 ≤ a ∧ a ≤ 1048576 := HrX.out a (by rw [← Ha.out, List.getD_eq_getElem?_getD, List.getElem?_eq_getElem (by have := HlX.out; omega)]; exact List.getElem_mem _)
      go_wp2_with fail
      go_step3
      go_wp2_with fail
      go_step3
      go_wp2_with fail
      go_loopw [26] (fun u wq => ∃ j : Nat, j ≤ m ∧ u = .int .i64 j ∧ Hid (Keeps wq (w.heap.size + 1) (w.heap.size + 1 + 1) (w.heap.size + 1 + 1 + 1) (pairsU X Y Z i ++ pairsOf Y Z a j).length (pairsU X Y Z i ++ pairsOf Y Z a j)) ∧ Hid (KeptX (fun b => b = w.heap.size + 1 ∨ b = w.heap.size + 1 + 1 ∨ b = w.heap.size + 1 + 1 + 1) W0 wq)) (fun u _ => m - (intOf u).toNat)
      case atStart => exact ⟨0, Nat.zero_le _, rfl, by rw [show pairsOf Y Z a 0 = [] from rfl, List.append_nil]; exact HMi.out, Hki.out⟩
      case round =>
        obtain ⟨j, hj, rfl, HMj, Hkj⟩ := hrel
        have HKj := Lib.hid (Hkj.out.below HK0.out (fun b hb => by omega))
        by_cases hltj : j < m
        · obtain ⟨bY, hbYe, hbY⟩ := (HY.out.kept HKj.out).addr (by omega)
          subst hbYe
          obtain ⟨b, Hb, hcb, _, _⟩ := (HY.out.kept HKj.out).named j hltj
          have hrb : -1048576 ≤ b ∧ b ≤ 1048576 := HrY.out b (by rw [← Hb.out, List.getD_eq_getElem?_getD, List.getElem?_eq_getElem (by have := HlY.out; omega)]; exact List.getElem_mem _)
          obtain ⟨y, hy⟩ : ∃ y, y = a * b := ⟨_, rfl⟩
          have hyr : -9223372036854775808 ≤ y ∧ y ≤ 9223372036854775807 := by rw [hy]; exact mul_rng hra hrb
          have hyw : IntKind.i64.wrap (a * b) = y := by rw [← hy]; exact IntWalk.i64_in _ (by omega)
          have Hsucc : Hid (pairsOf Y Z a (j + 1) = pairsOf Y Z a j ++ (if Z.contains y = true then [(a, b)] else [])) := by rw [hy]; exact pairsOf_succ (by have := HlY.out; omega) Hb.out
          have HQ := Lib.hid (bs_any D q f Z y wr (HZ.out.kept HKj.out) (by omega) Hs.out)
          have hlen : (pairsU X Y Z i ++ pairsOf Y Z a j).length ≤ 64 * 64 + 64 := by
            rw [List.length_append]
            have h1 := pairsU_len X Y Z i
            have h2 := pairsOf_len Y Z a j
            have h3 : i * Y.length ≤ 64 * 64 := Nat.mul_le_mul (by omega) (by have := HlY.out; omega)
            omega
          have Hy := Lib.hid hy
          clear hy
          have HP : Hid (pairsU X Y Z i ++ pairsOf Y Z a (j + 1) = (pairsU X Y Z i ++ pairsOf Y Z a j) ++ (if Z.contains y = true then [(a, b)] else [])) := by show _ = _; rw [Hsucc.out, List.append_assoc]
          clear Hsucc
          generalize Z.contains y = g at HQ HP
          generalize pairsU X Y Z i ++ pairsOf Y Z a j = P at *
          go_wp2_with fail
          refine HQ.out.mono ?_
          rintro e w1 ⟨q1, rfl, hk1⟩
          have Hk1 := Lib.hid hk1
          have HX1 := Lib.hid (Hkj.out.then (KeptX.of hk1 _))
          clear hk1 HQ
          cases g with
          | false =>
            go_wp2_with fail
            go_roundw
            case rel => exact ⟨j + 1, by omega, by go_num, by show Keeps _ _ _ _ _ _; rw [HP.out]; simpa [Keeps] using ⟨HMj.out.1.kept Hk1.out, HMj.out.2.1.kept Hk1.out, HMj.out.2.2.kept Hk1.out⟩, HX1.out⟩
            case measure => simp [intOf]; omega
          | true =>
            have hb4 := HX1.out.heapAt Hb0.out (by omega)
            have c0 := cell_at hb4 0
            have c1 := cell_at hb4 1
            have c2 := cell_at hb4 2
            simp only [List.getElem?_toArray, List.getElem?_cons_zero, List.getElem?_cons_succ] at c0 c1 c2
            obtain ⟨hm0, hm1, hm2⟩ := HMj.out
            obtain ⟨D0, o0, q0⟩ := hm0.kept (Hk1.out.then (Kept.drewn _))
            obtain ⟨D1, o1, q1'⟩ := hm1.kept (Hk1.out.then (Kept.drewn _))
            obtain ⟨D2, o2, q2'⟩ := hm2.kept (Hk1.out.then (Kept.drewn _))
            have HQ0 := Lib.hid q0
            have HQ1 := Lib.hid q1'
            have HQ2 := Lib.hid q2'
            have O0 := Lib.hid o0
            have O1 := Lib.hid o1
            have O2 := Lib.hid o2
            have HX1d := Lib.hid (HX1.out.then (KeptX.of (Kept.drewn w1) _))
            have Hb4 := Lib.hid hb4
            obtain ⟨w2, r0, p0, g0⟩ := o0.update lawInt Tryd.underlying52 (by unfold maxLen; omega) (keyI (y := a) (by omega)) (plainElem_int Tryd.underlying3 (a := 1) (WalkArith.wf_i64 (by omega)))
            obtain ⟨w3, r1, p1, g1⟩ := (own_grown o1 g0 (by omega)).update lawInt Tryd.underlying52 (by unfold maxLen; omega) (keyI (y := b) (by omega)) (plainElem_int Tryd.underlying3 (a := 1) (WalkArith.wf_i64 (by omega)))
            obtain ⟨w4, r2, p2, g2⟩ := (own_grown (own_grown o2 g0 (by omega)) g1 (by omega)).update lawInt Tryd.underlying52 (by unfold maxLen; omega) (keyI (y := y) hyr) (plainElem_int Tryd.underlying3 (a := 1) (WalkArith.wf_i64 (by omega)))
            have HX2 := Lib.hid (HX1d.out.then (KeptX.grown g0 (Or.inl rfl)))
            have HX3 := Lib.hid (HX2.out.then (KeptX.grown g1 (Or.inr (Or.inl rfl))))
            have HX4 := Lib.hid (HX3.out.then (KeptX.grown g2 (Or.inr (Or.inr rfl))))
            have HKs : Hid (Keeps w4 (w.heap.size + 1) (w.heap.size + 1 + 1) (w.heap.size + 1 + 1 + 1) (P.length + 1) (P ++ [(a, b)])) := by
              refine ⟨?_, ?_, ?_⟩
              · rw [List.map_append]
                exact ((marks_put o0 HQ0.out (by omega) p0).grown g1 (by omega)).grown g2 (by omega)
              · rw [List.map_append]
                exact (marks_put (own_grown o1 g0 (by omega)) HQ1.out (by omega) p1).grown g2 (by omega)
              · rw [List.map_append]
                show Marks _ _ _ (_ ++ [a * b])
                rw [← Hy.out]
                exact marks_put (own_grown (own_grown o2 g0 (by omega)) g1 (by omega)) HQ2.out hyr p2
            have HSf : Hid (∀ W, KeptX (fun b => b = w.heap.size + 1 ∨ b = w.heap.size + 1 + 1 ∨ b = w.heap.size + 1 + 1 + 1) W0 W → W.cell? ⟨w.heap.size + 1 + 1 + 1 + 1, 0, Option.none⟩ = some (.map (some (w.heap.size + 1))) ∧ W.cell? ⟨w.heap.size + 1 + 1 + 1 + 1, 1, Option.none⟩ = some (.map (some (w.heap.size + 1 + 1))) ∧ W.cell? ⟨w.heap.size + 1 + 1 + 1 + 1, 2, Option.none⟩ = some (.map (some (w.heap.size + 1 + 1 + 1)))) := fun W hW =>
              ⟨cell_at (hW.heapAt Hb0.out (by omega)) 0, cell_at (hW.heapAt Hb0.out (by omega)) 1, cell_at (hW.heapAt Hb0.out (by omega)) 2⟩
            clear hm0 hm1 hm2 o0 o1 o2 q0 q1' q2' hb4 p0 p1 p2 g0 g1 g2 HQ0 HQ1 HQ2 O0 O1 O2 hcb
            go_wp2_with fail
            go_region_held3 (fun W => W.cell? ⟨w.heap.size + 1 + 1 + 1 + 1, 0, Option.none⟩ = some (.map (some (w.heap.size + 1))) ∧ W.cell? ⟨w.heap.size + 1 + 1 + 1 + 1, 1, Option.none⟩ = some (.map (some (w.heap.size + 1 + 1))) ∧ W.cell? ⟨w.heap.size + 1 + 1 + 1 + 1, 2, Option.none⟩ = some (.map (some (w.heap.size + 1 + 1 + 1))))
              (first | exact HSf.out _ HX4.out | exact HSf.out _ HX3.out | exact HSf.out _ HX2.out | exact HSf.out _ HX1d.out | exact HSf.out _ HX1.out) (fail)
            go_wp2_with fail
            go_roundw
            case rel => exact ⟨j + 1, by omega, by go_num, by show Keeps _ _ _ _ _ _; rw [HP.out]; simpa using HKs.out, HX4.out⟩
            case measure => simp [intOf]; omega
        · have e : j = m := by omega
          subst e
          go_wp2_with fail
          simp only [Exit.noGoto]
          go_wp2_with fail
          have HMe : Hid (Keeps wr (w.heap.size + 1) (w.heap.size + 1 + 1) (w.heap.size + 1 + 1 + 1) (pairsU X Y Z (i + 1)).length (pairsU X Y Z (i + 1))) := by
            have h : pairsU X Y Z (i + 1) = pairsU X Y Z i ++ pairsOf Y Z a j := by
              simp only [pairsU]
              rw [Ha.out, HlY.out]
            show Keeps _ _ _ _ _ _
            rw [h]; exact HMj.out
          go_roundw
          case rel => exact ⟨i + 1, by omega, by go_num, HMe.out, Hkj.out⟩
          case measure => simp [intOf]; omega
    · have e : i = n := by omega
      subst e
      have HKi := Lib.hid (Hki.out.below HK0.out (fun b hb => by omega))
      have hb4 := Hki.out.heapAt Hb0.out (by omega)
      have c0 := cell_at hb4 0
      have c1 := cell_at hb4 1
      have c2 := cell_at hb4 2
      have hR := Hki.out.heapAt HR0.out (by omega)
      have r0 := cell_at hR 0
      have r1 := cell_at hR 1
      have r2 := cell_at hR 2
      have f0 := frozen_at hR 0
      have f1 := frozen_at hR 1
      have f2 := frozen_at hR 2
      simp only [List.getElem?_toArray, List.getElem?_cons_zero, List.getElem?_cons_succ] at c0 c1 c2 r0 r1 r2
      have hlR : w.heap.size < wi.heap.size := lt_at hR
      clear hb4 hR
      go_wp2_with fail
      have hB3 : ∀ x0 x1 x2 : Value, KeptBut w.heap.size wi (((wi.setCell ⟨w.heap.size, 0, Option.none⟩ x0).setCell ⟨w.heap.size, 1, Option.none⟩ x1).setCell ⟨w.heap.size, 2, Option.none⟩ x2) := fun x0 x1 x2 =>
        ((KeptBut.set _ (a := ⟨w.heap.size, 0, Option.none⟩) rfl _).then (KeptBut.set _ (a := ⟨w.heap.size, 1, Option.none⟩) rfl _)).then (KeptBut.set _ (a := ⟨w.heap.size, 2, Option.none⟩) rfl _)
      refine bodyPost_ret (v := .agg #[.map (some (w.heap.size + 1)), .map (some (w.heap.size + 1 + 1)), .map (some (w.heap.size + 1 + 1 + 1))]) (by simp [results, Tryd.results30, go_sem, r0, r1, r2]) rfl ⟨_, _, _, _, rfl, ⟨HMi.out.1.but (hB3 _ _ _) (by omega), HMi.out.2.1.but (hB3 _ _ _) (by omega), HMi.out.2.2.but (hB3 _ _ _) (by omega)⟩, by omega, by omega, by omega, ((KeptBut.of HKi.out w.heap.size).then (hB3 _ _ _)).kept (Nat.le_refl _)⟩
end Go.Proofs.YtjmegicopdbkdaaDoor

set_option maxHeartbeats 1000000
namespace Go.Proofs.YtjmegicopdbkdaaDoor
open Go Go.RowKit Pl

/-- The slice u, in blocks from base on, owns the domains ds; their values do not lie in its own block. -/
def OwnR (w : World) (base : Nat) (u : Value) (ds : List DomB) : Prop :=
  ∃ vs : List Value, w.ownsRow base 64 2 u ds.length vs ∧ ∀ j, j < ds.length → (ds.getD j nilD).2 < 2 ^ 64 ∧
    ∃ B m c, vs[j * 2]? = some (.slice B m c) ∧ vs[j * 2 + 1]? = some (.int .u64 ((ds.getD j nilD).2 : Nat)) ∧ Ints w B m (ds.getD j nilD).1 ∧ (0 < m → ∀ a, B = some a → u.ownBlock ≠ some a.block)

theorem OwnR.nil (w : World) (base : Nat) : OwnR w base (.slice Option.none 0 0) [] :=
  ⟨[], World.ownsRow_nil _ _ _ _, fun j hj => by simp at hj⟩

theorem OwnR.kept {w w' : World} {base : Nat} {u : Value} {ds : List DomB} (h : OwnR w base u ds) (hk : Kept w w') : OwnR w' base u ds := by
  obtain ⟨vs, hown, hd⟩ := h
  refine ⟨vs, hown.kept (row := Option.none) ⟨hk.os, hk.tape, hk.output, hk.size, fun k hk' _ => hk.block k hk'⟩ ?_, fun j hj => ?_⟩
  · cases u.ownBlock <;> simp
  · obtain ⟨hl, B, m, c, h1, h2, h3, h4⟩ := hd j hj
    exact ⟨hl, B, m, c, h1, h2, h3.kept hk, h4⟩

/-- One more: behind the copy of its values and the append. w1: where the append begins (its element laid in a block of its own). -/
theorem OwnR.snoc {w1 w2 : World} {base g cap : Nat} {u : Value} {ds : List DomB} {d : DomB} {B : Option Addr} {m c : Nat} {vs : List Value}
    (hown : w1.ownsRow base 64 2 u ds.length vs) (hd : ∀ j, j < ds.length → (ds.getD j nilD).2 < 2 ^ 64 ∧ ∃ B m c, vs[j * 2]? = some (.slice B m c) ∧ vs[j * 2 + 1]? = some (.int .u64 ((ds.getD j nilD).2 : Nat)) ∧ Ints w1 B m (ds.getD j nilD).1 ∧ (0 < m → ∀ a, B = some a → u.ownBlock ≠ some a.block))
    (hI : Ints w1 B m d.1) (hB : 0 < m → ∀ a, B = some a → u.ownBlock ≠ some a.block) (hL : d.2 < 2 ^ 64)
    (h2 : w2.ownsRow base 64 2 (.slice (some ⟨g, 0, Option.none⟩) (ds.length + 1) cap) (ds.length + 1) (vs ++ [.slice B m c, .int .u64 (d.2 : Nat)]))
    (hg : w1.grownBy w2 u.ownBlock) (hat : u.ownBlock = some g ∨ w1.heap.size ≤ g) : OwnR w2 base (.slice (some ⟨g, 0, Option.none⟩) (ds.length + 1) cap) (ds ++ [d]) := by
  have hlen : vs.length = ds.length * 2 := hown.1
  have hne : ∀ a : Addr, a.block < w1.heap.size → u.ownBlock ≠ some a.block → Value.ownBlock (.slice (some ⟨g, 0, Option.none⟩) (ds.length + 1) cap) ≠ some a.block := by
    intro a h1 h2 e
    simp only [Value.ownBlock, Option.some.injEq] at e
    rcases hat with h | h
    · rw [h, e] at h2; exact h2 rfl
    · omega
  have hint : ∀ {B : Option Addr} {m : Nat} {xs : List Int}, Ints w1 B m xs → (0 < m → ∀ a, B = some a → u.ownBlock ≠ some a.block) → Ints w2 B m xs := by
    intro B m xs h hb
    refine ⟨h.len, h.small, h.rng, fun hn => ?_⟩
    obtain ⟨a, e, hc⟩ := h.cell hn
    exact ⟨a, e, fun j hj => hg.cell (hc j hj) (by rw [add_block']; exact fun e' => hb hn a e e'.symm)⟩
  have hblk : ∀ {B : Option Addr} {m : Nat} {xs : List Int}, Ints w1 B m xs → 0 < m → ∀ a, B = some a → a.block < w1.heap.size := by
    intro B m xs h hn a ha
    subst ha
    exact h.block hn
  refine ⟨vs ++ [.slice B m c, .int .u64 (d.2 : Nat)], by rw [List.length_append]; exact h2, fun j hj => ?_⟩
  rw [List.length_append] at hj
  simp only [List.length_cons, List.length_nil] at hj
  by_cases hlt : j < ds.length
  · rw [getD_snoc hlt]
    obtain ⟨hl, B', m', c', e1, e2, e3, e4⟩ := hd j hlt
    refine ⟨hl, B', m', c', ?_, ?_, hint e3 e4, fun hn a ha => hne a (hblk e3 hn a ha) (e4 hn a ha)⟩
    · rw [List.getElem?_append_left (by omega)]; exact e1
    · rw [List.getElem?_append_left (by omega)]; exact e2
  · have e : j = ds.length := by omega
    subst e
    rw [getD_last]
    refine ⟨hL, B, m, c, ?_, ?_, hint hI hB, fun hn a ha => hne a (hblk hI hn a ha) (hB hn a ha)⟩
    · rw [List.getElem?_append_right (by omega), hlen]; simp
    · rw [List.getElem?_append_right (by omega), hlen]
      have : ds.length * 2 + 1 - ds.length * 2 = 1 := by omega
      rw [this]; rfl

theorem OwnR.parts {w : World} {base : Nat} {u : Value} {ds : List DomB} (h : OwnR w base u ds) : ∃ A c, u = .slice A ds.length c := by
  obtain ⟨vs, hown, _⟩ := h
  rcases hown.2 with ⟨rfl, h0⟩ | ⟨g, cap, cur, rfl, _⟩
  · rw [h0]; exact ⟨_, _, rfl⟩
  · exact ⟨_, _, rfl⟩

theorem OwnR.doms {w : World} {base c : Nat} {A : Option Addr} {n : Nat} {ds : List DomB} (h : OwnR w base (.slice A n c) ds) (hn : ds.length = n) (hs : n ≤ 9223372036854775807) : Doms w A n ds := by
  obtain ⟨vs, hown, hd⟩ := h
  subst hn
  refine ⟨rfl, hs, fun j hj => (hd j hj).1, fun h0 => ?_⟩
  obtain ⟨g, cap, e, hb, hlt⟩ := hown.form h0
  cases e
  refine ⟨_, rfl, fun j hj => ?_⟩
  obtain ⟨_, B, m, c, e1, e2, e3, _⟩ := hd j hj
  refine ⟨B, m, c, hown.cells (g := g) rfl _ _ e1, ?_, e3⟩
  have := hown.cells (g := g) rfl _ _ e2
  rw [add_plain] at this ⊢
  exact this

/-- A domain of the row is turned. -/
theorem OwnR.set {w : World} {base g n cap p : Nat} {ds : List DomB} {d : DomB} {B : Option Addr} {m c : Nat} (h : OwnR w base (.slice (some ⟨g, 0, Option.none⟩) n cap) ds) (hn : ds.length = n) (_hp : p < n) (hI : Ints w B m d.1) (hB : 0 < m → ∀ a, B = some a → a.block ≠ g) (hL : d.2 < 2 ^ 64) :
    OwnR ((w.setCell ⟨g, p * 2, Option.none⟩ (.slice B m c)).setCell ⟨g, p * 2 + 1, Option.none⟩ (.int .u64 (d.2 : Nat))) base (.slice (some ⟨g, 0, Option.none⟩) n cap) (ds.set p d) := by
  obtain ⟨vs, hown, hd⟩ := h
  subst hn
  have hlen : vs.length = ds.length * 2 := hown.1
  have h2 := (((hown.stored (p * 2) (.slice B m c)).1).stored (p * 2 + 1) (.int .u64 (d.2 : Nat))).1
  have hk : KeptBut g w ((w.setCell ⟨g, p * 2, Option.none⟩ (.slice B m c)).setCell ⟨g, p * 2 + 1, Option.none⟩ (.int .u64 (d.2 : Nat))) := (KeptBut.set _ (a := ⟨g, p * 2, Option.none⟩) rfl _).then (KeptBut.set _ (a := ⟨g, p * 2 + 1, Option.none⟩) rfl _)
  refine ⟨_, by rw [List.length_set]; exact h2, fun j hj => ?_⟩
  rw [List.length_set] at hj
  rw [getD_set ds p j d (by omega)]
  by_cases e : j = p
  · subst e
    rw [if_pos rfl]
    refine ⟨hL, B, m, c, ?_, ?_, hI.keptBut0 hk hB, fun hn a ha e => hB hn a ha (by simpa [Value.ownBlock] using e.symm)⟩
    · rw [List.getElem?_set_ne (by omega), List.getElem?_set_self (by omega)]
    · rw [List.getElem?_set_self (by rw [List.length_set]; omega)]
  · rw [if_neg e]
    obtain ⟨hl, B', m', c', e1, e2, e3, e4⟩ := hd j hj
    refine ⟨hl, B', m', c', ?_, ?_, e3.keptBut0 hk (fun hn a ha e => e4 hn a ha (by simp [Value.ownBlock, e])), e4⟩
    · rw [List.getElem?_set_ne (by omega), List.getElem?_set_ne (by omega)]; exact e1
    · rw [List.getElem?_set_ne (by omega), List.getElem?_set_ne (by omega)]; exact e2

/-- What is left of a domain of the row is turned. -/
theorem OwnR.setLive {w : World} {base g n cap p L : Nat} {ds : List DomB} (h : OwnR w base (.slice (some ⟨g, 0, Option.none⟩) n cap) ds) (hn : ds.length = n) (_hp : p < n) (hL : L < 2 ^ 64) :
    OwnR (w.setCell ⟨g, p * 2 + 1, Option.none⟩ (.int .u64 (L : Nat))) base (.slice (some ⟨g, 0, Option.none⟩) n cap) (ds.set p ((ds.getD p nilD).1, L)) := by
  obtain ⟨vs, hown, hd⟩ := h
  subst hn
  have hlen : vs.length = ds.length * 2 := hown.1
  have h2 := (hown.stored (p * 2 + 1) (.int .u64 (L : Nat))).1
  have hk : KeptBut g w (w.setCell ⟨g, p * 2 + 1, Option.none⟩ (.int .u64 (L : Nat))) := KeptBut.set _ (a := ⟨g, p * 2 + 1, Option.none⟩) rfl _
  refine ⟨_, by rw [List.length_set]; exact h2, fun j hj => ?_⟩
  rw [List.length_set] at hj
  rw [getD_set ds p j _ (by omega)]
  obtain ⟨hl, B', m', c', e1, e2, e3, e4⟩ := hd j hj
  have e3' := e3.keptBut0 hk (fun hn a ha e => e4 hn a ha (by simp [Value.ownBlock, e]))
  by_cases e : j = p
  · subst e
    rw [if_pos rfl]
    refine ⟨hL, B', m', c', ?_, ?_, e3', e4⟩
    · rw [List.getElem?_set_ne (by omega)]; exact e1
    · rw [List.getElem?_set_self (by omega)]
  · rw [if_neg e]
    refine ⟨hl, B', m', c', ?_, ?_, e3', e4⟩
    · rw [List.getElem?_set_ne (by omega)]; exact e1
    · rw [List.getElem?_set_ne (by omega)]; exact e2

/-- The domain at a place of the row, behind names; where it lies; that it may be written. -/
theorem OwnR.named {w : World} {base g n cap : Nat} {ds : List DomB} (h : OwnR w base (.slice (some ⟨g, 0, Option.none⟩) n cap) ds) (hn : ds.length = n) (p : Nat) (hp : p < n) :
    ∃ (xs : List Int) (L : Nat) (B : Option Addr) (m c : Nat), Hid (ds.getD p nilD = (xs, L)) ∧ w.cell? ⟨g, p * 2, Option.none⟩ = some (.slice B m c) ∧ w.cell? ⟨g, p * 2 + 1, Option.none⟩ = some (.int .u64 (L : Nat)) ∧ Hid (Ints w B m xs) ∧ L < 2 ^ 64 ∧
      Hid (0 < m → ∀ a, B = some a → a.block ≠ g) ∧ w.frozen? ⟨g, p * 2, Option.none⟩ = false ∧ w.frozen? ⟨g, p * 2 + 1, Option.none⟩ = false := by
  obtain ⟨vs, hown, hd⟩ := h
  subst hn
  obtain ⟨hl, B, m, c, e1, e2, e3, e4⟩ := hd p hp
  refine ⟨_, _, B, m, c, rfl, ?_, ?_, e3, hl, fun hn a ha e => e4 hn a ha (by simp [Value.ownBlock, e]), hown.frozenAt _, hown.frozenAt _⟩
  · rw [hown.cellAt _ (by omega)]; exact e1
  · rw [hown.cellAt _ (by omega)]; exact e2
end Go.Proofs.YtjmegicopdbkdaaDoor

set_option maxHeartbeats 1000000
set_option maxRecDepth 10000
namespace Go.Proofs.YtjmegicopdbkdaaDoor
open Go Go.RowKit Pl

/-- It reads as lists of whole numbers. -/
structure LL (w : World) (A : Option Addr) (n : Nat) (ls : List (List Int)) : Prop where
  len : ls.length = n
  small : n ≤ 9223372036854775807
  cell : 0 < n → ∃ a, A = some a ∧ ∀ j, j < n → ∃ B m c, w.cell? (a.add j) = some (.slice B m c) ∧ Ints w B m (ls.getD j [])
theorem LL.kept {w w' : World} {A : Option Addr} {n : Nat} {ls : List (List Int)} (h : LL w A n ls) (hk : Kept w w') : LL w' A n ls :=
  ⟨h.len, h.small, fun hn => by
    obtain ⟨a, e, hc⟩ := h.cell hn
    refine ⟨a, e, fun j hj => ?_⟩
    obtain ⟨B, m, c, h1, h2⟩ := hc j hj
    exact ⟨B, m, c, hk.cellAt h1, h2.kept hk⟩⟩
theorem LL.named {w : World} {A : Option Addr} {n : Nat} {ls : List (List Int)} (h : LL w A n ls) (k : Nat) (hk : k < n) :
    ∃ (a : Addr) (l : List Int) (B : Option Addr) (m c : Nat), A = some a ∧ a.block < w.heap.size ∧ Hid (ls.getD k [] = l) ∧ w.cell? (a.add k) = some (.slice B m c) ∧ Hid (Ints w B m l) := by
  obtain ⟨a, rfl, hc⟩ := h.cell (by omega)
  obtain ⟨B, m, c, h1, h2⟩ := hc k hk
  have := World.block_lt_of_cell? w _ h1
  rw [add_block'] at this
  exact ⟨a, _, B, m, c, rfl, this, rfl, h1, h2⟩

/-- The slice u, in blocks from base on, owns the lists; their numbers do not lie in its own block. -/
def OwnL (w : World) (base : Nat) (u : Value) (ls : List (List Int)) : Prop :=
  ∃ vs : List Value, w.ownsRow base 22 1 u ls.length vs ∧ ∀ j, j < ls.length → ∃ B m c, vs[j]? = some (.slice B m c) ∧ Ints w B m (ls.getD j []) ∧ (0 < m → ∀ a, B = some a → u.ownBlock ≠ some a.block)
theorem OwnL.kept {w w' : World} {base : Nat} {u : Value} {ls : List (List Int)} (h : OwnL w base u ls) (hk : Kept w w') : OwnL w' base u ls := by
  obtain ⟨vs, hown, hd⟩ := h
  refine ⟨vs, own_kept hown hk, fun j hj => ?_⟩
  obtain ⟨B, m, c, h1, h2, h3⟩ := hd j hj
  exact ⟨B, m, c, h1, h2.kept hk, h3⟩
theorem OwnL.snoc {w1 w2 : World} {base g cap : Nat} {u : Value} {ls : List (List Int)} {l : List Int} {B : Option Addr} {m c : Nat} {vs : List Value}
    (hown : w1.ownsRow base 22 1 u ls.length vs) (hd : ∀ j, j < ls.length → ∃ B m c, vs[j]? = some (.slice B m c) ∧ Ints w1 B m (ls.getD j []) ∧ (0 < m → ∀ a, B = some a → u.ownBlock ≠ some a.block))
    (hI : Ints w1 B m l) (hB : 0 < m → ∀ a, B = some a → u.ownBlock ≠ some a.block)
    (h2 : w2.ownsRow base 22 1 (.slice (some ⟨g, 0, Option.none⟩) (ls.length + 1) cap) (ls.length + 1) (vs ++ [.slice B m c]))
    (hg : w1.grownBy w2 u.ownBlock) (hat : u.ownBlock = some g ∨ w1.heap.size ≤ g) : OwnL w2 base (.slice (some ⟨g, 0, Option.none⟩) (ls.length + 1) cap) (ls ++ [l]) := by
  have hlen : vs.length = ls.length := by have := hown.1; omega
  have hne : ∀ a : Addr, a.block < w1.heap.size → u.ownBlock ≠ some a.block → Value.ownBlock (.slice (some ⟨g, 0, Option.none⟩) (ls.length + 1) cap) ≠ some a.block := by
    intro a h1 h2 e
    simp only [Value.ownBlock, Option.some.injEq] at e
    rcases hat with h | h
    · rw [h, e] at h2; exact h2 rfl
    · omega
  have hint : ∀ {B : Option Addr} {m : Nat} {xs : List Int}, Ints w1 B m xs → (0 < m → ∀ a, B = some a → u.ownBlock ≠ some a.block) → Ints w2 B m xs := by
    intro B m xs h hb
    refine ⟨h.len, h.small, h.rng, fun hn => ?_⟩
    obtain ⟨a, e, hc⟩ := h.cell hn
    exact ⟨a, e, fun j hj => hg.cell (hc j hj) (by rw [add_block']; exact fun e' => hb hn a e e'.symm)⟩
  have hblk : ∀ {B : Option Addr} {m : Nat} {xs : List Int}, Ints w1 B m xs → 0 < m → ∀ a, B = some a → a.block < w1.heap.size := by
    intro B m xs h hn a ha
    subst ha
    exact h.block hn
  refine ⟨vs ++ [.slice B m c], by rw [List.length_append]; exact h2, fun j hj => ?_⟩
  rw [List.length_append] at hj
  simp only [List.length_cons, List.length_nil] at hj
  by_cases hlt : j < ls.length
  · have e0 : (ls ++ [l]).getD j [] = ls.getD j [] := by simp only [List.getD_eq_getElem?_getD, List.getElem?_append_left hlt]
    rw [e0]
    obtain ⟨B', m', c', e1, e3, e4⟩ := hd j hlt
    refine ⟨B', m', c', ?_, hint e3 e4, fun hn a ha => hne a (hblk e3 hn a ha) (e4 hn a ha)⟩
    rw [List.getElem?_append_left (by omega)]; exact e1
  · have e : j = ls.length := by omega
    subst e
    have e0 : (ls ++ [l]).getD ls.length [] = l := by simp [List.getD_eq_getElem?_getD]
    rw [e0]
    refine ⟨B, m, c, ?_, hint hI hB, fun hn a ha => hne a (hblk hI hn a ha) (hB hn a ha)⟩
    rw [List.getElem?_append_right (by omega), hlen]; simp
theorem OwnL.parts {w : World} {base : Nat} {u : Value} {ls : List (List Int)} (h : OwnL w base u ls) : ∃ A c, u = .slice A ls.length c := by
  obtain ⟨vs, hown, _⟩ := h
  rcases hown.2 with ⟨rfl, h0⟩ | ⟨g, cap, cur, rfl, _⟩
  · rw [h0]; exact ⟨_, _, rfl⟩
  · exact ⟨_, _, rfl⟩
theorem OwnL.lists {w : World} {base c : Nat} {A : Option Addr} {n : Nat} {ls : List (List Int)} (h : OwnL w base (.slice A n c) ls) (hn : ls.length = n) (hs : n ≤ 9223372036854775807) : LL w A n ls := by
  obtain ⟨vs, hown, hd⟩ := h
  subst hn
  refine ⟨rfl, hs, fun h0 => ?_⟩
  obtain ⟨g, cap, e, hb, hlt⟩ := hown.form h0
  cases e
  refine ⟨_, rfl, fun j hj => ?_⟩
  obtain ⟨B, m, c, e1, e3, _⟩ := hd j hj
  exact ⟨B, m, c, hown.cells (g := g) rfl _ _ e1, e3⟩
theorem OwnL.set {w : World} {base g n cap p : Nat} {ls : List (List Int)} {l : List Int} {B : Option Addr} {m c : Nat} (h : OwnL w base (.slice (some ⟨g, 0, Option.none⟩) n cap) ls) (hn : ls.length = n) (_hp : p < n) (hI : Ints w B m l) (hB : 0 < m → ∀ a, B = some a → a.block ≠ g) :
    OwnL (w.setCell ⟨g, p, Option.none⟩ (.slice B m c)) base (.slice (some ⟨g, 0, Option.none⟩) n cap) (ls.set p l) := by
  obtain ⟨vs, hown, hd⟩ := h
  subst hn
  have hlen : vs.length = ls.length := by have := hown.1; omega
  have h2 := (hown.stored p (.slice B m c)).1
  have hk : KeptBut g w (w.setCell ⟨g, p, Option.none⟩ (.slice B m c)) := KeptBut.set _ (a := ⟨g, p, Option.none⟩) rfl _
  refine ⟨_, by rw [List.length_set]; exact h2, fun j hj => ?_⟩
  rw [List.length_set] at hj
  by_cases e : j = p
  · subst e
    have e0 : (ls.set j l).getD j [] = l := by simp [List.getD_eq_getElem?_getD, hj]
    rw [e0]
    refine ⟨B, m, c, ?_, hI.keptBut0 hk hB, fun hn a ha e => hB hn a ha (by simpa [Value.ownBlock] using e.symm)⟩
    rw [List.getElem?_set_self (by omega)]
  · have e0 : (ls.set p l).getD j [] = ls.getD j [] := by simp only [List.getD_eq_getElem?_getD, List.getElem?_set_ne (fun h => e h.symm)]
    rw [e0]
    obtain ⟨B', m', c', e1, e3, e4⟩ := hd j hj
    refine ⟨B', m', c', ?_, e3.keptBut0 hk (fun hn a ha e => e4 hn a ha (by simp [Value.ownBlock, e])), e4⟩
    rw [List.getElem?_set_ne (by omega)]; exact e1
/-- A cell of the row stands there, and may be written. -/
theorem OwnL.at {w : World} {base g n cap : Nat} {ls : List (List Int)} (h : OwnL w base (.slice (some ⟨g, 0, Option.none⟩) n cap) ls) (hn : ls.length = n) (p : Nat) (hp : p < n) :
    (∃ v, w.cell? ⟨g, p, Option.none⟩ = some v) ∧ w.frozen? ⟨g, p, Option.none⟩ = false := by
  obtain ⟨vs, hown, hd⟩ := h
  subst hn
  obtain ⟨B, m, c, e1, _, _⟩ := hd p hp
  exact ⟨⟨_, by rw [hown.cellAt _ (by omega)]; exact e1⟩, hown.frozenAt _⟩

/-- What is left of each. -/
def listsOf (ds : List DomB) : List (List Int) := ds.map fun d => listB d.1 d.2
theorem listsOf_getD (ds : List DomB) {i : Nat} (hi : i < ds.length) : (listsOf ds).getD i [] = listB (ds.getD i nilD).1 (ds.getD i nilD).2 := by
  unfold listsOf
  rw [List.getD_eq_getElem?_getD, List.getElem?_map, List.getD_eq_getElem?_getD, List.getElem?_eq_getElem hi]
  rfl

theorem info_ints : (Tryd.prog.info? 22).map (fun i => (i.zero, i.size, i.bytes)) = some (some (.slice Option.none 0 0), 1, 24) := by kernel_rfl
/-- Lists are handed back, in a slice of the call's own. -/
def ListsPost (ls : List (List Int)) (w : World) (e : Ending) (w' : World) : Prop :=
  ∃ A c, e = .returned (.slice A ls.length c) ∧ LL w' A ls.length ls ∧ Kept w w'

theorem rlists_any (A : Option Addr) (n c : Nat) (ds : List DomB) (w : World) (hS : Doms w A n ds) (hn : n ≤ 1000) :
    Calls Tryd.prog 34 #[.slice A n c] w (ListsPost (listsOf ds) w) := by
  obtain ⟨i0, hi, hz0, hz1, hz2⟩ := info_parts info_ints
  have HS := Lib.hid hS
  have Hlen := Lib.hid hS.len
  clear hS
  go_enter Tryd.func34, Tryd.ntmps34
  go_wp2_with fail
  go_loopw [3, 4] (fun u v wr => ∃ k : Nat, k ≤ n ∧ v = .int .i64 k ∧ Hid (OwnL wr w.heap.size u (listsOf (ds.take k))) ∧ Hid (Kept w wr)) (fun _ v _ => n - (intOf v).toNat)
  case atStart =>
    refine ⟨0, Nat.zero_le _, rfl, ?_, Kept.box _ _⟩
    exact ⟨[], World.ownsRow_made w #[] 0 (Nat.le_refl _) (by decide) rfl, fun j hj => by simp [listsOf] at hj⟩
  case round =>
    obtain ⟨k, hk, rfl, HO, Hkw⟩ := hrel
    by_cases hlt : k < n
    · have hSr := HS.out.kept Hkw.out
      obtain ⟨a, rfl, hblk⟩ := hSr.addr (by omega)
      obtain ⟨xs, L, B, m, cB, Hd, hc1, hc2, HI, hL⟩ := hSr.named k hlt
      clear hSr
      go_wp2_with fail
      refine (rdlist_any B m cB L xs _ HI.out hL).mono ?_
      rintro e w1 ⟨Bl, cl, rfl, hIl, hk1, hfl⟩
      have HIl := Lib.hid hIl
      have Hk1 := Lib.hid hk1
      have Hfl := Lib.hid hfl
      obtain ⟨vs, hown, hd⟩ := HO.out
      have hkl : (listsOf (ds.take k)).length = k := by unfold listsOf; rw [List.length_map, List.length_take]; have := Hlen.out; omega
      rw [hkl] at hown hd
      have Hul : Hid (∀ i, u3.ownBlock = some i → w.heap.size ≤ i ∧ i < wr.heap.size) := hown.lt
      have Hown := Lib.hid (own_kept hown hk1)
      have Hdd := Lib.hid hd
      have hszr := Hkw.out.size
      have hsz1 := hk1.size
      have Hlb : Hid (listsOf (ds.take (k + 1)) = listsOf (ds.take k) ++ [listB xs L]) := by
        show _ = _
        rw [take_dom (by have := Hlen.out; omega) Hd.out]
        unfold listsOf
        rw [List.map_append]; rfl
      have hel := listB_length xs L
      clear hIl hk1 hfl hown hd hc1 hc2
      generalize listB xs L = l at *
      generalize hmm : l.length = mm at *
      clear hmm
      go_wp2_with (at_builtin; refine wpList_append_own_at _ rfl _ _ 59 rfl w.heap.size 22 i0 (.slice Option.none 0 0) 1 24 Tryd.underlying59 hi hz0 hz1 hz2 rfl (by decide) _ _ _ rfl (Hown.out.alloc _) ⟨w1.heap.size, 0, none⟩ 1 1 [.slice Bl mm cl] rfl rfl (cell_one_new _ _ _) (by simp [Value.oneCell']) (by unfold maxLen; omega) (by omega) (by simp; omega) ?_; intro v' w2 hown' hgrow _ hloc; obtain ⟨g, cap, rfl, hgb, hgl⟩ := hown'.form (by omega))
      go_roundw
      case rel =>
        refine ⟨k + 1, by omega, by go_num, ?_, ?_⟩
        · show OwnL _ _ _ _
          rw [Hlb.out]
          have hk2 := Kept.box w1 (.cells #[.slice Bl mm cl] 22)
          have := OwnL.snoc (ls := listsOf (ds.take k)) (l := l) (c := cl) (by rw [hkl]; exact Hown.out.alloc _) ?_ (HIl.out.kept hk2) ?_ (by rw [hkl]; exact hown') hgrow ?_
          · rw [hkl] at this; exact this
          · rw [hkl]
            intro j hj
            obtain ⟨B1, m1, c1', e1, e3, e4⟩ := Hdd.out j hj
            exact ⟨B1, m1, c1', e1, e3.kept (Hk1.out.then hk2), e4⟩
          · intro _ a' ha' e
            have := Hul.out _ e
            have := Hfl.out a' ha'
            omega
          · rcases hloc with h | h
            · exact Or.inl (by rw [← h]; rfl)
            · right
              have : g = w1.heap.size + 1 := by simpa [Value.ownBlock] using h
              simp only [World.size_alloc]
              omega
        · show Kept w w2
          exact ((Hkw.out.then Hk1.out).newBlock _).grown hgrow (by simp; omega) (fun i hi => (Hul.out i hi).1)
      case measure => simp [intOf]; omega
    · have e : k = n := by omega
      subst e
      rw [List.take_of_length_le (by have := Hlen.out; omega)] at HO
      obtain ⟨A5, c5, rfl⟩ := HO.out.parts
      have hl5 : (listsOf ds).length = k := by unfold listsOf; rw [List.length_map]; exact Hlen.out
      have HD := Lib.hid (HO.out.lists (n := (listsOf ds).length) rfl (by omega))
      clear HO
      go_wp2_with fail
      go_ret
      exact ⟨A5, c5, rfl, HD.out, Hkw.out⟩
end Go.Proofs.YtjmegicopdbkdaaDoor

set_option maxHeartbeats 1000000
set_option maxRecDepth 10000
namespace Go.Proofs.YtjmegicopdbkdaaDoor
open Go Go.RowKit Pl

theorem LL.row {w : World} {a : Addr} {n : Nat} {ls : List (List Int)} (h : LL w (some a) n ls) (hn : 0 < n) :
    ∃ vs : List Value, vs.length = n * 1 ∧ (∀ j u, vs[j]? = some u → w.cell? (a.add j) = some u) ∧ (∀ u ∈ vs, u.oneCell' = true) ∧
      ∀ j, j < n → ∃ B m c, vs[j]? = some (.slice B m c) ∧ Ints w B m (ls.getD j []) := by
  obtain ⟨b, e, hc⟩ := h.cell hn
  cases e
  refine ⟨(List.range n).map fun i => (w.cell? (a.add i)).getD undef, by simp, ?_, ?_, ?_⟩
  · intro j u hu
    rw [List.getElem?_map] at hu
    by_cases hj : j < n
    · rw [List.getElem?_range hj] at hu
      simp only [Option.map_some, Option.some.injEq] at hu
      obtain ⟨B, m, c, h1, _⟩ := hc j hj
      rw [h1] at hu ⊢; simpa using hu
    · rw [List.getElem?_eq_none (by simp; omega)] at hu
      simp at hu
  · intro u hu
    rw [List.mem_map] at hu
    obtain ⟨j, hj, rfl⟩ := hu
    obtain ⟨B, m, c, h1, _⟩ := hc j (List.mem_range.1 hj)
    rw [h1]; rfl
  · intro j hj
    obtain ⟨B, m, c, h1, h3⟩ := hc j hj
    exact ⟨B, m, c, by rw [List.getElem?_map, List.getElem?_range hj]; simp [h1], h3⟩

theorem any_snoc (f : Int → Bool) (l : List Int) (v : Int) : (l ++ [v]).any f = (l.any f || f v) := by rw [List.any_append]; simp

theorem keptBut_grown {B : Nat} {w0 w w2 : World} (h : KeptBut B w0 w) (o : Obj) {r : Option Nat} (hg : (w.alloc o).grownBy w2 r) (hr : ∀ i, r = some i → i = B ∨ w0.heap.size ≤ i) : KeptBut B w0 w2 := by
  have h1 := h.then (KeptBut.of (Kept.box w o) B)
  exact ⟨hg.os.trans h1.os, hg.tape.trans h1.tape, hg.output.trans h1.output, Nat.le_trans h1.size hg.size, fun k hk hB =>
    (hg.block k (Nat.lt_of_lt_of_le hk h1.size) (fun e => by rcases hr k e.symm with h | h <;> omega)).trans (h1.block k hk hB)⟩

end Go.Proofs.YtjmegicopdbkdaaDoor

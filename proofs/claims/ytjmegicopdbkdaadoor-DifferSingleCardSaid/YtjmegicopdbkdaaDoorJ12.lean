/-
  Contracts and plain laws that the card rests on, part 12.
-/
import Derived.Test.YtjmegicopdbkdaaDoorJ11
import Derived.Test.YtjmegicopdbkdaaDoorJ7
import Derived.Maps.OwnOps
import Derived.StillTailTactics
import Derived.Test.YtjmegicopdbkdaaDoorJ5
import Derived.Test.YtjmegicopdbkdaaDoorJ6
import Derived.Test.YtjmegicopdbkdaaDoorJ9
import Derived.Maps.OwnSet
set_option maxHeartbeats 1000000
set_option maxRecDepth 10000
namespace Go.Proofs.YtjmegicopdbkdaaDoor
open Go Go.RowKit Go.Maps Pl

theorem lawInt : Keyed Tryd.prog 3 := int_keyed Tryd.underlying3
theorem zeroInt (w : World) : (zeroValue 3).run Tryd.prog w = .ok (.int .i64 0) w := by kernel_rfl

/-- Whether a place's number may stand. -/
def isE (nums vals : List Int) (i : Int) : Bool := decide (0 ≤ i) && decide (i < nums.length) && vals.contains (nums.getD i.toNat 0)
/-- How often a number has been counted. -/
def cntE (nums vals l : List Int) (x : Int) : Nat := (l.filter fun i => isE nums vals i && (nums.getD i.toNat 0 == x)).length
/-- A map of counts. -/
def Counts (w : World) (M n : Nat) (f : Int → Nat) : Prop :=
  ∃ D : DataW Unit, w.ownsMap Tryd.prog 3 (plainElem Tryd.prog 3) M n D ∧ ∀ x, D.atKey (.int .i64 x) (.lit (.int .i64 0)) = .lit (.int .i64 (f x : Nat))

theorem Counts.made (w : World) : Counts (w.alloc (.map #[] 0)) w.heap.size 0 (fun _ => 0) := ⟨_, World.ownsMap_made _ _ _ _, fun _ => rfl⟩

/-- What Step's first question reads. -/
structure ElemBox (w : World) (Bc Bl Bv Bm M : Nat) (Al : Option Addr) (nl cl : Nat) (A3 : Option Addr) (n3 c3 : Nat) (nums : List Int) (ds : List DomB) (pv : Nat) : Prop where
  con : w.cell? ⟨Bc, 5, none⟩ = some (.slice A3 n3 c3)
  nums : Ints w A3 n3 nums
  lst : w.cell? ⟨Bl, 0, none⟩ = some (.slice Al nl cl)
  doms : Doms w Al nl ds
  val : w.cell? ⟨Bv, 0, none⟩ = some (.int .i64 (pv : Nat))
  lt : pv < nl
  map : w.cell? ⟨Bm, 0, none⟩ = some (.map (some M))
  may : mayB (ds.getD pv nilD).1 (ds.getD pv nilD).2 = true

theorem Counts.kept {w w' : World} {M n : Nat} {f : Int → Nat} (h : Counts w M n f) (hk : Kept w w') : Counts w' M n f := by
  obtain ⟨D, ⟨es, clock, hb, F, hs, hD⟩, hx⟩ := h
  exact ⟨D, ⟨es, clock, hk.heapAt hb, F, hs, hD⟩, hx⟩
theorem KeptBut.grown {M : Nat} {w w' : World} (h : w.grownBy w' (some M)) : KeptBut M w w' :=
  ⟨h.os, h.tape, h.output, h.size, fun k hk hB => h.block k hk (by simpa using hB)⟩
theorem isMap_of {w : World} {P : Program} {k : TypeId} {R : Value → Option (DataW Unit × List MemPlace)} {b n : Nat} {D : DataW Unit} (h : w.ownsMap P k R b n D) : IsMap D := by
  obtain ⟨es, clock, _, _, _, hD⟩ := h
  exact ⟨_, hD⟩
theorem Counts.same {w : World} {M n : Nat} {f : Int → Nat} (h : Counts w M n f) {b : Bool} (p : Int → Bool) (hb : b = false) : Counts w M (n + 1) (fun v => f v + if b && p v then 1 else 0) := by
  obtain ⟨D, hown, hx⟩ := h
  subst hb
  exact ⟨D, hown.mono (Nat.le_succ _), by simpa using hx⟩

end Go.Proofs.YtjmegicopdbkdaaDoor

set_option maxHeartbeats 1000000
set_option maxRecDepth 10000
namespace Go.Proofs.YtjmegicopdbkdaaDoor
open Go Go.RowKit Pl

theorem heap_newAt {w : World} {o : Obj} {n : Nat} (hn : n = w.heap.size) : (w.alloc o).heap[n]? = some o := by subst hn; exact heap_new w o
theorem Doms.of_heap {w : World} {O n : Nat} {cs : Array Value} {t : TypeId} {fr : Nat × Nat} {ds : List DomB} (h : w.heap[O]? = some (.cells cs t fr)) (hn : ds.length = n) (hs : n ≤ 1000) (hl : ∀ j, j < n → (ds.getD j nilD).2 < 2 ^ 64)
    (hd : ∀ j, j < n → ∃ B m c, cs[j * 2]? = some (.slice B m c) ∧ cs[j * 2 + 1]? = some (.int .u64 ((ds.getD j nilD).2 : Nat)) ∧ Ints w B m (ds.getD j nilD).1) : Doms w (some ⟨O, 0, Option.none⟩) n ds :=
  ⟨hn, by omega, hl, fun _ => ⟨_, rfl, fun j hj => by
    obtain ⟨B, m, c, h1, h2, h3⟩ := hd j hj
    refine ⟨B, m, c, ?_, ?_, h3⟩
    · rw [add_plain, Nat.zero_add, cell_at h]; exact h1
    · rw [add_plain, Nat.zero_add, cell_at h]; exact h2⟩⟩
theorem Doms.plain {w : World} {A : Option Addr} {n : Nat} {ds : List DomB} (h : Doms w A n ds) (hn : 0 < n) : ∃ b off, A = some ⟨b, off, Option.none⟩ ∧ ∀ j, j < n → w.cell? ⟨b, off + j * 2 + 1, Option.none⟩ = some (.int .u64 ((ds.getD j nilD).2 : Nat)) := by
  obtain ⟨a, rfl, hc⟩ := h.cell hn
  obtain ⟨_, _, _, h0, _, _⟩ := hc 0 hn
  have e0 : a.add (0 * 2) = a := by unfold Addr.add; simp
  rw [e0] at h0
  have hp := plain_of_cell h0
  refine ⟨a.block, a.off, by rw [← hp], fun j hj => ?_⟩
  obtain ⟨_, _, _, _, h2, _⟩ := hc j hj
  rw [hp, add_plain] at h2
  exact h2

/-- Blocks laid one behind the other. -/
def allocs (w : World) (os : List Obj) : World := os.foldl World.alloc w
theorem heap_allocs : ∀ (os : List Obj) (w : World) (k : Nat) (o : Obj), os[k]? = some o → (allocs w os).heap[w.heap.size + k]? = some o ∧ Kept w (allocs w os)
  | [], w, k, o, h => by simp at h
  | x :: os, w, 0, o, h => by
    have e : x = o := by simpa using h
    subst e
    have hk : Kept (w.alloc x) (allocs (w.alloc x) os) := kept_allocs os _
    exact ⟨hk.heapAt (heap_new w x), (Kept.box w x).then hk⟩
  | x :: os, w, k + 1, o, h => by
    have h' : os[k]? = some o := by simpa using h
    obtain ⟨h1, h2⟩ := heap_allocs os (w.alloc x) k o h'
    rw [World.size_alloc] at h1
    refine ⟨?_, (Kept.box w x).then h2⟩
    have e : w.heap.size + (k + 1) = w.heap.size + 1 + k := by omega
    rw [e]
    exact h1
where kept_allocs : ∀ (os : List Obj) (w : World), Kept w (allocs w os)
  | [], w => Kept.same w
  | x :: os, w => (Kept.box w x).then (kept_allocs os (w.alloc x))

end Go.Proofs.YtjmegicopdbkdaaDoor

set_option maxHeartbeats 2000000
set_option maxRecDepth 10000
namespace Go.Proofs.YtjmegicopdbkdaaDoor
open Go Go.RowKit Go.Maps Pl

theorem bs_any (A : Option Addr) (n c : Nat) (zs : List Int) (x : Int) (w : World) (hI : Ints w A n zs) (hn : n ≤ 100000) (hs : zs.Pairwise (· ≤ ·)) :
    Calls Tryd.prog 60 #[.slice A n c, .int .i64 x] w fun e w' => ∃ i : Int, e = .returned (.tuple #[.int .i64 i, .bool (zs.contains x)]) ∧ Kept w w' := by
  by_cases h0 : 0 < n
  · obtain ⟨b, off, rfl, hc⟩ := hI.plain h0
    have hl := hI.len
    refine (Tryd.slices_BinarySearch_int b off n c zs x w (by omega) (by omega) (fun j hj => hc j (by omega)) (by rw [← hl, List.take_length]; exact hs)).mono ?_
    rintro e w' ⟨he, q, rfl⟩
    rw [← hl, List.take_length] at he
    exact ⟨_, he, (Kept.same w).drewN q⟩
  · have h1 : n = 0 := by omega
    subst h1
    have hz : zs = [] := List.eq_nil_of_length_eq_zero hI.len
    subst hz
    refine (Tryd.slices_BinarySearch_int_empty A c x w).mono ?_
    rintro e w' ⟨he, rfl⟩
    exact ⟨0, he, Kept.same _⟩

/-- A map in which the numbers of a list stand. -/
def Marks (w : World) (M n : Nat) (K : List Int) : Prop := Counts w M n (fun x => if K.contains x = true then 1 else 0)
theorem Marks.made (w : World) : Marks (w.alloc (.map #[] 0)) w.heap.size 0 [] := ⟨_, World.ownsMap_made _ _ _ _, fun _ => rfl⟩
theorem Marks.of_heap {w : World} {M : Nat} (h : w.heap[M]? = some (.map #[] 0)) : Marks w M 0 [] := by
  obtain ⟨D, ⟨es, clock, hb, F, hs, hD⟩, hx⟩ := Marks.made w
  rw [heap_new] at hb
  cases hb
  exact ⟨D, ⟨_, _, h, F, hs, hD⟩, hx⟩
theorem Marks.kept {w w' : World} {M n : Nat} {K : List Int} (h : Marks w M n K) (hk : Kept w w') : Marks w' M n K := Counts.kept h hk
theorem Marks.but {w w' : World} {M O n : Nat} {K : List Int} (h : Marks w M n K) (hk : KeptBut O w w') (hne : M ≠ O) : Marks w' M n K := by
  obtain ⟨D, ⟨es, clock, hb, F, hs, hD⟩, hx⟩ := h
  exact ⟨D, ⟨es, clock, hk.heapAt hb hne, F, hs, hD⟩, hx⟩
theorem Marks.grown {w w' : World} {M M' n : Nat} {K : List Int} (h : Marks w M n K) (hk : w.grownBy w' (some M')) (hne : M ≠ M') : Marks w' M n K := by
  obtain ⟨D, ⟨es, clock, hb, F, hs, hD⟩, hx⟩ := h
  exact ⟨D, ⟨es, clock, (hk.block M (lt_at hb) (by simpa using hne)).trans hb, F, hs, hD⟩, hx⟩
theorem own_grown {w w' : World} {M M' n : Nat} {D : DataW Unit} (h : w.ownsMap Tryd.prog 3 (plainElem Tryd.prog 3) M n D) (hk : w.grownBy w' (some M')) (hne : M ≠ M') : w'.ownsMap Tryd.prog 3 (plainElem Tryd.prog 3) M n D := by
  obtain ⟨es, clock, hb, F, hs, hD⟩ := h
  exact ⟨es, clock, (hk.block M (lt_at hb) (by simpa using hne)).trans hb, F, hs, hD⟩
theorem KeptX.grown {X : Nat → Prop} {M : Nat} {w w' : World} (h : w.grownBy w' (some M)) (hX : X M) : KeptX X w w' := KeptX.ofBut (KeptBut.grown h) hX
theorem keyI {y : Int} (h : -9223372036854775808 ≤ y ∧ y ≤ 9223372036854775807) : keyOf Tryd.prog 3 (.int .i64 y) = some (.int .i64 y) := keyOf_int_mk Tryd.underlying3 (WalkArith.wf_i64 (by omega))
theorem marks_put {w w' : World} {M n : Nat} {K : List Int} {y : Int} {D : DataW Unit} (hown : w.ownsMap Tryd.prog 3 (plainElem Tryd.prog 3) M n D)
    (hD : ∀ x, D.atKey (.int .i64 x) (.lit (.int .i64 0)) = .lit (.int .i64 ((if K.contains x = true then 1 else 0 : Nat) : Int))) (hy : -9223372036854775808 ≤ y ∧ y ≤ 9223372036854775807)
    (hown2 : w'.ownsMap Tryd.prog 3 (plainElem Tryd.prog 3) M (n + 1) (D.put (.int .i64 y) (.lit (.int .i64 1)))) : Marks w' M (n + 1) (K ++ [y]) := by
  refine ⟨_, hown2, fun v => ?_⟩
  by_cases hv : y = v
  · subst hv
    rw [atKey_put_same (isMap_of hown) (lawInt.key (keyI hy))]
    simp
  · rw [atKey_put_other (by intro e; cases e; exact hv rfl), hD v]
    have : (K ++ [y]).contains v = K.contains v := by
      rw [Bool.eq_iff_iff, List.contains_iff_mem, List.contains_iff_mem, List.mem_append, List.mem_singleton]
      exact ⟨fun h => h.resolve_right (fun e => hv e.symm), .inl⟩
    show _ = DataW.lit (.int .i64 ((if (K ++ [y]).contains v = true then 1 else 0 : Nat) : Int))
    rw [this]

/-- The pairs whose product is among Z, of the first values of X. -/
def pairsOf (Y Z : List Int) (a : Int) (j : Nat) : List (Int × Int) := ((Y.take j).filter fun b => Z.contains (a * b)).map fun b => (a, b)
def pairsU (X Y Z : List Int) : Nat → List (Int × Int)
  | 0 => []
  | i + 1 => pairsU X Y Z i ++ pairsOf Y Z (X.getD i 0) Y.length
theorem mem_pairsU {X Y Z : List Int} {i : Nat} (hi : i ≤ X.length) {p : Int × Int} : p ∈ pairsU X Y Z i ↔ p.1 ∈ X.take i ∧ p.2 ∈ Y ∧ p.1 * p.2 ∈ Z := by
  induction i with
  | zero => simp [pairsU]
  | succ i ih =>
    simp only [pairsU]
    rw [List.mem_append, ih (by omega), take_one (by omega) rfl, List.mem_append, List.mem_singleton]
    unfold pairsOf
    rw [List.take_length, List.mem_map]
    constructor
    · rintro (⟨h1, h2, h3⟩ | ⟨b, hb, rfl⟩)
      · exact ⟨.inl h1, h2, h3⟩
      · rw [List.mem_filter, List.contains_iff_mem] at hb
        exact ⟨.inr rfl, hb.1, hb.2⟩
    · rintro ⟨h1 | h1, h2, h3⟩
      · exact .inl ⟨h1, h2, h3⟩
      · right
        refine ⟨p.2, ?_, by rw [← h1]⟩
        rw [List.mem_filter, List.contains_iff_mem, ← h1]
        exact ⟨h2, h3⟩
theorem pairsOf_len (Y Z : List Int) (a : Int) (j : Nat) : (pairsOf Y Z a j).length ≤ j := by
  unfold pairsOf
  rw [List.length_map]
  exact Nat.le_trans (List.length_filter_le _ _) (by rw [List.length_take]; exact Nat.min_le_left _ _)
theorem pairsU_len (X Y Z : List Int) (i : Nat) : (pairsU X Y Z i).length ≤ i * Y.length := by
  induction i with
  | zero => simp [pairsU]
  | succ i ih =>
    simp only [pairsU]
    rw [List.length_append, Nat.add_mul, Nat.one_mul]
    have := pairsOf_len Y Z (X.getD i 0) Y.length
    omega
theorem pairsOf_succ {Y Z : List Int} {a : Int} {j : Nat} {b : Int} (hj : j < Y.length) (hb : Y.getD j 0 = b) : pairsOf Y Z a (j + 1) = pairsOf Y Z a j ++ (if Z.contains (a * b) = true then [(a, b)] else []) := by
  unfold pairsOf
  rw [take_one hj hb, List.filter_append, List.map_append]
  congr 1
  by_cases h : Z.contains (a * b) = true
  · rw [if_pos h, List.filter_cons, if_pos h]; rfl
  · rw [if_neg h, List.filter_cons, if_neg h]; rfl

/-- The three maps. -/
def Keeps (w : World) (M0 M1 M2 n : Nat) (P : List (Int × Int)) : Prop := Marks w M0 n (P.map (·.1)) ∧ Marks w M1 n (P.map (·.2)) ∧ Marks w M2 n (P.map fun p => p.1 * p.2)
/-- What try hands back. -/
def TryPost (P : List (Int × Int)) (w : World) (e : Ending) (w' : World) : Prop :=
  ∃ M0 M1 M2 n, e = .returned (.agg #[.map (some M0), .map (some M1), .map (some M2)]) ∧ Keeps w' M0 M1 M2 n P ∧ w.heap.size ≤ M0 ∧ w.heap.size ≤ M1 ∧ w.heap.size ≤ M2 ∧ Kept w w'

theorem mul_rng {a b : Int} (ha : -1048576 ≤ a ∧ a ≤ 1048576) (hb : -1048576 ≤ b ∧ b ≤ 1048576) : -9223372036854775808 ≤ a * b ∧ a * b ≤ 9223372036854775807 := by
  have h1 : (a * b).natAbs ≤ 1048576 * 1048576 := by
    rw [Int.natAbs_mul]
    exact Nat.mul_le_mul (by omega) (by omega)
  omega

theorem try_any (A B D : Option Addr) (n m q c d f : Nat) (X Y Z : List Int) (w : World) (hX : Ints w A n X) (hY : Ints w B m Y) (hZ : Ints w D q Z) (hn : n ≤ 64) (hm : m ≤ 64) (hq : q ≤ 64)
    (hrX : ∀ x ∈ X, -1048576 ≤ x ∧ x ≤ 1048576) (hrY : ∀ x ∈ Y, -1048576 ≤ x ∧ x ≤ 1048576) (hs : Z.Pairwise (· ≤ ·)) :
    Calls Tryd.prog 30 #[.slice A n c, .slice B m d, .slice D q f] w (TryPost (pairsU X Y Z n) w) := by
  have HX := Lib.hid hX
  have HY := Lib.hid hY
  have HZ := Lib.hid hZ
  have HrX := Lib.hid hrX
  have HrY := Lib.hid hrY
  have Hs := Lib.hid hs
  have HlX := Lib.hid hX.len
  have HlY := Lib.hid hY.len
  clear hX hY hZ hrX hrY hs
  have hmm := @run_makeMap Tryd.prog
  go_enter Tryd.func30, Tryd.ntmps30
  go_wp2_with fail
  have HF := fun k o h => (heap_allocs [.cells #[.map none, .map none, .map none] 54, .map #[] 0, .map #[] 0, .map #[] 0,
    .cells #[.map (some (w.heap.size + 1)), .map (some (w.heap.size + 1 + 1)), .map (some (w.heap.size + 1 + 1 + 1))] 54] w k o h).1
  have HR0 : Hid ((allocs w [.cells #[.map none, .map none, .map none] 54, .map #[] 0, .map #[] 0, .map #[] 0,
    .cells #[.map (some (w.heap.size + 1)), .map (some (w.heap.size + 1 + 1)), .map (some (w.heap.size + 1 + 1 + 1))] 54]).heap[w.heap.size]? = some (.cells #[.map none, .map none, .map none] 54)) := HF 0 _ rfl
  have F1 := HF 1 _ rfl
  have F2 := HF 2 _ rfl
  have F3 := HF 3 _ rfl
  have Hb0 : Hid ((allocs w [.cells #[.map none, .map none, .map none] 54, .map #[] 0, .map #[] 0, .map #[] 0,
    .cells #[.map (some (w.heap.size + 1)), .map (some (w.heap.size + 1 + 1)), .map (some (w.heap.size + 1 + 1 + 1))] 54]).heap[w.heap.size + 1 + 1 + 1 + 1]? = some (.cells #[.map (some (w.heap.size + 1)), .map (some (w.heap.size + 1 + 1)), .map (some (w.heap.size + 1 + 1 + 1))] 54)) := HF 4 _ rfl
  have HK0 := Lib.hid (heap_allocs.kept_allocs [.cells #[.map none, .map none, .map none] 54, .map #[] 0, .map #[] 0, .map #[] 0,
    .cells #[.map (some (w.heap.size + 1)), .map (some (w.heap.size + 1 + 1)), .map (some (w.heap.size + 1 + 1 + 1))] 54] w)
  have hsz0 : (allocs w [.cells #[.map none, .map none, .map none] 54, .map #[] 0, .map #[] 0, .map #[] 0,
    .cells #[.map (some (w.heap.size + 1)), .map (some (w.heap.size + 1 + 1)), .map (some (w.heap.size + 1 + 1 + 1))] 54]).heap.size = w.heap.size + 5 := by simp [allocs]
  have Hs0 := Lib.hid hsz0
  change Code.wp _ _ _ _ (allocs w [.cells #[.map none, .map none, .map none] 54, .map #[] 0, .map #[] 0, .map #[] 0,
    .cells #[.map (some (w.heap.size + 1)), .map (some (w.heap.size + 1 + 1)), .map (some (w.heap.size + 1 + 1 + 1))] 54])
  generalize allocs w [.cells #[.map none, .map none, .map none] 54, .map #[] 0, .map #[] 0, .map #[] 0,
    .cells #[.map (some (w.heap.size + 1)), .map (some (w.heap.size + 1 + 1)), .map (some (w.heap.size + 1 + 1 + 1))] 54] = W0 at *
  have HM0 : Hid (Keeps W0 (w.heap.size + 1) (w.heap.size + 1 + 1) (w.heap.size + 1 + 1 + 1) 0 []) := ⟨Marks.of_heap F1, Marks.of_heap F2, Marks.of_heap F3⟩
  clear HF F1 F2 F3 hsz0 hmm
  go_loopw [20] (fun u wr => ∃ i : Nat, i ≤ n ∧ u = .int .i64 i ∧ Hid (Keeps wr (w.heap.size + 1) (w.heap.size + 1 + 1) (w.heap.size + 1 + 1 + 1) (pairsU X Y Z i).length (pairsU X Y Z i)) ∧ Hid (KeptX (fun b => b = w.heap.size + 1 ∨ b = w.heap.size + 1 + 1 ∨ b = w.heap.size + 1 + 1 + 1) W0 wr)) (fun u _ => n - (intOf u).toNat)
  case atStart => exact ⟨0, Nat.zero_le _, rfl, HM0.out, KeptX.refl _ _⟩
  case round =>
    obtain ⟨i, hi, rfl, HMi, Hki⟩ := hrel
    obtain ⟨wi, hwi⟩ : ∃ wi : World, wi = wr := ⟨_, rfl⟩
    subst hwi
    by_cases hlt : i < n
    · have HKi := Lib.hid (Hki.out.below HK0.out (fun b hb => by omega))
      obtain ⟨aX, haX, hbX⟩ := (HX.out.kept HKi.out).addr (by omega)
      subst haX
      obtain ⟨a, Ha, hca, _, _⟩ := (HX.out.kept HKi.out).named i hlt
      have hra : -1048576 ≤ a ∧ a ≤ 1048576 := HrX.out a (by rw [← Ha.out, List.getD_eq_getElem?_getD, List.getElem?_eq_getElem (by have := HlX.out; omega)]; exact List.getElem_mem _)
      go_wp2_with fail
      go_step3
      go_wp2_with fail
      go_step3
      go_wp2_with fail
      go_loopw [26] (fun u wq => ∃ j : Nat, j ≤ m ∧ u = .int .i64 j ∧ Hid (Keeps wq (w.heap.size + 1) (w.heap.size + 1 + 1) (w.heap.size + 1 + 1 + 1) (pairsU X Y Z i ++ pairsOf Y Z a j).length (pairsU X Y Z i ++ pairsOf Y Z a j)) ∧ Hid (KeptX (fun b => b = w.heap.size + 1 ∨ b = w.heap.size + 1 + 1 ∨ b = w.heap.size + 1 + 1 + 1) W0 wq)) (fun u _ => m - (intOf u).toNat)
      case atStart => exact ⟨0, Nat.zero_le _, rfl, by rw [show pairsOf Y Z a 0 = [] from rfl, List.append_nil]; exact HMi.out, Hki.out⟩
      case round =>
        obtain ⟨j, hj, rfl, HMj, Hkj⟩ := hrel
        have HKj := Lib.hid (Hkj.out.below HK0.out (fun b hb => by omega))
        by_cases hltj : j < m
        · obtain ⟨bY, hbYe, hbY⟩ := (HY.out.kept HKj.out).addr (by omega)
          subst hbYe
          obtain ⟨b, Hb, hcb, _, _⟩ := (HY.out.kept HKj.out).named j hltj
          have hrb : -1048576 ≤ b ∧ b ≤ 1048576 := HrY.out b (by rw [← Hb.out, List.getD_eq_getElem?_getD, List.getElem?_eq_getElem (by have := HlY.out; omega)]; exact List.getElem_mem _)
          obtain ⟨y, hy⟩ : ∃ y, y = a * b := ⟨_, rfl⟩
          have hyr : -9223372036854775808 ≤ y ∧ y ≤ 9223372036854775807 := by rw [hy]; exact mul_rng hra hrb
          have hyw : IntKind.i64.wrap (a * b) = y := by rw [← hy]; exact IntWalk.i64_in _ (by omega)
          have Hsucc : Hid (pairsOf Y Z a (j + 1) = pairsOf Y Z a j ++ (if Z.contains y = true then [(a, b)] else [])) := by rw [hy]; exact pairsOf_succ (by have := HlY.out; omega) Hb.out
          have HQ := Lib.hid (bs_any D q f Z y wr (HZ.out.kept HKj.out) (by omega) Hs.out)
          have hlen : (pairsU X Y Z i ++ pairsOf Y Z a j).length ≤ 64 * 64 + 64 := by
            rw [List.length_append]
            have h1 := pairsU_len X Y Z i
            have h2 := pairsOf_len Y Z a j
            have h3 : i * Y.length ≤ 64 * 64 := Nat.mul_le_mul (by omega) (by have := HlY.out; omega)
            omega
          have Hy := Lib.hid hy
          clear hy
          have HP : Hid (pairsU X Y Z i ++ pairsOf Y Z a (j + 1) = (pairsU X Y Z i ++ pairsOf Y Z a j) ++ (if Z.contains y = true then [(a, b)] else [])) := by show _ = _; rw [Hsucc.out, List.append_assoc]
          clear Hsucc
          generalize Z.contains y = g at HQ HP
          generalize pairsU X Y Z i ++ pairsOf Y Z a j = P at *
          go_wp2_with fail
          refine HQ.out.mono ?_
          rintro e w1 ⟨q1, rfl, hk1⟩
          have Hk1 := Lib.hid hk1
          have HX1 := Lib.hid (Hkj.out.then (KeptX.of hk1 _))
          clear hk1 HQ
          cases g with
          | false =>
            go_wp2_with fail
            go_roundw
            case rel => exact ⟨j + 1, by omega, by go_num, by show Keeps _ _ _ _ _ _; rw [HP.out]; simpa [Keeps] using ⟨HMj.out.1.kept Hk1.out, HMj.out.2.1.kept Hk1.out, HMj.out.2.2.kept Hk1.out⟩, HX1.out⟩
            case measure => simp [intOf]; omega
          | true =>
            have hb4 := HX1.out.heapAt Hb0.out (by omega)
            have c0 := cell_at hb4 0
            have c1 := cell_at hb4 1
            have c2 := cell_at hb4 2
            simp only [List.getElem?_toArray, List.getElem?_cons_zero, List.getElem?_cons_succ] at c0 c1 c2
            obtain ⟨hm0, hm1, hm2⟩ := HMj.out
            obtain ⟨D0, o0, q0⟩ := hm0.kept (Hk1.out.then (Kept.drewn _))
            obtain ⟨D1, o1, q1'⟩ := hm1.kept (Hk1.out.then (Kept.drewn _))
            obtain ⟨D2, o2, q2'⟩ := hm2.kept (Hk1.out.then (Kept.drewn _))
            have HQ0 := Lib.hid q0
            have HQ1 := Lib.hid q1'
            have HQ2 := Lib.hid q2'
            have O0 := Lib.hid o0
            have O1 := Lib.hid o1
            have O2 := Lib.hid o2
            have HX1d := Lib.hid (HX1.out.then (KeptX.of (Kept.drewn w1) _))
            have Hb4 := Lib.hid hb4
            obtain ⟨w2, r0, p0, g0⟩ := o0.update lawInt Tryd.underlying52 (by unfold maxLen; omega) (keyI (y := a) (by omega)) (plainElem_int Tryd.underlying3 (a := 1) (WalkArith.wf_i64 (by omega)))
            obtain ⟨w3, r1, p1, g1⟩ := (own_grown o1 g0 (by omega)).update lawInt Tryd.underlying52 (by unfold maxLen; omega) (keyI (y := b) (by omega)) (plainElem_int Tryd.underlying3 (a := 1) (WalkArith.wf_i64 (by omega)))
            obtain ⟨w4, r2, p2, g2⟩ := (own_grown (own_grown o2 g0 (by omega)) g1 (by omega)).update lawInt Tryd.underlying52 (by unfold maxLen; omega) (keyI (y := y) hyr) (plainElem_int Tryd.underlying3 (a := 1) (WalkArith.wf_i64 (by omega)))
            have HX2 := Lib.hid (HX1d.out.then (KeptX.grown g0 (Or.inl rfl)))
            have HX3 := Lib.hid (HX2.out.then (KeptX.grown g1 (Or.inr (Or.inl rfl))))
            have HX4 := Lib.hid (HX3.out.then (KeptX.grown g2 (Or.inr (Or.inr rfl))))
            have HKs : Hid (Keeps w4 (w.heap.size + 1) (w.heap.size + 1 + 1) (w.heap.size + 1 + 1 + 1) (P.length + 1) (P ++ [(a, b)])) := by
              refine ⟨?_, ?_, ?_⟩
              · rw [List.map_append]
                exact ((marks_put o0 HQ0.out (by omega) p0).grown g1 (by omega)).grown g2 (by omega)
              · rw [List.map_append]
                exact (marks_put (own_grown o1 g0 (by omega)) HQ1.out (by omega) p1).grown g2 (by omega)
              · rw [List.map_append]
                show Marks _ _ _ (_ ++ [a * b])
                rw [← Hy.out]
                exact marks_put (own_grown (own_grown o2 g0 (by omega)) g1 (by omega)) HQ2.out hyr p2
            have HSf : Hid (∀ W, KeptX (fun b => b = w.heap.size + 1 ∨ b = w.heap.size + 1 + 1 ∨ b = w.heap.size + 1 + 1 + 1) W0 W → W.cell? ⟨w.heap.size + 1 + 1 + 1 + 1, 0, Option.none⟩ = some (.map (some (w.heap.size + 1))) ∧ W.cell? ⟨w.heap.size + 1 + 1 + 1 + 1, 1, Option.none⟩ = some (.map (some (w.heap.size + 1 + 1))) ∧ W.cell? ⟨w.heap.size + 1 + 1 + 1 + 1, 2, Option.none⟩ = some (.map (some (w.heap.size + 1 + 1 + 1)))) := fun W hW =>
              ⟨cell_at (hW.heapAt Hb0.out (by omega)) 0, cell_at (hW.heapAt Hb0.out (by omega)) 1, cell_at (hW.heapAt Hb0.out (by omega)) 2⟩
            clear hm0 hm1 hm2 o0 o1 o2 q0 q1' q2' hb4 p0 p1 p2 g0 g1 g2 HQ0 HQ1 HQ2 O0 O1 O2 hcb
            go_wp2_with fail
            go_region_held3 (fun W => W.cell? ⟨w.heap.size + 1 + 1 + 1 + 1, 0, Option.none⟩ = some (.map (some (w.heap.size + 1))) ∧ W.cell? ⟨w.heap.size + 1 + 1 + 1 + 1, 1, Option.none⟩ = some (.map (some (w.heap.size + 1 + 1))) ∧ W.cell? ⟨w.heap.size + 1 + 1 + 1 + 1, 2, Option.none⟩ = some (.map (some (w.heap.size + 1 + 1 + 1))))
              (first | exact HSf.out _ HX4.out | exact HSf.out _ HX3.out | exact HSf.out _ HX2.out | exact HSf.out _ HX1d.out | exact HSf.out _ HX1.out) (fail)
            go_wp2_with fail
            go_roundw
            case rel => exact ⟨j + 1, by omega, by go_num, by show Keeps _ _ _ _ _ _; rw [HP.out]; simpa using HKs.out, HX4.out⟩
            case measure => simp [intOf]; omega
        · have e : j = m := by omega
          subst e
          go_wp2_with fail
          simp only [Exit.noGoto]
          go_wp2_with fail
          have HMe : Hid (Keeps wr (w.heap.size + 1) (w.heap.size + 1 + 1) (w.heap.size + 1 + 1 + 1) (pairsU X Y Z (i + 1)).length (pairsU X Y Z (i + 1))) := by
            have h : pairsU X Y Z (i + 1) = pairsU X Y Z i ++ pairsOf Y Z a j := by
              simp only [pairsU]
              rw [Ha.out, HlY.out]
            show Keeps _ _ _ _ _ _
            rw [h]; exact HMj.out
          go_roundw
          case rel => exact ⟨i + 1, by omega, by go_num, HMe.out, Hkj.out⟩
          case measure => simp [intOf]; omega
    · have e : i = n := by omega
      subst e
      have HKi := Lib.hid (Hki.out.below HK0.out (fun b hb => by omega))
      have hb4 := Hki.out.heapAt Hb0.out (by omega)
      have c0 := cell_at hb4 0
      have c1 := cell_at hb4 1
      have c2 := cell_at hb4 2
      have hR := Hki.out.heapAt HR0.out (by omega)
      have r0 := cell_at hR 0
      have r1 := cell_at hR 1
      have r2 := cell_at hR 2
      have f0 := frozen_at hR 0
      have f1 := frozen_at hR 1
      have f2 := frozen_at hR 2
      simp only [List.getElem?_toArray, List.getElem?_cons_zero, List.getElem?_cons_succ] at c0 c1 c2 r0 r1 r2
      have hlR : w.heap.size < wi.heap.size := lt_at hR
      clear hb4 hR
      go_wp2_with fail
      have hB3 : ∀ x0 x1 x2 : Value, KeptBut w.heap.size wi (((wi.setCell ⟨w.heap.size, 0, Option.none⟩ x0).setCell ⟨w.heap.size, 1, Option.none⟩ x1).setCell ⟨w.heap.size, 2, Option.none⟩ x2) := fun x0 x1 x2 =>
        ((KeptBut.set _ (a := ⟨w.heap.size, 0, Option.none⟩) rfl _).then (KeptBut.set _ (a := ⟨w.heap.size, 1, Option.none⟩) rfl _)).then (KeptBut.set _ (a := ⟨w.heap.size, 2, Option.none⟩) rfl _)
      refine bodyPost_ret (v := .agg #[.map (some (w.heap.size + 1)), .map (some (w.heap.size + 1 + 1)), .map (some (w.heap.size + 1 + 1 + 1))]) (by simp [results, Tryd.results30, go_sem, r0, r1, r2]) rfl ⟨_, _, _, _, rfl, ⟨HMi.out.1.but (hB3 _ _ _) (by omega), HMi.out.2.1.but (hB3 _ _ _) (by omega), HMi.out.2.2.but (hB3 _ _ _) (by omega)⟩, by omega, by omega, by omega, ((KeptBut.of HKi.out w.heap.size).then (hB3 _ _ _)).kept (Nat.le_refl _)⟩
end Go.Proofs.YtjmegicopdbkdaaDoor

set_option maxHeartbeats 1000000
set_option maxRecDepth 10000
namespace Go.Proofs.YtjmegicopdbkdaaDoor
open Go Go.RowKit Go.Maps Pl

/-- A map that counts the numbers of a list. -/
def Cnt (w : World) (M n : Nat) (U : List Int) : Prop :=
  ∃ (D : DataW Unit) (f : Int → Nat), w.ownsMap Tryd.prog 3 (plainElem Tryd.prog 3) M n D ∧ Tidy D ∧ (∀ x, f x ≤ n ∧ D.atKey (.int .i64 x) (.lit (.int .i64 0)) = .lit (.int .i64 (f x : Nat))) ∧ (∀ x, Maps.has D (.int .i64 x) = U.contains x) ∧ Maps.size D = U.length
theorem Cnt.of_heap {w : World} {M : Nat} (h : w.heap[M]? = some (.map #[] 0)) : Cnt w M 0 [] := by
  have h0 : (w.alloc (.map #[] 0)).ownsMap Tryd.prog 3 (plainElem Tryd.prog 3) w.heap.size 0 (.map [] : DataW Unit) := World.ownsMap_made _ _ _ _
  obtain ⟨es, clock, hb, F, hs, hD⟩ := h0
  rw [heap_new] at hb
  cases hb
  exact ⟨.map [], fun _ => 0, ⟨_, _, h, F, hs, hD⟩, tidy_empty, fun _ => ⟨Nat.le_refl _, rfl⟩, fun _ => rfl, rfl⟩
theorem Cnt.kept {w w' : World} {M n : Nat} {U : List Int} (h : Cnt w M n U) (hk : Kept w w') : Cnt w' M n U := by
  obtain ⟨D, f, ⟨es, clock, hb, F, hs, hD⟩, hx⟩ := h
  exact ⟨D, f, ⟨es, clock, hk.heapAt hb, F, hs, hD⟩, hx⟩
theorem Cnt.mono {w : World} {M n m : Nat} {U : List Int} (h : Cnt w M n U) (hm : n ≤ m) : Cnt w M m U := by
  obtain ⟨D, f, ho, ht, hx, hy⟩ := h
  exact ⟨D, f, ho.mono hm, ht, fun x => ⟨Nat.le_trans (hx x).1 hm, (hx x).2⟩, hy⟩
theorem cnt_put {w w' : World} {M n : Nat} {U : List Int} {y : Int} {D : DataW Unit} {f : Int → Nat} (hown : w.ownsMap Tryd.prog 3 (plainElem Tryd.prog 3) M n D) (ht : Tidy D)
    (hD : ∀ x, f x ≤ n ∧ D.atKey (.int .i64 x) (.lit (.int .i64 0)) = .lit (.int .i64 (f x : Nat))) (hU : ∀ x, Maps.has D (.int .i64 x) = U.contains x) (hs : Maps.size D = U.length) (hy : -9223372036854775808 ≤ y ∧ y ≤ 9223372036854775807)
    (hown2 : w'.ownsMap Tryd.prog 3 (plainElem Tryd.prog 3) M (n + 1) (D.put (.int .i64 y) (.lit (.int .i64 ((f y : Int) + 1))))) : Cnt w' M (n + 1) (addB U y) := by
  have hkk := lawInt.key (keyI hy)
  refine ⟨_, fun x => if y = x then f y + 1 else f x, hown2, ht.put hkk _, fun x => ?_, fun x => ?_, ?_⟩
  · dsimp only
    by_cases hv : y = x
    · subst hv
      rw [atKey_put_same (isMap_of hown) hkk, if_pos rfl]
      have := (hD y).1
      exact ⟨by omega, by simp⟩
    · rw [atKey_put_other (by intro e; cases e; exact hv rfl), if_neg hv]
      exact ⟨Nat.le_succ_of_le (hD x).1, (hD x).2⟩
  · by_cases hv : y = x
    · subst hv
      rw [has_put_same (isMap_of hown) hkk]
      symm
      rw [List.contains_iff_mem, mem_addB]
      exact .inr rfl
    · rw [has_put_other (by intro e; cases e; exact hv rfl), hU x, Bool.eq_iff_iff, List.contains_iff_mem, List.contains_iff_mem, mem_addB]
      exact ⟨.inl, fun h => h.resolve_right (fun e => hv e.symm)⟩
  · rw [size_put ht, hU y, hs]
    unfold addB
    split <;> simp

theorem few_any (K R Ct : Int) (A1 A2 A3 : Option Addr) (n1 c1 n2 c2 n3 c3 : Nat) (C : ConB) (A : Option Addr) (n c : Nat) (ds : List DomB) (w : World) (hC : ConIn w K R Ct A1 A2 A3 n1 c1 n2 c2 n3 c3 C) (hS : Doms w A n ds) (hT : Tab w) (hv : varsOk C.vars n = true) (hn1 : n1 ≤ 1000) (hn : n ≤ 1000) :
    Calls Tryd.prog 43 #[.agg #[.int .i64 K, .slice A1 n1 c1, .slice A2 n2 c2, .int .i64 R, .int .i64 Ct, .slice A3 n3 c3], .slice A n c] w fun e w' => e = .returned (.bool (fewB C ds)) ∧ Kept w w' := by
  have HC := Lib.hid hC
  have HS := Lib.hid hS
  have HT := Lib.hid hT
  have Hlen := Lib.hid hS.len
  have Hl1 := Lib.hid hC.vars.len
  have Hvo := Lib.hid hv
  clear hC hS hT hv
  have hmm := @run_makeMap Tryd.prog
  go_enter Tryd.func43, Tryd.ntmps43
  go_wp2_with fail
  have HF := fun k o h => (heap_allocs [.cells #[.int .i64 K, .slice A1 n1 c1, .slice A2 n2 c2, .int .i64 R, .int .i64 Ct, .slice A3 n3 c3] 24, .map #[] 0] w k o h).1
  have F0 := HF 0 _ rfl
  have F1 := HF 1 _ rfl
  have HK0 := Lib.hid (heap_allocs.kept_allocs [.cells #[.int .i64 K, .slice A1 n1 c1, .slice A2 n2 c2, .int .i64 R, .int .i64 Ct, .slice A3 n3 c3] 24, .map #[] 0] w)
  change Code.wp _ _ _ _ (allocs w [.cells #[.int .i64 K, .slice A1 n1 c1, .slice A2 n2 c2, .int .i64 R, .int .i64 Ct, .slice A3 n3 c3] 24, .map #[] 0])
  generalize allocs w [.cells #[.int .i64 K, .slice A1 n1 c1, .slice A2 n2 c2, .int .i64 R, .int .i64 Ct, .slice A3 n3 c3] 24, .map #[] 0] = W0 at *
  have Hcon : Hid (W0.heap[w.heap.size]? = some (.cells #[.int .i64 K, .slice A1 n1 c1, .slice A2 n2 c2, .int .i64 R, .int .i64 Ct, .slice A3 n3 c3] 24)) := F0
  have HM0 : Hid (Cnt W0 (w.heap.size + 1) 0 []) := Cnt.of_heap F1
  clear HF F0 F1 hmm
  go_loopw [14] (fun u wr => ∃ i : Nat, i ≤ n1 ∧ u = .int .i64 i ∧ Hid (Cnt wr (w.heap.size + 1) (64 * i) (allU C ds i)) ∧ Hid (wipedB C ds i = false) ∧ Hid (KeptBut (w.heap.size + 1) W0 wr)) (fun u _ => n1 - (intOf u).toNat)
  case atStart => exact ⟨0, Nat.zero_le _, rfl, HM0.out, rfl, KeptBut.refl _ _⟩
  case round =>
    obtain ⟨i, hi, rfl, HMi, HWi, Hki⟩ := hrel
    obtain ⟨wi, hwi⟩ : ∃ wi : World, wi = wr := ⟨_, rfl⟩
    subst hwi
    have HKi := Lib.hid (((KeptBut.of HK0.out _).then Hki.out).kept (Nat.le_succ _))
    by_cases hlt : i < n1
    · obtain ⟨av, hav, hbv⟩ := (HC.out.vars.kept HKi.out).addr (by omega)
      subst hav
      obtain ⟨v, Hv1, hcv, _, _⟩ := (HC.out.vars.kept HKi.out).named i hlt
      obtain ⟨hv0, hv1⟩ := varsOk_rng Hvo.out (i := i) (by have := Hl1.out; omega)
      rw [Hv1.out] at hv0 hv1
      obtain ⟨p, rfl⟩ := Int.eq_ofNat_of_zero_le hv0
      have hpn : p < n := by omega
      obtain ⟨al, hal, hbal⟩ := (HS.out.kept HKi.out).addr (by omega)
      subst hal
      obtain ⟨xs, L, B, m, cB, Hd, hc1, hc2, HI, hL⟩ := (HS.out.kept HKi.out).named p hpn
      have Hleft : Hid (leftOf C ds i = listB xs L) := by show _ = _; unfold leftOf; rw [Hv1.out, Int.toNat_natCast, Hd.out]
      have HQs := Lib.hid (size_any B m cB L xs wi HI.out hL)
      have HL := Lib.hid hL
      have Hc1 := Lib.hid hc1
      have Hc2 := Lib.hid hc2
      rcases Nat.eq_zero_or_pos (listB xs L).length with h0 | h0
      · have Hres : Hid (fewB C ds = true) := by
          show _ = _
          cases h : fewB C ds with
          | true => rfl
          | false =>
            have := (fewB_iff.1 h).1 i (by have := Hl1.out; omega)
            rw [Hleft.out] at this
            omega
        rw [h0] at HQs
        clear h0
        go_wp2_with fail
        refine HQs.out.mono ?_
        rintro e w1 ⟨rfl, hk1⟩
        have Hk1 := Lib.hid (HKi.out.then hk1)
        clear hk1
        go_wp2_with fail
        go_ret
        exact ⟨by rw [Hres.out]; rfl, Hk1.out⟩
      · have h64 := listB_length xs L
        have HWn : Hid (wipedB C ds (i + 1) = false) := wipedB_iff.2 fun j hj => by
          by_cases e : j = i
          · subst e; rw [Hleft.out]; exact h0
          · exact wipedB_iff.1 HWi.out j (by omega)
        have Hnx : Hid (allU C ds (i + 1) = addAll (allU C ds i) (listB xs L)) := by show _ = _; rw [allU_succ, Hleft.out]
        have Hrng := Lib.hid (listB_rng xs L)
        have HQl : Hid (∀ W, Kept wi W → Calls Tryd.prog 31 #[.agg #[.slice B m cB, .int .u64 L]] W (ListPost (listB xs L) W)) := fun W hW => dlist_any B m cB L xs W (HI.out.kept hW) HL.out (HT.out.kept (HKi.out.then hW))
        generalize listB xs L = ls at *
        have Hll : Hid (ls.length = ls.length) := rfl
        generalize hq : ls.length = q at HQs h0 h64 Hll
        have Hq := Lib.hid hq
        clear hq Hll
        have hq0 : ((q : Int) == 0) = false := by simp; omega
        go_wp2_with fail
        refine HQs.out.mono ?_
        rintro e w1 ⟨rfl, hk1⟩
        have Hk1 := Lib.hid hk1
        clear hc1 hc2 hcv
        have hc1 := hk1.cellAt Hc1.out
        have hc2 := hk1.cellAt Hc2.out
        clear hk1 HQs
        go_wp2_with fail
        refine (HQl.out _ Hk1.out).mono ?_
        rintro e w2 ⟨A9, c9, rfl, hI9, hk9, hfr9⟩
        rw [Hq.out] at hI9 ⊢
        have hMlt : w.heap.size + 1 < wi.heap.size := by obtain ⟨D, f, ho, _⟩ := HMi.out; exact ho.lt
        have HI9 : Hid (∀ W, KeptBut (w.heap.size + 1) w2 W → Ints W A9 q ls) := fun W hW => hI9.keptBut hW fun a ha => by
          have h1 := hfr9 a ha
          have h2 := Hk1.out.size
          omega
        have Hk9 := Lib.hid (Hk1.out.then hk9)
        have HMs := Lib.hid (HMi.out.kept Hk9.out)
        have HBs := Lib.hid (Hki.out.then (KeptBut.of Hk9.out _))
        clear hI9 hk9 HQl hc1 hc2 hfr9
        go_wp2_with fail
        go_loopw [30] (fun u wq => ∃ k : Nat, k ≤ q ∧ u = .int .i64 k ∧ Hid (Cnt wq (w.heap.size + 1) (64 * i + k) (addAll (allU C ds i) (ls.take k))) ∧ Hid (KeptBut (w.heap.size + 1) W0 wq) ∧ Hid (Kept w wq) ∧ Hid (KeptBut (w.heap.size + 1) w2 wq)) (fun u _ => q - (intOf u).toNat)
        case atStart => exact ⟨0, Nat.zero_le _, rfl, HMs.out, HBs.out, HKi.out.then Hk9.out, KeptBut.refl _ _⟩
        case round =>
          obtain ⟨k, hk, rfl, HMk, HBk, HKk, HQk⟩ := hrel
          by_cases hltk : k < q
          · have hI := HI9.out _ HQk.out
            obtain ⟨b9, hb9, hbb⟩ := hI.addr (by omega)
            subst hb9
            obtain ⟨y, Hy, hcy, hy1, hy2⟩ := hI.named k hltk
            have Hadd : Hid (addAll (allU C ds i) (ls.take (k + 1)) = addB (addAll (allU C ds i) (ls.take k)) y) := by
              show _ = _
              rw [take_succ_getD (by have := Hq.out; omega) Hy.out, addAll_snoc]
            obtain ⟨D, f, hown, ht, hD, hU, hs⟩ := HMk.out
            have hfy := (hD y).1
            have hyr : -9223372036854775808 ≤ y ∧ y ≤ 9223372036854775807 := ⟨hy1, hy2⟩
            have hkey := keyI hyr
            have hw : IntKind.i64.wrap ((f y : Int) + 1) = (f y : Int) + 1 := by
              unfold IntKind.wrap
              simp [IntKind.signed, IntKind.bits]
              omega
            have Ht := Lib.hid ht
            have HD := Lib.hid hD
            have HU := Lib.hid hU
            have Hs := Lib.hid hs
            have HO := Lib.hid hown
            clear hI ht hD hU hs
            go_wp2_with (first
              | (at_lookup; refine wpList_lookup_own_int _ rfl _ _ 52 rfl 3 3 .i64 lawInt Tryd.underlying52 Tryd.underlying3 (zeroInt _) (w.heap.size + 1) (64 * i + k) _ rfl hown _ _ rfl hkey ?_; intro c hat hwc; have hcf := hat.symm.trans ((HD.out y).2); simp at hcf; subst hcf; clear hat hwc)
              | (at_mapUpdate; refine wpList_mapUpdate_own _ rfl _ _ _ 52 rfl 3 3 lawInt Tryd.underlying52 (plainElem Tryd.prog 3) (w.heap.size + 1) (64 * i + k) D rfl hown (by unfold maxLen; omega) (.int .i64 y) _ _ rfl rfl hkey _ [] (plainElem_int Tryd.underlying3 (WalkArith.wf_i64 (by omega))) ?_; intro w3 hown3 hgrow3))
            go_roundw
            case rel => exact ⟨k + 1, by omega, by go_num, by rw [Hadd.out]; exact cnt_put HO.out Ht.out HD.out HU.out Hs.out hyr hown3, HBk.out.then (KeptBut.grown hgrow3), ((KeptBut.of HKk.out _).then (KeptBut.grown hgrow3)).kept (Nat.le_succ _), HQk.out.then (KeptBut.grown hgrow3)⟩
            case measure => simp [intOf]; omega
          · have e : k = q := by omega
            subst e
            have HMe : Hid (Cnt wr (w.heap.size + 1) (64 * (i + 1)) (allU C ds (i + 1))) := by
              show Cnt _ _ _ _
              rw [Hnx.out]
              have h := HMk.out
              rw [List.take_of_length_le (by have := Hq.out; omega)] at h
              exact h.mono (by omega)
            clear HMk
            go_wp2_with fail
            go_roundw
            case rel => exact ⟨i + 1, by omega, by go_num, HMe.out, HWn.out, HBk.out⟩
            case measure => simp [intOf]; omega
    · have e : i = n1 := by omega
      subst e
      have hb := Hki.out.heapAt Hcon.out (by omega)
      have c1' := cell_at hb 1
      simp only [List.getElem?_toArray, List.getElem?_cons_zero, List.getElem?_cons_succ] at c1'
      have hlb : w.heap.size < wi.heap.size := lt_at hb
      obtain ⟨D, f, hown, ht, hD, hU, hs⟩ := HMi.out
      have Hsz := Lib.hid hs
      clear hb hD hU ht
      go_wp2_with (first | (at_len; refine wpList_len_own _ rfl _ 52 rfl 3 3 Tryd.underlying52 _ (w.heap.size + 1) _ D rfl hown ?_))
      go_ret
      refine ⟨ret_bool ?_, HKi.out⟩
      unfold fewB
      rw [Hl1.out, HWi.out]
      simp
end Go.Proofs.YtjmegicopdbkdaaDoor

set_option maxHeartbeats 1000000
set_option maxRecDepth 10000
namespace Go.Proofs.YtjmegicopdbkdaaDoor
open Go Go.RowKit Go.Maps Pl

/-- What is kept behind the first ones of a list. -/
def pk (g : Int → Bool) (l : List Int) (x : Int) : Bool := l.all fun v => x != v || g v
theorem pk_nil (g : Int → Bool) (d : DomB) (hm : mayB d.1 d.2 = true) : keepD (pk g []) d = d := keepD_all hm (fun _ _ => rfl)
theorem pk_yes {g : Int → Bool} {l : List Int} {v : Int} (hv : g v = true) : pk g (l ++ [v]) = pk g l := by
  funext x; unfold pk; rw [List.all_append]; simp [hv]
theorem pk_no {g : Int → Bool} {l : List Int} {v : Int} (hv : g v = false) (d : DomB) : keepD (fun x => x != v) (keepD (pk g l) d) = keepD (pk g (l ++ [v])) d := by
  rw [keepD_keepD]
  congr 1
  funext x; unfold pk; rw [List.all_append]; simp [hv]
theorem pk_all {g : Int → Bool} {d : DomB} (hm : mayB d.1 d.2 = true) : keepD (pk g (listB d.1 d.2)) d = keepD g d := by
  refine keepD_congr hm fun v hv => ?_
  unfold pk
  rw [Bool.eq_iff_iff, List.all_eq_true]
  constructor
  · intro h
    simpa using h v hv
  · intro h u _
    by_cases e : v = u
    · subst e; simp [h]
    · simp [e]

end Go.Proofs.YtjmegicopdbkdaaDoor

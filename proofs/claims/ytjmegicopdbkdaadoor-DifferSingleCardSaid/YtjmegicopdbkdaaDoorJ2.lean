/-
  Contracts and plain laws that the card rests on, part 2.
-/
import Derived.Shelf.Spec.TrailingZeros
import Derived.Ground.Names7Prog
import Derived.Shelf.Slices.Turned
import Derived.Ground.Names2Prog
import Derived.Shelf.Slices.Clone
import Derived.Shelf.Slices.SearchI
import Derived.Shelf.Slices.Empties
import Derived.Ground.SlgnProg
import Derived.Shelf.SlicesE.Clone
import Derived.Test.YtjmegicopdbkdaaDoorProg
import Derived.Test.YtjmegicopdbkdaaDoorJ1
import Derived.Lib.BitFns
import Derived.Test.YtjmegicopdbkdaaDoorRows
import Derived.ProofKit
import Derived.LaidMore
import Derived.OpenShut
import Derived.Stop.Joined
namespace Go.Proofs
open Go.Shelf
def Tryd.laysTz_ren : Go.Shelf.Ren := ⟨fun | 29 => 93 | n => n, fun | 22 => 45 | 3 => 3 | 4 => 4 | 25 => 95 | 54 => 108 | 0 => 0 | 5 => 5 | n => n, fun | 1 => 0 | n => n⟩
theorem Tryd.laysTz : Go.Proofs.Lays7.n29 Tryd.prog Tryd.laysTz_ren := {
  mixed := by kernel_rfl
  f29 := Tryd.func93.trans (congrArg some (by kernel_rfl))
  t0 := Tryd.underlying0
  a0 := Tryd.isAgg0
  z0 := Tryd.sizeOf0
  v0 := Tryd.zeroValue0
  i0 := by kernel_rfl
  t3 := Tryd.underlying3
  a3 := Tryd.isAgg3
  z3 := Tryd.sizeOf3
  v3 := Tryd.zeroValue3
  i3 := by kernel_rfl
  t4 := Tryd.underlying4
  a4 := Tryd.isAgg4
  z4 := Tryd.sizeOf4
  v4 := Tryd.zeroValue4
  i4 := by kernel_rfl
  t5 := Tryd.underlying5
  a5 := Tryd.isAgg5
  z5 := Tryd.sizeOf5
  v5 := Tryd.zeroValue5
  i5 := by kernel_rfl
  t22 := Tryd.underlying45
  a22 := Tryd.isAgg45
  z22 := Tryd.sizeOf45
  v22 := Tryd.zeroValue45
  i22 := by kernel_rfl
  t25 := Tryd.underlying95
  a25 := Tryd.isAgg95
  z25 := Tryd.sizeOf95
  v25 := Tryd.zeroValue95
  i25 := by kernel_rfl
  t54 := Tryd.underlying108
  a54 := Tryd.isAgg108
  z54 := Tryd.sizeOf108
  g1 := by kernel_rfl }
open Go.RowKit Go.Lib in
theorem Tryd.bits_TrailingZeros64 (x : Nat) (hx : x < 18446744073709551616) (w : World) (hT : x ≠ 0 → TabAt 0 Lib.deBruijn64tab w) :
    Calls Tryd.prog 93 #[.int .u64 x] w fun e w' => e = .returned (.int .i64 (Lib.ctz 64 x)) ∧ w' = w := Any7.bits_TrailingZeros64 Tryd.laysTz x hx w hT
def Tryd.lays108_ren : Go.Shelf.Ren := ⟨fun | 108 => 94 | n => n, fun | 28 => 22 | 3 => 3 | 0 => 0 | 4 => 4 | n => n, fun | n => n⟩
theorem Tryd.lays108 : Go.Proofs.Lays.n108 Tryd.prog Tryd.lays108_ren := {
  mixed := by kernel_rfl
  f108 := Tryd.func94.trans (congrArg some (by kernel_rfl))
  t0 := Tryd.underlying0
  a0 := Tryd.isAgg0
  z0 := Tryd.sizeOf0
  v0 := Tryd.zeroValue0
  t3 := Tryd.underlying3
  a3 := Tryd.isAgg3
  z3 := Tryd.sizeOf3
  v3 := Tryd.zeroValue3
  t4 := Tryd.underlying4
  a4 := Tryd.isAgg4
  z4 := Tryd.sizeOf4
  v4 := Tryd.zeroValue4
  t28 := Tryd.underlying22
  a28 := Tryd.isAgg22
  z28 := Tryd.sizeOf22
  v28 := Tryd.zeroValue22 }
open Go.Lib in
/-- slices.Index at []int: "Index returns the index of the first occurrence of v in s, or -1 if not present.": IT RETURNS 'Lib.idxOf (the elements) v'; the world is as it was. 'zs': what the cells behind the slice's address hold (its spare capacity too, if you have it); 'zs.take n': its elements. (LAID: no walk: one application.) -/
theorem Tryd.slices_Index_int (b off n c : Nat) (zs : List Int) (x : Int) (w : World) (hz : n ≤ zs.length) (hbig : n ≤ 9223372036854775807) (hc : ∀ j, j < zs.length → w.cell? ⟨b, off + j, none⟩ = some (.int .i64 (zs.getD j 0))) :
    Calls Tryd.prog 94 #[.slice (some ⟨b, off, none⟩) n c, .int .i64 x] w fun e w' => e = .returned (.int .i64 (Lib.idxOf (zs.take n) x)) ∧ w' = w := Any.slices_Index_int Tryd.lays108 b off n c zs x w hz hbig hc
open Go.Lib in
/-- The same at a slice of length 0, a nil one too: no cell is known, none is asked for. (LAID: no walk: one application.) -/
theorem Tryd.slices_Index_int_empty (a : Option Addr) (c : Nat) (x : Int) (w : World) :
    Calls Tryd.prog 94 #[.slice a 0 c, .int .i64 x] w fun e w' => e = .returned (.int .i64 (Lib.idxOf [] x)) ∧ w' = w := Any.slices_Index_int_empty Tryd.lays108 a c x w
def Tryd.lays107_ren : Go.Shelf.Ren := ⟨fun | 107 => 88 | 108 => 94 | n => n, fun | 28 => 22 | 3 => 3 | 4 => 4 | 0 => 0 | n => n, fun | n => n⟩
theorem Tryd.lays107 : Go.Proofs.Lays.n107 Tryd.prog Tryd.lays107_ren := {
  mixed := by kernel_rfl
  f107 := Tryd.func88.trans (congrArg some (by kernel_rfl))
  f108 := Tryd.func94.trans (congrArg some (by kernel_rfl))
  t0 := Tryd.underlying0
  a0 := Tryd.isAgg0
  z0 := Tryd.sizeOf0
  v0 := Tryd.zeroValue0
  t3 := Tryd.underlying3
  a3 := Tryd.isAgg3
  z3 := Tryd.sizeOf3
  v3 := Tryd.zeroValue3
  t4 := Tryd.underlying4
  a4 := Tryd.isAgg4
  z4 := Tryd.sizeOf4
  v4 := Tryd.zeroValue4
  t28 := Tryd.underlying22
  a28 := Tryd.isAgg22
  z28 := Tryd.sizeOf22
  v28 := Tryd.zeroValue22 }
open Go.Lib in
/-- slices.Contains at []int: "Contains reports whether v is present in s.": IT RETURNS 'elements.contains v'; the world is as it was. ITS CALLEE slices.Index IS MET BY ITS OWN CONTRACT OFF THE SHELF (lay that first): no loop is walked here. (LAID: no walk: one application.) -/
theorem Tryd.slices_Contains_int (b off n c : Nat) (zs : List Int) (x : Int) (w : World) (hz : n ≤ zs.length) (hbig : n ≤ 9223372036854775807) (hc : ∀ j, j < zs.length → w.cell? ⟨b, off + j, none⟩ = some (.int .i64 (zs.getD j 0))) :
    Calls Tryd.prog 88 #[.slice (some ⟨b, off, none⟩) n c, .int .i64 x] w fun e w' => e = .returned (.bool ((zs.take n).contains x)) ∧ w' = w := Any.slices_Contains_int Tryd.lays107 b off n c zs x w hz hbig hc
open Go.Lib in
/-- The same at a slice of length 0, a nil one too. (LAID: no walk: one application.) -/
theorem Tryd.slices_Contains_int_empty (a : Option Addr) (c : Nat) (x : Int) (w : World) :
    Calls Tryd.prog 88 #[.slice a 0 c, .int .i64 x] w fun e w' => e = .returned (.bool false) ∧ w' = w := Any.slices_Contains_int_empty Tryd.lays107 a c x w
def Tryd.laysNm215_ren : Go.Shelf.Ren := ⟨fun | 15 => 29 | n => n, fun | 22 => 22 | 3 => 3 | 4 => 4 | n => n, fun | n => n⟩
theorem Tryd.laysNm215 : Go.Proofs.Lays2.n15 Tryd.prog Tryd.laysNm215_ren := {
  mixed := by kernel_rfl
  f15 := Tryd.func29.trans (congrArg some (by kernel_rfl))
  t3 := Tryd.underlying3
  a3 := Tryd.isAgg3
  z3 := Tryd.sizeOf3
  v3 := Tryd.zeroValue3
  t4 := Tryd.underlying4
  a4 := Tryd.isAgg4
  z4 := Tryd.sizeOf4
  v4 := Tryd.zeroValue4
  t22 := Tryd.underlying22
  a22 := Tryd.isAgg22
  z22 := Tryd.sizeOf22
  v22 := Tryd.zeroValue22
  i3 := by kernel_rfl }
open Go.RowKit Go.Lib in
/-- slices.Clone at []int: "Clone returns a copy of the slice. The elements are copied using assignment, so this is a shallow clone. The result may have additional unused capacity. The result preserves the nilness of s.": OF A SLICE THAT IS NOT nil IT RETURNS A SLICE THAT IS NOT nil, OF THE SAME ELEMENTS, IN MEMORY OF THE CALL's OWN: in the how-to's words (6f): 'w'.ownsRow B e 1 v' n cells': v' begins at the head of a row among the blocks from B on (B: the heap's size at the call), not frozen, whose first cells are the elements · 'Below B w w'': below B all is as it was. The capacity is whatever the run-time gives. 'zs': what the cells behind the slice's address hold; 'zs.take n': its elements. (LAID: no walk: one application.) -/
theorem Tryd.slices_Clone_int (b off n c : Nat) (zs : List Int) (w : World) (hz : n ≤ zs.length) (hbig : n * 8 ≤ 140737488355328) (hc : ∀ j, j < zs.length → w.cell? ⟨b, off + j, none⟩ = some (.int .i64 (zs.getD j 0))) :
    Calls Tryd.prog 29 #[.slice (some ⟨b, off, none⟩) n c] w fun e w' => ∃ v', e = .returned v' ∧ w'.ownsRow w.heap.size 3 1 v' n ((zs.take n).map (Value.int .i64)) ∧ v' ≠ .slice none 0 0 ∧ Below w.heap.size w w' := Any.slices_Clone_int Tryd.laysNm215 b off n c zs w hz hbig hc
open Go.RowKit Go.Lib in
/-- The same at nil: nil comes back; the world is as it was. (LAID: no walk: one application.) -/
theorem Tryd.slices_Clone_int_nil (n c : Nat) (w : World) :
    Calls Tryd.prog 29 #[.slice none n c] w fun e w' => e = .returned (.slice none 0 0) ∧ w' = w := Any.slices_Clone_int_nil Tryd.laysNm215 n c w
open Go.RowKit Go.Lib in
/-- The same at a slice of length 0 that is not nil, WHATEVER ITS ADDRESS (no cell is asked for): a slice that is not nil and owns nothing comes back. (LAID: no walk: one application.) -/
theorem Tryd.slices_Clone_int_zero (a : Addr) (c : Nat) (w : World) :
    Calls Tryd.prog 29 #[.slice (some a) 0 c] w fun e w' => ∃ v', e = .returned v' ∧ w'.ownsRow w.heap.size 3 1 v' 0 [] ∧ v' ≠ .slice none 0 0 ∧ Below w.heap.size w w' := Any.slices_Clone_int_zero Tryd.laysNm215 a c w
def Tryd.laysNm237_ren : Go.Shelf.Ren := ⟨fun | 37 => 90 | n => n, fun | 3 => 3 | 4 => 4 | n => n, fun | n => n⟩
theorem Tryd.laysNm237 : Go.Proofs.Lays2.n37 Tryd.prog Tryd.laysNm237_ren := {
  mixed := by kernel_rfl
  f37 := Tryd.func90.trans (congrArg some (by kernel_rfl))
  t3 := Tryd.underlying3
  a3 := Tryd.isAgg3
  z3 := Tryd.sizeOf3
  v3 := Tryd.zeroValue3
  t4 := Tryd.underlying4
  a4 := Tryd.isAgg4
  z4 := Tryd.sizeOf4
  v4 := Tryd.zeroValue4 }
open Go.RowKit Go.Lib in
/-- cmp.isNaN[int]: 'x != x': false. (LAID: no walk: one application.) -/
theorem Tryd.cmp_isNaN_int2 (x : Int) (w : World) :
    Calls Tryd.prog 90 #[.int .i64 x] w fun e w' => e = .returned (.bool false) ∧ w' = w := Any.cmp_isNaN_int2 Tryd.laysNm237 x w
def Tryd.laysNm232_ren : Go.Shelf.Ren := ⟨fun | 32 => 77 | n => n, fun | 3 => 3 | 4 => 4 | n => n, fun | n => n⟩
theorem Tryd.laysNm232 : Go.Proofs.Lays2.n32 Tryd.prog Tryd.laysNm232_ren := {
  mixed := by kernel_rfl
  f32 := Tryd.func77.trans (congrArg some (by kernel_rfl))
  t3 := Tryd.underlying3
  a3 := Tryd.isAgg3
  z3 := Tryd.sizeOf3
  v3 := Tryd.zeroValue3
  t4 := Tryd.underlying4
  a4 := Tryd.isAgg4
  z4 := Tryd.sizeOf4
  v4 := Tryd.zeroValue4 }
open Go.RowKit Go.Lib in
/-- slices.isNaN[int]: 'x != x': false. (LAID: no walk: one application.) -/
theorem Tryd.slices_isNaN_int2 (x : Int) (w : World) :
    Calls Tryd.prog 77 #[.int .i64 x] w fun e w' => e = .returned (.bool false) ∧ w' = w := Any.slices_isNaN_int2 Tryd.laysNm232 x w
def Tryd.laysNm231_ren : Go.Shelf.Ren := ⟨fun | 31 => 76 | 37 => 90 | n => n, fun | 3 => 3 | 4 => 4 | n => n, fun | n => n⟩
theorem Tryd.laysNm231 : Go.Proofs.Lays2.n31 Tryd.prog Tryd.laysNm231_ren := {
  mixed := by kernel_rfl
  f31 := Tryd.func76.trans (congrArg some (by kernel_rfl))
  f37 := Tryd.func90.trans (congrArg some (by kernel_rfl))
  t3 := Tryd.underlying3
  a3 := Tryd.isAgg3
  z3 := Tryd.sizeOf3
  v3 := Tryd.zeroValue3
  t4 := Tryd.underlying4
  a4 := Tryd.isAgg4
  z4 := Tryd.sizeOf4
  v4 := Tryd.zeroValue4 }
open Go.RowKit Go.Lib in
/-- cmp.Less[int]: "Less reports whether x is less than y.": 'x < y'; the world is as it was. (LAID: no walk: one application.) -/
theorem Tryd.cmp_Less_int2 (x y : Int) (w : World) :
    Calls Tryd.prog 76 #[.int .i64 x, .int .i64 y] w fun e w' => e = .returned (.bool (decide (x < y))) ∧ w' = w := Any.cmp_Less_int2 Tryd.laysNm231 x y w
def Tryd.laysNm225_ren : Go.Shelf.Ren := ⟨fun | 25 => 60 | 31 => 76 | 32 => 77 | 37 => 90 | n => n, fun | 22 => 22 | 3 => 3 | 4 => 4 | 40 => 95 | 0 => 0 | n => n, fun | n => n⟩
theorem Tryd.laysNm225 : Go.Proofs.Lays2.n25 Tryd.prog Tryd.laysNm225_ren := {
  mixed := by kernel_rfl
  f25 := Tryd.func60.trans (congrArg some (by kernel_rfl))
  f31 := Tryd.func76.trans (congrArg some (by kernel_rfl))
  f32 := Tryd.func77.trans (congrArg some (by kernel_rfl))
  f37 := Tryd.func90.trans (congrArg some (by kernel_rfl))
  t0 := Tryd.underlying0
  a0 := Tryd.isAgg0
  z0 := Tryd.sizeOf0
  v0 := Tryd.zeroValue0
  t3 := Tryd.underlying3
  a3 := Tryd.isAgg3
  z3 := Tryd.sizeOf3
  v3 := Tryd.zeroValue3
  t4 := Tryd.underlying4
  a4 := Tryd.isAgg4
  z4 := Tryd.sizeOf4
  v4 := Tryd.zeroValue4
  t22 := Tryd.underlying22
  a22 := Tryd.isAgg22
  z22 := Tryd.sizeOf22
  v22 := Tryd.zeroValue22
  t40 := Tryd.underlying95
  a40 := Tryd.isAgg95
  z40 := Tryd.sizeOf95
  v40 := Tryd.zeroValue95 }
open Go.RowKit Go.Lib in
/-- slices.BinarySearch at []int: "BinarySearch searches for target in a sorted slice and returns the earliest position where target is found, or the position where target would appear in the sort order; it also returns a bool saying whether the target is really found in the slice. The slice must be sorted in increasing order.": OF A SORTED SLICE IT RETURNS how many elements are less than the target, and whether the target is among the elements; the world is as it was but for the count of draws. 'zs': what the cells behind the slice's address hold; 'zs.take n': its elements. (Of a slice that is not sorted: no contract here.) (LAID: no walk: one application.) -/
theorem Tryd.slices_BinarySearch_int (b off n c : Nat) (zs : List Int) (x : Int) (w : World) (hz : n ≤ zs.length) (hbig : n < 4611686018427387904) (hc : ∀ j, j < zs.length → w.cell? ⟨b, off + j, none⟩ = some (.int .i64 (zs.getD j 0))) (hs : (zs.take n).Pairwise (· ≤ ·)) :
    Calls Tryd.prog 60 #[.slice (some ⟨b, off, none⟩) n c, .int .i64 x] w fun e w' => e = .returned (.tuple #[.int .i64 ((zs.take n).countP (· < x) : Nat), .bool ((zs.take n).contains x)]) ∧ ∃ q, w' = w.drewN q := Any.slices_BinarySearch_int Tryd.laysNm225 b off n c zs x w hz hbig hc hs
open Go.RowKit Go.Lib in
/-- slices.BinarySearch at []int of no element: position 0, not found; the world is as it was. (LAID: no walk: one application.) -/
theorem Tryd.slices_BinarySearch_int_empty (a : Option Addr) (c : Nat) (x : Int) (w : World) :
    Calls Tryd.prog 60 #[.slice a 0 c, .int .i64 x] w fun e w' => e = .returned (.tuple #[.int .i64 0, .bool false]) ∧ w' = w := Any.slices_BinarySearch_int_empty Tryd.laysNm225 a c x w
def Tryd.laysSlE041_f29_ren : Go.Shelf.Ren := ⟨fun | 41 => 29 | n => n, fun | 22 => 22 | 23 => 3 | 4 => 4 | n => n, fun | n => n⟩
theorem Tryd.laysSlE041_f29 : Go.Proofs.SlLaysE0.n41 Tryd.prog Tryd.laysSlE041_f29_ren := {
  mixed := by kernel_rfl
  f41 := ⟨Tryd.f29.name, by decide, Tryd.func29.trans (congrArg some (by kernel_rfl))⟩
  t4 := Tryd.underlying4
  a4 := Tryd.isAgg4
  z4 := Tryd.sizeOf4
  v4 := Tryd.zeroValue4
  t22 := Tryd.underlying22
  a22 := Tryd.isAgg22
  z22 := Tryd.sizeOf22
  v22 := Tryd.zeroValue22 }
open Go.RowKit Go.Lib in
/-- slices.Clone: "Clone returns a copy of the slice. The elements are copied using assignment, so this is a shallow clone. The result may have additional unused capacity. The result preserves the nilness of s.": OF A SLICE THAT IS NOT nil IT RETURNS A SLICE THAT IS NOT nil, OF THE SAME CELLS, IN MEMORY OF THE CALL's OWN ('ownsRow': the how-to's 6f); below the heap's size at the call all is as it was. (LAID AT THE INSTANCE 'slices.Clone[[]int,int]': no walk: one application.) -/
theorem Tryd.slices_Clone (i0 : TypeInfo) (z : Value) (size bytes : Nat) (hi : Tryd.prog.info? 3 = some i0) (hz0 : i0.zero = some z) (hz1 : i0.size = size) (hz2 : i0.bytes = bytes) (hzs : z.cells.size = size) (hsz : 0 < size) (z23 : ∀ w, (Go.sizeOf 3).run Tryd.prog w = .ok size w) (b off n c : Nat) (news : List Value) (w : World) (hl : news.length = n * size) (hn : n ≤ maxLen) (hbig : n * bytes ≤ 140737488355328) (hc : ∀ j u, news[j]? = some u → w.cell? ⟨b, off + j, none⟩ = some u) (h1 : ∀ u ∈ news, u.oneCell' = true) :
    Calls Tryd.prog 29 #[.slice (some ⟨b, off, none⟩) n c] w fun e w' => ∃ v', e = .returned v' ∧ w'.ownsRow w.heap.size 3 size v' n news ∧ v' ≠ .slice none 0 0 ∧ Below w.heap.size w w' := AnyE.slices_Clone Tryd.laysSlE041_f29 i0 z size bytes hi hz0 hz1 hz2 hzs hsz z23 b off n c news w hl hn hbig hc h1
open Go.RowKit Go.Lib in
/-- The same at nil: nil comes back; the world is as it was; nothing is asked of the element's type. (LAID AT THE INSTANCE 'slices.Clone[[]int,int]': no walk: one application.) -/
theorem Tryd.slices_Clone_nil (n c : Nat) (w : World) :
    Calls Tryd.prog 29 #[.slice none n c] w fun e w' => e = .returned (.slice none 0 0) ∧ w' = w := AnyE.slices_Clone_nil Tryd.laysSlE041_f29 n c w
end Go.Proofs

set_option maxHeartbeats 400000
set_option maxRecDepth 10000
namespace Go.Proofs.YtjmegicopdbkdaaDoor
open Go Go.RowKit Pl

/-- The library's table lies as its initialiser lays it. -/
def Tab (w : World) : Prop := TabAt 0 Lib.deBruijn64tab w
theorem Tab.kept {w w' : World} (h : Tab w) (hk : Kept w w') : Tab w' := fun j hj => hk.cellAt (h j hj)

/-- The least one; -1, if there is none. -/
def lo (b : Nat) : Int := if b = 0 then -1 else (Lib.ctz 64 b : Nat)

theorem least_any (b : Nat) (w : World) (hb : b < 2 ^ 64) (hT : Tab w) :
    Calls Tryd.prog 87 #[.int .u64 b] w fun e w' => e = .returned (.int .i64 (lo b)) ∧ w = w' := by
  by_cases h0 : b = 0
  · subst h0
    go_enter Tryd.func87, Tryd.ntmps87
    go_wp2_with fail
    go_ret
    exact ⟨rfl, rfl⟩
  · have hz : ((b : Int) == 0) = false := by simp; omega
    have e : lo b = (Lib.ctz 64 b : Nat) := if_neg h0
    rw [e]
    have HT := Lib.hid hT
    clear hT e h0
    go_enter Tryd.func87, Tryd.ntmps87
    go_wp2_with (go_at_call 93; refine (Tryd.bits_TrailingZeros64 b hb _ (fun _ => HT.out)).mono ?_; rintro e w' ⟨rfl, rfl⟩)
    go_ret
    exact ⟨rfl, rfl⟩

theorem bitLenAux_le : ∀ (f x : Nat), Lib.bitLenAux f x ≤ f
  | 0, _ => by simp [Lib.bitLenAux]
  | f + 1, x => by
    have := bitLenAux_le f (x / 2)
    simp only [Lib.bitLenAux]
    split <;> omega
theorem bitLen_le (b : Nat) : Lib.bitLen b ≤ 64 := bitLenAux_le 64 b

theorem first_quiet (n : Int) (w : World) :
    Calls Tryd.prog 59 #[.int .i64 n] w fun e w' => e = .returned (.int .u64 (fst n.toNat : Nat)) ∧ w = w' := by
  go_enter Tryd.func59, Tryd.ntmps59
  go_wp2
  · go_ret
    have h : n ≤ 0 := by assumption
    have e : n.toNat = 0 := by omega
    exact ⟨ret_u64 (by rw [e]; rfl), rfl⟩
  · go_ret
    have h : 64 ≤ n := by assumption
    exact ⟨ret_u64 (by rw [fst_big (by omega)]; rfl), rfl⟩
  · go_ret
    have h : n < 64 := by assumption
    exact ⟨ret_u64 (wrap_pow (by omega)), rfl⟩

/-- All from low to high, of 0 to 63. -/
def btw (low high : Int) : Nat := mkSet (fun k => decide (low ≤ (k : Int)) && decide ((k : Int) ≤ high)) 64

theorem less_fst_fst (a b : Nat) : less (fst a) (fst b) = mkSet (fun k => decide (k < a) && !decide (k < b)) 64 := by
  rw [less_eq (fst_lt a) (fst_lt b)]
  refine mkSet_congr fun k hk => ?_
  simp [testBit_fst, hk]

/-- The set of those of a list that are from 0 to 63. -/
def ofL (l : List Int) : Nat := mkSet (fun k => l.contains (k : Int)) 64
theorem ofL_lt (l : List Int) : ofL l < 2 ^ 64 := mkSet_lt _ _
theorem ofL_snoc_in {l : List Int} {k : Nat} (hk : k < 64) : ofL (l ++ [(k : Int)]) = ofL l ||| 2 ^ k := by
  apply Nat.eq_of_testBit_eq
  intro i
  rw [Nat.testBit_or, ofL, ofL, testBit_mkSet, testBit_mkSet, Nat.testBit_two_pow]
  by_cases hi : i < 64
  · rw [Bool.eq_iff_iff]
    by_cases e : k = i
    · simp [hi, e]
    · simp [hi, e]
      intro h
      omega
  · have : ¬ k = i := by omega
    simp [hi, this]
theorem ofL_snoc_out {l : List Int} {x : Int} (hx : x < 0 ∨ 63 < x) : ofL (l ++ [x]) = ofL l := by
  refine mkSet_congr fun k hk => ?_
  rw [Bool.eq_iff_iff]
  simp
  omega

theorem take_succ_getD {l : List Int} {k : Nat} {x : Int} (hk : k < l.length) (hx : l.getD k 0 = x) : l.take (k + 1) = l.take k ++ [x] := by
  rw [List.take_add_one, List.getElem?_eq_getElem hk]
  rw [List.getD_eq_getElem?_getD, List.getElem?_eq_getElem hk] at hx
  have hx' : l[k] = x := by simpa using hx
  rw [hx']
  rfl

theorem or_pow {b k : Nat} (hb : b < 2 ^ 64) (hk : k < 64) : bits BinOp.or IntKind.u64 (b : Int) (IntKind.u64.wrap (2 ^ k)) = ((b ||| 2 ^ k : Nat) : Int) := by
  have h1 : (2 : Nat) ^ k < 2 ^ 64 := Nat.pow_lt_pow_right (by decide) hk
  have e : IntKind.u64.wrap (2 ^ k) = ((2 ^ k : Nat) : Int) := by
    have e : ((2 : Int) ^ k) = ((2 ^ k : Nat) : Int) := by simp
    rw [e, IntKind.wrap_u64]
    generalize (2 : Nat) ^ k = p at *
    omega
  rw [e]
  exact u64_or_nat b (2 ^ k) hb h1

theorem of_any (A : Option Addr) (n c : Nat) (l : List Int) (w : World) (hl : Ints w A n l) :
    Calls Tryd.prog 81 #[.slice A n c] w fun e w' => e = .returned (.int .u64 (ofL l : Nat)) ∧ w = w' := by
  have Hl := Lib.hid hl
  have hs1 := hl.small
  clear hl
  go_enter Tryd.func81, Tryd.ntmps81
  go_wp2
  go_loop [3, 8] (fun u v => ∃ k : Nat, k ≤ n ∧ v = .int .i64 k ∧ ∃ b : Nat, u = .int .u64 b ∧ Hid (b = ofL (l.take k))) (fun _ v => n - (intOf v).toNat)
  case atStart => exact ⟨0, Nat.zero_le _, rfl, 0, rfl, by show 0 = ofL []; decide⟩
  case round =>
    obtain ⟨k, hk, rfl, b, rfl, Hb⟩ := hrel
    by_cases hlt : k < n
    · obtain ⟨a, rfl, hba⟩ := Hl.out.addr (by omega)
      obtain ⟨x, Hx, hcx, hx1, hx2⟩ := Hl.out.named k hlt
      have hlen := Hl.out.len
      have ht := take_succ_getD (by omega) Hx.out
      by_cases hin : 0 ≤ x ∧ x < 64
      · obtain ⟨y, rfl⟩ := Int.eq_ofNat_of_zero_le hin.1
        have hy : y < 64 := by omega
        have ho := or_pow (b := b) (by rw [Hb.out]; exact ofL_lt _) hy
        have Hn : Hid (b ||| 2 ^ y = ofL (l.take (k + 1))) := by
          show b ||| 2 ^ y = ofL (l.take (k + 1))
          rw [ht, ofL_snoc_in hy, Hb.out]
        clear hlen ht hin
        generalize b ||| 2 ^ y = b2 at *
        go_wp2
        go_round
        case rel => exact ⟨k + 1, by omega, by go_num, b2, by simp [*], Hn⟩
        case measure => simp [intOf]; omega
      · have Hn : Hid (b = ofL (l.take (k + 1))) := by
          show b = ofL (l.take (k + 1))
          rw [ht, ofL_snoc_out (by omega), Hb.out]
        clear hlen ht
        by_cases h0 : 0 ≤ x
        · have h1 : ¬ x < 64 := fun h => hin ⟨h0, h⟩
          clear hin
          go_wp2
          go_round
          case rel => exact ⟨k + 1, by omega, by go_num, b, rfl, Hn⟩
          case measure => simp [intOf]; omega
        · clear hin
          go_wp2
          go_round
          case rel => exact ⟨k + 1, by omega, by go_num, b, rfl, Hn⟩
          case measure => simp [intOf]; omega
    · go_wp2
      go_ret
      have e : k = n := by omega
      rw [e] at Hb
      exact ⟨ret_u64 (by rw [Hb.out, ← Hl.out.len, List.take_length]), rfl⟩
end Go.Proofs.YtjmegicopdbkdaaDoor

namespace Go.Proofs.YtjmegicopdbkdaaDoor
open Go Go.ChangeShapes Go.WideShapes Go.ChangeAt Go.RowKit

abbrev laidL : List (String × DataW Unit) := [("math/bits.deBruijn64tab", Rows.laid_math_bits_deBruijn64tab)]
set_option maxRecDepth 100000 in
theorem door_met (os : Os) (args : Array Value) : laidMetH Tryd.prog laidL ((World.doorLaid Tryd.prog 400 os).forCall (fun _ _ => 0) ⟨#[], args, []⟩).memory :=
  laidMetH_of_parts3 (fuel := 8) (laidMet_of_run' 8 (by kernel_rfl) (by kernel_rfl)) (by kernel_rfl) (by kernel_rfl)
theorem laid_list : (Rows.laid_math_bits_deBruijn64tab : DataW Unit) = .agg (Lib.deBruijn64tab.map fun (n : Nat) => .lit (.int .u8 (n : Int))) := rfl
theorem tab_len : Lib.deBruijn64tab.length = 64 := rfl
set_option maxRecDepth 100000 in
theorem tab_of_laid {W : World} (h : laidMetH Tryd.prog laidL W) : Tab W := by
  rw [MakeChecks.laidMetH_plain _ _ _ (by kernel_rfl)] at h
  obtain ⟨ps, ⟨g, t, cs, fuel, p, q, hg, ht, hv, hd, _, _⟩, _, _⟩ := h
  obtain rfl := Option.some.inj ((show Tryd.prog.globalNamed "math/bits.deBruijn64tab" = some 0 by kernel_rfl).symm.trans hg)
  obtain rfl := Option.some.inj ((show (Tryd.prog.globals[0]?).map (·.type) = some 108 by kernel_rfl).symm.trans ht)
  have cu : Tryd.prog.cellsOf 5 = 1 := by kernel_rfl
  have ca : Tryd.prog.cellsOf 108 = 64 := by kernel_rfl
  obtain ⟨xs, m, _, ex, hlen, hl, hel⟩ := DataW.trod_array Tryd.underlying108 hd
  rw [ca] at hlen
  rw [laid_list] at ex
  have e3 := DataW.agg.inj (Prod.mk.inj ex).1
  intro j hj
  rw [tab_len] at hj
  have k := hel j hj
  rw [cu] at k
  have hx : xs[j]? = some xs[j] := List.getElem?_eq_getElem (by omega)
  rw [hx] at k
  obtain ⟨z, a, b, _⟩ := DataW.trod_int Tryd.underlying5 k
  have ej : (xs.map (·.1))[j]? = (Lib.deBruijn64tab.map fun (n : Nat) => (DataW.lit (.int .u8 (n : Int)) : DataW Unit))[j]? := by rw [e3]
  rw [List.getElem?_map, List.getElem?_map, hx, List.getElem?_eq_getElem (by rw [tab_len]; exact hj)] at ej
  simp only [Option.map_some, Option.some.injEq] at ej
  rw [b] at ej
  have ez : z = ((Lib.deBruijn64tab[j]'(by rw [tab_len]; exact hj) : Nat) : Int) := by simpa using ej
  rw [World.var?_cell (show Tryd.prog.globalNamed "math/bits.deBruijn64tab" = some 0 by kernel_rfl) hv j]
  have hc : cs[j]? = some (.int .u8 z) := by
    have h1 : (cs.toList.drop (j * 1)).take 1 = [.int .u8 z] := a
    rw [Nat.mul_one] at h1
    have h2 : (cs.toList.drop j)[0]? = some (.int .u8 z) := by
      have := congrArg (fun l => l[0]?) h1
      simpa [List.getElem?_take] using this
    rw [List.getElem?_drop] at h2
    simpa using h2
  rw [hc, ez]
  rw [List.getD_eq_getElem?_getD, List.getElem?_eq_getElem (by rw [tab_len]; exact hj)]
  rfl
end Go.Proofs.YtjmegicopdbkdaaDoor

namespace Go.Proofs.YtjmegicopdbkdaaDoor
namespace Pl

/-- A domain: its values, and which are left. -/
abbrev DomB := List Int × Nat

/-- What is left of a domain: those places for whose values f says yes. -/
@[irreducible] def keepL (f : Int → Bool) (d : DomB) : Nat := mkSet (fun k => d.2.testBit k && f (d.1.getD k 0)) 64
def keepD (f : Int → Bool) (d : DomB) : DomB := (d.1, keepL f d)
theorem keepD_fst (f : Int → Bool) (d : DomB) : (keepD f d).1 = d.1 := rfl
theorem keepD_lt (f : Int → Bool) (d : DomB) : (keepD f d).2 < 2 ^ 64 := by
  show keepL f d < _
  unfold keepL; exact mkSet_lt _ _
theorem testBit_keepD (f : Int → Bool) (d : DomB) (k : Nat) : (keepD f d).2.testBit k = (decide (k < 64) && (d.2.testBit k && f (d.1.getD k 0))) := by
  show (keepL f d).testBit k = _
  unfold keepL; exact testBit_mkSet _ _ _

theorem mayB_iff {d : DomB} : mayB d.1 d.2 = true ↔ d.1.length ≤ 64 ∧ d.2 < 2 ^ d.1.length ∧ okUpto d.1 d.1.length = true := by
  simp [mayB, and_assoc]

theorem may_bit {d : DomB} (h : mayB d.1 d.2 = true) {k : Nat} (hk : d.2.testBit k = true) : k < d.1.length ∧ k < 64 := by
  have h1 := mayB_lt h
  have h2 := mayB_len h
  by_cases hlt : k < d.1.length
  · exact ⟨hlt, by omega⟩
  · have h3 : 2 ^ d.1.length ≤ 2 ^ k := Nat.pow_le_pow_right (by decide) (by omega)
    rw [Nat.testBit_lt_two_pow (by omega)] at hk
    simp at hk

theorem keepD_may {f : Int → Bool} {d : DomB} (h : mayB d.1 d.2 = true) : mayB (keepD f d).1 (keepD f d).2 = true := by
  rw [mayB_iff] at *
  refine ⟨h.1, lt_of_testBit fun k hk => ?_, h.2.2⟩
  rw [testBit_keepD]
  have h3 : 2 ^ d.1.length ≤ 2 ^ k := Nat.pow_le_pow_right (by decide) hk
  rw [Nat.testBit_lt_two_pow (by have := h.2.1; omega)]
  simp

theorem mem_listB {d : DomB} {v : Int} : v ∈ listB d.1 d.2 ↔ mayB d.1 d.2 = true ∧ ∃ k, k < d.1.length ∧ d.2.testBit k = true ∧ d.1.getD k 0 = v := by
  unfold listB
  split
  · rename_i h
    unfold valsOf
    rw [List.mem_map]
    constructor
    · rintro ⟨x, hx, rfl⟩
      obtain ⟨k, rfl, _, hk⟩ := mem_elemsI.1 hx
      exact ⟨h, k, (may_bit h hk).1, hk, rfl⟩
    · rintro ⟨_, k, hk, hb, rfl⟩
      exact ⟨k, mem_elemsI.2 ⟨k, rfl, (may_bit h hb).2, hb⟩, rfl⟩
  · rename_i h
    simp [h]

theorem bit_mem {d : DomB} (h : mayB d.1 d.2 = true) {k : Nat} (hk : d.2.testBit k = true) : d.1.getD k 0 ∈ listB d.1 d.2 :=
  mem_listB.2 ⟨h, k, (may_bit h hk).1, hk, rfl⟩

theorem mem_keepD {f : Int → Bool} {d : DomB} (h : mayB d.1 d.2 = true) {v : Int} : v ∈ listB (keepD f d).1 (keepD f d).2 ↔ v ∈ listB d.1 d.2 ∧ f v = true := by
  rw [mem_listB, mem_listB]
  constructor
  · rintro ⟨_, k, hk, hb, rfl⟩
    rw [testBit_keepD] at hb
    simp only [Bool.and_eq_true] at hb
    exact ⟨⟨h, k, hk, hb.2.1, rfl⟩, hb.2.2⟩
  · rintro ⟨⟨_, k, hk, hb, rfl⟩, hf⟩
    refine ⟨keepD_may h, k, hk, ?_, rfl⟩
    rw [testBit_keepD]
    have := (may_bit h hb).2
    rw [hb, hf]; simp [this]

/-- What counts is what f says of the values that are left. -/
theorem keepD_congr {f g : Int → Bool} {d : DomB} (h : mayB d.1 d.2 = true) (hfg : ∀ v ∈ listB d.1 d.2, f v = g v) : keepD f d = keepD g d := by
  refine Prod.ext rfl ?_
  show keepL f d = keepL g d
  unfold keepL
  apply mkSet_congr
  intro k _
  cases hb : d.2.testBit k with
  | false => rfl
  | true => rw [Bool.true_and, Bool.true_and]; exact hfg _ (bit_mem h hb)
theorem keepD_all {f : Int → Bool} {d : DomB} (h : mayB d.1 d.2 = true) (hf : ∀ v ∈ listB d.1 d.2, f v = true) : keepD f d = d := by
  have hl : d.2 < 2 ^ 64 := Nat.lt_of_lt_of_le (mayB_lt h) (Nat.pow_le_pow_right (by decide) (mayB_len h))
  have : keepD f d = keepD (fun _ => true) d := keepD_congr h hf
  rw [this]
  refine Prod.ext rfl ?_
  show keepL _ d = d.2
  unfold keepL
  simp only [Bool.and_true]
  have e : (fun k => d.2.testBit k) = d.2.testBit := rfl
  rw [e, mkSet_testBit hl]
theorem keepD_keepD (f g : Int → Bool) (d : DomB) : keepD f (keepD g d) = keepD (fun x => g x && f x) d := by
  refine Prod.ext rfl ?_
  show keepL f (d.1, keepL g d) = keepL _ d
  unfold keepL
  apply mkSet_congr
  intro k hk
  rw [testBit_mkSet]
  simp [hk, Bool.and_assoc]

/-- The list of domains, of each of which some is kept. -/
def stepB (kp : Nat → Int → Bool) (ds : List DomB) : List DomB := (List.range ds.length).map fun i => keepD (kp i) (ds.getD i ([], 0))
theorem stepB_length (kp : Nat → Int → Bool) (ds : List DomB) : (stepB kp ds).length = ds.length := by simp [stepB]
theorem stepB_getD (kp : Nat → Int → Bool) (ds : List DomB) {i : Nat} (hi : i < ds.length) : (stepB kp ds).getD i ([], 0) = keepD (kp i) (ds.getD i ([], 0)) := by
  unfold stepB
  rw [List.getD_eq_getElem?_getD, List.getElem?_map, List.getElem?_range hi]
  rfl

/-- May each domain be? -/
def allMay (ds : List DomB) : Bool := ds.all fun d => mayB d.1 d.2
theorem allMay_at {ds : List DomB} (h : allMay ds = true) {i : Nat} (hi : i < ds.length) : mayB (ds.getD i ([], 0)).1 (ds.getD i ([], 0)).2 = true := by
  unfold allMay at h
  rw [List.all_eq_true] at h
  have : ds.getD i ([], 0) ∈ ds := by
    rw [List.getD_eq_getElem?_getD, List.getElem?_eq_getElem hi]
    exact List.getElem_mem hi
  exact h _ this

theorem ext_getD {us bs : List DomB} (hl : us.length = bs.length) (h : ∀ i, i < us.length → us.getD i ([], 0) = bs.getD i ([], 0)) : us = bs := by
  apply List.ext_getElem hl
  intro i h1 h2
  have := h i h1
  rw [List.getD_eq_getElem?_getD, List.getD_eq_getElem?_getD, List.getElem?_eq_getElem h1, List.getElem?_eq_getElem h2] at this
  simpa using this

/-- One domain of the list turned. -/
theorem getD_set (ds : List DomB) (p i : Nat) (d : DomB) (hp : p < ds.length) : (ds.set p d).getD i ([], 0) = if i = p then d else ds.getD i ([], 0) := by
  simp only [List.getD_eq_getElem?_getD, List.getElem?_set]
  by_cases h : p = i
  · subst h; simp [hp]
  · have : ¬ i = p := fun e => h e.symm
    simp [h, this]

/-- The list of what is left, turned into what is kept. -/
theorem stepB_congr {kp kq : Nat → Int → Bool} {ds : List DomB} (h : allMay ds = true) (hk : ∀ i, i < ds.length → ∀ v ∈ listB (ds.getD i ([], 0)).1 (ds.getD i ([], 0)).2, kp i v = kq i v) : stepB kp ds = stepB kq ds := by
  unfold stepB
  apply List.map_congr_left
  intro i hi
  have hi := List.mem_range.1 hi
  exact keepD_congr (allMay_at h hi) (hk i hi)

end Pl
end Go.Proofs.YtjmegicopdbkdaaDoor

namespace Go.Proofs.YtjmegicopdbkdaaDoor
namespace Pl

structure ConB where
  kind : Int
  vars : List Int
  coefs : List Int
  rel : Int
  const : Int
  nums : List Int

/-- Are all numbers from -m to m? -/
def withinB (l : List Int) (m : Int) : Bool := l.all fun x => decide (-m ≤ x) && decide (x ≤ m)
theorem within_take {l : List Int} {k : Nat} {x m : Int} (hk : k < l.length) (hx : l.getD k 0 = x) (h : withinB (l.take k) m = true) : withinB (l.take (k + 1)) m = (decide (-m ≤ x) && decide (x ≤ m)) := by
  have e : l.take (k + 1) = l.take k ++ [x] := by
    rw [List.take_succ_eq_append_getElem hk]
    rw [List.getD_eq_getElem?_getD, List.getElem?_eq_getElem hk] at hx
    simp only [Option.getD_some] at hx
    rw [hx]
  rw [e]
  unfold withinB at *
  rw [List.all_append, h]
  simp
theorem within_bad {l : List Int} {k : Nat} {m : Int} (h : withinB (l.take k) m = false) : withinB l m = false := by
  cases e : withinB l m with
  | false => rfl
  | true =>
    unfold withinB at *
    rw [List.all_eq_true] at e
    have : (l.take k).all (fun x => decide (-m ≤ x) && decide (x ≤ m)) = true := List.all_eq_true.2 fun d hd => e d (List.mem_of_mem_take hd)
    rw [h] at this
    cases this
theorem withinB_mem {l : List Int} {m x : Int} (h : withinB l m = true) (hx : x ∈ l) : -m ≤ x ∧ x ≤ m := by
  unfold withinB at h
  rw [List.all_eq_true] at h
  simpa using h x hx

/-- Is the variable at a place right, behind those ahead of it? -/
def vOk (vs : List Int) (V : Int) (i : Nat) : Bool := decide (0 ≤ vs.getD i 0) && decide (vs.getD i 0 < V) && !((vs.take i).contains (vs.getD i 0))
def vUpto (vs : List Int) (V : Int) (k : Nat) : Bool := (List.range k).all (vOk vs V)
def varsOk (vs : List Int) (V : Int) : Bool := vUpto vs V vs.length
theorem vUpto_zero (vs : List Int) (V : Int) : vUpto vs V 0 = true := rfl
theorem vUpto_succ (vs : List Int) (V : Int) (k : Nat) : vUpto vs V (k + 1) = (vUpto vs V k && vOk vs V k) := by
  unfold vUpto
  rw [List.range_succ, List.all_append]
  simp
theorem vUpto_bad {vs : List Int} {V : Int} {m n : Nat} (h : vOk vs V m = false) (hm : m < n) : vUpto vs V n = false := by
  cases e : vUpto vs V n with
  | false => rfl
  | true =>
    unfold vUpto at e
    rw [List.all_eq_true] at e
    have := e m (List.mem_range.2 hm)
    rw [h] at this
    cases this
theorem vUpto_at {vs : List Int} {V : Int} {n k : Nat} (h : vUpto vs V n = true) (hk : k < n) : vOk vs V k = true := by
  unfold vUpto at h
  rw [List.all_eq_true] at h
  exact h k (List.mem_range.2 hk)
theorem vOk_named {vs : List Int} {V x : Int} {i : Nat} (hx : vs.getD i 0 = x) : vOk vs V i = (decide (0 ≤ x) && decide (x < V) && !((vs.take i).contains x)) := by
  unfold vOk; rw [hx]
theorem varsOk_rng {vs : List Int} {V : Int} (h : varsOk vs V = true) {i : Nat} (hi : i < vs.length) : 0 ≤ vs.getD i 0 ∧ vs.getD i 0 < V := by
  have := vUpto_at h hi
  unfold vOk at this
  simp only [Bool.and_eq_true, decide_eq_true_eq] at this
  exact this.1
theorem varsOk_ne {vs : List Int} {V : Int} (h : varsOk vs V = true) {i k : Nat} (hi : i < vs.length) (hk : k < i) : vs.getD k 0 ≠ vs.getD i 0 := by
  have := vUpto_at h hi
  unfold vOk at this
  simp only [Bool.and_eq_true, Bool.not_eq_true', List.contains_eq_mem, decide_eq_false_iff_not] at this
  intro e
  apply this.2
  rw [← e]
  rw [List.getD_eq_getElem?_getD, List.getElem?_eq_getElem (by omega)]
  simp only [Option.getD_some]
  exact List.mem_take_iff_getElem.2 ⟨k, by omega, rfl⟩

/-- There is no sum, and there are from so many to so many numbers. -/
def bareB (C : ConB) (least most : Int) : Bool :=
  decide (C.coefs.length = 0) && decide (C.rel = 0) && decide (C.const = 0) && decide (least ≤ C.nums.length) && decide ((C.nums.length : Int) ≤ most) && withinB C.nums 1048576
def variablesB (C : ConB) (V least most : Int) : Bool := decide (least ≤ C.vars.length) && decide ((C.vars.length : Int) ≤ most) && varsOk C.vars V
def elemB (C : ConB) (V : Int) : Bool := variablesB C V 2 2 && bareB C 1 96
def tabB (C : ConB) (V : Int) : Bool := variablesB C V 1 8 && bareB C 0 96 && decide ((C.nums.length : Int) % C.vars.length = 0)

end Pl
end Go.Proofs.YtjmegicopdbkdaaDoor

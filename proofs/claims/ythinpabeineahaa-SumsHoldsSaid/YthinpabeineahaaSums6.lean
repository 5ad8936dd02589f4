/-
  What the statements ask first.
-/
import Derived.Test.YthinpabeineahaaSums5
set_option maxHeartbeats 400000
set_option maxRecDepth 10000
namespace Go.Proofs.Ythinpabeineahaa
open Go Go.RowKit

/-- Two lists that were just laid, and their sum of products. -/
theorem dot_lits (l m : List Int) (s f : Int) (w : World) (t t' : TypeId) (hl : l.length ≤ 1000) (hm : m.length ≤ 1000)
    (hlr : ∀ x ∈ l, -9223372036854775808 ≤ x ∧ x ≤ 9223372036854775807) (hmr : ∀ x ∈ m, -9223372036854775808 ≤ x ∧ x ≤ 9223372036854775807) (h : dotR l m = (s, f)) {n n' : Nat} (hn : n = l.length) (hn' : n' = m.length) :
    Calls Try.prog 11 #[.slice (some ⟨w.heap.size, 0, none⟩) n n, .slice (some ⟨w.heap.size + 1, 0, none⟩) n' n'] ((w.alloc (.cells (l.map (Value.int .i64)).toArray t)).alloc (.cells (m.map (Value.int .i64)).toArray t'))
      fun e w' => e = .returned (.tuple #[.int .i64 s, .int .i64 f]) ∧ Kept ((w.alloc (.cells (l.map (Value.int .i64)).toArray t)).alloc (.cells (m.map (Value.int .i64)).toArray t')) w' := by
  have h2 : ((w.alloc (.cells (l.map (Value.int .i64)).toArray t)).alloc (.cells (m.map (Value.int .i64)).toArray t')).heap[w.heap.size + 1]? = some (.cells (m.map (Value.int .i64)).toArray t' (0, 0)) := by
    have := heap_new (w.alloc (.cells (l.map (Value.int .i64)).toArray t)) (.cells (m.map (Value.int .i64)).toArray t')
    simpa using this
  have := dot_any _ _ n n n' n' l m _ (Ints.of_cells (heap_old (.cells (m.map (Value.int .i64)).toArray t') (heap_new w (.cells (l.map (Value.int .i64)).toArray t))) (by omega) hlr hn) (Ints.of_cells h2 (by omega) hmr hn')
  unfold DotIs at this
  rwa [h] at this

theorem awake_any (w : World) :
    Calls Try.prog 6 #[] w fun e w' => e = .returned (.bool true) ∧ Kept w w' := by
  have f1 : Hid (∀ W : World, Calls Try.prog 9 #[.int .i64 4294967296, .int .i64 2147483648] W fun e w' => e = .returned (.tuple #[.int .i64 0, .int .i64 6]) ∧ Kept W w') := fun W => by
    have := mul_any 4294967296 2147483648 W (by unfold fits; omega) (by unfold fits; omega)
    rwa [told_no (by unfold fits; omega)] at this
  have f3 : Hid (∀ W : World, Calls Try.prog 9 #[.int .i64 (-4294967296), .int .i64 2147483648] W fun e w' => e = .returned (.tuple #[.int .i64 (-9223372036854775808), .int .i64 0]) ∧ Kept W w') := fun W => by
    have := mul_any (-4294967296) 2147483648 W (by unfold fits; omega) (by unfold fits; omega)
    rwa [told_yes (by unfold fits; omega)] at this
  have f5 : Hid (∀ W : World, Calls Try.prog 7 #[.int .i64 4611686018427387904, .int .i64 4611686018427387904] W fun e w' => e = .returned (.tuple #[.int .i64 0, .int .i64 6]) ∧ Kept W w') := fun W => by
    have := add_any 4611686018427387904 4611686018427387904 W (by unfold fits; omega) (by unfold fits; omega)
    rwa [told_no (by unfold fits; omega)] at this
  have f2 : Hid (∀ W : World, Calls Try.prog 11 #[.slice (some ⟨W.heap.size, 0, none⟩) 2 2, .slice (some ⟨W.heap.size + 1, 0, none⟩) 2 2] ((W.alloc (.cells #[.int .i64 2, .int .i64 3] 2)).alloc (.cells #[.int .i64 4, .int .i64 (-5)] 2)) fun e w' => e = .returned (.tuple #[.int .i64 (-7), .int .i64 0]) ∧ Kept ((W.alloc (.cells #[.int .i64 2, .int .i64 3] 2)).alloc (.cells #[.int .i64 4, .int .i64 (-5)] 2)) w') := fun W =>
    dot_lits [2, 3] [4, -5] (-7) 0 W _ _ (by decide) (by decide) (by decide) (by decide) (by decide) rfl rfl
  have f4 : Hid (∀ W : World, Calls Try.prog 11 #[.slice (some ⟨W.heap.size, 0, none⟩) 1 1, .slice none 0 0] (W.alloc (.cells #[.int .i64 2] 2)) fun e w' => e = .returned (.tuple #[.int .i64 0, .int .i64 1]) ∧ Kept (W.alloc (.cells #[.int .i64 2] 2)) w') := fun W => by
    have := dot_any _ _ 1 1 0 0 [2] [] _ (Ints.of_cells (xs := [2]) (heap_new W (.cells #[.int .i64 2] 2)) (by decide) (by decide) rfl) (Ints.none _)
    exact this
  go_enter Try.func6, Try.ntmps6
  go_wp2_with fail
  refine (f1.out _).mono ?_
  rintro e w1 ⟨rfl, hk1⟩
  have Hk1 := Lib.hid hk1
  clear hk1
  go_wp2_with fail
  refine (f2.out _).mono ?_
  rintro e w2 ⟨rfl, hk2⟩
  have Hk2 := Lib.hid (Hk1.out.then (((Kept.newBlock (Below.refl _ _) _).newBlock _).then hk2))
  clear hk2
  go_wp2_with fail
  refine (f3.out _).mono ?_
  rintro e w3 ⟨rfl, hk3⟩
  have Hk3 := Lib.hid (Hk2.out.then hk3)
  clear hk3
  go_wp2_with fail
  refine (f4.out _).mono ?_
  rintro e w4 ⟨rfl, hk4⟩
  have Hk4 := Lib.hid (Hk3.out.then ((Kept.newBlock (Below.refl _ _) _).then hk4))
  clear hk4
  go_wp2_with fail
  refine (f5.out _).mono ?_
  rintro e w5 ⟨rfl, hk5⟩
  have Hk5 := Lib.hid (Hk4.out.then hk5)
  clear hk5
  go_wp2_with (go_at_call 13; refine (holds_any _ _ _ _).mono ?_; rintro e w' ⟨rfl, rfl⟩; rw [holdsB])
  go_ret
  exact ⟨rfl, Hk5.out⟩
end Go.Proofs.Ythinpabeineahaa

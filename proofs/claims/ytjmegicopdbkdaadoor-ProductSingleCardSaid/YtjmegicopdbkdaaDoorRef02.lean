/-
  Contracts of the document's answer for the bits: Has, List, Next, Same.
-/
import Derived.Test.YtjmegicopdbkdaaDoorPop
import Derived.Test.YtjmegicopdbkdaaDoorBits3
set_option maxHeartbeats 1000000
set_option maxRecDepth 10000
namespace Go.Proofs.YtjmegicopdbkdaaDoor
open Go Go.RowKit Pl

theorem testBit_div (b k : Nat) : b.testBit k = decide (b / 2 ^ k % 2 = 1) := by
  rw [Nat.testBit, Nat.shiftRight_eq_div_pow, Nat.one_and_eq_mod_two]
  have : b / 2 ^ k % 2 = 0 ∨ b / 2 ^ k % 2 = 1 := by omega
  rcases this with h | h <;> simp [h]

/-- Is k in the set b? -/
def hasI (b : Nat) (k : Int) : Bool := decide (0 ≤ k) && decide (k ≤ 63) && b.testBit k.toNat

theorem hasI_nat (b k : Nat) (h : k < 64) : hasI b (k : Int) = b.testBit k := by
  unfold hasI
  have : (k : Int) ≤ 63 := by omega
  simp [this]
theorem upto_rng {b n : Nat} (h : n ≤ 64) : ∀ x ∈ (upto b n).map Int.ofNat, 0 ≤ x ∧ x ≤ 63 := by
  intro x hx
  rw [List.mem_map] at hx
  obtain ⟨k, hk, rfl⟩ := hx
  have := (mem_upto.1 hk).1
  simp
  omega
theorem uptoI_length_le (b n : Nat) : ((upto b n).map Int.ofNat).length ≤ n := by rw [List.length_map]; exact upto_length_le b n

/-- The least of a list from a number on; -1, if there is none. -/
def from? : List Int → Int → Int
  | [], _ => -1
  | x :: l, at' => if at' ≤ x then x else from? l at'
theorem from_drop {l : List Int} {k : Nat} {x a : Int} (hk : k < l.length) (hx : l.getD k 0 = x) : from? (l.drop k) a = if a ≤ x then x else from? (l.drop (k + 1)) a := by
  rw [List.drop_eq_getElem_cons hk]
  rw [List.getD_eq_getElem?_getD, List.getElem?_eq_getElem hk] at hx
  have hx' : l[k] = x := by simpa using hx
  rw [hx']
  rfl

theorem same_drop {l m : List Int} {k : Nat} (h : l.length = m.length) (hk : k < l.length) (he : l.take k = m.take k) {x y : Int} (hx : l.getD k 0 = x) (hy : m.getD k 0 = y) :
    (x = y → l.take (k + 1) = m.take (k + 1)) ∧ (¬ x = y → ¬ l = m) := by
  refine ⟨fun e => ?_, fun hn e => hn ?_⟩
  · rw [take_succ_getD hk hx, take_succ_getD (by omega) hy, he, e]
  · rw [← hx, ← hy, e]

theorem rsame_any (A B : Option Addr) (n m c d : Nat) (xs ys : List Int) (w : World) (hA : Ints w A n xs) (hB : Ints w B m ys) :
    Calls Tryd.prog 68 #[.slice A n c, .slice B m d] w fun e w' => e = .returned (.bool (decide (xs = ys))) ∧ Kept w w' := by
  have hs1 := hA.small
  have hs2 := hB.small
  have HA := Lib.hid hA
  have HB := Lib.hid hB
  have Hla := Lib.hid hA.len
  have Hlb := Lib.hid hB.len
  clear hA hB
  by_cases hnm : n = m
  · subst hnm
    go_enter Tryd.func68, Tryd.ntmps68
    go_wp2
    go_loopw [5] (fun v wr => ∃ k : Nat, k ≤ n ∧ v = .int .i64 k ∧ Hid (xs.take k = ys.take k) ∧ Hid (Kept w wr)) (fun v _ => n - (intOf v).toNat)
    case atStart => exact ⟨0, Nat.zero_le _, rfl, rfl, Below.refl _ _⟩
    case round =>
      obtain ⟨k, hk, rfl, Hf, Hk⟩ := hrel
      by_cases hlt : k < n
      · have hAr := HA.out.kept Hk.out
        have hBr := HB.out.kept Hk.out
        obtain ⟨a, rfl, hba⟩ := hAr.addr (by omega)
        obtain ⟨a2, rfl, hba2⟩ := hBr.addr (by omega)
        obtain ⟨x, Hx, hcx, hx1, hx2⟩ := hAr.named k hlt
        obtain ⟨y, Hy, hcy, hy1, hy2⟩ := hBr.named k hlt
        clear hAr hBr
        have Hd := Lib.hid (same_drop (by rw [Hla.out, Hlb.out]) (by have := Hla.out; omega) Hf.out Hx.out Hy.out)
        by_cases hxy : x = y
        · subst hxy
          go_wp2
          refine wp_region_quiet_below (by kernel_rfl) (by kernel_rfl) ?_
          repeat (any_goals (first | go_big_quiet_step ((fail)) | quiet_step ((fail)) | (refine wpQuiet_step (fun K hK => ?_); go_simp; split <;> (refine hK _ ?_; clear hK K))))
          all_goals (refine wpQuiet_nil ?_; intro w1 hw'; replace hw' := Kept.regrown hw')
          have Hk2 := Lib.hid (Hk.out.then hw')
          clear hw'
          go_wp2
          go_roundw
          case rel => exact ⟨k + 1, by omega, by go_num, Hd.out.1 trivial, Hk2.out⟩
          case measure => simp [intOf]; omega
        · have hb : ((x != y) = true) := by simp [hxy]
          go_wp2
          refine wp_region_quiet_below (by kernel_rfl) (by kernel_rfl) ?_
          repeat (any_goals (first | go_big_quiet_step ((fail)) | quiet_step ((fail)) | (refine wpQuiet_step (fun K hK => ?_); go_simp; split <;> (refine hK _ ?_; clear hK K))))
          all_goals (refine wpQuiet_nil ?_; intro w1 hw'; replace hw' := Kept.regrown hw')
          have Hk2 := Lib.hid (Hk.out.then hw')
          clear hw'
          go_wp2
          go_ret
          exact ⟨ret_bool (by simp [Hd.out.2 hxy]), Hk2.out⟩
      · have e : k = n := by omega
        subst e
        go_wp2
        go_ret
        have hf := Hf.out
        rw [List.take_of_length_le (by rw [Hla.out]; exact Nat.le_refl _), List.take_of_length_le (by rw [Hlb.out]; exact Nat.le_refl _)] at hf
        exact ⟨ret_bool (by simp [hf]), Hk.out⟩
  · have hne : ¬ xs = ys := fun h => hnm (by rw [← Hla.out, ← Hlb.out, h])
    have He := Lib.hid hne
    clear hne
    go_enter Tryd.func68, Tryd.ntmps68
    go_wp2
    go_ret
    exact ⟨ret_bool (by simp [He.out]), Kept.same _⟩
end Go.Proofs.YtjmegicopdbkdaaDoor

/-
  Contracts of the document's answer for the bits: Has, List, Next, Same.
-/
import Derived.Test.YthddanjmnifloaaDoorPop
import Derived.Test.YthddanjmnifloaaDoorBits3
set_option maxHeartbeats 1000000
set_option maxRecDepth 10000
namespace Go.Proofs.YthddanjmnifloaaDoor
open Go Go.RowKit Pl

theorem testBit_div (b k : Nat) : b.testBit k = decide (b / 2 ^ k % 2 = 1) := by
  rw [Nat.testBit, Nat.shiftRight_eq_div_pow, Nat.one_and_eq_mod_two]
  have : b / 2 ^ k % 2 = 0 ∨ b / 2 ^ k % 2 = 1 := by omega
  rcases this with h | h <;> simp [h]

/-- Is k in the set b? -/
def hasI (b : Nat) (k : Int) : Bool := decide (0 ≤ k) && decide (k ≤ 63) && b.testBit k.toNat

theorem rhas_any (b : Nat) (k : Int) (w : World) (hb : b < 2 ^ 64) :
    Calls Tryd.prog 42 #[.int .u64 b, .int .i64 k] w fun e w' => e = .returned (.bool (hasI b k)) ∧ w = w' := by
  by_cases h0 : k < 0
  · have e : hasI b k = false := by unfold hasI; simp; omega
    rw [e]
    clear e
    go_enter Tryd.func42, Tryd.ntmps42
    go_wp2
    go_ret
    exact ⟨rfl, rfl⟩
  · by_cases h1 : 63 < k
    · have e : hasI b k = false := by unfold hasI; simp; omega
      rw [e]
      clear e
      go_enter Tryd.func42, Tryd.ntmps42
      go_wp2
      go_ret
      exact ⟨rfl, rfl⟩
    · obtain ⟨n, rfl⟩ := Int.eq_ofNat_of_zero_le (by omega : 0 ≤ k)
      have hn : n < 64 := by omega
      have He : Hid (hasI b (n : Int) = decide (b / 2 ^ n % 2 = 1)) := by
        show hasI b (n : Int) = _
        unfold hasI
        rw [← testBit_div]
        have : (n : Int) ≤ 63 := by omega
        simp [this]
      clear h0 h1
      go_enter Tryd.func42, Tryd.ntmps42
      go_wp2
      go_loop [0, 5] (fun u v => ∃ j : Nat, j ≤ n ∧ v = .int .i64 j ∧ ∃ c : Nat, u = .int .u64 c ∧ c < 2 ^ 64 ∧ Hid (c = b / 2 ^ j)) (fun _ v => n - (intOf v).toNat)
      case atStart => exact ⟨0, Nat.zero_le _, rfl, b, rfl, hb, by show b = b / 2 ^ 0; simp⟩
      case round =>
        obtain ⟨j, hj, rfl, c, rfl, hc, Hc⟩ := hrel
        by_cases hlt : j < n
        · go_wp2
          go_round
          case rel => exact ⟨j + 1, by omega, by go_num, c / 2, by simp, by omega, by show c / 2 = _; rw [Hc.out, Nat.div_div_eq_div_mul, Nat.pow_succ]⟩
          case measure => simp [intOf]; omega
        · have e : j = n := by omega
          subst e
          go_wp2
          go_ret
          exact ⟨ret_bool (by rw [He.out, ← Hc.out, Bool.eq_iff_iff]; simp; omega), rfl⟩

theorem hasI_nat (b k : Nat) (h : k < 64) : hasI b (k : Int) = b.testBit k := by
  unfold hasI
  have : (k : Int) ≤ 63 := by omega
  simp [this]
theorem upto_rng {b n : Nat} (h : n ≤ 64) : ∀ x ∈ (upto b n).map Int.ofNat, 0 ≤ x ∧ x ≤ 63 := by
  intro x hx
  rw [List.mem_map] at hx
  obtain ⟨k, hk, rfl⟩ := hx
  have := (mem_upto.1 hk).1
  simp
  omega
theorem uptoI_length_le (b n : Nat) : ((upto b n).map Int.ofNat).length ≤ n := by rw [List.length_map]; exact upto_length_le b n

theorem rlist_any (b : Nat) (w : World) (hb : b < 2 ^ 64) :
    Calls Tryd.prog 15 #[.int .u64 b] w (ListPost (elemsI b) w) := by
  obtain ⟨i0, hi, hz0, hz1, hz2⟩ := info_parts info_int
  have HB := Lib.hid hb
  clear hb
  go_enter Tryd.func15, Tryd.ntmps15
  go_wp2
  go_loopw [3, 4] (fun u v wr => ∃ k : Nat, k ≤ 64 ∧ v = .int .i64 k ∧ wr.ownsRow w.heap.size 3 1 u ((upto b k).map Int.ofNat).length (((upto b k).map Int.ofNat).map (Value.int .i64)) ∧ Hid (Kept w wr)) (fun _ v _ => 64 - (intOf v).toNat)
  case atStart =>
    refine ⟨0, by omega, rfl, ?_, Kept.box _ _⟩
    have h0 : upto b 0 = [] := rfl
    rw [h0]
    exact World.ownsRow_made w #[] 0 (Nat.le_refl _) (by decide) rfl
  case round =>
    obtain ⟨k, hk, rfl, hown, Hkw⟩ := hrel
    by_cases hlt : k < 64
    · have hx := hasI_nat b k hlt
      have Hu := Lib.hid (upto_succ b k)
      have hszr := Hkw.out.size
      have hul := uptoI_length_le b k
      cases hbit : b.testBit k with
      | true =>
        rw [hbit] at hx
        have Hx := Lib.hid hx
        have Hu2 : Hid ((upto b (k+1)).map Int.ofNat = (upto b k).map Int.ofNat ++ [(k : Int)]) := by
          show _ = _
          rw [Hu.out, hbit]; simp
        clear hbit hx
        generalize (upto b k).map Int.ofNat = ys at *
        go_wp2_with (first
          | (go_at_call 42; refine (rhas_any b k _ HB.out).mono ?_; rw [Hx.out]; rintro e w' ⟨rfl, rfl⟩)
          | (at_builtin; refine wpList_append_own _ rfl _ _ 23 rfl w.heap.size 3 i0 (.int .i64 0) 1 8 Tryd.underlying23 hi hz0 hz1 hz2 rfl (by decide) _ _ _ rfl (hown.alloc _) ⟨wr.heap.size, 0, none⟩ 1 1 [.int .i64 k] rfl rfl (cell_one_new _ _ _) (by simp [Value.oneCell']) (by unfold maxLen; omega) (by omega) (by simp; omega) ?_; intro v' w2 hown' hgrow _))
        go_roundw
        case rel => exact ⟨k + 1, by omega, by go_num, by rw [Hu2.out]; simpa using hown', Hkw.out.appended hown (Nat.le_refl _) hgrow⟩
        case measure => simp [intOf]; omega
      | false =>
        rw [hbit] at hx
        have Hx := Lib.hid hx
        have Hu2 : Hid (upto b (k+1) = upto b k) := by
          show _ = _
          rw [Hu.out, hbit]; simp
        clear hbit hx
        go_wp2_with (go_at_call 42; refine (rhas_any b k _ HB.out).mono ?_; rw [Hx.out]; rintro e w' ⟨rfl, rfl⟩)
        go_roundw
        case rel => exact ⟨k + 1, by omega, by go_num, by rw [Hu2.out]; exact hown, Hkw⟩
        case measure => simp [intOf]; omega
    · have e : k = 64 := by omega
      subst e
      obtain ⟨A', c', rfl, hI, hfr⟩ := Ints.of_own (xs := elemsI b) hown (fun x hx => by have := elemsI_rng x hx; omega)
      have HI := Lib.hid hI
      have Hfr : Hid (Fresh w A') := hfr
      clear hfr hI hown
      go_wp2
      go_ret
      exact ⟨A', c', rfl, HI.out, Hkw.out, Hfr.out⟩

/-- The least of a list from a number on; -1, if there is none. -/
def from? : List Int → Int → Int
  | [], _ => -1
  | x :: l, at' => if at' ≤ x then x else from? l at'
theorem from_drop {l : List Int} {k : Nat} {x a : Int} (hk : k < l.length) (hx : l.getD k 0 = x) : from? (l.drop k) a = if a ≤ x then x else from? (l.drop (k + 1)) a := by
  rw [List.drop_eq_getElem_cons hk]
  rw [List.getD_eq_getElem?_getD, List.getElem?_eq_getElem hk] at hx
  have hx' : l[k] = x := by simpa using hx
  rw [hx']
  rfl

theorem rnext_any (b : Nat) (n : Int) (w : World) (hb : b < 2 ^ 64) :
    Calls Tryd.prog 21 #[.int .u64 b, .int .i64 n] w fun e w' => e = .returned (.int .i64 (from? (elemsI b) n)) ∧ Kept w w' := by
  have HB := Lib.hid hb
  clear hb
  go_enter Tryd.func21, Tryd.ntmps21
  go_wp2_with (go_at_call 15; refine (rlist_any b _ HB.out).mono ?_; rintro e w1 ⟨A, c, rfl, hI, hk, hfr⟩; have HI := Lib.hid hI; have Hk := Lib.hid hk; clear hI hk hfr)
  have hl := elemsI_length_le b
  generalize hxs : elemsI b = xs at *
  have Hxs := Lib.hid hxs
  clear hxs
  generalize hm : xs.length = m at *
  have Hm := Lib.hid hm
  clear hm
  go_loop [6] (fun v => ∃ k : Nat, k ≤ m ∧ v = .int .i64 k ∧ Hid (from? xs n = from? (xs.drop k) n)) (fun v => m - (intOf v).toNat)
  case atStart => exact ⟨0, Nat.zero_le _, rfl, rfl⟩
  case round =>
    obtain ⟨k, hk, rfl, Hf⟩ := hrel
    by_cases hlt : k < m
    · obtain ⟨a, rfl, hba⟩ := HI.out.addr (by omega)
      obtain ⟨x, Hx, hcx, hx1, hx2⟩ := HI.out.named k hlt
      have Hd := Lib.hid (from_drop (a := n) (by have := Hm.out; omega) Hx.out)
      by_cases hge : n ≤ x
      · go_wp2
        go_ret
        exact ⟨ret_i64 (by rw [Hxs.out, Hf.out, Hd.out, if_pos hge]), Hk.out⟩
      · go_wp2
        go_round
        case rel => exact ⟨k + 1, by omega, by go_num, by show _ = from? (xs.drop (k + 1)) n; rw [Hf.out, Hd.out, if_neg hge]⟩
        case measure => simp [intOf]; omega
    · have e : k = m := by omega
      subst e
      go_wp2
      go_ret
      exact ⟨ret_i64 (by rw [Hxs.out, Hf.out, List.drop_of_length_le (by have := Hm.out; omega)]; rfl), Hk.out⟩

theorem same_drop {l m : List Int} {k : Nat} (h : l.length = m.length) (hk : k < l.length) (he : l.take k = m.take k) {x y : Int} (hx : l.getD k 0 = x) (hy : m.getD k 0 = y) :
    (x = y → l.take (k + 1) = m.take (k + 1)) ∧ (¬ x = y → ¬ l = m) := by
  refine ⟨fun e => ?_, fun hn e => hn ?_⟩
  · rw [take_succ_getD hk hx, take_succ_getD (by omega) hy, he, e]
  · rw [← hx, ← hy, e]

theorem rsame_any (A B : Option Addr) (n m c d : Nat) (xs ys : List Int) (w : World) (hA : Ints w A n xs) (hB : Ints w B m ys) :
    Calls Tryd.prog 22 #[.slice A n c, .slice B m d] w fun e w' => e = .returned (.bool (decide (xs = ys))) ∧ Kept w w' := by
  have hs1 := hA.small
  have hs2 := hB.small
  have HA := Lib.hid hA
  have HB := Lib.hid hB
  have Hla := Lib.hid hA.len
  have Hlb := Lib.hid hB.len
  clear hA hB
  by_cases hnm : n = m
  · subst hnm
    go_enter Tryd.func22, Tryd.ntmps22
    go_wp2
    go_loopw [5] (fun v wr => ∃ k : Nat, k ≤ n ∧ v = .int .i64 k ∧ Hid (xs.take k = ys.take k) ∧ Hid (Kept w wr)) (fun v _ => n - (intOf v).toNat)
    case atStart => exact ⟨0, Nat.zero_le _, rfl, rfl, Below.refl _ _⟩
    case round =>
      obtain ⟨k, hk, rfl, Hf, Hk⟩ := hrel
      by_cases hlt : k < n
      · have hAr := HA.out.kept Hk.out
        have hBr := HB.out.kept Hk.out
        obtain ⟨a, rfl, hba⟩ := hAr.addr (by omega)
        obtain ⟨a2, rfl, hba2⟩ := hBr.addr (by omega)
        obtain ⟨x, Hx, hcx, hx1, hx2⟩ := hAr.named k hlt
        obtain ⟨y, Hy, hcy, hy1, hy2⟩ := hBr.named k hlt
        clear hAr hBr
        have Hd := Lib.hid (same_drop (by rw [Hla.out, Hlb.out]) (by have := Hla.out; omega) Hf.out Hx.out Hy.out)
        by_cases hxy : x = y
        · subst hxy
          go_wp2
          refine wp_region_quiet_below (by kernel_rfl) (by kernel_rfl) ?_
          repeat (any_goals (first | go_big_quiet_step ((fail)) | quiet_step ((fail)) | (refine wpQuiet_step (fun K hK => ?_); go_simp; split <;> (refine hK _ ?_; clear hK K))))
          all_goals (refine wpQuiet_nil ?_; intro w1 hw'; replace hw' := Kept.regrown hw')
          have Hk2 := Lib.hid (Hk.out.then hw')
          clear hw'
          go_wp2
          go_roundw
          case rel => exact ⟨k + 1, by omega, by go_num, Hd.out.1 trivial, Hk2.out⟩
          case measure => simp [intOf]; omega
        · have hb : ((x != y) = true) := by simp [hxy]
          go_wp2
          refine wp_region_quiet_below (by kernel_rfl) (by kernel_rfl) ?_
          repeat (any_goals (first | go_big_quiet_step ((fail)) | quiet_step ((fail)) | (refine wpQuiet_step (fun K hK => ?_); go_simp; split <;> (refine hK _ ?_; clear hK K))))
          all_goals (refine wpQuiet_nil ?_; intro w1 hw'; replace hw' := Kept.regrown hw')
          have Hk2 := Lib.hid (Hk.out.then hw')
          clear hw'
          go_wp2
          go_ret
          exact ⟨ret_bool (by simp [Hd.out.2 hxy]), Hk2.out⟩
      · have e : k = n := by omega
        subst e
        go_wp2
        go_ret
        have hf := Hf.out
        rw [List.take_of_length_le (by rw [Hla.out]; exact Nat.le_refl _), List.take_of_length_le (by rw [Hlb.out]; exact Nat.le_refl _)] at hf
        exact ⟨ret_bool (by simp [hf]), Hk.out⟩
  · have hne : ¬ xs = ys := fun h => hnm (by rw [← Hla.out, ← Hlb.out, h])
    have He := Lib.hid hne
    clear hne
    go_enter Tryd.func22, Tryd.ntmps22
    go_wp2
    go_ret
    exact ⟨ret_bool (by simp [He.out]), Kept.same _⟩
end Go.Proofs.YthddanjmnifloaaDoor

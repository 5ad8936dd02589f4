/-
  May all domains be? (The package's own question, by slices.ContainsFunc.)
-/
import Derived.Test.YtjmegicopdbkdaaDoorDoms
set_option maxHeartbeats 1000000
set_option maxRecDepth 10000
namespace Go.Proofs.YtjmegicopdbkdaaDoor
open Go Go.RowKit Pl

theorem prod_not_any (A : Option Addr) (n c L : Nat) (xs : List Int) (w : World) (hS : Ints w A n xs) (hL : L < 2 ^ 64) :
    Calls Tryd.prog 27 #[.agg #[.slice A n c, .int .u64 L]] w fun e w' => e = .returned (.bool (!mayB xs L)) ∧ Kept w w' := by
  have HS := Lib.hid hS
  have HL := Lib.hid hL
  clear hS hL
  go_enter Tryd.func27, Tryd.ntmps27
  go_wp2_with fail
  refine (may_any A n c L xs _ (HS.out.kept (Kept.box _ _)) HL.out).mono ?_
  rintro e w1 ⟨rfl, hk⟩
  have Hk := Lib.hid ((Kept.box _ _).then hk)
  clear hk
  generalize hb : mayB xs L = b
  go_wp2
  go_ret
  subst hb
  exact ⟨ret_bool rfl, Hk.out⟩

/-- Where the first one that may not be stands. -/
theorem prod_index_any (A : Option Addr) (n c : Nat) (ds : List DomB) (w : World) (hS : Doms w A n ds) :
    Calls Tryd.prog 58 #[.slice A n c, .func (.func 27) #[] #[]] w fun e w' => ∃ i : Int, e = .returned (.int .i64 i) ∧ (decide (0 ≤ i) = !allMay ds) ∧ Kept w w' := by
  have HS := Lib.hid hS
  have hsm := hS.small
  have Hlen := Lib.hid hS.len
  clear hS
  go_enter Tryd.func58, Tryd.ntmps58
  go_wp2_with fail
  go_loopw [8] (fun v wr => ∃ k : Nat, k ≤ n ∧ v = .int .i64 k ∧ Hid (Kept w wr) ∧ Hid (allMay (ds.take k) = true)) (fun v _ => n - (intOf v).toNat)
  case atStart => exact ⟨0, Nat.zero_le _, rfl, Below.refl _ _, rfl⟩
  case round =>
    obtain ⟨k, hk, rfl, Hkw, Hok⟩ := hrel
    by_cases hlt : k < n
    · have hSr := HS.out.kept Hkw.out
      obtain ⟨a, rfl, hblk⟩ := hSr.addr (by omega)
      obtain ⟨xs, L, B, m, cB, Hd, hc1, hc2, HI, hL⟩ := hSr.named k hlt
      have Hnext : Hid (allMay (ds.take (k + 1)) = mayB xs L) := allMay_take (by have := Hlen.out; omega) Hd.out Hok.out
      have HQ := Lib.hid (prod_not_any B m cB L xs wr HI.out hL)
      clear hSr
      generalize hm : mayB xs L = b at HQ Hnext
      clear hm
      go_wp2_with fail
      refine HQ.out.mono ?_
      rintro e w1 ⟨rfl, hk1⟩
      have Hk1 := Lib.hid (Hkw.out.then hk1)
      clear hk1 HQ
      cases b with
      | true =>
        simp only [Bool.not_true]
        go_wp2
        go_roundw
        case rel => exact ⟨k + 1, by omega, by go_num, Hk1.out, Hnext.out⟩
        case measure => simp [intOf]; omega
      | false =>
        simp only [Bool.not_false]
        go_wp2
        go_ret
        refine ⟨k, rfl, ?_, Hk1.out⟩
        rw [allMay_bad Hnext.out]
        simp
    · have e : k = n := by omega
      subst e
      have h2 : allMay ds = true := by have := Hok.out; rwa [List.take_of_length_le (by have := Hlen.out; omega)] at this
      go_wp2
      go_ret
      exact ⟨-1, rfl, by rw [h2]; decide, Hkw.out⟩

theorem prod_contains_any (A : Option Addr) (n c : Nat) (ds : List DomB) (w : World) (hS : Doms w A n ds) :
    Calls Tryd.prog 26 #[.slice A n c, .func (.func 27) #[] #[]] w fun e w' => e = .returned (.bool (!allMay ds)) ∧ Kept w w' := by
  have HS := Lib.hid hS
  clear hS
  go_enter Tryd.func26, Tryd.ntmps26
  go_wp2_with fail
  refine (prod_index_any A n c ds _ HS.out).mono ?_
  rintro e w1 ⟨i, rfl, hi, hk⟩
  have Hi := Lib.hid hi
  clear hi
  go_wp2
  go_ret
  exact ⟨ret_bool Hi.out, hk⟩
end Go.Proofs.YtjmegicopdbkdaaDoor

/-
  Contracts of the package model: may a constraint be?
-/
import Derived.Test.YtjmegicopdbkdaaDoorConPlain
import Derived.Test.YtjmegicopdbkdaaDoorKept2
set_option maxHeartbeats 1000000
set_option maxRecDepth 10000
namespace Go.Proofs.YtjmegicopdbkdaaDoor
open Go Go.RowKit Pl

theorem mwithin1_any (x m : Int) (B : Nat) (w : World) (hB : w.cell? ⟨B, 0, none⟩ = some (.int .i64 m)) (hm : 0 ≤ m ∧ m ≤ 4611686018427387904) :
    Calls Tryd.prog 95 #[.int .i64 x, .pointer (some ⟨B, 0, none⟩)] w fun e w' => e = .returned (.bool (!(decide (-m ≤ x) && decide (x ≤ m)))) ∧ w = w' := by
  by_cases h1 : x < -m
  · have hd : decide (x < -m) = true := by simp [h1]
    go_enter Tryd.func95, Tryd.ntmps95
    go_wp2
    go_ret
    exact ⟨ret_bool (by simp; omega), rfl⟩
  · by_cases h2 : m < x
    · have hd : decide (x < -m) = false := by simp; omega
      have hd2 : decide (m < x) = true := by simp [h2]
      go_enter Tryd.func95, Tryd.ntmps95
      go_wp2
      go_ret
      exact ⟨ret_bool (by simp; omega), rfl⟩
    · have hd : decide (x < -m) = false := by simp; omega
      have hd2 : decide (m < x) = false := by simp; omega
      go_enter Tryd.func95, Tryd.ntmps95
      go_wp2
      go_ret
      exact ⟨ret_bool (by simp <;> omega), rfl⟩

theorem mindex_any (A : Option Addr) (n c : Nat) (l : List Int) (m : Int) (Bv : Nat) (w : World) (hS : Ints w A n l) (hv : w.cell? ⟨Bv, 0, none⟩ = some (.int .i64 m)) (hm : 0 ≤ m ∧ m ≤ 4611686018427387904) :
    Calls Tryd.prog 71 #[.slice A n c, .func (.func 95) #[] #[.pointer (some ⟨Bv, 0, none⟩)]] w fun e w' => ∃ i : Int, e = .returned (.int .i64 i) ∧ (decide (0 ≤ i) = !withinB l m) ∧ Kept w w' := by
  have HS := Lib.hid hS
  have Hv := Lib.hid hv
  have hsm := hS.small
  have Hlen := Lib.hid hS.len
  have Hm := Lib.hid hm
  clear hS hv hm
  go_enter Tryd.func71, Tryd.ntmps71
  go_wp2_with fail
  go_loopw [8] (fun v wr => ∃ k : Nat, k ≤ n ∧ v = .int .i64 k ∧ Hid (Kept w wr) ∧ Hid (withinB (l.take k) m = true)) (fun v _ => n - (intOf v).toNat)
  case atStart => exact ⟨0, Nat.zero_le _, rfl, Below.refl _ _, rfl⟩
  case round =>
    obtain ⟨k, hk, rfl, Hkw, Hok⟩ := hrel
    by_cases hlt : k < n
    · have hSr := HS.out.kept Hkw.out
      obtain ⟨a, rfl, hblk⟩ := hSr.addr (by omega)
      obtain ⟨x, Hx, hcx, hx1, hx2⟩ := hSr.named k hlt
      have Hnext : Hid (withinB (l.take (k + 1)) m = (decide (-m ≤ x) && decide (x ≤ m))) := within_take (by have := Hlen.out; omega) Hx.out Hok.out
      have HQ := Lib.hid (mwithin1_any x m Bv wr (Hkw.out.cellAt Hv.out) Hm.out)
      clear hSr
      generalize hb : (decide (-m ≤ x) && decide (x ≤ m)) = b at HQ Hnext
      clear hb
      go_wp2_with fail
      refine HQ.out.mono ?_
      rintro e w1 ⟨rfl, rfl⟩
      clear HQ
      cases b with
      | true =>
        simp only [Bool.not_true]
        go_wp2
        go_roundw
        case rel => exact ⟨k + 1, by omega, by go_num, Hkw.out, Hnext.out⟩
        case measure => simp [intOf]; omega
      | false =>
        simp only [Bool.not_false]
        go_wp2
        go_ret
        refine ⟨k, rfl, ?_, Hkw.out⟩
        rw [within_bad Hnext.out]
        simp
    · have e : k = n := by omega
      subst e
      have h2 : withinB l m = true := by have := Hok.out; rwa [List.take_of_length_le (by have := Hlen.out; omega)] at this
      go_wp2
      go_ret
      exact ⟨-1, rfl, by rw [h2]; decide, Hkw.out⟩

theorem mcontains_any (A : Option Addr) (n c : Nat) (l : List Int) (m : Int) (Bv : Nat) (w : World) (hS : Ints w A n l) (hv : w.cell? ⟨Bv, 0, none⟩ = some (.int .i64 m)) (hm : 0 ≤ m ∧ m ≤ 4611686018427387904) :
    Calls Tryd.prog 46 #[.slice A n c, .func (.func 95) #[] #[.pointer (some ⟨Bv, 0, none⟩)]] w fun e w' => e = .returned (.bool (!withinB l m)) ∧ Kept w w' := by
  have HS := Lib.hid hS
  have Hv := Lib.hid hv
  have Hm := Lib.hid hm
  clear hS hv hm
  go_enter Tryd.func46, Tryd.ntmps46
  go_wp2_with fail
  refine (mindex_any A n c l m Bv _ HS.out Hv.out Hm.out).mono ?_
  rintro e w1 ⟨i, rfl, hi, hk⟩
  have Hi := Lib.hid hi
  clear hi
  go_wp2
  go_ret
  exact ⟨ret_bool Hi.out, hk⟩

theorem mwithin_any (A : Option Addr) (n c : Nat) (l : List Int) (m : Int) (w : World) (hS : Ints w A n l) (hm : 0 ≤ m ∧ m ≤ 4611686018427387904) :
    Calls Tryd.prog 89 #[.slice A n c, .int .i64 m] w fun e w' => e = .returned (.bool (withinB l m)) ∧ Kept w w' := by
  have HS := Lib.hid hS
  have Hm := Lib.hid hm
  clear hS hm
  go_enter Tryd.func89, Tryd.ntmps89
  go_wp2_with fail
  refine (mcontains_any A n c l m w.heap.size _ (HS.out.kept (Kept.box _ _)) (by rw [cell_at (heap_new _ _) 0]; rfl) Hm.out).mono ?_
  rintro e w1 ⟨rfl, hk⟩
  generalize hb : withinB l m = b
  have Hk := Lib.hid ((Kept.box _ _).then hk)
  clear hk
  go_wp2
  go_ret
  subst hb
  exact ⟨ret_bool (by simp), Hk.out⟩
end Go.Proofs.YtjmegicopdbkdaaDoor

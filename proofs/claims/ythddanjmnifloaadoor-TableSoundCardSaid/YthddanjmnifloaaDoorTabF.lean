/-
  Contracts of the package table: does a row hold a value at a place? (By slices.ContainsFunc over the rows.)
-/
import Derived.Test.YthddanjmnifloaaDoorTabL
set_option maxHeartbeats 1000000
set_option maxRecDepth 10000
namespace Go.Proofs.YthddanjmnifloaaDoor
open Go Go.RowKit Pl

theorem tab2_any (B : Option Addr) (m c : Nat) (row : List Int) (i : Nat) (v : Int) (Bi Bv : Nat) (w : World) (hI : Ints w B m row) (hi : i < m)
    (hci : w.cell? ⟨Bi, 0, Option.none⟩ = some (.int .i64 i)) (hcv : w.cell? ⟨Bv, 0, Option.none⟩ = some (.int .i64 v)) :
    Calls Tryd.prog 69 #[.slice B m c, .pointer (some ⟨Bi, 0, Option.none⟩), .pointer (some ⟨Bv, 0, Option.none⟩)] w fun e w' => e = .returned (.bool (row.getD i 0 == v)) ∧ Kept w w' := by
  have hsm := hI.small
  obtain ⟨b, rfl, hbb⟩ := hI.addr (by omega)
  obtain ⟨x, Hx, hcx, _, _⟩ := hI.named i hi
  have hb1 := World.block_lt_of_cell? w _ hci
  have hb2 := World.block_lt_of_cell? w _ hcv
  simp only at hb1 hb2
  rw [Hx.out]
  clear hI
  generalize hg : (x == v) = g
  have Hg := Lib.hid hg
  clear hg
  go_enter Tryd.func69, Tryd.ntmps69
  go_wp2_with fail
  refine wp_region_quiet_below (by kernel_rfl) (by kernel_rfl) ?_
  repeat (any_goals (first | go_big_quiet_step ((fail)) | quiet_step ((fail)) | (refine wpQuiet_step (fun K hK => ?_); go_simp; split <;> (refine hK _ ?_; clear hK K))))
  all_goals (refine wpQuiet_nil ?_; intro w1 hw'; replace hw' := Kept.regrown hw')
  go_wp2_with fail
  go_ret
  exact ⟨by rw [← Hg.out]; rfl, hw'⟩

theorem tabindex_any (A : Option Addr) (n c : Nat) (rows : List (List Int)) (i : Nat) (v : Int) (Bi Bv : Nat) (w : World) (hL : LL w A n rows) (hi : ∀ row ∈ rows, i < row.length)
    (hci : w.cell? ⟨Bi, 0, Option.none⟩ = some (.int .i64 i)) (hcv : w.cell? ⟨Bv, 0, Option.none⟩ = some (.int .i64 v)) :
    Calls Tryd.prog 88 #[.slice A n c, .func (.func 69) #[] #[.pointer (some ⟨Bi, 0, Option.none⟩), .pointer (some ⟨Bv, 0, Option.none⟩)]] w fun e w' => ∃ k : Int, e = .returned (.int .i64 k) ∧ (decide (0 ≤ k) = rows.any fun row => row.getD i 0 == v) ∧ Kept w w' := by
  have HL := Lib.hid hL
  have Hi := Lib.hid hi
  have Hci := Lib.hid hci
  have Hcv := Lib.hid hcv
  have hsm := hL.small
  have Hlen := Lib.hid hL.len
  clear hL hi hci hcv
  obtain ⟨f, hf⟩ : ∃ f : List Int → Bool, ∀ row, f row = (row.getD i 0 == v) := ⟨_, fun _ => rfl⟩
  have Hf := Lib.hid hf
  have hany : (rows.any fun row => row.getD i 0 == v) = rows.any f := by congr 1; funext row; exact (hf row).symm
  rw [hany]
  clear hany hf
  go_enter Tryd.func88, Tryd.ntmps88
  go_wp2_with fail
  go_loopw [8] (fun u wr => ∃ k : Nat, k ≤ n ∧ u = .int .i64 k ∧ Hid (Kept w wr) ∧ Hid ((rows.take k).any f = false)) (fun u _ => n - (intOf u).toNat)
  case atStart => exact ⟨0, Nat.zero_le _, rfl, Below.refl _ _, rfl⟩
  case round =>
    obtain ⟨k, hk, rfl, Hkw, Hok⟩ := hrel
    by_cases hlt : k < n
    · obtain ⟨a, row, B, m, cB, rfl, hblk, Hrow, hc1, HI⟩ := (HL.out.kept Hkw.out).named k hlt
      have hmem : row ∈ rows := by
        rw [← Hrow.out, List.getD_eq_getElem?_getD, List.getElem?_eq_getElem (by have := Hlen.out; omega)]
        exact List.getElem_mem _
      have him := Hi.out row hmem
      rw [HI.out.len] at him
      have Hnext : Hid ((rows.take (k + 1)).any f = f row) := by
        show _ = _
        rw [List.take_succ_eq_append_getElem (by have := Hlen.out; omega), List.any_append, Hok.out, Bool.false_or]
        have h2 := Hrow.out
        rw [List.getD_eq_getElem?_getD, List.getElem?_eq_getElem (by have := Hlen.out; omega), Option.getD_some] at h2
        rw [h2]; simp
      have HQ : Hid (Calls Tryd.prog 69 #[.slice B m cB, .pointer (some ⟨Bi, 0, Option.none⟩), .pointer (some ⟨Bv, 0, Option.none⟩)] wr fun e w' => e = .returned (.bool (f row)) ∧ Kept wr w') := by
        have := tab2_any B m cB row i v Bi Bv wr HI.out him (Hkw.out.cellAt Hci.out) (Hkw.out.cellAt Hcv.out)
        rwa [← Hf.out row] at this
      clear hmem him
      generalize hm : f row = b at HQ Hnext
      have Hm := Lib.hid hm
      clear hm
      go_wp2_with fail
      refine HQ.out.mono ?_
      rintro e w1 ⟨rfl, hk1⟩
      have Hk1 := Lib.hid (Hkw.out.then hk1)
      clear hk1 HQ
      cases b with
      | false =>
        go_wp2
        go_roundw
        case rel => exact ⟨k + 1, by omega, by go_num, Hk1.out, Hnext.out⟩
        case measure => simp [intOf]; omega
      | true =>
        go_wp2
        go_ret
        refine ⟨k, rfl, ?_, Hk1.out⟩
        have h3 : rows.any f = true := by
          have h4 := Hnext.out
          rw [List.any_eq_true] at h4 ⊢
          obtain ⟨r, hr, hfr⟩ := h4
          exact ⟨r, List.mem_of_mem_take hr, hfr⟩
        rw [h3]; simp
    · have e : k = n := by omega
      subst e
      have h2 : rows.any f = false := by have := Hok.out; rwa [List.take_of_length_le (by have := Hlen.out; omega)] at this
      go_wp2
      go_ret
      exact ⟨-1, rfl, by rw [h2]; decide, Hkw.out⟩

theorem tabcontains_any (A : Option Addr) (n c : Nat) (rows : List (List Int)) (i : Nat) (v : Int) (Bi Bv : Nat) (w : World) (hL : LL w A n rows) (hi : ∀ row ∈ rows, i < row.length)
    (hci : w.cell? ⟨Bi, 0, Option.none⟩ = some (.int .i64 i)) (hcv : w.cell? ⟨Bv, 0, Option.none⟩ = some (.int .i64 v)) :
    Calls Tryd.prog 68 #[.slice A n c, .func (.func 69) #[] #[.pointer (some ⟨Bi, 0, Option.none⟩), .pointer (some ⟨Bv, 0, Option.none⟩)]] w fun e w' => e = .returned (.bool (rows.any fun row => row.getD i 0 == v)) ∧ Kept w w' := by
  have HQ := Lib.hid (tabindex_any A n c rows i v Bi Bv w hL hi hci hcv)
  clear hL hi hci hcv
  generalize (rows.any fun row => row.getD i 0 == v) = g at *
  go_enter Tryd.func68, Tryd.ntmps68
  go_wp2_with fail
  refine HQ.out.mono ?_
  rintro e w1 ⟨k, rfl, hk0, hk⟩
  have Hi := Lib.hid hk0
  clear hk0
  go_wp2
  go_ret
  exact ⟨ret_bool Hi.out, hk⟩
end Go.Proofs.YthddanjmnifloaaDoor

/-
  Contracts of the package dom: the list of the values that are left; whether one is left.
-/
import Derived.Test.YtjmegicopdbkdaaDoorDom
import Derived.Test.YtjmegicopdbkdaaDoorBits3
set_option maxHeartbeats 1000000
set_option maxRecDepth 10000
namespace Go.Proofs.YtjmegicopdbkdaaDoor
open Go Go.RowKit Pl

theorem list1_any (A : Option Addr) (n c L : Nat) (xs : List Int) (w : World) (hS : Ints w A n xs) (hL : L < 2 ^ 64) (hT : Tab w) (hm : mayB xs L = true) :
    Calls Tryd.prog 62 #[.agg #[.slice A n c, .int .u64 L]] w (ListPost (valsOf xs L) w) := by
  obtain ⟨i0, hi, hz0, hz1, hz2⟩ := info_parts info_int
  have HS := Lib.hid hS
  have HL := Lib.hid hL
  have HT := Lib.hid hT
  have Hm := Lib.hid hm
  have Hlen := Lib.hid hS.len
  have hmem : Hid (∀ x, x ∈ elemsI L → 0 ≤ x ∧ x < xs.length) := fun x hx => elemsI_lt hm hx
  have hel := elemsI_length_le L
  have Hrng := Lib.hid (valsOf_rng hm)
  have hnn : n ≤ 64 := by have := mayB_len hm; have := hS.len; omega
  clear hS hL hT hm
  go_enter Tryd.func62, Tryd.ntmps62
  go_wp2_with fail
  refine (list_any L _ HL.out (HT.out.kept (Kept.box _ _))).mono ?_
  rintro e w1 ⟨B, cb, rfl, hIb, hk1, _⟩
  have Hb0 := Lib.hid (hk1.cellAt (box2_0 w (.slice A n c) (.int .u64 L) _))
  have HIb := Lib.hid hIb
  have Hk1 := Lib.hid ((Kept.box _ _).then hk1)
  have hsz := hk1.size
  simp only [World.size_alloc] at hsz
  clear hIb hk1
  generalize hm : (elemsI L).length = m at *
  have Hmm := Lib.hid hm
  clear hm
  go_wp2_with fail
  go_loopw [3, 10] (fun u v wr => ∃ k : Nat, k ≤ m ∧ v = .int .i64 k ∧ wr.ownsRow w1.heap.size 3 1 u k (((valsOf xs L).take k).map (Value.int .i64)) ∧ Hid (Kept w1 wr)) (fun _ v _ => m - (intOf v).toNat)
  case atStart => exact ⟨0, Nat.zero_le _, rfl, World.ownsRow_nil _ _ _ _, Below.refl _ _⟩
  case round =>
    obtain ⟨k, hk, rfl, hown, Hkw⟩ := hrel
    by_cases hlt : k < m
    · have hbs := HIb.out.kept Hkw.out
      obtain ⟨b, rfl, hbb⟩ := hbs.addr (by omega)
      obtain ⟨q, Hq, hcq, _, _⟩ := hbs.named k hlt
      have hqm : q ∈ elemsI L := by
        have := Hq.out
        rw [List.getD_eq_getElem?_getD, List.getElem?_eq_getElem (by have := Hmm.out; omega)] at this
        simp at this
        rw [← this]
        exact List.getElem_mem _
      obtain ⟨hq0, hq1⟩ := hmem.out _ hqm
      obtain ⟨j, rfl⟩ := Int.eq_ofNat_of_zero_le hq0
      have hjn : j < n := by have := Hlen.out; omega
      have hxs := HS.out.kept (Hk1.out.then Hkw.out)
      obtain ⟨a, rfl, hba⟩ := hxs.addr (by omega)
      obtain ⟨x, Hx, hcx, hx1, hx2⟩ := hxs.named j hjn
      have hb0 := Hkw.out.cellAt Hb0.out
      have Htake : Hid (((valsOf xs L).take (k + 1)).map (Value.int .i64) = ((valsOf xs L).take k).map (Value.int .i64) ++ [.int .i64 x]) := by
        show _ = _
        have hl : k < (valsOf xs L).length := by rw [valsOf_length, Hmm.out]; exact hlt
        rw [take_succ_getD (x := x) hl ?_]
        · simp
        · unfold valsOf
          rw [List.getD_eq_getElem?_getD, List.getElem?_map, ← Hx.out]
          have h2 := Hq.out
          rw [List.getD_eq_getElem?_getD] at h2
          rw [List.getElem?_eq_getElem (by have := Hmm.out; omega)] at h2 ⊢
          simp at h2 ⊢
          rw [h2]
          simp
      clear hqm hbs hxs
      have hszr := Hkw.out.size
      go_wp2_with (at_builtin; refine wpList_append_own _ rfl _ _ 22 rfl w1.heap.size 3 i0 (.int .i64 0) 1 8 Tryd.underlying22 hi hz0 hz1 hz2 rfl (by decide) _ _ _ rfl (hown.alloc _) ⟨wr.heap.size, 0, none⟩ 1 1 [.int .i64 x] rfl rfl (cell_one_new _ _ _) (by simp [Value.oneCell']) (by unfold maxLen; omega) (by omega) (by simp; omega) ?_; intro v' w2 hown' hgrow _; clear hcq hcx hb0)
      go_roundw
      case rel => exact ⟨k + 1, by omega, by go_num, by rw [Htake.out]; exact hown', Hkw.out.appended hown (Nat.le_refl _) hgrow⟩
      case measure => simp [intOf]; omega
    · have e : k = (valsOf xs L).length := by rw [valsOf_length, Hmm.out]; omega
      rw [e, List.take_length] at hown
      obtain ⟨A', c', rfl, hI, hfr⟩ := Ints.of_own hown (fun x hx => by have := Hrng.out x hx; omega)
      have HI := Lib.hid hI
      have Hfr : Hid (Fresh w A') := Fresh.mono (w' := w1) hfr (by omega)
      clear hfr
      have He := Lib.hid e
      clear hI e hown
      go_wp2
      go_ret
      exact ⟨A', c', rfl, HI.out, Hk1.out.then Hkw.out, Hfr.out⟩

theorem dlist_any (A : Option Addr) (n c L : Nat) (xs : List Int) (w : World) (hS : Ints w A n xs) (hL : L < 2 ^ 64) (hT : Tab w) :
    Calls Tryd.prog 31 #[.agg #[.slice A n c, .int .u64 L]] w (ListPost (listB xs L) w) := by
  have HS := Lib.hid hS
  have HL := Lib.hid hL
  have HT := Lib.hid hT
  clear hS hL hT
  by_cases hm : mayB xs L = true
  · have hl : listB xs L = valsOf xs L := if_pos hm
    rw [hl]
    have Hm := Lib.hid hm
    have hmay : Hid (∀ W, Ints W A n xs → Calls Tryd.prog 28 #[.agg #[.slice A n c, .int .u64 L]] W fun e w' => e = .returned (.bool true) ∧ Kept W w') := fun W hW => by
      have := may_any A n c L xs W hW HL.out
      rwa [hm] at this
    clear hm hl
    go_enter Tryd.func31, Tryd.ntmps31
    go_wp2_with (first
      | (go_at_call 28; refine (hmay.out _ (HS.out.kept ((Kept.box _ _).then (Kept.box _ _)))).mono ?_; rintro e w1 ⟨rfl, hk⟩; have hb1 := hk.cellAt (box2_0 (w.alloc _) (.slice A n c) (.int .u64 L) _); have hb2 := hk.cellAt (box2_1 (w.alloc _) (.slice A n c) (.int .u64 L) _); simp only [World.size_alloc] at hb1 hb2; have Hk := Lib.hid (((Kept.box _ _).then (Kept.box _ _)).then hk); clear hk)
      | (go_at_call 62; refine (list1_any A n c L xs _ (HS.out.kept Hk.out) HL.out (HT.out.kept Hk.out) Hm.out).mono ?_; rintro e w2 ⟨A', c', rfl, hI, hk2, hfr⟩; have HI := Lib.hid hI; have Hfr : Hid (Fresh w A') := Fresh.mono hfr Hk.out.size; clear hfr; have Hk2 := Lib.hid (Hk.out.then hk2); clear hI hk2)
      | go_in)
    go_ret
    exact ⟨A', c', rfl, HI.out, Hk2.out, Hfr.out⟩
  · have hl : listB xs L = [] := if_neg hm
    rw [hl]
    have hmay : Hid (∀ W, Ints W A n xs → Calls Tryd.prog 28 #[.agg #[.slice A n c, .int .u64 L]] W fun e w' => e = .returned (.bool false) ∧ Kept W w') := fun W hW => by
      have := may_any A n c L xs W hW HL.out
      rwa [Bool.eq_false_iff.2 hm] at this
    clear hm hl
    go_enter Tryd.func31, Tryd.ntmps31
    go_wp2_with (first
      | (go_at_call 28; refine (hmay.out _ (HS.out.kept ((Kept.box _ _).then (Kept.box _ _)))).mono ?_; rintro e w1 ⟨rfl, hk⟩; have Hk := Lib.hid (((Kept.box _ _).then (Kept.box _ _)).then hk); clear hk)
      | go_in)
    go_ret
    exact ⟨Option.none, 0, rfl, Ints.none _, Hk.out, Fresh.none _⟩

/-- An address at which something lies is plain. -/
theorem plain_of_cell {w : World} {a : Addr} {v : Value} (h : w.cell? a = some v) : a = ⟨a.block, a.off, Option.none⟩ := by
  unfold World.cell? at h
  cases a with
  | mk b o s =>
    cases s with
    | none => rfl
    | some s =>
      split at h
      · simp at h
      · simp at h
theorem add_plain (b off j : Nat) : (⟨b, off, Option.none⟩ : Addr).add j = ⟨b, off + j, Option.none⟩ := by
  unfold Addr.add
  split <;> simp_all

theorem Ints.plain {w : World} {A : Option Addr} {n : Nat} {xs : List Int} (h : Ints w A n xs) (hn : 0 < n) : ∃ b off, A = some ⟨b, off, Option.none⟩ ∧ ∀ j, j < xs.length → w.cell? ⟨b, off + j, Option.none⟩ = some (.int .i64 (xs.getD j 0)) := by
  obtain ⟨a, rfl, hc⟩ := h.cell hn
  have h0 := hc 0 hn
  have e0 : a.add 0 = a := by unfold Addr.add; simp
  rw [e0] at h0
  have hp := plain_of_cell h0
  refine ⟨a.block, a.off, by rw [← hp], fun j hj => ?_⟩
  have := hc j (by have := h.len; omega)
  rw [hp, add_plain] at this
  exact this

theorem contains_any (A : Option Addr) (n c : Nat) (xs : List Int) (x : Int) (w : World) (hS : Ints w A n xs) :
    Calls Tryd.prog 88 #[.slice A n c, .int .i64 x] w fun e w' => e = .returned (.bool (xs.contains x)) ∧ w = w' := by
  by_cases hn : 0 < n
  · obtain ⟨b, off, rfl, hc⟩ := hS.plain hn
    refine (Tryd.slices_Contains_int b off n c xs x w (by have := hS.len; omega) hS.small hc).mono fun e w' ⟨he, hw⟩ => ⟨?_, hw.symm⟩
    rw [he, ← hS.len, List.take_length]
  · have h0 : n = 0 := by omega
    subst h0
    have hx : xs = [] := List.eq_nil_of_length_eq_zero hS.len
    subst hx
    exact (Tryd.slices_Contains_int_empty A c x w).mono fun e w' ⟨he, hw⟩ => ⟨he, hw.symm⟩

end Go.Proofs.YtjmegicopdbkdaaDoor

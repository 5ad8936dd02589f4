/-
  Sums of products.
-/
import Derived.Test.YthinpabeineahaaSums3
set_option maxHeartbeats 400000
set_option maxRecDepth 10000
namespace Go.Proofs.Ythinpabeineahaa
open Go Go.RowKit

/-- The sum of the first k products, if there is none that is no number. -/
def dotO (l m : List Int) : Nat → Option Int
  | 0 => some 0
  | k + 1 => match dotO l m k with
    | none => none
    | some s => if fits (l.getD k 0 * m.getD k 0) ∧ fits (s + l.getD k 0 * m.getD k 0) then some (s + l.getD k 0 * m.getD k 0) else none
def dotR (l m : List Int) : Int × Int :=
  if l.length = m.length then (match dotO l m l.length with | some s => (s, 0) | none => (0, 6)) else (0, 1)

theorem dotO_none {l m : List Int} {k n : Nat} (h : dotO l m k = none) (hk : k ≤ n) : dotO l m n = none := by
  induction n with
  | zero => have : k = 0 := by omega
            subst this; exact h
  | succ n ih =>
    by_cases e : k = n + 1
    · rw [← e]; exact h
    · rw [dotO, ih (by omega)]

theorem dotO_next {l m : List Int} {k : Nat} {s x y : Int} (h : dotO l m k = some s) (hx : l.getD k 0 = x) (hy : m.getD k 0 = y) :
    dotO l m (k + 1) = if fits (x * y) ∧ fits (s + x * y) then some (s + x * y) else none := by
  rw [dotO, h, hx, hy]

theorem dot_over {l m : List Int} {k n : Nat} (hl : l.length = n) (hm : m.length = n) (hk : k < n) (h : dotO l m (k + 1) = none) : (0, 6) = dotR l m := by
  unfold dotR
  rw [hl, hm, dotO_none h hk]
  simp

def DotIs (l m : List Int) (w : World) (e : Ending) (w' : World) : Prop := e = .returned (.tuple #[.int .i64 (dotR l m).1, .int .i64 (dotR l m).2]) ∧ Kept w w'

theorem dot_any (A B : Option Addr) (n c n' c' : Nat) (l m : List Int) (w : World) (hl : Ints w A n l) (hm : Ints w B n' m) :
    Calls Try.prog 11 #[.slice A n c, .slice B n' c'] w (DotIs l m w) := by
  have Hl := Lib.hid hl
  have Hm := Lib.hid hm
  have hs1 := hl.small
  have hs2 := hm.small
  by_cases hn : n = n'
  · subst hn
    clear hl hm
    go_enter Try.func11, Try.ntmps11
    go_wp2
    go_loopw [6, 17] (fun u v wr => ∃ (k : Nat) (s : Int), k ≤ n ∧ v = .int .i64 k ∧ u = .int .i64 s ∧ -9223372036854775808 ≤ s ∧ s ≤ 9223372036854775807 ∧ Hid (Kept w wr) ∧ Hid (dotO l m k = some s)) (fun _ v _ => n - (intOf v).toNat)
    case atStart => exact ⟨0, 0, Nat.zero_le _, rfl, rfl, by omega, by omega, Below.refl _ _, rfl⟩
    case round =>
      obtain ⟨k, s, hk, rfl, rfl, hs1, hs2, Hkw, Hd⟩ := hrel
      by_cases hlt : k < n
      · have hl := Hl.out.kept Hkw.out
        have hm := Hm.out.kept Hkw.out
        obtain ⟨a, rfl, hba⟩ := hl.addr (by omega)
        obtain ⟨b, rfl, hbb⟩ := hm.addr (by omega)
        obtain ⟨x, Hx, hcx, hx1, hx2⟩ := hl.named k hlt
        obtain ⟨y, Hy, hcy, hy1, hy2⟩ := hm.named k hlt
        have hnext := dotO_next Hd.out Hx.out Hy.out
        have hmul := fun W => mul_any x y W ⟨hx1, hx2⟩ ⟨hy1, hy2⟩
        generalize x * y = p at *
        have Hlen1 := Lib.hid hl.len
        have Hlen2 := Lib.hid hm.len
        clear hl hm Hl Hm
        by_cases hf : fits p
        · rw [told_yes hf] at hmul
          have hadd := fun W => add_any s p W ⟨hs1, hs2⟩ hf
          by_cases hf2 : fits (s + p)
          · rw [told_yes hf2] at hadd
            rw [if_pos ⟨hf, hf2⟩] at hnext
            have Hnext := Lib.hid hnext
            have Hmul := Lib.hid hmul
            have Hadd := Lib.hid hadd
            have Hf := Lib.hid hf
            have Hf2 := Lib.hid hf2
            clear hnext hmul hadd hf hf2
            go_wp2
            refine wp_region_quiet_below (by kernel_rfl) (by kernel_rfl) ?_
            repeat (any_goals (first | go_big_quiet_step (((go_at_call 9; exact Calls.regrown_of (Hmul.out _)))) | quiet_step (((go_at_call 9; exact Calls.regrown_of (Hmul.out _)))) | (refine wpQuiet_step (fun K hK => ?_); go_simp; split <;> (refine hK _ ?_; clear hK K))))
            all_goals (refine wpQuiet_nil ?_; intro w1 hw'; replace hw' := Kept.regrown hw')
            have Hk1 := Lib.hid hw'
            clear hw'
            go_wp2_with (go_at_call 7; refine (Hadd.out _).mono ?_; rintro e w2 ⟨rfl, hk2⟩; have Hk2 := Lib.hid hk2; clear hk2)
            go_roundw
            case rel => exact ⟨k + 1, s + p, by omega, by go_num, rfl, Hf2.out.1, Hf2.out.2, (Hkw.out.then Hk1.out).then Hk2.out, Hnext.out⟩
            case measure => simp [intOf]; omega
          · rw [told_no hf2] at hadd
            rw [if_neg (fun h => hf2 h.2)] at hnext
            have Hnext := Lib.hid hnext
            have Hmul := Lib.hid hmul
            have Hadd := Lib.hid hadd
            clear hnext hmul hadd hf hf2
            go_wp2
            refine wp_region_quiet_below (by kernel_rfl) (by kernel_rfl) ?_
            repeat (any_goals (first | go_big_quiet_step (((go_at_call 9; exact Calls.regrown_of (Hmul.out _)))) | quiet_step (((go_at_call 9; exact Calls.regrown_of (Hmul.out _)))) | (refine wpQuiet_step (fun K hK => ?_); go_simp; split <;> (refine hK _ ?_; clear hK K))))
            all_goals (refine wpQuiet_nil ?_; intro w1 hw'; replace hw' := Kept.regrown hw')
            have Hk1 := Lib.hid hw'
            clear hw'
            go_wp2_with (go_at_call 7; refine (Hadd.out _).mono ?_; rintro e w2 ⟨rfl, hk2⟩; have Hk2 := Lib.hid hk2; clear hk2)
            go_ret2
            exact ⟨ret2 (dot_over Hlen1.out Hlen2.out hlt Hnext.out), (Hkw.out.then Hk1.out).then Hk2.out⟩
        · rw [told_no hf] at hmul
          rw [if_neg (fun h => hf h.1)] at hnext
          have Hnext := Lib.hid hnext
          have Hmul := Lib.hid hmul
          clear hnext hmul hf
          go_wp2
          refine wp_region_quiet_below (by kernel_rfl) (by kernel_rfl) ?_
          repeat (any_goals (first | go_big_quiet_step (((go_at_call 9; exact Calls.regrown_of (Hmul.out _)))) | quiet_step (((go_at_call 9; exact Calls.regrown_of (Hmul.out _)))) | (refine wpQuiet_step (fun K hK => ?_); go_simp; split <;> (refine hK _ ?_; clear hK K))))
          all_goals (refine wpQuiet_nil ?_; intro w1 hw'; replace hw' := Kept.regrown hw')
          have Hk1 := Lib.hid hw'
          clear hw'
          go_wp2
          go_ret2
          exact ⟨ret2 (dot_over Hlen1.out Hlen2.out hlt Hnext.out), Hkw.out.then Hk1.out⟩
      · go_wp2
        go_ret2
        have e : k = n := by omega
        rw [e] at Hd
        exact ⟨ret2 (by unfold dotR; rw [Hl.out.len, Hm.out.len, Hd.out]; simp), Hkw.out⟩
  · have hne : ((n : Int) != n') = true := by simp; omega
    go_enter Try.func11, Try.ntmps11
    go_wp2
    go_ret2
    exact ⟨ret2 (by unfold dotR; rw [Hl.out.len, Hm.out.len, if_neg hn]), Below.refl _ _⟩
end Go.Proofs.Ythinpabeineahaa

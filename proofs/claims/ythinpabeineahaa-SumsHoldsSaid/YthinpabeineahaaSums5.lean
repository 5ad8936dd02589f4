/-
  Sums of products, by the reference.
-/
import Derived.Test.YthinpabeineahaaSums4
set_option maxHeartbeats 400000
set_option maxRecDepth 10000
namespace Go.Proofs.Ythinpabeineahaa
open Go Go.RowKit

theorem rdot_any (A B : Option Addr) (n c n' c' : Nat) (l m : List Int) (w : World) (hl : Ints w A n l) (hm : Ints w B n' m) :
    Calls Try.prog 12 #[.slice A n c, .slice B n' c'] w (DotIs l m w) := by
  have Hl := Lib.hid hl
  have Hm := Lib.hid hm
  have hs1 := hl.small
  have hs2 := hm.small
  by_cases hn : n = n'
  · subst hn
    clear hl hm
    go_enter Try.func12, Try.ntmps12
    go_wp2
    go_loopw [6, 7] (fun u v wr => ∃ (k : Nat) (s : Int), k ≤ n ∧ v = .int .i64 k ∧ u = .int .i64 s ∧ -9223372036854775808 ≤ s ∧ s ≤ 9223372036854775807 ∧ Hid (Kept w wr) ∧ Hid (dotO l m k = some s)) (fun _ v _ => n - (intOf v).toNat)
    case atStart => exact ⟨0, 0, Nat.zero_le _, rfl, rfl, by omega, by omega, Below.refl _ _, rfl⟩
    case round =>
      obtain ⟨k, s, hk, rfl, rfl, hs1, hs2, Hkw, Hd⟩ := hrel
      by_cases hlt : k < n
      · have hl := Hl.out.kept Hkw.out
        have hm := Hm.out.kept Hkw.out
        obtain ⟨a, rfl, hba⟩ := hl.addr (by omega)
        obtain ⟨b, rfl, hbb⟩ := hm.addr (by omega)
        obtain ⟨x, Hx, hcx, hx1, hx2⟩ := hl.named k hlt
        obtain ⟨y, Hy, hcy, hy1, hy2⟩ := hm.named k hlt
        have hnext := dotO_next Hd.out Hx.out Hy.out
        have hmul := fun W => rmul_all x y W ⟨hx1, hx2⟩ ⟨hy1, hy2⟩
        generalize x * y = p at *
        have Hlen1 := Lib.hid hl.len
        have Hlen2 := Lib.hid hm.len
        clear hl hm Hl Hm
        by_cases hf : fits p
        · rw [told_yes hf] at hmul
          have hadd := fun W => radd_any s p W ⟨hs1, hs2⟩ hf
          by_cases hf2 : fits (s + p)
          · rw [told_yes hf2] at hadd
            rw [if_pos ⟨hf, hf2⟩] at hnext
            have Hnext := Lib.hid hnext
            have Hmul := Lib.hid hmul
            have Hadd := Lib.hid hadd
            have Hf := Lib.hid hf
            have Hf2 := Lib.hid hf2
            clear hnext hmul hadd hf hf2
            go_wp2
            refine wp_region_quiet_below (by kernel_rfl) (by kernel_rfl) ?_
            repeat (any_goals (first | go_big_quiet_step (((go_at_call 10; exact Calls.regrown_of (Hmul.out _)))) | quiet_step (((go_at_call 10; exact Calls.regrown_of (Hmul.out _)))) | (refine wpQuiet_step (fun K hK => ?_); go_simp; split <;> (refine hK _ ?_; clear hK K))))
            all_goals (refine wpQuiet_nil ?_; intro w1 hw'; replace hw' := Kept.regrown hw')
            have Hk1 := Lib.hid hw'
            clear hw'
            go_wp2_with (go_at_call 8; refine (Hadd.out _).mono ?_; rintro e w2 ⟨rfl, hk2⟩; have Hk2 := Lib.hid hk2; clear hk2)
            go_roundw
            case rel => exact ⟨k + 1, s + p, by omega, by go_num, rfl, Hf2.out.1, Hf2.out.2, (Hkw.out.then Hk1.out).then Hk2.out, Hnext.out⟩
            case measure => simp [intOf]; omega
          · rw [told_no hf2] at hadd
            rw [if_neg (fun h => hf2 h.2)] at hnext
            have Hnext := Lib.hid hnext
            have Hmul := Lib.hid hmul
            have Hadd := Lib.hid hadd
            clear hnext hmul hadd hf hf2
            go_wp2
            refine wp_region_quiet_below (by kernel_rfl) (by kernel_rfl) ?_
            repeat (any_goals (first | go_big_quiet_step (((go_at_call 10; exact Calls.regrown_of (Hmul.out _)))) | quiet_step (((go_at_call 10; exact Calls.regrown_of (Hmul.out _)))) | (refine wpQuiet_step (fun K hK => ?_); go_simp; split <;> (refine hK _ ?_; clear hK K))))
            all_goals (refine wpQuiet_nil ?_; intro w1 hw'; replace hw' := Kept.regrown hw')
            have Hk1 := Lib.hid hw'
            clear hw'
            go_wp2_with (go_at_call 8; refine (Hadd.out _).mono ?_; rintro e w2 ⟨rfl, hk2⟩; have Hk2 := Lib.hid hk2; clear hk2)
            go_ret2
            exact ⟨ret2 (dot_over Hlen1.out Hlen2.out hlt Hnext.out), (Hkw.out.then Hk1.out).then Hk2.out⟩
        · rw [told_no hf] at hmul
          rw [if_neg (fun h => hf h.1)] at hnext
          have Hnext := Lib.hid hnext
          have Hmul := Lib.hid hmul
          clear hnext hmul hf
          go_wp2
          refine wp_region_quiet_below (by kernel_rfl) (by kernel_rfl) ?_
          repeat (any_goals (first | go_big_quiet_step (((go_at_call 10; exact Calls.regrown_of (Hmul.out _)))) | quiet_step (((go_at_call 10; exact Calls.regrown_of (Hmul.out _)))) | (refine wpQuiet_step (fun K hK => ?_); go_simp; split <;> (refine hK _ ?_; clear hK K))))
          all_goals (refine wpQuiet_nil ?_; intro w1 hw'; replace hw' := Kept.regrown hw')
          have Hk1 := Lib.hid hw'
          clear hw'
          go_wp2
          go_ret2
          exact ⟨ret2 (dot_over Hlen1.out Hlen2.out hlt Hnext.out), Hkw.out.then Hk1.out⟩
      · go_wp2
        go_ret2
        have e : k = n := by omega
        rw [e] at Hd
        exact ⟨ret2 (by unfold dotR; rw [Hl.out.len, Hm.out.len, Hd.out]; simp), Hkw.out⟩
  · have hne : ((n : Int) != n') = true := by simp; omega
    go_enter Try.func12, Try.ntmps12
    go_wp2
    go_ret2
    exact ⟨ret2 (by unfold dotR; rw [Hl.out.len, Hm.out.len, if_neg hn]), Below.refl _ _⟩
end Go.Proofs.Ythinpabeineahaa

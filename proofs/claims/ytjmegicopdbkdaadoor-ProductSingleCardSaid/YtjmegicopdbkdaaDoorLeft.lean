/-
  Contracts of what the laws of the steps share: Left.
-/
import Derived.Test.YtjmegicopdbkdaaDoorRef04
import Derived.Test.YtjmegicopdbkdaaDoorL12
set_option maxHeartbeats 1000000
set_option maxRecDepth 10000
namespace Go.Proofs.YtjmegicopdbkdaaDoor
open Go Go.RowKit Pl

def leftUpto (row : List Int) (ds : List DomB) (k : Nat) : Bool := (List.range k).all fun i => (listB (ds.getD i nilD).1 (ds.getD i nilD).2).contains (row.getD i 0)
/-- Is each value of a row left? -/
def leftL (row : List Int) (ds : List DomB) : Bool := decide (row.length = ds.length) && leftUpto row ds ds.length
theorem leftUpto_succ (row : List Int) (ds : List DomB) (k : Nat) : leftUpto row ds (k + 1) = (leftUpto row ds k && (listB (ds.getD k nilD).1 (ds.getD k nilD).2).contains (row.getD k 0)) := by
  unfold leftUpto
  rw [List.range_succ, List.all_append]
  simp
theorem leftUpto_bad {row : List Int} {ds : List DomB} {m n : Nat} (h : leftUpto row ds m = false) (hm : m ≤ n) : leftUpto row ds n = false := by
  cases e : leftUpto row ds n with
  | false => rfl
  | true =>
    unfold leftUpto at *
    rw [List.all_eq_true] at e
    have : (List.range m).all (fun i => (listB (ds.getD i nilD).1 (ds.getD i nilD).2).contains (row.getD i 0)) = true := List.all_eq_true.2 fun i hi => e i (List.mem_range.2 (by have := List.mem_range.1 hi; omega))
    rw [h] at this
    cases this
theorem contains_snoc (l : List Int) (v x : Int) : (l ++ [v]).contains x = (l.contains x || decide (v = x)) := by
  rw [Bool.eq_iff_iff, Bool.or_eq_true, List.contains_iff_mem, List.contains_iff_mem, List.mem_append, decide_eq_true_eq, List.mem_singleton]
  constructor
  · rintro (h | h)
    · exact Or.inl h
    · exact Or.inr h.symm
  · rintro (h | h)
    · exact Or.inl h
    · exact Or.inr h.symm

theorem left_any (A B : Option Addr) (n c m d : Nat) (row : List Int) (ds : List DomB) (w : World) (hR : Ints w A n row) (hS : Doms w B m ds) :
    Calls Tryd.prog 18 #[.slice A n c, .slice B m d] w fun e w' => e = .returned (.bool (leftL row ds)) ∧ Kept w w' := by
  have HR := Lib.hid hR
  have HS := Lib.hid hS
  have hsm := hR.small
  have hsm2 := hS.small
  have hla := hR.len
  have hlb := hS.len
  by_cases g1 : ¬ (n : Int) = m
  · have hd : ((n : Int) != m) = true := by simpa using g1
    have hw : leftL row ds = false := by unfold leftL; rw [hla, hlb]; simp; omega
    rw [hw]
    clear hR hS hla hlb
    go_enter Tryd.func18, Tryd.ntmps18
    go_wp2_with fail
    go_ret
    exact ⟨rfl, Kept.same _⟩
  have e : n = m := by omega
  subst e
  have hw : Hid (leftL row ds = leftUpto row ds n) := by show _ = _; unfold leftL; rw [hla, hlb]; simp
  clear hR hS hla hlb g1
  go_enter Tryd.func18, Tryd.ntmps18
  go_wp2_with fail
  go_loopw [17] (fun v wr => ∃ k : Nat, k ≤ n ∧ v = .int .i64 k ∧ Hid (Kept w wr) ∧ Hid (leftUpto row ds k = true)) (fun v _ => n - (intOf v).toNat)
  case atStart => exact ⟨0, Nat.zero_le _, rfl, Kept.same _, rfl⟩
  case round =>
    obtain ⟨k, hk, rfl, Hkw, Hok⟩ := hrel
    by_cases hlt : k < n
    · have hSr := HS.out.kept Hkw.out
      have hRr := HR.out.kept Hkw.out
      obtain ⟨b, rfl, hblk⟩ := hSr.addr (by omega)
      obtain ⟨a, rfl, hblk2⟩ := hRr.addr (by omega)
      obtain ⟨xs, L, Bx, mx, cx, Hdx, hc1, hc2, HIx, hLx⟩ := hSr.named k hlt
      obtain ⟨x, Hx, _, hx1, hx2⟩ := hRr.named k hlt
      have Hnext : Hid (leftUpto row ds (k + 1) = (listB xs L).contains x) := by
        show _ = _
        rw [leftUpto_succ, Hok.out, Hdx.out, Hx.out, Bool.true_and]
      clear hSr hRr
      go_wp2_with fail
      refine (rdlist_any Bx mx cx L xs _ (HIx.out.kept (Kept.box _ _)) hLx).mono ?_
      rintro e w1 ⟨Bl, cl, rfl, hIl, hk1, _⟩
      have HK1 := Lib.hid (Hkw.out.then ((Kept.box _ _).then hk1))
      have HIl := Lib.hid hIl
      have hel := listB_length xs L
      clear hIl hk1
      generalize listB xs L = l at *
      generalize hm : l.length = mm at *
      have Hmm := Lib.hid hm
      clear hm
      go_wp2_with fail
      go_loopw [7, 25] (fun u v wr => ∃ j : Nat, j ≤ mm ∧ v = .int .i64 j ∧ u = .bool ((l.take j).contains x) ∧ Hid (Kept w1 wr)) (fun _ v _ => mm - (intOf v).toNat)
      case atStart => exact ⟨0, Nat.zero_le _, rfl, by simp, Kept.same _⟩
      case round =>
        obtain ⟨j, hj, rfl, rfl, Hkw2⟩ := hrel
        by_cases hlt2 : j < mm
        · have hIr := HIl.out.kept Hkw2.out
          obtain ⟨bl, rfl, hbl⟩ := hIr.addr (by omega)
          obtain ⟨y, Hy, hcy, _, _⟩ := hIr.named j hlt2
          obtain ⟨x', Hx', hcx, _, _⟩ := (HR.out.kept (HK1.out.then Hkw2.out)).named k hlt
          have ex : x' = x := Hx'.out.symm.trans Hx.out
          subst ex
          have Hs : Hid ((l.take (j + 1)).contains x' = ((l.take j).contains x' || decide (y = x'))) := by
            show _ = _
            rw [take_succ_getD (by have := Hmm.out; omega) Hy.out]
            exact contains_snoc _ _ _
          clear hIr
          generalize (l.take j).contains x' = b1 at *
          cases b1 with
          | true =>
            go_wp2_with fail
            go_roundw
            case rel => exact ⟨j + 1, by omega, by go_num, by rw [Hs.out]; rfl, Hkw2.out⟩
            case measure => simp [intOf]; omega
          | false =>
            go_wp2_with fail
            go_roundw
            case rel => exact ⟨j + 1, by omega, by go_num, by rw [Hs.out]; rfl, Hkw2.out⟩
            case measure => simp [intOf]; omega
        · have e : j = mm := by omega
          subst e
          have e2 : l.take j = l := List.take_of_length_le (by have := Hmm.out; omega)
          rw [e2]
          clear e2
          have Hk2 := Lib.hid (HK1.out.then Hkw2.out)
          generalize l.contains x = b1 at *
          cases b1 with
          | true =>
            go_wp2_with fail
            go_roundw
            case rel => exact ⟨k + 1, by omega, by go_num, Hk2.out, Hnext.out⟩
            case measure => simp [intOf]; omega
          | false =>
            go_wp2_with fail
            go_ret
            exact ⟨ret_bool (by rw [hw.out, leftUpto_bad Hnext.out hlt]), Hk2.out⟩
    · have e : k = n := by omega
      subst e
      go_wp2_with fail
      go_ret
      exact ⟨ret_bool (by rw [hw.out, Hok.out]), Hkw.out⟩
end Go.Proofs.YtjmegicopdbkdaaDoor

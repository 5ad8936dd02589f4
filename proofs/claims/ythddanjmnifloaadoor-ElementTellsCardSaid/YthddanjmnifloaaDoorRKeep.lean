/-
  Contracts of the document's answer for steps: Keep; at, of an element.
-/
import Derived.Test.YthddanjmnifloaaDoorLists
import Derived.Test.YthddanjmnifloaaDoorKeep04
import Derived.Test.YthddanjmnifloaaDoorOwn
import Derived.Test.YthddanjmnifloaaDoorLawsPlain
set_option maxHeartbeats 1000000
set_option maxRecDepth 10000
namespace Go.Proofs.YthddanjmnifloaaDoor
open Go Go.RowKit Pl

theorem rkeeps_any (kq : Nat → Int → Bool) (A B : Option Addr) (n c d : Nat) (ds : List DomB) (ls : List (List Int)) (w : World) (hS : Doms w A n ds) (hL : LL w B n ls) (hm : allMay ds = true) (hkq : ∀ i x, kq i x = (ls.getD i []).contains x) (hn : n ≤ 1000) :
    Calls Tryd.prog 60 #[.slice A n c, .slice B n d] w (DomsPost (stepB kq ds) w) := by
  obtain ⟨i0, hi, hz0, hz1, hz2⟩ := info_parts info_rdom
  have HS := Lib.hid hS
  have HL := Lib.hid hL
  have Hlen := Lib.hid hS.len
  have Hm := Lib.hid hm
  have Hkq := Lib.hid hkq
  have Hsl : Hid ((stepB kq ds).length = n) := by show _ = _; rw [stepB_length]; exact hS.len
  clear hS hL hm hkq
  go_enter Tryd.func60, Tryd.ntmps60
  go_wp2_with fail
  go_loopw [5, 6] (fun u v wr => ∃ k : Nat, k ≤ n ∧ v = .int .i64 k ∧ Hid (OwnR wr w.heap.size u ((stepB kq ds).take k)) ∧ Hid (Kept w wr)) (fun _ v _ => n - (intOf v).toNat)
  case atStart =>
    refine ⟨0, Nat.zero_le _, rfl, ?_, Kept.box _ _⟩
    rw [List.take_zero]
    exact ⟨[], World.ownsRow_made w #[] 0 (Nat.le_refl _) (by decide) rfl, fun j hj => by simp at hj⟩
  case round =>
    obtain ⟨k, hk, rfl, HO, Hkw⟩ := hrel
    by_cases hlt : k < n
    · obtain ⟨a, rfl, hblk0⟩ := HS.out.addr (by omega)
      obtain ⟨xs, L, B1, m, cB, Hd, hw1, hw2, HI0, hL⟩ := HS.out.named k hlt
      obtain ⟨b, l, B2, m2, cB2, rfl, hblk20, Hl, hw3, HI20⟩ := HL.out.named k hlt
      have HI := Lib.hid (HI0.out.kept Hkw.out)
      have HI2 := Lib.hid (HI20.out.kept Hkw.out)
      have Hw1 := Lib.hid hw1
      have Hw2 := Lib.hid hw2
      have Hw3 := Lib.hid hw3
      have hc1 := Hkw.out.cellAt hw1
      have hc2 := Hkw.out.cellAt hw2
      have hc3 := Hkw.out.cellAt hw3
      have hblk : a.block < wr.heap.size := by have := Hkw.out.size; omega
      have hblk2 : b.block < wr.heap.size := by have := Hkw.out.size; omega
      clear hw1 hw2 hw3
      have Hmay : Hid (mayB xs L = true) := by
        have := allMay_at Hm.out (show k < ds.length by have := Hlen.out; omega)
        have h2 := Hd.out
        unfold nilD at h2
        rw [h2] at this
        exact this
      obtain ⟨vs, hown, hd⟩ := HO.out
      have hkl : ((stepB kq ds).take k).length = k := by rw [List.length_take]; have := Hsl.out; omega
      rw [hkl] at hown hd
      have Hul : Hid (∀ i, u5.ownBlock = some i → w.heap.size ≤ i ∧ i < wr.heap.size) := hown.lt
      have Hown := Lib.hid hown
      have Hdd := Lib.hid hd
      have hszr := Hkw.out.size
      obtain ⟨dk, hdk⟩ : ∃ dk, dk = keepD (kq k) (xs, L) := ⟨_, rfl⟩
      have Hnext : Hid ((stepB kq ds).take (k + 1) = (stepB kq ds).take k ++ [dk]) := by
        show _ = _
        refine take_dom (by have := Hsl.out; omega) ?_
        rw [hdk, ← Hd.out]
        exact stepB_getD kq ds (by have := Hlen.out; omega)
      have Hdl : Hid (dk.2 < 2 ^ 64) := by show _ < _; rw [hdk]; exact keepD_lt _ _
      have Hd1 : Hid (dk.1 = xs) := by show _ = _; rw [hdk]; rfl
      have HK : Hid (∀ W, Kept wr W → Calls Tryd.prog 84 #[.agg #[.slice B1 m cB, .int .u64 L], .slice B2 m2 cB2] W fun e w' => ∃ A' c', e = .returned (.agg #[.slice A' m c', .int .u64 (dk.2 : Nat)]) ∧ Ints w' A' m dk.1 ∧ Kept W w' ∧ Fresh W A') := fun W hW => by
        have hml : xs.length = m := HI.out.len
        refine (rkeep_p (kq k) B1 B2 m cB m2 cB2 L xs l W (fun x => by rw [Hkq.out k x, Hl.out]) (HI.out.kept hW) (HI2.out.kept hW) hL Hmay.out).mono ?_
        rintro e w' ⟨A', c', rfl, h1, h2, h3⟩
        rw [← hdk] at h1 ⊢
        have e2 : dk.1.length = m := by rw [Hd1.out]; exact hml
        rw [e2] at h1 ⊢
        exact ⟨A', c', rfl, h1, h2, h3⟩
      have hn1 := World.new_ne wr _ hc1
      have hn2 := World.new_ne wr _ hc2
      have hn3 := World.new_ne wr _ hc3
      have Hc1 := Lib.hid hc1
      have Hc2 := Lib.hid hc2
      have Hc3 := Lib.hid hc3
      clear hown hd hdk
      go_wp2_with fail
      go_region_held3 (fun W => W.cell? (a.add (k * 2)) = some (.slice B1 m cB) ∧ W.cell? ⟨a.block, (a.add (k * 2)).off + 1, Option.none⟩ = some (.int .u64 L) ∧ W.cell? (b.add k) = some (.slice B2 m2 cB2))
        (first
          | exact ⟨Hc1.out, Hc2.out, Hc3.out⟩
          | exact ⟨(Kept.drewn _).cellAt Hc1.out, (Kept.drewn _).cellAt Hc2.out, (Kept.drewn _).cellAt Hc3.out⟩
          | exact ⟨HKe.out.cellAt Hc1.out, HKe.out.cellAt Hc2.out, HKe.out.cellAt Hc3.out⟩
          | exact ⟨HKp.out.cellAt Hw1.out, HKp.out.cellAt Hw2.out, HKp.out.cellAt Hw3.out⟩
          | exact ⟨(HKe.out.newBlock _).cellAt Hc1.out, (HKe.out.newBlock _).cellAt Hc2.out, (HKe.out.newBlock _).cellAt Hc3.out⟩)
        (first
          | (go_at_call 84; refine (HK.out _ (Kept.drewn _)).mono ?_; rintro e wC ⟨B', c', rfl, hIB, hkC, hfB⟩; have HKe : Hid (Kept wr wC) := (Kept.drewn _).then hkC)
          | (refine step_append_lies _ (by rfl) _ _ _ (by rfl) w.heap.size 78 i0 _ 2 32 Tryd.underlying43 hi hz0 hz1 hz2 rfl (by omega) u5 k vs (by rfl) (own_kept Hown.out (HKe.out.newBlock _)) ⟨wC.heap.size, 0, none⟩ 1 1 [.slice B' m c', .int .u64 dk.2] (by rfl) (by rfl) (World.news_of_block (cs := #[.slice B' m c', .int .u64 dk.2]) (t := 78) (fr := (0, 0)) (heap_alloc_new wC _)) (by simp [Value.oneCell']) (by omega) (by unfold maxLen; omega) (by omega) (by have := hkC.size; simp at this ⊢; omega) (wC.heap.size + 1) (by simp) ?_; intro gg cap w3 hown3 hgrow hat hlt3; have HKp : Hid (Kept w w3) := (Hkw.out.then (HKe.out.newBlock _)).grown hgrow (by have := hkC.size; simp at this ⊢; omega) (fun i hi => (Hul.out i hi).1)))
      go_wp2_with fail
      go_roundw
      case rel =>
        refine ⟨k + 1, by omega, by go_num, ?_, HKp.out⟩
        show OwnR w3 _ _ _
        rw [Hnext.out]
        have := OwnR.snoc (ds := (stepB kq ds).take k) (d := dk) (w1 := wC.alloc (.cells #[.slice B' m c', .int .u64 dk.2] 78)) (B := B') (m := m) (c := c') (by rw [hkl]; exact own_kept Hown.out (HKe.out.newBlock _)) ?_ (hIB.kept (Kept.box _ _)) ?_ Hdl.out (by rw [hkl]; exact hown3) hgrow ?_
        · rw [hkl] at this; exact this
        · rw [hkl]
          intro j hj
          obtain ⟨hl, B3, m3, c3', e1, e2, e3, e4⟩ := Hdd.out j hj
          exact ⟨hl, B3, m3, c3', e1, e2, e3.kept (HKe.out.newBlock _), e4⟩
        · intro _ a' ha' e
          have h5 : wr.heap.size ≤ a'.block := hfB a' ha'
          have := Hul.out _ e
          omega
        · rcases hat with h | h
          · exact Or.inl h
          · exact Or.inr (by rw [h]; simp)
      case measure => simp [intOf]; omega
    · have e : k = n := by omega
      subst e
      rw [List.take_of_length_le (by have := Hsl.out; omega)] at HO
      obtain ⟨A5, c5, rfl⟩ := HO.out.parts
      have HD := Lib.hid (HO.out.doms (n := (stepB kq ds).length) rfl (by have := Hsl.out; omega))
      clear HO
      go_wp2_with fail
      go_ret
      exact ⟨A5, c5, rfl, HD.out, Hkw.out⟩

/-- Does a number stand at a place? -/
def atE (nums : List Int) (p v : Int) : Bool := decide (0 ≤ p) && decide (p < nums.length) && decide (nums.getD p.toNat 0 = v)
theorem rat_any (A : Option Addr) (n c : Nat) (nums : List Int) (p v : Int) (w : World) (hI : Ints w A n nums) :
    Calls Tryd.prog 59 #[.slice A n c, .int .i64 p, .int .i64 v] w fun e w' => e = .returned (.bool (atE nums p v)) ∧ w = w' := by
  have HI := Lib.hid hI
  have Hlen := Lib.hid hI.len
  have hsm := hI.small
  clear hI
  by_cases g1 : p < 0
  · have hd : decide (0 ≤ p) = false := by simp; omega
    go_enter Tryd.func59, Tryd.ntmps59
    go_wp2_with fail
    go_ret
    exact ⟨ret_bool (by unfold atE; rw [hd]; rfl), rfl⟩
  have hd : decide (0 ≤ p) = true := by simp; omega
  by_cases g2 : (n : Int) ≤ p
  · have hd2 : decide (p < (n : Int)) = false := by simp; omega
    go_enter Tryd.func59, Tryd.ntmps59
    go_wp2_with fail
    go_ret
    exact ⟨ret_bool (by unfold atE; rw [Hlen.out, hd2]; simp), rfl⟩
  have hd2 : decide (p < (n : Int)) = true := by simp; omega
  obtain ⟨j, rfl⟩ := Int.eq_ofNat_of_zero_le (show 0 ≤ p by omega)
  obtain ⟨a, rfl, hb⟩ := HI.out.addr (by omega)
  obtain ⟨y, Hy, hcy, _, _⟩ := HI.out.named j (by omega)
  have Hat : Hid (atE nums (j : Int) v = decide (y = v)) := by
    show _ = _
    unfold atE; rw [Hlen.out, hd, hd2, Int.toNat_natCast, Hy.out]; simp
  go_enter Tryd.func59, Tryd.ntmps59
  go_wp2_with fail
  go_ret
  exact ⟨ret_bool (by rw [Hat.out]; rfl), rfl⟩
end Go.Proofs.YthddanjmnifloaaDoor

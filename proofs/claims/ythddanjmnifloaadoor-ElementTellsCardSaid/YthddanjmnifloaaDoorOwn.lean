/-
  Contracts of what the laws of the steps share: Own.
-/
import Derived.Test.YthddanjmnifloaaDoorOwnR
import Derived.Test.YthddanjmnifloaaDoorFewer
set_option maxHeartbeats 1000000
set_option maxRecDepth 10000
namespace Go.Proofs.YthddanjmnifloaaDoor
open Go Go.RowKit Pl

theorem info_rdom : (Tryd.prog.info? 78).map (fun i => (i.zero, i.size, i.bytes)) = some (some (.agg #[.slice Option.none 0 0, .int .u64 0]), 2, 32) := by kernel_rfl

theorem own_any (A : Option Addr) (n c : Nat) (ds : List DomB) (w : World) (hS : Doms w A n ds) (hn : n ≤ 1000) :
    Calls Tryd.prog 32 #[.slice A n c] w (DomsPost ds w) := by
  obtain ⟨i0, hi, hz0, hz1, hz2⟩ := info_parts info_rdom
  have HS := Lib.hid hS
  have Hlen := Lib.hid hS.len
  clear hS
  go_enter Tryd.func32, Tryd.ntmps32
  go_wp2_with fail
  go_loopw [3, 9] (fun u v wr => ∃ k : Nat, k ≤ n ∧ v = .int .i64 k ∧ Hid (OwnR wr w.heap.size u (ds.take k)) ∧ Hid (Kept w wr)) (fun _ v _ => n - (intOf v).toNat)
  case atStart =>
    refine ⟨0, Nat.zero_le _, rfl, ?_, Kept.box _ _⟩
    rw [List.take_zero]
    exact ⟨[], World.ownsRow_made w #[] 0 (Nat.le_refl _) (by decide) rfl, fun j hj => by simp at hj⟩
  case round =>
    obtain ⟨k, hk, rfl, HO, Hkw⟩ := hrel
    by_cases hlt : k < n
    · have hSr := HS.out.kept Hkw.out
      obtain ⟨a, rfl, hblk⟩ := hSr.addr (by omega)
      obtain ⟨xs, L, B, m, cB, Hd, hc1, hc2, HI, hL⟩ := hSr.named k hlt
      have HIw : Hid (0 < m → ∀ a, B = some a → a.block < w.heap.size) := fun hm a' ha' => by
        obtain ⟨b, e, hc⟩ := HS.out.cell (by omega)
        cases e
        obtain ⟨B', m', c', q1, _, q3⟩ := hc k hlt
        have q4 := Hkw.out.cellAt q1
        rw [hc1] at q4
        cases q4
        subst ha'
        exact q3.block hm
      obtain ⟨vs, hown, hd⟩ := HO.out
      have hkl : (ds.take k).length = k := by rw [List.length_take]; have := Hlen.out; omega
      rw [hkl] at hown hd
      have Hown := Lib.hid hown
      have Hdd := Lib.hid hd
      have Hul : Hid (∀ i, u3.ownBlock = some i → w.heap.size ≤ i ∧ i < wr.heap.size) := hown.lt
      have hszr := Hkw.out.size
      clear hSr hown hd
      go_wp2_with (at_builtin; refine wpList_append_own_at _ rfl _ _ 43 rfl w.heap.size 78 i0 (.agg #[.slice Option.none 0 0, .int .u64 0]) 2 32 Tryd.underlying43 hi hz0 hz1 hz2 rfl (by decide) _ _ _ rfl (own_kept Hown.out ((Kept.box _ _).newBlock _)) ⟨wr.heap.size + 1, 0, none⟩ 1 1 [.slice B m cB, .int .u64 L] rfl rfl (World.news_of_block (cs := #[.slice B m cB, .int .u64 L]) (t := 78) (fr := (0, 0)) (heap_new2 _ _ _)) (by simp [Value.oneCell']) (by unfold maxLen; omega) (by omega) (by simp; omega) ?_; intro v' w2 hown' hgrow _ hloc; obtain ⟨g, cap, rfl, hgb, hgl⟩ := hown'.form (by omega))
      go_roundw
      case rel =>
        have hk2 := (Kept.box wr (.cells #[.slice B m cB, .int .u64 (L : Nat)] 58)).newBlock (.cells #[.slice B m cB, .int .u64 (L : Nat)] 78)
        refine ⟨k + 1, by omega, by go_num, ?_, ?_⟩
        · show OwnR _ _ _ _
          rw [take_dom (by have := Hlen.out; omega) Hd.out]
          have := OwnR.snoc (ds := ds.take k) (d := (xs, L)) (c := cB) (by rw [hkl]; exact own_kept Hown.out hk2) ?_ (HI.out.kept hk2) ?_ hL (by rw [hkl]; exact hown') hgrow ?_
          · rw [hkl] at this; exact this
          · rw [hkl]
            intro j hj
            obtain ⟨hl, B1, m1, c1', e1, e2, e3, e4⟩ := Hdd.out j hj
            exact ⟨hl, B1, m1, c1', e1, e2, e3.kept hk2, e4⟩
          · intro hm a' ha' e
            have := Hul.out _ e
            have := HIw.out hm a' ha'
            omega
          · rcases hloc with h | h
            · exact Or.inl (by rw [← h]; rfl)
            · right
              have : g = wr.heap.size + 1 + 1 := by simpa [Value.ownBlock] using h
              simp only [World.size_alloc]
              omega
        · show Kept w w2
          exact ((Hkw.out.newBlock _).newBlock _).grown hgrow (by simp; omega) (fun i hi => (Hul.out i hi).1)
      case measure => simp [intOf]; omega
    · have e : k = n := by omega
      subst e
      rw [List.take_of_length_le (by have := Hlen.out; omega)] at HO
      obtain ⟨A5, c5, rfl⟩ := HO.out.parts
      have HD := Lib.hid (HO.out.doms (n := ds.length) rfl (by have := Hlen.out; omega))
      clear HO
      go_wp2_with fail
      go_ret
      exact ⟨A5, c5, rfl, HD.out, Hkw.out⟩
end Go.Proofs.YthddanjmnifloaaDoor

/-
  Contracts and plain laws that the card rests on, part 12.
-/
import Derived.Test.YthddanjmnifloaaDoorG11
import Derived.Test.YthddanjmnifloaaDoorG10
import Derived.Test.YthddanjmnifloaaDoorG5
set_option maxHeartbeats 1000000
set_option maxRecDepth 10000
namespace Go.Proofs.YthddanjmnifloaaDoor
open Go Go.RowKit Pl

/-- Has a row that is alive a value at a place? -/
def tabG (C : ConB) (ds : List DomB) (j : Nat) (x : Int) : Bool := (rowsOf C ds).any fun row => row.getD j 0 == x
theorem mem_rows {C : ConB} {ds : List DomB} {row : List Int} : row ∈ rowsOf C ds ↔ ∃ k, k < C.nums.length / C.vars.length ∧ chunk C.nums C.vars.length k = row ∧ liveRow C ds row = true := by
  unfold rowsOf rowsUpto
  rw [List.mem_filter, List.mem_map]
  constructor
  · rintro ⟨⟨k, hk, rfl⟩, h⟩
    exact ⟨k, List.mem_range.1 hk, rfl, h⟩
  · rintro ⟨k, hk, rfl, h⟩
    exact ⟨⟨k, List.mem_range.2 hk, rfl⟩, h⟩
theorem chunk_length {nums : List Int} {n k : Nat} (hk : k < nums.length / n) : (chunk nums n k).length = n := by
  unfold chunk
  rw [List.length_take, List.length_drop]
  have h1 : (k + 1) * n ≤ nums.length / n * n := Nat.mul_le_mul_right n hk
  have h2 := Nat.div_mul_le_self nums.length n
  rw [Nat.add_mul, Nat.one_mul] at h1
  omega
theorem rows_length {C : ConB} {ds : List DomB} {row : List Int} (h : row ∈ rowsOf C ds) : row.length = C.vars.length := by
  obtain ⟨k, hk, rfl, _⟩ := mem_rows.1 h
  exact chunk_length hk

theorem table_parts {C : ConB} {V : Int} (hk : C.kind = 6) (h : rightB C V = true) : 1 ≤ C.vars.length ∧ C.vars.length ≤ 8 ∧ C.nums.length ≤ 96 ∧ C.nums.length % C.vars.length = 0 := by
  rw [← tabB_right hk] at h
  unfold tabB variablesB bareB at h
  simp only [Bool.and_eq_true, decide_eq_true_eq] at h
  obtain ⟨⟨⟨⟨h1, h2⟩, _⟩, ⟨_, h3⟩, _⟩, h4⟩ := h
  refine ⟨by omega, by omega, by omega, ?_⟩
  omega

theorem tabstep_any (K R Ct : Int) (A1 A2 A3 : Option Addr) (n1 c1 n2 c2 n3 c3 : Nat) (C : ConB) (A : Option Addr) (n c : Nat) (ds : List DomB) (w : World) (hC : ConIn w K R Ct A1 A2 A3 n1 c1 n2 c2 n3 c3 C) (hS : Doms w A n ds) (hT : Tab w) (hn : n ≤ 1000) :
    Calls Tryd.prog 40 #[.agg #[.int .i64 K, .slice A1 n1 c1, .slice A2 n2 c2, .int .i64 R, .int .i64 Ct, .slice A3 n3 c3], .slice A n c] w (StepPost (if goK 6 C ds = true then some (stepB (varsKp C.vars (tabG C ds) C.vars.length) ds) else Option.none) w) := by
  have HC := Lib.hid hC
  have HS := Lib.hid hS
  have HT := Lib.hid hT
  have Hlen := Lib.hid hS.len
  have hKk := hC.kind
  clear hC hS hT
  by_cases g1 : ¬ K = 6
  · have hd : (K != 6) = true := by simpa using g1
    have hgo : goK 6 C ds = false := by unfold goK; rw [hKk]; simp [g1]
    rw [hgo]
    go_enter Tryd.func40, Tryd.ntmps40
    go_wp2_with fail
    go_ret2
    exact ⟨rfl, Kept.box _ _⟩
  have g1 := Classical.not_not.1 g1
  subst g1
  have HR : Hid (∀ W, ConIn W 6 R Ct A1 A2 A3 n1 c1 n2 c2 n3 c3 C → Calls Tryd.prog 48 #[.agg #[.int .i64 6, .slice A1 n1 c1, .slice A2 n2 c2, .int .i64 R, .int .i64 Ct, .slice A3 n3 c3], .int .i64 n] W fun e w' => e = .returned (.bool (rightB C n)) ∧ Kept W w') := fun W hW => right6_any 6 R Ct A1 A2 A3 n1 c1 n2 c2 n3 c3 C n W hW rfl
  have HA : Hid (∀ W, Doms W A n ds → Calls Tryd.prog 49 #[.slice A n c, .func (.func 65) #[] #[]] W fun e w' => e = .returned (.bool (!allMay ds)) ∧ Kept W w') := fun W hW => tab_contains_any A n c ds W hW
  have Hgo : Hid (goK 6 C ds = (rightB C n && allMay ds)) := by
    show _ = _
    unfold goK; rw [hKk, Hlen.out]; simp
  generalize hb1 : rightB C n = b1 at HR Hgo
  generalize hb2 : allMay ds = b2 at HA Hgo
  have Hb1 := Lib.hid hb1
  have Hb2 := Lib.hid hb2
  have Hkk := Lib.hid hKk
  clear hb1 hb2 hKk
  rw [Hgo.out]
  clear Hgo
  cases b1 with
  | false =>
    go_enter Tryd.func40, Tryd.ntmps40
    go_wp2_with fail
    refine (HR.out _ (HC.out.kept (Kept.box _ _))).mono ?_
    rintro e w1 ⟨rfl, hk⟩
    have Hk := Lib.hid ((Kept.box _ _).then hk)
    clear hk
    go_wp2_with fail
    go_ret2
    exact ⟨rfl, Hk.out⟩
  | true =>
    cases b2 with
    | false =>
      go_enter Tryd.func40, Tryd.ntmps40
      go_wp2_with fail
      refine (HR.out _ (HC.out.kept (Kept.box _ _))).mono ?_
      rintro e w1 ⟨rfl, hk⟩
      have Hk := Lib.hid ((Kept.box _ _).then hk)
      clear hk
      go_wp2_with fail
      refine (HA.out _ (HS.out.kept Hk.out)).mono ?_
      rintro e w2 ⟨rfl, hk⟩
      have Hk2 := Lib.hid (Hk.out.then hk)
      clear hk
      go_wp2_with fail
      go_ret2
      exact ⟨rfl, Hk2.out⟩
    | true =>
      go_enter Tryd.func40, Tryd.ntmps40
      go_wp2_with fail
      refine (HR.out _ (HC.out.kept (Kept.box _ _))).mono ?_
      rintro e w1 ⟨rfl, hk⟩
      have Hcon := Lib.hid (hk.heapAt (heap_new w _))
      have Hk := Lib.hid ((Kept.box _ _).then hk)
      clear hk
      go_wp2_with fail
      refine (HA.out _ (HS.out.kept Hk.out)).mono ?_
      rintro e w2 ⟨rfl, hk⟩
      have Hcon2 := Lib.hid (hk.heapAt Hcon.out)
      have Hk2 := Lib.hid (Hk.out.then hk)
      clear hk
      go_wp2_with fail
      go_loopw [6, 30] (fun u v wr => ∃ k : Nat, k ≤ n ∧ v = .int .i64 k ∧ Hid (OwnD wr w2.heap.size u (ds.take k)) ∧ Hid (Kept w2 wr)) (fun _ v _ => n - (intOf v).toNat)
      case atStart => exact ⟨0, Nat.zero_le _, rfl, OwnD.nil _ _, Kept.same _⟩
      case round =>
        obtain ⟨k, hk, rfl, HO, Hkw⟩ := hrel
        by_cases hlt : k < n
        · have hSr := HS.out.kept (Hk2.out.then Hkw.out)
          obtain ⟨a, rfl, hblk⟩ := hSr.addr (by omega)
          obtain ⟨xs, L, B, m, cB, Hd, hc1, hc2, HI, hL⟩ := hSr.named k hlt
          have Hmay : Hid (mayB xs L = true) := by
            have := allMay_at Hb2.out (show k < ds.length by have := Hlen.out; omega)
            have h2 := Hd.out
            unfold nilD at h2
            rw [h2] at this
            exact this
          have hm64 : m ≤ 100000 := by have := mayB_len Hmay.out; have := HI.out.len; omega
          obtain ⟨vs, hown, hd⟩ := HO.out
          have hkl : (ds.take k).length = k := by rw [List.length_take]; have := Hlen.out; omega
          rw [hkl] at hown hd
          have Hown := Lib.hid hown
          have Hdd := Lib.hid hd
          have Hul : Hid (∀ i, u6.ownBlock = some i → w2.heap.size ≤ i ∧ i < wr.heap.size) := hown.lt
          have hszr := Hkw.out.size
          obtain ⟨i0, hi, hz0, hz1, hz2⟩ := info_parts info_dom
          clear hSr hown hd
          go_wp2_with fail
          have hlow : wr.heap.size < (wr.alloc (.cells #[.slice B m cB, .int .u64 L] 58)).heap.size := by simp
          go_region_held3 (fun W => W.cell? ⟨wr.heap.size, 0, none⟩ = some (.slice B m cB) ∧ W.cell? ⟨wr.heap.size, 1, none⟩ = some (.int .u64 L)) (first | go_keep | (exact ⟨hkC.cellAt (box2_0 _ _ _ _), hkC.cellAt (box2_1 _ _ _ _)⟩) | (exact ⟨hgrow.cell ((Kept.box _ _).cellAt (hkC.cellAt (box2_0 _ _ _ _))) (fun e => by have := Hul.out _ e.symm; simp at this), hgrow.cell ((Kept.box _ _).cellAt (hkC.cellAt (box2_1 _ _ _ _))) (fun e => by have := Hul.out _ e.symm; simp at this)⟩))
            (first
              | (go_at_call 52; refine (clone_any B m cB xs _ (HI.out.kept ((Kept.box _ _).then (Kept.drewn _))) hm64).mono ?_; rintro e wC ⟨B', c', rfl, hIB, hkC, hfB⟩)
              | (refine step_append_lies _ (by rfl) _ _ _ (by rfl) w2.heap.size 58 i0 _ 2 32 Tryd.underlying38 hi hz0 hz1 hz2 rfl (by omega) u6 k vs (by rfl) (own_kept Hown.out ((((Kept.box _ _).then (Kept.drewn _)).then hkC).newBlock _)) ⟨wC.heap.size, 0, none⟩ 1 1 [.slice B' m c', .int .u64 L] (by rfl) (by rfl) (World.news_of_block (cs := #[.slice B' m c', .int .u64 L]) (t := 58) (fr := (0, 0)) (heap_alloc_new wC _)) (by simp [Value.oneCell']) (by omega) (by unfold maxLen; omega) (by omega) (by have := hkC.size; simp at this ⊢; omega) (wC.heap.size + 1) (by simp) ?_; intro gg cap w3 hown3 hgrow hat hlt3))
          go_wp2
          go_roundw
          case rel =>
            refine ⟨k + 1, by omega, by go_num, ?_, ?_⟩
            · show OwnD w3 _ _ _
              rw [take_dom (by have := Hlen.out; omega) Hd.out]
              have hk2 := ((Kept.box wr (.cells #[.slice B m cB, .int .u64 L] 58)).then (Kept.drewn _)).then hkC
              have := OwnD.snoc (ds := ds.take k) (d := (xs, L)) (w1 := wC.alloc (.cells #[.slice B' m c', .int .u64 L] 58)) (B := B') (m := m) (c := c') (by rw [hkl]; exact own_kept Hown.out (hk2.newBlock _)) ?_ (hIB.kept (Kept.box _ _)) ?_ hL (by rw [hkl]; exact hown3) hgrow ?_
              · rw [hkl] at this; exact this
              · rw [hkl]
                intro j hj
                obtain ⟨hl, B1, m1, c1', e1, e2, e3, e4⟩ := Hdd.out j hj
                exact ⟨hl, B1, m1, c1', e1, e2, e3.kept (hk2.newBlock _), e4⟩
              · intro _ a' ha'
                have h5 := hfB a' ha'
                have h6 : wr.heap.size + 1 ≤ a'.block := by simpa using h5
                exact fun e => by have := Hul.out _ e; omega
              · rcases hat with h | h
                · exact Or.inl h
                · exact Or.inr (by rw [h]; simp)
            · show Kept w2 w3
              have hk2 := ((Kept.box wr (.cells #[.slice B m cB, .int .u64 L] 58)).then (Kept.drewn _)).then hkC
              exact (Hkw.out.then (hk2.newBlock _)).grown hgrow (by have := Hkw.out.size; have := hkC.size; simp at this ⊢; omega) (fun i hi => (Hul.out i hi).1)
          case measure => simp [intOf]; omega
        · have e : k = n := by omega
          subst e
          have HOn : Hid (OwnD wr w2.heap.size u6 ds) := by
            have := HO.out
            rwa [List.take_of_length_le (by have := Hlen.out; omega)] at this
          clear HO HA HR
          obtain ⟨hv1, hv8, hnn, hdv⟩ := table_parts Hkk.out Hb1.out
          have Hvo := Lib.hid (rightB_vars Hb1.out)
          have Hvl := Lib.hid HC.out.vars.len
          have Hnl := Lib.hid HC.out.nums.len
          have h0 : 0 < n1 := by have := Hvl.out; omega
          have hn18 : n1 ≤ 8 := by have := Hvl.out; omega
          have HKr := Lib.hid (Hk2.out.then Hkw.out)
          have hAl := alive_any 6 R Ct A1 A2 A3 n1 c1 n2 c2 n3 c3 C A k c ds w wr HKr.out HC.out HS.out HT.out Hvo.out h0 (by rw [← Hvl.out]; exact hdv) (by have := Hnl.out; omega)
          have Hrl : Hid (∀ row ∈ rowsOf C ds, row.length = n1) := fun row hr => by rw [rows_length hr]; exact Hvl.out
          obtain ⟨G, hG⟩ : ∃ G : Nat → Int → Bool, G = tabG C ds := ⟨_, rfl⟩
          have HG : Hid (∀ j x, ((rowsOf C ds).any fun row => row.getD j 0 == x) = G j x) := fun j x => by rw [hG]; rfl
          have HGe := Lib.hid hG
          clear hG hv1 hv8 hnn hdv
          have hb := Hkw.out.heapAt Hcon2.out
          have b0 := cell_at hb 0
          have b1 := cell_at hb 1
          have b2 := cell_at hb 2
          have b3 := cell_at hb 3
          have b4 := cell_at hb 4
          have b5 := cell_at hb 5
          simp only [List.getElem?_toArray, List.getElem?_cons_zero, List.getElem?_cons_succ] at b0 b1 b2 b3 b4 b5
          clear hb
          go_wp2_with fail
          refine hAl.mono ?_
          rintro e w3 ⟨Ar, cr, rfl, hOr, hrl, hk3⟩
          have HOr := Lib.hid hOr
          have Hk3 := Lib.hid hk3
          have Hcon3 := Lib.hid ((Hkw.out.then hk3).heapAt Hcon2.out)
          clear hAl hOr hk3 b0 b1 b2 b3 b4 b5
          have hb := Hcon3.out
          have b0 := cell_at hb 0
          have b1 := cell_at hb 1
          have b2 := cell_at hb 2
          have b3 := cell_at hb 3
          have b4 := cell_at hb 4
          have b5 := cell_at hb 5
          simp only [List.getElem?_toArray, List.getElem?_cons_zero, List.getElem?_cons_succ] at b0 b1 b2 b3 b4 b5
          clear hb
          generalize rowsOf C ds = rows at *
          generalize hrm : rows.length = rm at *
          have Hrm := Lib.hid hrm
          clear hrm
          have hkp : 0 < k := by
            have h1 := varsOk_rng Hvo.out (i := 0) (by have := Hvl.out; omega)
            omega
          obtain ⟨A6, c6, rfl⟩ := HOn.out.parts
          obtain ⟨vs, hown, _⟩ := HOn.out
          obtain ⟨g, cap, hg, hgb, hglr⟩ := hown.form (by have := Hlen.out; omega)
          cases hg
          have HO3 := Lib.hid (HOn.out.kept Hk3.out)
          have hg3 : g < w3.heap.size := by have := Hk3.out.size; omega
          have HK23 := Lib.hid (Hkw.out.then Hk3.out)
          have HK3 := Lib.hid (HKr.out.then Hk3.out)
          have hgr : g < wr.heap.size + 1 := by omega
          have HLL : Hid (∀ W, KeptBut g w3 W → Kept w W → LL W Ar rm rows) := fun W hW h0W => HOr.out.lists Hrm.out (by omega) h0W hW hgr
          rw [Hlen.out] at HO3 ⊢
          obtain ⟨av, rfl, hbv⟩ := HC.out.vars.addr h0
          obtain ⟨a, rfl, hba⟩ := HS.out.addr hkp
          have hb2 := Hk2.out.size
          clear hown HOn HKr Hkw HOr hglr hgr
          go_wp2_with fail
          clear b0 b1 b2 b3 b4 b5
          go_loopw [50] (fun u wq => ∃ j : Nat, j ≤ n1 ∧ u = .int .i64 j ∧ Hid (OwnD wq w2.heap.size (.slice (some ⟨g, 0, Option.none⟩) k c6) (stepB (varsKp C.vars G j) ds)) ∧ Hid (KeptBut g w3 wq)) (fun u _ => n1 - (intOf u).toNat)
          case atStart => exact ⟨0, Nat.zero_le _, rfl, by rw [stepB_varsKp_zero Hb2.out]; exact HO3.out, KeptBut.refl _ _⟩
          case round =>
            obtain ⟨j, hj, rfl, HOq, Hkq⟩ := hrel
            obtain ⟨wo, hwo⟩ : ∃ wo : World, wo = wr := ⟨_, rfl⟩
            subst hwo
            have HQ2 := Lib.hid (((KeptBut.of HK23.out g).then Hkq.out).kept hgb)
            have HQ := Lib.hid (Hk2.out.then HQ2.out)
            by_cases hlt : j < n1
            · obtain ⟨v, Hv1, hcv, _, _⟩ := (HC.out.vars.kept HQ.out).named j hlt
              obtain ⟨hv0, hv1⟩ := varsOk_rng Hvo.out (i := j) (by have := Hvl.out; omega)
              rw [Hv1.out] at hv0 hv1
              obtain ⟨p, rfl⟩ := Int.eq_ofNat_of_zero_le hv0
              have hpn : p < k := by omega
              obtain ⟨xs, L, B, m, cB, Hd, hc1, hc2, HI, hL⟩ := (HS.out.kept HQ.out).named p hpn
              have hn0 := World.new_ne wo _ hcv
              have hn1 := World.new_ne wo _ hc1
              have hn2 := World.new_ne wo _ hc2
              have hszq := HQ.out.size
              have hszq3 := Hkq.out.size
              have hbar : a.block < wo.heap.size := by omega
              have hbvr : av.block < wo.heap.size := by omega
              go_wp2_with fail
              refine (dlist_any B m cB L xs _ (HI.out.kept (Kept.box _ _)) hL (HT.out.kept (HQ.out.then (Kept.box _ _)))).mono ?_
              rintro e W2 ⟨Bl, cl, rfl, hIl, hkl, hfl⟩
              have Hfl := Lib.hid hfl
              have HkW := Lib.hid ((Kept.box wo (.cells #[.int .i64 (j : Nat)] 3)).then hkl)
              have Hci := Lib.hid (hkl.heapAt (heap_new wo (.cells #[.int .i64 (j : Nat)] 3)))
              have hm64 := listB_length xs L
              have Hlist : Hid (listB (ds.getD p ([], 0)).1 (ds.getD p ([], 0)).2 = listB xs L) := by
                show _ = _
                have h := Hd.out
                unfold nilD at h
                rw [h]
              have hszW := hkl.size
              simp only [World.size_alloc] at hszW
              have HOm : Hid (OwnD W2 w2.heap.size (.slice (some ⟨g, 0, Option.none⟩) k c6) (midB C.vars G ds j p 0)) := by
                show OwnD _ _ _ _
                rw [midB_zero (by have := Hlen.out; omega) Hb2.out]
                exact HOq.out.kept HkW.out
              have HBW := Lib.hid (Hkq.out.then (KeptBut.of HkW.out g))
              have hIl2 : Ints W2 Bl (listB xs L).length (listB xs L) := hIl
              generalize listB xs L = l2 at *
              generalize hm2 : l2.length = m2 at *
              have HIl := Lib.hid hIl2
              have Hm2 := Lib.hid hm2
              clear hIl hIl2 hkl hfl hm2 hcv hc1 hc2 hn0 hn1 hn2 hv0
              go_wp2_with fail
              go_loopw [61] (fun u wz => ∃ q : Nat, q ≤ m2 ∧ u = .int .i64 q ∧ Hid (OwnD wz w2.heap.size (.slice (some ⟨g, 0, Option.none⟩) k c6) (midB C.vars G ds j p q)) ∧ Hid (KeptBut g W2 wz)) (fun u _ => m2 - (intOf u).toNat)
              case atStart => exact ⟨0, Nat.zero_le _, rfl, HOm.out, KeptBut.refl _ _⟩
              case round =>
                obtain ⟨q, hq, rfl, HOz, Hkz⟩ := hrel
                have HB3 := Lib.hid (HBW.out.then Hkz.out)
                have HZ2 := Lib.hid (((KeptBut.of HK23.out g).then HB3.out).kept hgb)
                have HZ := Lib.hid (Hk2.out.then HZ2.out)
                by_cases hltq : q < m2
                · have hIz := HIl.out.keptBut0 Hkz.out (fun _ b hb => by have := Hfl.out b hb; simp only [World.size_alloc] at this; omega)
                  obtain ⟨bl, rfl, hbl⟩ := hIz.addr (by omega)
                  obtain ⟨y, Hy, hcy, _, _⟩ := hIz.named q hltq
                  have hny := World.new_ne wr _ hcy
                  have Hiz := Lib.hid (Hkz.out.heapAt Hci.out (by omega))
                  have hszz := Hkz.out.size
                  have hir : wo.heap.size < wr.heap.size := by omega
                  have HQc : Hid (Calls Tryd.prog 68 #[.slice Ar rm cr, .func (.func 69) #[] #[.pointer (some ⟨wo.heap.size, 0, Option.none⟩), .pointer (some ⟨wr.heap.size, 0, Option.none⟩)]] (wr.alloc (.cells #[.int .i64 y] 3)) fun e w' => e = .returned (.bool (G j y)) ∧ Kept (wr.alloc (.cells #[.int .i64 y] 3)) w') := by
                    have h := tabcontains_any Ar rm cr rows j y wo.heap.size wr.heap.size (wr.alloc (.cells #[.int .i64 y] 3)) (HLL.out _ (HB3.out.then (KeptBut.of (Kept.box _ _) g)) (HZ.out.then (Kept.box _ _))) (fun row hr => by rw [Hrl.out row hr]; exact hlt)
                      (by rw [cell_at ((Kept.box _ _).heapAt Hiz.out) 0]; rfl) (by rw [cell_at (heap_new _ _) 0]; rfl)
                    rwa [HG.out] at h
                  have Hnext : Hid (G j y = true → midB C.vars G ds j p (q + 1) = midB C.vars G ds j p q) := fun h => midB_yes (by rw [Hlist.out, Hm2.out]; exact hltq) (by rw [Hlist.out]; exact Hy.out) h
                  have Hnext2 : Hid (G j y = false → midB C.vars G ds j p (q + 1) = (midB C.vars G ds j p q).set p (keepD (fun x => x != y) ((midB C.vars G ds j p q).getD p ([], 0)))) := fun h => midB_no (by have := Hlen.out; omega) (by rw [Hlist.out, Hm2.out]; exact hltq) (by rw [Hlist.out]; exact Hy.out) h
                  generalize G j y = b at HQc Hnext Hnext2
                  clear hIz
                  go_wp2_with fail
                  refine HQc.out.mono ?_
                  rintro e W4 ⟨rfl, hk4⟩
                  have Hk4 := Lib.hid ((Kept.box wr (.cells #[.int .i64 y] 3)).then hk4)
                  have Hv4 := Lib.hid (hk4.heapAt (heap_new wr (.cells #[.int .i64 y] 3)))
                  clear hk4 HQc hny hcy
                  cases b with
                  | true =>
                    go_wp2_with fail
                    go_roundw
                    case rel => exact ⟨q + 1, by omega, by go_num, by rw [Hnext.out (by first | rfl | trivial)]; exact HOz.out.kept Hk4.out, Hkz.out.then (KeptBut.of Hk4.out g)⟩
                    case measure => simp [intOf]; omega
                  | false =>
                    have Hn9 := Lib.hid (Hnext2.out (by first | rfl | trivial))
                    have HO4 := Lib.hid (HOz.out.kept Hk4.out)
                    have Hl4 : Hid ((midB C.vars G ds j p q).length = k) := by show _ = _; rw [midB_length]; exact Hlen.out
                    obtain ⟨xs2, L2, B2, mm2, cB2, Hd2, s1, s2, HI2, hL2, HB2, s3, s4⟩ := HO4.out.named Hl4.out p hpn
                    have Hm4 : Hid (mayB xs2 L2 = true) := by
                      show _ = _
                      have h1 := midB_may (vars := C.vars) (g := G) (ds := ds) (j := j) (p := p) (m := q) (by have := Hlen.out; omega) Hb2.out
                      have h2 := Hd2.out
                      unfold nilD at h2
                      rw [h2] at h1
                      exact h1
                    obtain ⟨d9, hd9⟩ : ∃ d9, d9 = keepD (fun x => x != y) (xs2, L2) := ⟨_, rfl⟩
                    have Hn8 : Hid (midB C.vars G ds j p (q + 1) = (midB C.vars G ds j p q).set p d9) := by
                      show _ = _
                      rw [Hn9.out, hd9]
                      have h2 := Hd2.out
                      unfold nilD at h2
                      rw [h2]
                    have HT4 := Lib.hid (HT.out.kept (HZ.out.then Hk4.out))
                    have Hc : Hid (∀ W, Kept W4 W → Calls Tryd.prog 70 #[.agg #[.slice B2 mm2 cB2, .int .u64 L2], .int .i64 y] W
                        fun e w' => ∃ A' c', e = .returned (.agg #[.slice A' mm2 c', .int .u64 (d9.2 : Nat)]) ∧ Ints w' A' mm2 d9.1 ∧ Kept W w' ∧ Fresh W A') := fun W hW => by
                      have h := domless_any B2 mm2 cB2 L2 xs2 y W (HI2.out.kept hW) hL2 (HT4.out.kept hW) Hm4.out
                      rw [← hd9] at h
                      refine h.mono ?_
                      rintro e w' ⟨A', c', he, h1, h2, h3⟩
                      have hl : d9.1.length = mm2 := by rw [hd9]; exact HI2.out.len
                      rw [hl] at he h1
                      exact ⟨A', c', he, h1, h2, h3⟩
                    have Hd9 : Hid (d9.2 < 2 ^ 64) := by show _ < _; rw [hd9]; exact keepD_lt _ _
                    have hv4 := cell_at Hv4.out 0
                    simp only [List.getElem?_toArray, List.getElem?_cons_zero] at hv4
                    have hg4 : g < W4.heap.size := by have := Hk4.out.size; omega
                    have hv4l : wr.heap.size < W4.heap.size := lt_at Hv4.out
                    have HF : Hid (∀ (W7 : World) (A7 : Option Addr) (c7 : Nat), Ints W7 A7 mm2 d9.1 → Kept W4 W7 → Fresh W4 A7 →
                        OwnD ((W7.setCell ⟨g, p * 2, Option.none⟩ (.slice A7 mm2 c7)).setCell ⟨g, p * 2 + 1, Option.none⟩ (.int .u64 (d9.2 : Nat))) w2.heap.size (.slice (some ⟨g, 0, Option.none⟩) k c6) (midB C.vars G ds j p (q + 1)) ∧
                        KeptBut g W2 ((W7.setCell ⟨g, p * 2, Option.none⟩ (.slice A7 mm2 c7)).setCell ⟨g, p * 2 + 1, Option.none⟩ (.int .u64 (d9.2 : Nat)))) := by
                      intro W7 A7 c7 hI7 hk7 hA7
                      have hO8 := (HO4.out.kept hk7).set Hl4.out hpn (d := d9) (B := A7) (m := mm2) (c := c7) hI7 (fun _ b hb => by have := hA7 b hb; omega) Hd9.out
                      rw [← Hn8.out] at hO8
                      exact ⟨hO8, (Hkz.out.then (KeptBut.of (Hk4.out.then hk7) g)).then ((KeptBut.set _ (a := ⟨g, p * 2, Option.none⟩) rfl _).then (KeptBut.set _ (a := ⟨g, p * 2 + 1, Option.none⟩) rfl _))⟩
                    clear hd9
                    go_wp2_with fail
                    go_region_with (first
                      | (go_at_call 70
                         refine (Hc.out _ (Kept.drewn _)).mono ?_
                         rintro e W7 ⟨A7, c7, rfl, hI7, hk7, hA7⟩
                         have HI7 := Lib.hid hI7
                         have HK7 := Lib.hid ((Kept.drewn _).then hk7)
                         have HA7 : Hid (Fresh W4 A7) := hA7
                         obtain ⟨_, _, _, _, _, _, t1, t2, _, _, _, t3, t4⟩ := (HO4.out.kept ((Kept.drewn _).then hk7)).named Hl4.out p hpn
                         clear hI7 hk7 hA7))
                    all_goals go_wp2_with fail
                    all_goals go_roundw
                    case rel | rel =>
                      obtain ⟨hD, hK⟩ := HF.out _ _ _ HI7.out HK7.out HA7.out
                      exact ⟨q + 1, by omega, by go_num, hD, hK⟩
                    all_goals (simp [intOf]; omega)
                · have e : q = m2 := by omega
                  subst e
                  have HOe : Hid (OwnD wr w2.heap.size (.slice (some ⟨g, 0, Option.none⟩) k c6) (stepB (varsKp C.vars G (j + 1)) ds)) := by
                    show OwnD _ _ _ _
                    rw [← midB_end (p := p) (m := q) (by have := Hlen.out; omega) Hb2.out Hv1.out (by rw [Hlist.out]; exact Hm2.out)]
                    exact HOz.out
                  clear HOz HOm
                  go_wp2_with fail
                  go_roundw
                  case rel => exact ⟨j + 1, by omega, by go_num, HOe.out, HB3.out⟩
                  case measure => simp [intOf]; omega
            · have e : j = n1 := by omega
              subst e
              have Hsl : Hid ((stepB (varsKp C.vars G j) ds).length = k) := by show _ = _; rw [stepB_length]; exact Hlen.out
              have Hres : Hid (stepB (varsKp C.vars (tabG C ds) C.vars.length) ds = stepB (varsKp C.vars G j) ds) := by show _ = _; rw [Hvl.out, HGe.out]
              generalize stepB (varsKp C.vars G j) ds = res at *
              have HD := Lib.hid (HOq.out.doms Hsl.out (by omega))
              clear HOq
              go_wp2_with fail
              go_ret2
              exact ⟨_, c6, by rw [Hres.out, Hsl.out]; rfl, by rw [Hres.out, Hsl.out]; exact HD.out, HQ.out⟩
end Go.Proofs.YthddanjmnifloaaDoor

set_option maxHeartbeats 1000000
set_option maxRecDepth 10000
namespace Go.Proofs.YthddanjmnifloaaDoor
open Go Go.RowKit Pl

/-- Is a row's part, at the constraint's variables, a row of the table? -/
def holdsT (C : ConB) (row : List Int) : Bool := (List.range (C.nums.length / C.vars.length)).any fun t => chunk C.nums C.vars.length t == rowVals C row
theorem chunk_eq {nums rv : List Int} {n t s : Nat} (hs : s = t * n) (hv : rv.length = n) (hn : s + n ≤ nums.length) : ((List.range n).all fun j => nums.getD (s + j) 0 == rv.getD j 0) = (chunk nums n t == rv) := by
  have hcl : (chunk nums n t).length = n := by unfold chunk; rw [List.length_take, List.length_drop, ← hs]; omega
  have hcg : ∀ j, j < n → (chunk nums n t).getD j 0 = nums.getD (s + j) 0 := fun j hj => by
    unfold chunk
    rw [getD_take' _ hj, getD_drop', ← hs]
  rw [Bool.eq_iff_iff, List.all_eq_true, beq_iff_eq]
  constructor
  · intro h
    apply List.ext_getElem (by omega)
    intro j h1 h2
    have h3 := h j (List.mem_range.2 (by omega))
    rw [beq_iff_eq, ← hcg j (by omega)] at h3
    rw [List.getD_eq_getElem?_getD, List.getD_eq_getElem?_getD, List.getElem?_eq_getElem h1, List.getElem?_eq_getElem h2] at h3
    simpa using h3
  · intro h j hj
    rw [beq_iff_eq, ← hcg j (List.mem_range.1 hj), h]


theorem holds6_any (K R Ct : Int) (A1 A2 A3 : Option Addr) (n1 c1 n2 c2 n3 c3 : Nat) (C : ConB) (A : Option Addr) (n c : Nat) (row : List Int) (w : World) (hC : ConIn w K R Ct A1 A2 A3 n1 c1 n2 c2 n3 c3 C) (hI : Ints w A n row) (hK : K = 6) (hR : rightB C n = true) :
    Calls Tryd.prog 37 #[.agg #[.int .i64 K, .slice A1 n1 c1, .slice A2 n2 c2, .int .i64 R, .int .i64 Ct, .slice A3 n3 c3], .slice A n c] w fun e w' => e = .returned (.bool (holdsT C row)) ∧ Kept w w' := by
  subst hK
  obtain ⟨i0, hi, hz0, hz1, hz2⟩ := info_parts info_int
  have hv := rightB_vars hR
  have HC := Lib.hid hC
  have HI := Lib.hid hI
  have HR := Lib.hid hR
  have hsm := hI.small
  have Hlen := Lib.hid hI.len
  have Hl1 := Lib.hid hC.vars.len
  have Hl3 := Lib.hid hC.nums.len
  have hs3 := hC.nums.small
  have Hkind := Lib.hid hC.kind
  have Hv := Lib.hid hv
  have hn18 : n1 ≤ 9 := by
    have h1 := rightB_len hR
    have := hC.vars.len
    omega
  have hrl : (rowVals C row).length = n1 := by unfold rowVals; rw [List.length_map]; exact hC.vars.len
  have Hrl := Lib.hid hrl
  have Hrng : Hid (∀ x ∈ rowVals C row, -9223372036854775808 ≤ x ∧ x ≤ 9223372036854775807) := fun x hx => by
    unfold rowVals at hx
    rw [List.mem_map] at hx
    obtain ⟨v, _, rfl⟩ := hx
    exact HI.out.getD_rng _
  clear hC hI hv hrl hR
  have HB : Hid (∀ wr, Kept (w.alloc (.cells #[.int .i64 6, .slice A1 n1 c1, .slice A2 n2 c2, .int .i64 R, .int .i64 Ct, .slice A3 n3 c3] 37)) wr → wr.heap[w.heap.size]? = some (.cells #[.int .i64 6, .slice A1 n1 c1, .slice A2 n2 c2, .int .i64 R, .int .i64 Ct, .slice A3 n3 c3] 37)) := fun wr h => h.heapAt (heap_new _ _)
  go_enter Tryd.func37, Tryd.ntmps37
  go_wp2_with fail
  go_loopw [5, 6] (fun u v wr => ∃ k : Nat, k ≤ n1 ∧ v = .int .i64 k ∧ wr.ownsRow (w.heap.size + 1) 3 1 u k (((rowVals C row).take k).map (Value.int .i64)) ∧ Hid (Kept (w.alloc (.cells #[.int .i64 6, .slice A1 n1 c1, .slice A2 n2 c2, .int .i64 R, .int .i64 Ct, .slice A3 n3 c3] 37)) wr)) (fun _ v _ => n1 - (intOf v).toNat)
  case atStart => exact ⟨0, Nat.zero_le _, rfl, own_empty (heap_new2 _ _ _) (Nat.le_refl _), Kept.box _ _⟩
  case round =>
    obtain ⟨k, hk, rfl, hown, Hkw⟩ := hrel
    have hb := HB.out wr Hkw.out
    have b0 := cell_at hb 0
    have b1 := cell_at hb 1
    have b2 := cell_at hb 2
    have b3 := cell_at hb 3
    have b4 := cell_at hb 4
    have b5 := cell_at hb 5
    simp only [List.getElem?_toArray, List.getElem?_cons_zero, List.getElem?_cons_succ] at b0 b1 b2 b3 b4 b5
    clear hb
    have hszr := Hkw.out.size
    simp only [World.size_alloc] at hszr
    by_cases hlt : k < n1
    · have hSr := HC.out.vars.kept ((Kept.box _ _).then Hkw.out)
      have hRr := HI.out.kept ((Kept.box _ _).then Hkw.out)
      obtain ⟨a, rfl, hblk⟩ := hSr.addr (by omega)
      obtain ⟨x, Hx, hcx, _, _⟩ := hSr.named k hlt
      obtain ⟨hx1, hx2⟩ := varsOk_rng Hv.out (show k < C.vars.length by have := Hl1.out; omega)
      rw [Hx.out] at hx1 hx2
      obtain ⟨p, rfl⟩ := Int.eq_ofNat_of_zero_le hx1
      have hpn : p < n := by omega
      obtain ⟨ar, rfl, hblk2⟩ := hRr.addr (by omega)
      obtain ⟨y, Hy, hcy, hy1, hy2⟩ := hRr.named p hpn
      have Htake : Hid (((rowVals C row).take (k + 1)).map (Value.int .i64) = ((rowVals C row).take k).map (Value.int .i64) ++ [.int .i64 y]) := by
        show _ = _
        rw [take_succ_getD (x := y) (by have := Hrl.out; omega) ?_]
        · simp
        · unfold rowVals
          rw [List.getD_eq_getElem?_getD, List.getElem?_map]
          have h2 := Hx.out
          rw [List.getD_eq_getElem?_getD, List.getElem?_eq_getElem (by have := Hl1.out; omega)] at h2
          rw [List.getElem?_eq_getElem (by have := Hl1.out; omega)]
          simp only [Option.getD_some] at h2
          simp only [Option.map_some, Option.getD_some, h2, Int.toNat_natCast]
          exact Hy.out
      clear hSr hRr
      go_wp2_with (at_builtin; refine wpList_append_own _ rfl _ _ 23 rfl (w.heap.size + 1) 3 i0 (.int .i64 0) 1 8 Tryd.underlying23 hi hz0 hz1 hz2 rfl (by decide) _ _ _ rfl (hown.alloc _) ⟨wr.heap.size, 0, none⟩ 1 1 [.int .i64 y] rfl rfl (cell_one_new _ _ _) (by simp [Value.oneCell']) (by unfold maxLen; omega) (by omega) (by simp; omega) ?_; intro v' w2 hown' hgrow _)
      go_roundw
      case rel => exact ⟨k + 1, by omega, by go_num, by rw [Htake.out]; exact hown', Hkw.out.appended hown (by simp) hgrow⟩
      case measure => simp [intOf]; omega
    · have e : k = n1 := by omega
      subst e
      rw [List.take_of_length_le (by have := Hrl.out; omega)] at hown
      obtain ⟨A', c', rfl, hI', hfr⟩ := Ints.of_own hown Hrng.out
      have HI' := Lib.hid hI'
      clear hown hI' hfr hlt
      obtain ⟨wv, hwv⟩ : ∃ wv : World, wv = wr := ⟨_, rfl⟩
      subst hwv
      obtain ⟨rv, hrv⟩ : ∃ rv, rv = rowVals C row := ⟨_, rfl⟩
      have Hrv := Lib.hid hrv
      have HIv : Hid (Ints wv A' k rv) := by rw [hrv]; exact HI'.out
      clear hrv HI' Hrl Hrng
      have Hrvl := Lib.hid HIv.out.len
      obtain ⟨_, _, hnn, hdv⟩ := table_parts Hkind.out HR.out
      rw [Hl1.out, Hl3.out] at hdv
      rw [Hl3.out] at hnn
      obtain ⟨q, hq⟩ : ∃ q, n3 = q * k := ⟨n3 / k, (Nat.div_mul_cancel (Nat.dvd_of_mod_eq_zero hdv)).symm⟩
      have hk0 : 0 < k := by have := (rightB_len HR.out).1; have := Hl1.out; omega
      have HH : Hid (holdsT C row = (List.range q).any fun t => chunk C.nums k t == rv) := by
        show _ = _
        unfold holdsT
        rw [Hl1.out, Hl3.out, hq, Nat.mul_div_cancel _ hk0, Hrv.out]
      have Hq := Lib.hid hq
      clear hdv hq
      go_wp2_with fail
      clear b0 b1 b2 b3 b4 b5
      go_loopw [10] (fun u wq => ∃ t s : Nat, s ≤ n3 ∧ u = .int .i64 s ∧ Hid (s = t * k) ∧ Hid (t ≤ q) ∧ Hid (Kept wv wq) ∧ Hid (((List.range t).any fun t => chunk C.nums k t == rv) = false)) (fun u _ => n3 - (intOf u).toNat)
      case atStart => exact ⟨0, 0, Nat.zero_le _, rfl, by show 0 = _; simp, Nat.zero_le _, Kept.same _, rfl⟩
      case round =>
        obtain ⟨t, s, hs, rfl, Hs, Ht, Hkq, Hno⟩ := hrel
        have Hk2 := Lib.hid (Hkw.out.then Hkq.out)
        have hb := HB.out wr Hk2.out
        have b0 := cell_at hb 0
        have b1 := cell_at hb 1
        have b2 := cell_at hb 2
        have b3 := cell_at hb 3
        have b4 := cell_at hb 4
        have b5 := cell_at hb 5
        simp only [List.getElem?_toArray, List.getElem?_cons_zero, List.getElem?_cons_succ] at b0 b1 b2 b3 b4 b5
        clear hb
        have hlb : w.heap.size < wr.heap.size := World.block_lt_of_cell? wr _ b0
        by_cases hlt2 : s < n3
        · have hst : s + k ≤ n3 ∧ t < q := by
            have h1 : t < q := by
              rcases Nat.lt_or_ge t q with h | h
              · exact h
              · have h2 := Nat.mul_le_mul_right k h
                have := Hq.out
                have := Hs.out
                omega
            have h2 : (t + 1) * k ≤ q * k := Nat.mul_le_mul_right k h1
            rw [Nat.add_mul, Nat.one_mul] at h2
            have := Hq.out
            have := Hs.out
            omega
          obtain ⟨hsk, htq⟩ := hst
          have Hs1 : Hid (s + k = (t + 1) * k) := by show _ = _; rw [Hs.out, Nat.add_mul, Nat.one_mul]
          obtain ⟨a3, rfl, hb30⟩ := HC.out.nums.addr (by omega)
          obtain ⟨av, rfl, hbv0⟩ := HIv.out.addr hk0
          obtain ⟨wo, hwo⟩ : ∃ wo : World, wo = wr := ⟨_, rfl⟩
          subst hwo
          go_wp2_with fail
          clear b0 b1 b2 b3 b4 b5
          go_loopw [11, 12] (fun u v wq => ∃ i : Nat, i ≤ k ∧ v = .int .i64 i ∧ u = .bool ((List.range i).all fun i => C.nums.getD (s + i) 0 == rv.getD i 0) ∧ Hid (Kept wo wq)) (fun _ v _ => k - (intOf v).toNat)
          case atStart => exact ⟨0, Nat.zero_le _, rfl, rfl, Kept.same _⟩
          case round =>
            obtain ⟨i, hik, rfl, rfl, Hki⟩ := hrel
            have HkI := Lib.hid (Hk2.out.then Hki.out)
            have HwI := Lib.hid ((Kept.box _ _).then HkI.out)
            have hb := HB.out wr HkI.out
            have b0 := cell_at hb 0
            have b1 := cell_at hb 1
            have b2 := cell_at hb 2
            have b3 := cell_at hb 3
            have b4 := cell_at hb 4
            have b5 := cell_at hb 5
            simp only [List.getElem?_toArray, List.getElem?_cons_zero, List.getElem?_cons_succ] at b0 b1 b2 b3 b4 b5
            clear hb
            have hszi := HwI.out.size
            have hlb2 : w.heap.size < wr.heap.size := World.block_lt_of_cell? wr _ b0
            by_cases hlt3 : i < k
            · have hN := HC.out.nums.kept HwI.out
              have hV := HIv.out.kept (Hkq.out.then Hki.out)
              obtain ⟨y, Hy, hcy, _, _⟩ := hN.named (s + i) (by omega)
              obtain ⟨x, Hx, hcx, _, _⟩ := hV.named i hlt3
              have hb3 : a3.block < wr.heap.size := by omega
              have hbv : av.block < wr.heap.size := hV.block (by omega)
              have Hnx : Hid (((List.range (i + 1)).all fun i => C.nums.getD (s + i) 0 == rv.getD i 0) = (((List.range i).all fun i => C.nums.getD (s + i) 0 == rv.getD i 0) && (y == x))) := by
                show _ = _
                rw [List.range_succ, List.all_append, ← Hy.out, ← Hx.out]; simp
              have hsi : IntKind.i64.wrap ((s : Int) + (i : Int)) = (s : Int) + (i : Int) := IntWalk.i64_in _ (by omega)
              have hsi2 : ((s : Int) + (i : Int)).toNat = s + i := by omega
              clear hN hV
              generalize ((List.range i).all fun i => C.nums.getD (s + i) 0 == rv.getD i 0) = q1 at *
              cases q1 with
              | false =>
                go_wp2_with fail
                refine wp_region_quiet_below (by kernel_rfl) (by kernel_rfl) ?_
                repeat (any_goals (first | go_big_quiet_step ((fail)) | quiet_step ((fail)) | (refine wpQuiet_step (fun K hK => ?_); go_simp; split <;> (refine hK _ ?_; clear hK K))))
                all_goals (refine wpQuiet_nil ?_; intro w1 hw'; replace hw' := Kept.regrown hw')
                all_goals try (exfalso; omega)
                have Hk9 := Lib.hid (Hki.out.then hw')
                clear hw' b0 b1 b2 b3 b4 b5
                go_wp2_with fail
                go_roundw
                case rel => exact ⟨i + 1, by omega, by go_num, by rw [Hnx.out]; rfl, Hk9.out⟩
                case measure => simp [intOf]; omega
              | true =>
                go_wp2_with fail
                refine wp_region_quiet_below (by kernel_rfl) (by kernel_rfl) ?_
                repeat (any_goals (first | go_big_quiet_step ((fail)) | quiet_step ((fail)) | (refine wpQuiet_step (fun K hK => ?_); go_simp; split <;> (refine hK _ ?_; clear hK K))))
                all_goals (refine wpQuiet_nil ?_; intro w1 hw'; replace hw' := Kept.regrown hw')
                all_goals try (exfalso; omega)
                have Hk9 := Lib.hid (Hki.out.then hw')
                clear hw' b0 b1 b2 b3 b4 b5 hsi hsi2
                go_wp2_with fail
                go_roundw
                case rel => exact ⟨i + 1, by omega, by go_num, by rw [Hnx.out]; rfl, Hk9.out⟩
                case measure => simp [intOf]; omega
            · have e : i = k := by omega
              subst e
              have Hch : Hid (((List.range i).all fun j => C.nums.getD (s + j) 0 == rv.getD j 0) = (chunk C.nums i t == rv)) := chunk_eq Hs.out Hrvl.out (by have := Hl3.out; omega)
              have Hno2 : Hid (((List.range (t + 1)).any fun t => chunk C.nums i t == rv) = (chunk C.nums i t == rv)) := by
                show _ = _
                rw [List.range_succ, List.any_append, Hno.out]; simp
              have Hyes : Hid ((chunk C.nums i t == rv) = true → holdsT C row = true) := fun h => by
                rw [HH.out, List.any_eq_true]
                exact ⟨t, List.mem_range.2 htq, h⟩
              rw [Hch.out]
              clear Hch
              generalize (chunk C.nums i t == rv) = q2 at *
              cases q2 with
              | true =>
                have hy := Lib.hid (Hyes.out (by first | rfl | trivial))
                go_wp2_with fail
                go_ret
                exact ⟨ret_bool hy.out.symm, HwI.out⟩
              | false =>
                have hsi : IntKind.i64.wrap ((s : Int) + (i : Int)) = (s : Int) + (i : Int) := IntWalk.i64_in _ (by omega)
                go_wp2_with fail
                go_roundw
                case rel => exact ⟨t + 1, s + i, by omega, by go_num, Hs1.out, htq, Hkq.out.then Hki.out, Hno2.out⟩
                case measure => simp [intOf]; omega
        · have e : s = n3 := by omega
          have etq : t = q := by
            have h1 := Hq.out
            have h2 := Hs.out
            rw [e] at h2
            exact Nat.eq_of_mul_eq_mul_right hk0 (h2.symm.trans h1)
          have HF : Hid (holdsT C row = false) := by show _ = _; rw [HH.out, ← etq]; exact Hno.out
          clear etq e
          go_wp2_with fail
          go_ret
          exact ⟨ret_bool HF.out.symm, (Kept.box _ _).then Hk2.out⟩
end Go.Proofs.YthddanjmnifloaaDoor

set_option maxHeartbeats 1000000
set_option maxRecDepth 10000
namespace Go.Proofs.YthddanjmnifloaaDoor
open Go Go.RowKit Pl

theorem goK_less {q : Int} {C : ConB} {vs us : List DomB} (h : Fewer vs us) (hg : goK q C us = true) : goK q C vs = true := by
  obtain ⟨h1, h2, h3⟩ := goK_parts hg
  unfold goK
  rw [h.len, h2, h.may h3]
  simp [h1]
theorem goK_not {q : Int} {C : ConB} {ds : List DomB} (h : ¬ C.kind = q) : goK q C ds = false := by
  unfold goK; rw [decide_eq_false h]; rfl
theorem goK_of {q : Int} {C : ConB} {ds : List DomB} (hk : C.kind = q) (hr : rightB C ds.length = true) (hm : allMay ds = true) : goK q C ds = true := by
  unfold goK; rw [decide_eq_true hk, hr, hm]; rfl
theorem goK_right (q : Int) (C : ConB) (ds : List DomB) : (decide (C.kind = q) && allMay ds && rightB C ds.length) = goK q C ds := by
  unfold goK; cases allMay ds <;> cases rightB C ds.length <;> simp

/-- A value of a variable that is left, of a row that is left. -/
theorem left_at {C : ConB} {ds : List DomB} {row : List Int} (hv : varsOk C.vars ds.length = true) (hl : leftL row ds = true) {i : Nat} (hi : i < C.vars.length) :
    row.getD (C.vars.getD i 0).toNat 0 ∈ listB (ds.getD (C.vars.getD i 0).toNat nilD).1 (ds.getD (C.vars.getD i 0).toNat nilD).2 := by
  have h := varsOk_rng hv hi
  exact (leftL_iff.1 hl).2 _ (by omega)
/-- Of less. -/
theorem fewer_at {C : ConB} {vs us : List DomB} (h : Fewer vs us) (hv : varsOk C.vars us.length = true) (hm : allMay us = true) {i : Nat} (hi : i < C.vars.length) {x : Int}
    (hx : x ∈ listB (vs.getD (C.vars.getD i 0).toNat nilD).1 (vs.getD (C.vars.getD i 0).toNat nilD).2) : x ∈ listB (us.getD (C.vars.getD i 0).toNat nilD).1 (us.getD (C.vars.getD i 0).toNat nilD).2 := by
  have h1 := varsOk_rng hv hi
  exact h.mem hm (by omega) hx
/-- Of single values. -/
theorem singles_at {C : ConB} {row : List Int} (hv : varsOk C.vars row.length = true) (hr : withinB row 1048576 = true) {i : Nat} (hi : i < C.vars.length) :
    listB ((singles row).getD (C.vars.getD i 0).toNat nilD).1 ((singles row).getD (C.vars.getD i 0).toNat nilD).2 = [row.getD (C.vars.getD i 0).toNat 0] := by
  have h1 := varsOk_rng hv hi
  have h2 : (C.vars.getD i 0).toNat < row.length := by omega
  rw [singles_getD row h2]
  refine single_list ?_
  have := withinB_mem hr (x := row.getD (C.vars.getD i 0).toNat 0) (by rw [List.getD_eq_getElem?_getD, List.getElem?_eq_getElem h2]; exact List.getElem_mem h2)
  omega
theorem allLive_iff {vs : List Int} {ds : List DomB} {k : Nat} : allLive vs ds k = true ↔ ∀ i, i < k → (ds.getD (vs.getD i 0).toNat nilD).2 = 1 := by
  unfold allLive
  rw [List.all_eq_true]
  constructor
  · intro h i hi
    exact of_decide_eq_true (h i (List.mem_range.2 hi))
  · intro h i hi
    exact decide_eq_true (h i (List.mem_range.1 hi))
/-- All is left of single values just if each place's question says yes. -/
theorem allLive_varsKp {C : ConB} {row : List Int} {g : Nat → Int → Bool} (hv : varsOk C.vars row.length = true) :
    allLive C.vars (stepB (varsKp C.vars g C.vars.length) (singles row)) C.vars.length = true ↔ ∀ i, i < C.vars.length → ∀ k, k < C.vars.length → (C.vars.getD k 0).toNat = (C.vars.getD i 0).toNat → g k (row.getD (C.vars.getD i 0).toNat 0) = true := by
  rw [allLive_iff]
  constructor
  · intro h i hi k hk e
    have h1 := varsOk_rng hv hi
    exact varsKp_iff.1 ((single_live (by omega)).1 (h i hi)) k hk e
  · intro h i hi
    have h1 := varsOk_rng hv hi
    exact (single_live (by omega)).2 (varsKp_iff.2 fun k hk e => h i hi k hk e)
end Go.Proofs.YthddanjmnifloaaDoor

set_option maxHeartbeats 1000000
set_option maxRecDepth 10000
namespace Go.Proofs.YthddanjmnifloaaDoor
open Go Go.RowKit Pl

def tabGo (C : ConB) (ds : List DomB) : Bool := goK 6 C ds
def tabKp (C : ConB) (ds : List DomB) : Nat → Int → Bool := varsKp C.vars (tabG C ds) C.vars.length
theorem tabstep_law (K R Ct : Int) (A1 A2 A3 : Option Addr) (n1 c1 n2 c2 n3 c3 : Nat) (C : ConB) (A : Option Addr) (n c : Nat) (ds : List DomB) (w : World) (hC : ConIn w K R Ct A1 A2 A3 n1 c1 n2 c2 n3 c3 C) (hS : Doms w A n ds) (hT : Tab w) (hn : n ≤ 1000) :
    Calls Tryd.prog 40 #[.agg #[.int .i64 K, .slice A1 n1 c1, .slice A2 n2 c2, .int .i64 R, .int .i64 Ct, .slice A3 n3 c3], .slice A n c] w (StepPost (if tabGo C ds = true then some (stepB (tabKp C ds) ds) else Option.none) w) := tabstep_any K R Ct A1 A2 A3 n1 c1 n2 c2 n3 c3 C A n c ds w hC hS hT hn
theorem tabGo_parts {C : ConB} {ds : List DomB} (h : tabGo C ds = true) : C.kind = 6 ∧ rightB C ds.length = true ∧ allMay ds = true := goK_parts h
theorem tabGo_not {C : ConB} {ds : List DomB} (h : ¬ C.kind = 6) : tabGo C ds = false := goK_not h
theorem tabGo_of {C : ConB} {ds : List DomB} (hk : C.kind = 6) (hr : rightB C ds.length = true) (hm : allMay ds = true) : tabGo C ds = true := goK_of hk hr hm
theorem tab_go_less {C : ConB} {vs us : List DomB} (h : Fewer vs us) (hg : tabGo C us = true) : tabGo C vs = true := goK_less h hg

theorem liveRow_iff {C : ConB} {ds : List DomB} {row : List Int} : liveRow C ds row = true ↔ ∀ i, i < C.vars.length → row.getD i 0 ∈ listB (ds.getD (C.vars.getD i 0).toNat nilD).1 (ds.getD (C.vars.getD i 0).toNat nilD).2 := by
  unfold liveRow liveUpto
  rw [List.all_eq_true]
  constructor
  · intro h i hi
    exact List.contains_iff_mem.1 (h i (List.mem_range.2 hi))
  · intro h i hi
    exact List.contains_iff_mem.2 (h i (List.mem_range.1 hi))
theorem tabG_iff {C : ConB} {ds : List DomB} {j : Nat} {x : Int} : tabG C ds j x = true ↔ ∃ r ∈ rowsOf C ds, r.getD j 0 = x := by
  unfold tabG
  rw [List.any_eq_true]
  constructor
  · rintro ⟨r, hr, h⟩; exact ⟨r, hr, by simpa using h⟩
  · rintro ⟨r, hr, h⟩; exact ⟨r, hr, by simpa using h⟩

theorem tab_falls {C : ConB} {vs us : List DomB} (h : Fewer vs us) (hg : tabGo C us = true) : withinL (stepB (tabKp C vs) vs) (stepB (tabKp C us) us) = true := by
  obtain ⟨_, h2, hm⟩ := tabGo_parts hg
  refine step_falls h hm fun i hi v hv hk => varsKp_mono (fun k hk _ hgk => ?_) hk
  obtain ⟨r, hr, hx⟩ := tabG_iff.1 hgk
  refine tabG_iff.2 ⟨r, ?_, hx⟩
  obtain ⟨t, ht, hc, hlv⟩ := mem_rows.1 hr
  refine mem_rows.2 ⟨t, ht, hc, liveRow_iff.2 fun i hi => ?_⟩
  exact fewer_at h (rightB_vars h2) hm hi (liveRow_iff.1 hlv i hi)

theorem holdsT_row {C : ConB} {row : List Int} (h : holdsT C row = true) {ds : List DomB} (hl : ∀ i, i < C.vars.length → row.getD (C.vars.getD i 0).toNat 0 ∈ listB (ds.getD (C.vars.getD i 0).toNat nilD).1 (ds.getD (C.vars.getD i 0).toNat nilD).2) :
    rowVals C row ∈ rowsOf C ds := by
  unfold holdsT at h
  rw [List.any_eq_true] at h
  obtain ⟨t, ht, he⟩ := h
  rw [beq_iff_eq] at he
  refine mem_rows.2 ⟨t, List.mem_range.1 ht, he, liveRow_iff.2 fun i hi => ?_⟩
  rw [rowVals_getD C row hi]
  exact hl i hi

theorem tab_sound {C : ConB} {ds : List DomB} {row : List Int} (hg : tabGo C ds = true) (hl : leftL row ds = true) (hh : holdsT C row = true) : leftL row (stepB (tabKp C ds) ds) = true := by
  obtain ⟨_, h2, hm⟩ := tabGo_parts hg
  refine step_sound hm hl fun i hi => varsKp_iff.2 fun k hk e => tabG_iff.2 ⟨_, holdsT_row hh fun i hi => left_at (rightB_vars h2) hl hi, ?_⟩
  rw [rowVals_getD C row hk, e]

theorem tab_single {C : ConB} {row : List Int} (hr : withinB row 1048576 = true) (_hk : C.kind = 6) (hB : rightB C row.length = true) : allLive C.vars (stepB (tabKp C (singles row)) (singles row)) C.vars.length = holdsT C row := by
  have hv := rightB_vars hB
  have h1 := (rightB_len hB).1
  unfold tabKp
  rw [Bool.eq_iff_iff, allLive_varsKp hv]
  constructor
  · intro h
    obtain ⟨r, hr2, _⟩ := tabG_iff.1 (h 0 (by omega) 0 (by omega) rfl)
    obtain ⟨t, ht, hc, hlv⟩ := mem_rows.1 hr2
    unfold holdsT
    rw [List.any_eq_true]
    refine ⟨t, List.mem_range.2 ht, ?_⟩
    rw [beq_iff_eq, hc]
    have hrl := rows_length hr2
    have hvl : (rowVals C row).length = C.vars.length := by unfold rowVals; rw [List.length_map]
    apply List.ext_getElem (by omega)
    intro i a1 a2
    have h3 := liveRow_iff.1 hlv i (by omega)
    rw [singles_at hv hr (by omega), List.mem_singleton, ← rowVals_getD C row (by omega)] at h3
    rw [List.getD_eq_getElem?_getD, List.getD_eq_getElem?_getD, List.getElem?_eq_getElem a1, List.getElem?_eq_getElem a2] at h3
    simpa using h3
  · intro h i hi k hk e
    refine tabG_iff.2 ⟨_, holdsT_row h (ds := singles row) fun i hi => ?_, ?_⟩
    · rw [singles_at hv hr hi]; simp
    · rw [rowVals_getD C row hk, e]
end Go.Proofs.YthddanjmnifloaaDoor

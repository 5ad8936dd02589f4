/-
  Contracts and plain laws that the card rests on, part 9.
-/
import Derived.Test.YtekcenacpklpgaaDoorMTells8
import Derived.Test.YtekcenacpklpgaaDoorMTells7
import Derived.Test.YtekcenacpklpgaaDoorMTells3
import Derived.Great.Walk
import Derived.Deep.WholeRow
import Derived.Laws.NewBlocks
import Derived.Test.YtekcenacpklpgaaDoorMTells2
import Derived.Deep.AppendLies
import Derived.Test.YtekcenacpklpgaaDoorMTells4
import Derived.Test.YtekcenacpklpgaaDoorMTells5
import Derived.Maps.OwnOps
import Derived.StillTailTactics
set_option maxHeartbeats 4000000
set_option maxRecDepth 10000
namespace Go.Proofs.YtekcenacpklpgaaDoor
open Go Go.RowKit Pl

theorem rlsum_any (K R Ct : Int) (A1 A2 A3 : Option Addr) (n1 c1 n2 c2 n3 c3 : Nat) (C : ConB) (B : Option Addr) (m d : Nat) (vs : List Int) (rel : Int) (A : Option Addr) (n c : Nat) (ls : List (List Int)) (w : World) (hC : ConIn w K R Ct A1 A2 A3 n1 c1 n2 c2 n3 c3 C) (hV : Ints w B m vs) (hL : LL w A n ls)
    (hl : n2 = m) (h8 : m ≤ 8) (hb : ∀ i, -1048576 ≤ C.coefs.getD i 0 ∧ C.coefs.getD i 0 ≤ 1048576) (hv : varsOk vs n = true) (h0 : ∀ i, i < m → 0 < (lsAt vs ls i).length ∧ (lsAt vs ls i).length ≤ 64 ∧ ∀ x ∈ lsAt vs ls i, -1048576 ≤ x ∧ x ≤ 1048576)
    (hr0 : 0 ≤ rel) (hr5 : rel ≤ 5) (hn0 : 0 < n) (hn : n ≤ 1000) :
    Calls Tryd.prog 35 #[.agg #[.int .i64 K, .slice A1 n1 c1, .slice A2 n2 c2, .int .i64 R, .int .i64 Ct, .slice A3 n3 c3], .slice B m d, .int .i64 rel, .slice A n c] w (OwnLPost n (setU vs ls (sumG C.coefs (lsAt vs ls) m rel C.const) m) w) := by
  subst hl
  obtain ⟨i0, hi, hz0, hz1, hz2⟩ := info_parts info_ints
  obtain ⟨j0, hj, hy0, hy1, hy2⟩ := info_parts info_int
  have HC := Lib.hid hC
  have HV := Lib.hid hV
  have HL := Lib.hid hL
  have Hb := Lib.hid hb
  have Hvo := Lib.hid hv
  have H0 := Lib.hid h0
  have Hlen := Lib.hid hL.len
  have Hvl := Lib.hid hV.len
  have Hvol : Hid (varsOk vs ls.length = true) := by show _ = _; rw [Hlen.out]; exact hv
  have hrc := hC.rc
  have Hcon := Lib.hid hC.const
  have HEnd : Hid (∀ (k : Nat) W, k < n2 → Kept w W → Calls Tryd.prog 39 #[.slice B n2 d, .slice A2 n2 c2, .slice A n c, .int .i64 k] W
      fun e w' => e = .returned (.tuple #[.int .i64 (lowBut C.coefs (lsAt vs ls) k n2), .int .i64 (highBut C.coefs (lsAt vs ls) k n2)]) ∧ Kept W w') := fun k W _ hW =>
    rends_any B n2 d vs A2 c2 C.coefs A n c ls k W (hV.kept hW) (hC.coefs.kept hW) (hL.kept hW) h8 hb (fun i hi => varsOk_rng hv (by have := hV.len; omega)) (fun i hi => ⟨(h0 i hi).1, (h0 i hi).2.2⟩)
  have Hrng : Hid (∀ k, k < n2 → (-8796093022208 ≤ lowBut C.coefs (lsAt vs ls) k n2 ∧ lowBut C.coefs (lsAt vs ls) k n2 ≤ 8796093022208) ∧ (-8796093022208 ≤ highBut C.coefs (lsAt vs ls) k n2 ∧ highBut C.coefs (lsAt vs ls) k n2 ≤ 8796093022208)) := fun k _ =>
    ends_all hb (fun i hi => ⟨(h0 i hi).1, (h0 i hi).2.2⟩) h8 (Nat.le_refl _)
  obtain ⟨G, hG⟩ : ∃ G, G = sumG C.coefs (lsAt vs ls) n2 rel C.const := ⟨_, rfl⟩
  have HG : Hid (∀ i x, G i x = mayL (lowBut C.coefs (lsAt vs ls) i n2 + C.coefs.getD i 0 * x) (highBut C.coefs (lsAt vs ls) i n2 + C.coefs.getD i 0 * x) rel Ct) := fun i x => by rw [hG, ← Hcon.out]; rfl
  rw [← hG]
  obtain ⟨a, _, _, _, _, rfl, hba, _, _, _⟩ := hL.named 0 hn0
  obtain ⟨us, hvl, hvc, hvo, hvd⟩ := hL.row hn0
  have Hvd := Lib.hid hvd
  have Hvc := Lib.hid hvc
  clear hC hV hL hb hv h0 hG hvd hvc
  have HR0 : Hid (((w.alloc (.cells #[.int .i64 K, .slice A1 n1 c1, .slice A2 n2 c2, .int .i64 R, .int .i64 Ct, .slice A3 n3 c3] 24)).alloc (.cells #[] 22)).ownsRow (w.heap.size + 1) 22 1 (.slice (some ⟨w.heap.size + 1, 0, Option.none⟩) 0 0) 0 []) := own_empty (heap_new2 _ _ _) (Nat.le_refl _)
  have HB : Hid (∀ wr, Kept (w.alloc (.cells #[.int .i64 K, .slice A1 n1 c1, .slice A2 n2 c2, .int .i64 R, .int .i64 Ct, .slice A3 n3 c3] 24)) wr → wr.heap[w.heap.size]? = some (.cells #[.int .i64 K, .slice A1 n1 c1, .slice A2 n2 c2, .int .i64 R, .int .i64 Ct, .slice A3 n3 c3] 24)) := fun wr h => h.heapAt (heap_new _ _)
  go_enter Tryd.func35, Tryd.ntmps35
  go_wp2_with (at_builtin; refine wpList_append_own _ rfl _ _ 60 rfl (w.heap.size + 1) 22 i0 (.slice Option.none 0 0) 1 24 Tryd.underlying60 hi hz0 hz1 hz2 rfl (by decide) _ _ _ rfl HR0.out a n c us rfl hvl (fun j u hu => ((Kept.box w _).newBlock _).cellAt (Hvc.out j u hu)) hvo (by unfold maxLen; omega) (by omega) (by simp) ?_; intro v' w2 hown' hgrow _; rw [Nat.zero_add, List.nil_append] at hown'; obtain ⟨g, cap, rfl, hgb, hgl⟩ := hown'.form hn0)
  have HK : Hid (Kept (w.alloc (.cells #[.int .i64 K, .slice A1 n1 c1, .slice A2 n2 c2, .int .i64 R, .int .i64 Ct, .slice A3 n3 c3] 24)) w2) := (Kept.box _ (.cells #[] 22)).grown hgrow (by simp) (fun i hi => by simp [Act.eval, Value.ownBlock] at hi; simp; omega)
  have HKw := Lib.hid ((Kept.box w _).then HK.out)
  have HO : Hid (OwnL w2 w.heap.size (.slice (some ⟨g, 0, Option.none⟩) n cap) ls) := by
    refine ⟨us, by rw [Hlen.out]; exact own_lower hown' (Nat.le_succ _), fun j hj => ?_⟩
    rw [Hlen.out] at hj
    obtain ⟨B', m', c', e1, e3⟩ := Hvd.out j hj
    refine ⟨B', m', c', e1, e3.kept HKw.out, fun hm a' ha' e => ?_⟩
    subst ha'
    have := e3.block hm
    simp only [Value.ownBlock, Option.some.injEq] at e
    omega
  clear hown' hgrow hvo hvl
  go_wp2_with fail
  go_loopw [10] (fun u wr => ∃ i : Nat, i ≤ n2 ∧ u = .int .i64 i ∧ Hid (OwnL wr w.heap.size (.slice (some ⟨g, 0, Option.none⟩) n cap) (setU vs ls G i)) ∧ Hid (KeptBut g w2 wr)) (fun u _ => n2 - (intOf u).toNat)
  case atStart => exact ⟨0, Nat.zero_le _, rfl, HO.out, KeptBut.refl _ _⟩
  case round =>
    obtain ⟨i, hii, rfl, HOi, Hki⟩ := hrel
    obtain ⟨wi, hwi⟩ : ∃ wi : World, wi = wr := ⟨_, rfl⟩
    subst hwi
    have HKb : Hid (Kept (w.alloc (.cells #[.int .i64 K, .slice A1 n1 c1, .slice A2 n2 c2, .int .i64 R, .int .i64 Ct, .slice A3 n3 c3] 24)) wi) := ((KeptBut.of HK.out g).then Hki.out).kept (by simp; omega)
    have HKi := Lib.hid ((Kept.box w _).then HKb.out)
    have hgi : g < wi.heap.size := by have := Hki.out.size; omega
    have hb := HB.out wi HKb.out
    have b0 := cell_at hb 0
    have b1 := cell_at hb 1
    have b2 := cell_at hb 2
    have b3 := cell_at hb 3
    have b4 := cell_at hb 4
    have b5 := cell_at hb 5
    simp only [List.getElem?_toArray, List.getElem?_cons_zero, List.getElem?_cons_succ] at b0 b1 b2 b3 b4 b5
    clear hb
    have hlb : w.heap.size < wi.heap.size := World.block_lt_of_cell? wi _ b0
    by_cases hlt : i < n2
    · go_wp2_with fail
      refine (HEnd.out i wi hlt HKi.out).mono ?_
      rintro e wE ⟨rfl, hkE⟩
      have HkE := Lib.hid hkE
      have HKbE := Lib.hid (HKb.out.then hkE)
      have HKE := Lib.hid (HKi.out.then hkE)
      have HOE := Lib.hid (HOi.out.kept hkE)
      clear hkE b0 b1 b2 b3 b4 b5 hlb
      obtain ⟨hlo, hhi⟩ := Hrng.out i hlt
      have Hgx := Lib.hid (HG.out i)
      generalize lowBut C.coefs (lsAt vs ls) i n2 = lo at *
      generalize highBut C.coefs (lsAt vs ls) i n2 = hi at *
      obtain ⟨av, hav, hbv⟩ := HV.out.addr (by omega)
      subst hav
      obtain ⟨v, Hv1, hcv0, _, _⟩ := HV.out.named i hlt
      obtain ⟨hv0, hv1⟩ := varsOk_rng Hvo.out (i := i) (by have := Hvl.out; omega)
      rw [Hv1.out] at hv0 hv1
      obtain ⟨p, rfl⟩ := Int.eq_ofNat_of_zero_le hv0
      have hpn : p < n := by omega
      obtain ⟨aq, haq, hbq⟩ := HC.out.coefs.addr (by omega)
      subst haq
      obtain ⟨q, Hq1, hcq0, _, _⟩ := HC.out.coefs.named i hlt
      obtain ⟨al, l, Bl, ml, clp, hal, hbal, Hl, hclp0, HIl⟩ := HL.out.named p hpn
      cases hal
      have Hlm := Lib.hid HIl.out.len
      have HlsA : Hid (lsAt vs ls i = l) := by show _ = _; unfold lsAt; rw [Hv1.out, Int.toNat_natCast, Hl.out]
      obtain ⟨hpos, h64, hlr⟩ := H0.out i hlt
      rw [HlsA.out] at hpos h64 hlr
      have hml : 0 < ml ∧ ml ≤ 64 := by have := Hlm.out; omega
      obtain ⟨bl, hbl, hbb⟩ := HIl.out.addr hml.1
      subst hbl
      have Hlr := Lib.hid hlr
      have hq := Hb.out i
      rw [Hq1.out] at hq
      have Hcv := Lib.hid hcv0
      have Hcq := Lib.hid hcq0
      have Hclp := Lib.hid hclp0
      obtain ⟨p0, hp0⟩ : ∃ p0, p0 = G i := ⟨_, rfl⟩
      have Hp0 := Lib.hid hp0
      have Hp0x : Hid (∀ x, p0 x = mayL (lo + q * x) (hi + q * x) rel Ct) := fun x => by rw [hp0, Hgx.out, Hq1.out]
      have Hnx : Hid (setU vs ls G (i + 1) = (setU vs ls G i).set p (l.filter p0)) := by
        show _ = _
        simp only [setU]
        rw [Hv1.out, Int.toNat_natCast, Hl.out, hp0]
      clear hcv0 hcq0 hclp0 hp0 hpos h64 hlr
      go_wp2_with fail
      go_loopw [13, 14] (fun u s wz => ∃ k : Nat, k ≤ ml ∧ s = .int .i64 k ∧ Hid (wz.ownsRow wE.heap.size 3 1 u ((l.take k).filter p0).length (((l.take k).filter p0).map (Value.int .i64))) ∧ Hid (Kept wE wz)) (fun _ s _ => ml - (intOf s).toNat)
      case atStart => exact ⟨0, Nat.zero_le _, rfl, own_empty (heap_new _ _) (Nat.le_refl _), Kept.box _ _⟩
      case round =>
        obtain ⟨k, hk, rfl, HOz, Hkz⟩ := hrel
        obtain ⟨wz, hwz⟩ : ∃ wz : World, wz = wr := ⟨_, rfl⟩
        subst hwz
        have HKz := Lib.hid (HKE.out.then Hkz.out)
        have hcv := HKz.out.cellAt Hcv.out
        have hclp := HKz.out.cellAt Hclp.out
        have hbvz : av.block < wz.heap.size := by have := World.block_lt_of_cell? wz _ hcv; rwa [add_block'] at this
        have hbaz : a.block < wz.heap.size := by have := World.block_lt_of_cell? wz _ hclp; rwa [add_block'] at this
        have hszz := Hkz.out.size
        by_cases hltk : k < ml
        · obtain ⟨x, Hx, hcx, hx1, hx2⟩ := (HIl.out.kept HKz.out).named k hltk
          have hcq := HKz.out.cellAt Hcq.out
          have hbqz : aq.block < wz.heap.size := by have := World.block_lt_of_cell? wz _ hcq; rwa [add_block'] at this
          have hblz : bl.block < wz.heap.size := (HIl.out.kept HKz.out).block (by omega)
          have hxr := Hlr.out x (by rw [← Hx.out, List.getD_eq_getElem?_getD, List.getElem?_eq_getElem (by have := Hlm.out; omega)]; exact List.getElem_mem _)
          have Htake : Hid (l.take (k + 1) = l.take k ++ [x]) := take_succ_getD (by have := Hlm.out; omega) Hx.out
          have Hin : Hid ((l.take (k + 1)).filter p0 = (l.take k).filter p0 ++ (if p0 x = true then [x] else [])) := by
            show _ = _
            rw [Htake.out, List.filter_append]
            congr 1
            cases h : p0 x <;> simp [h]
          have hfl : ((l.take k).filter p0).length ≤ k := Nat.le_trans (List.length_filter_le _ _) (by rw [List.length_take]; omega)
          have hm := mul_small hq hxr
          have Hpx := Lib.hid (Hp0x.out x)
          obtain ⟨t, ht⟩ : ∃ t, t = q * x := ⟨_, rfl⟩
          rw [← ht] at hm Hpx
          have htw : IntKind.i64.wrap (q * x) = t := by rw [← ht]; exact IntWalk.i64_in _ (by omega)
          have hb := HB.out wz (HKbE.out.then Hkz.out)
          have b0 := cell_at hb 0
          have b1 := cell_at hb 1
          have b2 := cell_at hb 2
          have b3 := cell_at hb 3
          have b4 := cell_at hb 4
          have b5 := cell_at hb 5
          simp only [List.getElem?_toArray, List.getElem?_cons_zero, List.getElem?_cons_succ] at b0 b1 b2 b3 b4 b5
          clear hb
          have hlb : w.heap.size < wz.heap.size := World.block_lt_of_cell? wz _ b0
          have Hbase := Lib.hid HOz.out
          obtain ⟨hm1, hm2⟩ := hm
          obtain ⟨hlo1, hlo2⟩ := hlo
          obtain ⟨hhi1, hhi2⟩ := hhi
          have hlo1' := hlo1
          generalize (l.take k).filter p0 = ys at *
          have HQm := Lib.hid (fun W => rmay_any12 (lo + t) (hi + t) rel Ct W hr0 hr5)
          have hlo : -8796093022208 ≤ lo ∧ lo ≤ 8796093022208 := ⟨hlo1, hlo2⟩
          have hhi : -8796093022208 ≤ hi ∧ hi ≤ 8796093022208 := ⟨hhi1, hhi2⟩
          clear ht Htake HOz hlo1'
          generalize mayL (lo + t) (hi + t) rel Ct = b at *
          go_wp2_with fail
          refine wp_region_quiet_below (by kernel_rfl) (by kernel_rfl) ?_
          repeat (any_goals (first | go_big_quiet_step ((fail)) | quiet_step ((fail)) | (refine wpQuiet_step (fun K hK => ?_); go_simp; split <;> (refine hK _ ?_; clear hK K))))
          all_goals (refine wpQuiet_nil ?_; intro w1 hw'; replace hw' := Kept.regrown hw')
          all_goals try (exfalso; omega)
          obtain ⟨wx, hwx⟩ : ∃ wx : World, wx = w1 := ⟨_, rfl⟩
          subst hwx
          have HKx : Hid (Kept wz wx) := hw'
          clear hw' hcv hclp hcx hcq b0 b1 b2 b3 b4 b5 hlb
          have hcv := HKx.out.cellAt (HKz.out.cellAt Hcv.out)
          have hclp := HKx.out.cellAt (HKz.out.cellAt Hclp.out)
          obtain ⟨x', Hx', hcx, _, _⟩ := (HIl.out.kept (HKz.out.then HKx.out)).named k hltk
          have ex : x' = x := Hx'.out.symm.trans Hx.out
          subst ex
          have hszx := HKx.out.size
          have hbvx : av.block < wx.heap.size := by omega
          have hbax : a.block < wx.heap.size := by omega
          have hblx : bl.block < wx.heap.size := by omega
          have hb := HB.out wx ((HKbE.out.then Hkz.out).then HKx.out)
          have b0 := cell_at hb 0
          have b1 := cell_at hb 1
          have b2 := cell_at hb 2
          have b3 := cell_at hb 3
          have b4 := cell_at hb 4
          have b5 := cell_at hb 5
          simp only [List.getElem?_toArray, List.getElem?_cons_zero, List.getElem?_cons_succ] at b0 b1 b2 b3 b4 b5
          clear hb
          have hlb : w.heap.size < wx.heap.size := World.block_lt_of_cell? wx _ b0
          have Hbx := Lib.hid (own_kept Hbase.out HKx.out)
          have HkEx := Lib.hid (Hkz.out.then HKx.out)
          cases b with
          | true =>
            have Hin2 : Hid ((l.take (k + 1)).filter p0 = ys ++ [x']) := by show _ = _; rw [Hin.out, Hpx.out]; rfl
            clear Hin
            go_wp2_with (first
              | (go_at_call 40; refine (HQm.out _).mono ?_; rintro e w9 ⟨rfl, rfl⟩)
              | (at_builtin; refine wpList_append_own _ rfl _ _ 22 rfl wE.heap.size 3 j0 (.int .i64 0) 1 8 Tryd.underlying22 hj hy0 hy1 hy2 rfl (by decide) _ _ _ rfl (Hbx.out.alloc _) ⟨wx.heap.size, 0, none⟩ 1 1 [.int .i64 x'] rfl rfl (cell_one_new _ _ _) (by simp [Value.oneCell']) (by unfold maxLen; omega) (by omega) (by simp; omega) ?_; intro v' w3 hown' hgrow _))
            go_roundw
            case rel => first | exact ⟨k + 1, by omega, by go_num, by rw [Hin2.out]; exact Lib.hid (by simpa using hown'), HkEx.out.appended Hbx.out (Nat.le_refl _) hgrow⟩ | ((repeat apply Exists.intro); exact ⟨⟨k + 1, by omega, by go_num, by rw [Hin2.out]; exact Lib.hid (by simpa using hown'), HkEx.out.appended Hbx.out (Nat.le_refl _) hgrow⟩, rfl⟩)
            case measure => simp [intOf]; omega
          | false =>
            have Hin2 : Hid ((l.take (k + 1)).filter p0 = ys) := by show _ = _; rw [Hin.out, Hpx.out]; simp
            go_wp2_with (go_at_call 40; refine (HQm.out _).mono ?_; rintro e w9 ⟨rfl, rfl⟩)
            go_roundw
            case rel => first | exact ⟨k + 1, by omega, by go_num, by rw [Hin2.out]; exact Hbx.out, HkEx.out⟩ | ((repeat apply Exists.intro); exact ⟨⟨k + 1, by omega, by go_num, by rw [Hin2.out]; exact Hbx.out, HkEx.out⟩, rfl⟩)
            case measure => simp [intOf]; omega
        · have e : k = ml := by omega
          subst e
          have hown := HOz.out
          rw [List.take_of_length_le (by have := Hlm.out; omega)] at hown
          obtain ⟨A', c', rfl, hI, hfr⟩ := Ints.of_own hown (fun x hx => by have := Hlr.out x (List.mem_filter.1 hx).1; omega)
          have HI := Lib.hid hI
          have Hfr : Hid (∀ a, A' = some a → wE.heap.size ≤ a.block) := hfr
          have Hfl : Hid ((setU vs ls G i).length = n) := by show _ = _; rw [setU_length]; exact Hlen.out
          have hgE : g < wE.heap.size := by have := HkE.out.size; omega
          have hgz : g < wz.heap.size := by omega
          have hset := (HOE.out.kept Hkz.out).set Hfl.out hpn (B := A') (c := c') (l := l.filter p0) hI (fun _ a' ha' => by have := hfr a' ha'; omega)
          obtain ⟨⟨vv, hcc⟩, hfz⟩ := (HOE.out.kept Hkz.out).at Hfl.out p hpn
          have HOn : Hid (OwnL (wz.setCell ⟨g, p, Option.none⟩ (.slice A' (l.filter p0).length c')) w.heap.size (.slice (some ⟨g, 0, Option.none⟩) n cap) (setU vs ls G (i + 1))) := by
            show OwnL _ _ _ _
            rw [Hnx.out]; exact hset
          have HKn := Lib.hid (((Hki.out.then (KeptBut.of HkE.out g)).then (KeptBut.of Hkz.out g)).then (KeptBut.set _ (a := ⟨g, p, Option.none⟩) rfl (.slice A' (l.filter p0).length c')))
          clear hown hI hfr hset HOz
          generalize (l.filter p0).length = lf at *
          go_wp2_with fail
          go_roundw
          case rel => exact ⟨i + 1, by omega, by go_num, HOn.out, HKn.out⟩
          case measure => simp [intOf]; omega
    · have e : i = n2 := by omega
      subst e
      go_wp2_with fail
      go_ret
      exact ⟨g, cap, rfl, HOi.out, by omega, hgi, HKi.out⟩
end Go.Proofs.YtekcenacpklpgaaDoor

set_option maxHeartbeats 1000000
set_option maxRecDepth 10000
namespace Go.Proofs.YtekcenacpklpgaaDoor
open Go Go.RowKit Pl

/-- Lists are handed back, emptied where one was empty, and whether one was. -/
def WipedPost (vars : List Int) (n m : Nat) (ls : List (List Int)) (w : World) (e : Ending) (w' : World) : Prop :=
  ∃ A c, e = .returned (.tuple #[.slice A n c, .bool (wipedS vars ls m)]) ∧ LL w' A n (if wipedS vars ls m = true then noneU vars ls m else ls) ∧ Kept w w'

theorem wiped_no {vars : List Int} {n m : Nat} {ls : List (List Int)} {w w' : World} {A : Option Addr} {c : Nat} (h : wipedS vars ls m = false) (hL : LL w' A n ls) (hk : Kept w w') : WipedPost vars n m ls w (.returned (.tuple #[.slice A n c, .bool false])) w' :=
  ⟨A, c, by rw [h], by rw [h, if_neg (by decide)]; exact hL, hk⟩
theorem wiped_yes {vars : List Int} {n m : Nat} {ls : List (List Int)} {w w' : World} {A : Option Addr} {c : Nat} (h : wipedS vars ls m = true) (hL : LL w' A n (noneU vars ls m)) (hk : Kept w w') : WipedPost vars n m ls w (.returned (.tuple #[.slice A n c, .bool true])) w' :=
  ⟨A, c, by rw [h], by rw [h, if_pos rfl]; exact hL, hk⟩

theorem rwiped_any (K R Ct : Int) (A1 A2 A3 : Option Addr) (n1 c1 n2 c2 n3 c3 : Nat) (C : ConB) (A : Option Addr) (n c : Nat) (ls : List (List Int)) (w : World) (hC : ConIn w K R Ct A1 A2 A3 n1 c1 n2 c2 n3 c3 C) (hL : LL w A n ls) (hv : varsOk C.vars n = true) (h0 : 0 < n) (hn : n ≤ 1000) :
    Calls Tryd.prog 32 #[.agg #[.int .i64 K, .slice A1 n1 c1, .slice A2 n2 c2, .int .i64 R, .int .i64 Ct, .slice A3 n3 c3], .slice A n c] w (WipedPost C.vars n n1 ls w) := by
  have HC := Lib.hid hC
  have HL := Lib.hid hL
  have Hv := Lib.hid hv
  have Hlen := Lib.hid hL.len
  have Hl1 := Lib.hid hC.vars.len
  have hs1 := hC.vars.small
  clear hC hL hv
  have HB : Hid (∀ wr, Kept (w.alloc (.cells #[.int .i64 K, .slice A1 n1 c1, .slice A2 n2 c2, .int .i64 R, .int .i64 Ct, .slice A3 n3 c3] 24)) wr → wr.heap[w.heap.size]? = some (.cells #[.int .i64 K, .slice A1 n1 c1, .slice A2 n2 c2, .int .i64 R, .int .i64 Ct, .slice A3 n3 c3] 24)) := fun wr h => h.heapAt (heap_new _ _)
  go_enter Tryd.func32, Tryd.ntmps32
  go_wp2_with fail
  go_loopw [6, 7] (fun u v wr => ∃ j : Nat, j ≤ n1 ∧ v = .int .i64 j ∧ u = .bool (wipedS C.vars ls j) ∧ Hid (Kept (w.alloc (.cells #[.int .i64 K, .slice A1 n1 c1, .slice A2 n2 c2, .int .i64 R, .int .i64 Ct, .slice A3 n3 c3] 24)) wr)) (fun _ v _ => n1 - (intOf v).toNat)
  case atStart => exact ⟨0, Nat.zero_le _, rfl, rfl, Kept.same _⟩
  case round =>
    obtain ⟨j, hj, rfl, rfl, Hkw⟩ := hrel
    have HKq := Lib.hid ((Kept.box w _).then Hkw.out)
    have hb := HB.out wr Hkw.out
    have b0 := cell_at hb 0
    have b1 := cell_at hb 1
    have b2 := cell_at hb 2
    have b3 := cell_at hb 3
    have b4 := cell_at hb 4
    have b5 := cell_at hb 5
    simp only [List.getElem?_toArray, List.getElem?_cons_zero, List.getElem?_cons_succ] at b0 b1 b2 b3 b4 b5
    clear hb
    have hlb : w.heap.size < wr.heap.size := World.block_lt_of_cell? wr _ b0
    by_cases hlt : j < n1
    · obtain ⟨av, hav, hbv⟩ := (HC.out.vars.kept HKq.out).addr (by omega)
      subst hav
      obtain ⟨v, Hv1, hcv, _, _⟩ := (HC.out.vars.kept HKq.out).named j hlt
      obtain ⟨hv0, hv1⟩ := varsOk_rng Hv.out (i := j) (by have := Hl1.out; omega)
      rw [Hv1.out] at hv0 hv1
      obtain ⟨p, rfl⟩ := Int.eq_ofNat_of_zero_le hv0
      have hpn : p < n := by omega
      obtain ⟨al, l, Bl, ml, clp, hal, hbal, Hl, hclp, HIl⟩ := (HL.out.kept HKq.out).named p hpn
      subst hal
      have Hlm := Lib.hid HIl.out.len
      have hsm := HIl.out.small
      have Hnx : Hid (wipedS C.vars ls (j + 1) = (wipedS C.vars ls j || decide (ml = 0))) := by
        show _ = _
        rw [wipedS_succ]
        unfold lsAt
        rw [Hv1.out, Int.toNat_natCast, Hl.out, Hlm.out]
      generalize wipedS C.vars ls j = q at *
      cases q with
      | true =>
        go_wp2_with fail
        go_roundw
        case rel => exact ⟨j + 1, by omega, by go_num, by rw [Hnx.out]; rfl, Hkw.out⟩
        case measure => simp [intOf]; omega
      | false =>
        by_cases hm : ml = 0
        · have hd : ((ml : Int) == 0) = true := by simp [hm]
          have Hnx2 : Hid (wipedS C.vars ls (j + 1) = true) := by show _ = _; rw [Hnx.out, hm]; rfl
          have Hm := Lib.hid hm
          clear hm
          go_wp2_with fail
          go_roundw
          case rel => exact ⟨j + 1, by omega, by go_num, by rw [Hnx2.out], Hkw.out⟩
          case measure => simp [intOf]; omega
        · have hd : ((ml : Int) == 0) = false := by simp; omega
          have Hnx2 : Hid (wipedS C.vars ls (j + 1) = false) := by show _ = _; rw [Hnx.out, decide_eq_false hm]; rfl
          clear hm
          go_wp2_with fail
          go_roundw
          case rel => exact ⟨j + 1, by omega, by go_num, by rw [Hnx2.out], Hkw.out⟩
          case measure => simp [intOf]; omega
    · have e : j = n1 := by omega
      subst e
      generalize hq : wipedS C.vars ls j = q at *
      have Hq := Lib.hid hq
      clear hq
      cases q with
      | false =>
        go_wp2_with fail
        go_ret2
        exact wiped_no Hq.out (HL.out.kept HKq.out) HKq.out
      | true =>
        go_wp2_with fail
        refine (rnone_any K R Ct A1 A2 A3 j c1 n2 c2 n3 c3 C A n c ls wr (HC.out.kept HKq.out) (HL.out.kept HKq.out) Hv.out h0 hn).mono ?_
        rintro e W3 ⟨g, cg, rfl, hO3, hg2, hg3, hk3⟩
        have Hfl : Hid ((noneU C.vars ls j).length = n) := by show _ = _; rw [noneU_length]; exact Hlen.out
        have HLo := Lib.hid (hO3.lists Hfl.out (by omega))
        have HK3 := Lib.hid (HKq.out.then hk3)
        clear hO3 hk3 b0 b1 b2 b3 b4 b5
        go_wp2_with fail
        go_ret2
        exact wiped_yes Hq.out HLo.out HK3.out
end Go.Proofs.YtekcenacpklpgaaDoor

set_option maxHeartbeats 1000000
set_option maxRecDepth 10000
namespace Go.Proofs.YtekcenacpklpgaaDoor
open Go Go.RowKit Pl

/-- An array of 64 bools. -/
def rowB (f : Nat → Bool) : Array Value := (((List.range 64).map f).map Value.bool).toArray
theorem rowB_size (f : Nat → Bool) : (rowB f).size = 64 := by simp [rowB]
theorem rowB_get (f : Nat → Bool) {k : Nat} (hk : k < 64) : (rowB f)[k]? = some (.bool (f k)) := by
  unfold rowB
  rw [List.getElem?_toArray, List.getElem?_map, List.getElem?_map, List.getElem?_range hk]
  rfl
theorem rowB_set (f : Nat → Bool) (k : Nat) (b : Bool) : (rowB f).setIfInBounds k (.bool b) = rowB (fun j => if j = k then b else f j) := by
  unfold rowB
  rw [List.setIfInBounds_toArray]
  congr 1
  apply List.ext_getElem?
  intro i
  rw [List.getElem?_set]
  simp only [List.getElem?_map]
  by_cases hi : i < 64
  · rw [List.getElem?_range hi]
    by_cases h : k = i
    · subst h; simp [hi]
    · have h' : ¬ i = k := fun e => h e.symm
      simp [h, h']
  · rw [List.getElem?_eq_none (by simp; omega)]
    by_cases h : k = i
    · subst h; simp [hi]
    · simp [h]
theorem rowB_congr {f g : Nat → Bool} (h : ∀ j, j < 64 → f j = g j) : rowB f = rowB g := by
  unfold rowB
  have e : (List.range 64).map f = (List.range 64).map g := List.map_congr_left fun j hj => h j (List.mem_range.1 hj)
  rw [e]
theorem rowB_one (f : Nat → Bool) : (rowB f).all (·.oneCell') = true := by
  rw [Array.all_eq_true_iff_forall_mem]
  intro v hv
  simp [rowB] at hv
  obtain ⟨a, _, rfl⟩ := hv
  rfl
theorem rowB_cell (f : Nat → Bool) (w : World) {k : Nat} (hk : k < 64) : (w.alloc (.cells (rowB f) 100)).cell? ⟨w.heap.size, k, none⟩ = some (.bool (f k)) := by
  unfold World.cell?
  simp only [heap_new]
  exact rowB_get f hk
theorem rowB_info (f : Nat → Bool) : (Tryd.prog.info? 100).map (·.size) = some (rowB f).size := by
  rw [rowB_size]; kernel_rfl

/-- The number that the loop of Set has behind the k-th round: the bits from k on. -/
def high (f : Nat → Bool) (k : Nat) : Nat := mkSet (fun j => f (k + j)) (64 - k)
theorem mkSet_low (f : Nat → Bool) : ∀ n, mkSet f (n + 1) = (if f 0 then 1 else 0) + 2 * mkSet (fun j => f (j + 1)) n
  | 0 => by simp [mkSet]
  | n + 1 => by
    have ih := mkSet_low f n
    rw [mkSet, ih]
    rw [mkSet]
    have e : 2 ^ (n + 1) = 2 * 2 ^ n := by rw [Nat.pow_succ]; omega
    rw [e]
    split <;> omega
theorem high_step (f : Nat → Bool) {k : Nat} (hk : k < 64) : high f k = (if f k then 1 else 0) + 2 * high f (k + 1) := by
  unfold high
  obtain ⟨n, hn⟩ : ∃ n, 64 - k = n + 1 := ⟨64 - k - 1, by omega⟩
  have e : 64 - (k + 1) = n := by omega
  rw [hn, mkSet_low, e]
  have e2 : (fun j => f (k + (j + 1))) = fun j => f (k + 1 + j) := by funext j; congr 1; omega
  rw [e2]
  rfl
theorem high_end (f : Nat → Bool) : high f 64 = 0 := by simp [high, mkSet]
theorem high_all (f : Nat → Bool) : high f 0 = mkSet f 64 := by simp [high]
theorem high_lt (f : Nat → Bool) {k : Nat} (hk : k < 64) : 2 * high f (k + 1) + 1 < 2 ^ 64 := by
  have h := mkSet_lt (fun j => f (k + 1 + j)) (64 - (k + 1))
  have h2 : (2 : Nat) ^ (64 - (k + 1)) ≤ 2 ^ 63 := Nat.pow_le_pow_right (by decide) (by omega)
  unfold high
  omega

theorem rset_any (f : Nat → Bool) (w : World) :
    Calls Tryd.prog 80 #[.agg (rowB f)] w fun e w' => e = .returned (.int .u64 (mkSet f 64 : Nat)) ∧ Kept w w' := by
  have hcell : Hid (∀ k, k < 64 → (w.alloc (.cells (rowB f) 100)).cell? ⟨w.heap.size, k, none⟩ = some (.bool (f k))) := fun k hk => rowB_cell f w hk
  have Hall := Lib.hid (high_all f)
  have hk0 : Hid (Kept w (w.alloc (.cells (rowB f) 100))) := Kept.box _ _
  generalize rowB f = vs at *
  go_enter Tryd.func80, Tryd.ntmps80
  go_wp2
  go_loop [3, 4] (fun u v => ∃ k : Nat, k ≤ 64 ∧ v = .int .i64 ((k : Int) - 1) ∧ ∃ h : Nat, u = .int .u64 h ∧ Hid (h = high f k)) (fun _ v => (intOf v + 1).toNat)
  case atStart => exact ⟨64, Nat.le_refl _, rfl, 0, rfl, by show 0 = high f 64; rw [high_end]⟩
  case round =>
    obtain ⟨k, hk, rfl, h, rfl, Hh⟩ := hrel
    by_cases hlt : 0 < k
    · obtain ⟨m, rfl⟩ : ∃ m, k = m + 1 := ⟨k - 1, by omega⟩
      have hm : m < 64 := by omega
      have e1 : ((m + 1 : Nat) : Int) - 1 = m := by omega
      have hc := hcell.out m hm
      have hb : 2 * h + 1 < 2 ^ 64 := by rw [Hh.out]; exact high_lt f hm
      have Hs := Lib.hid (high_step f hm)
      have Hb := Lib.hid hb
      have hw1 : IntKind.u64.wrap (2 * (h : Int)) = ((2 * h : Nat) : Int) := by rw [IntKind.wrap_u64]; omega
      have hw2 : IntKind.u64.wrap (((2 * h : Nat) : Int) + 1) = ((2 * h + 1 : Nat) : Int) := by rw [IntKind.wrap_u64]; omega
      clear hb
      rw [e1]
      cases hf : f m with
      | true =>
        rw [hf] at hc
        have Hn : Hid (2 * h + 1 = high f m) := by
          show _ = _
          rw [Hs.out, hf, ← Hh.out, if_pos rfl, Nat.add_comm]
        clear hf
        generalize 2 * h + 1 = h2 at *
        generalize 2 * h = h1 at *
        go_wp2
        go_round
        case rel => exact ⟨m, by omega, rfl, h2, rfl, Hn⟩
        case measure => simp [intOf] <;> omega
      | false =>
        rw [hf] at hc
        have Hn : Hid (2 * h = high f m) := by
          show _ = _
          rw [Hs.out, hf, ← Hh.out, if_neg (by decide), Nat.zero_add]
        clear hf hw2
        generalize 2 * h = h1 at *
        go_wp2
        go_round
        case rel => exact ⟨m, by omega, rfl, h1, rfl, Hn⟩
        case measure => simp [intOf] <;> omega
    · have e : k = 0 := by omega
      subst e
      go_wp2
      go_ret
      exact ⟨ret_u64 (by rw [Hh.out, Hall.out]), hk0.out⟩

end Go.Proofs.YtekcenacpklpgaaDoor

set_option maxHeartbeats 1000000
set_option maxRecDepth 10000
namespace Go.Proofs.YtekcenacpklpgaaDoor
open Go Go.RowKit Pl

theorem step_append_zero {ops : Array Oper} {o : Oper} {a : Act} {w : World} {K : Act → World → Prop} {Q : Exit → Act → World → Prop} {E : Prop} (hgd : o.guard = Option.none) (s x : Operand)
    (ho : o.op = .call { callee := .builtin .append, args := #[s, x], argTypes := #[22, 22] }) (g n c : Nat) (A : Option Addr) (hn : n = 0)
    (hs : a.eval s = .slice (some ⟨g, 0, Option.none⟩) 0 0) (hx : a.eval x = .slice A n c)
    (h : K (a.put o.dst (.slice (some ⟨g, 0, Option.none⟩) 0 0)) w) :
    if Region.wanted o (yielded ops a.tmps) = true then Oper.wp Tryd.prog o a w K Q else E := by
  subst hn
  have hw : Region.wanted o (yielded ops a.tmps) = true := by simp [Region.wanted, hgd]
  rw [if_pos hw]
  unfold Oper.wp execOp
  simp only [ho, resolve, invoke, builtin, Sem.run_bind, Sem.run_pure, Result.andThen_ok, List.map_toArray, List.map_cons, List.map_nil, hs, hx]
  cases A with
  | none =>
    simp [go_sem]
    exact h
  | some b =>
    simp [go_sem]
    exact h
end Go.Proofs.YtekcenacpklpgaaDoor

set_option maxHeartbeats 1000000
set_option maxRecDepth 10000
namespace Go.Proofs.YtekcenacpklpgaaDoor
open Go Go.RowKit Pl

theorem range_kept {w w' : World} {b o : Nat} {cs : List Value} (h : w.rangeAt b o cs) (hk : Kept w w') : w'.rangeAt b o cs := fun j v hv => hk.cellAt (h j v hv)
theorem grown_kept {w0 w w' : World} {r : Option Nat} (h0 : Kept w0 w) (hg : w.grownBy w' r) (hr : ∀ i, r = some i → w0.heap.size ≤ i) : Kept w0 w' := h0.grown hg h0.size hr

theorem two_but (w : World) (O : Nat) (x0 x1 : Value) : KeptBut O w ((w.setCell ⟨O, 0, Option.none⟩ x0).setCell ⟨O, 1, Option.none⟩ x1) :=
  (KeptBut.set _ (a := ⟨O, 0, Option.none⟩) rfl _).then (KeptBut.set _ (a := ⟨O, 1, Option.none⟩) rfl _)

/-- What is kept of the places below k. -/
def keepUpto (xs l : List Int) (L k : Nat) (i : Nat) : Bool := decide (i < k) && (L.testBit i && l.contains (xs.getD i 0))

theorem keepUpto_set {xs l : List Int} {L : Nat} (hm : mayB xs L = true) : mkSet (keepUpto xs l L xs.length) 64 = (keepD (fun x => l.contains x) (xs, L)).2 := by
  apply Nat.eq_of_testBit_eq
  intro i
  rw [testBit_keepD, testBit_mkSet]
  unfold keepUpto
  by_cases hb : L.testBit i = true
  · have := (may_bit (d := (xs, L)) hm hb).1
    have h2 : decide (i < xs.length) = true := by simpa using this
    rw [h2]; rfl
  · have : L.testBit i = false := by simpa using hb
    rw [this]; simp

theorem rkeep_p (p : Int → Bool) (A B : Option Addr) (n c m d L : Nat) (xs l : List Int) (w : World) (hp : ∀ x, p x = l.contains x) (hS : Ints w A n xs) (hl : Ints w B m l) (hL : L < 2 ^ 64) (hm : mayB xs L = true) :
    Calls Tryd.prog 66 #[.agg #[.slice A n c, .int .u64 L], .slice B m d] w (DomPost (keepD p (xs, L)) w) := by
  obtain ⟨i0, hi, hz0, hz1, hz2⟩ := info_parts info_int
  have Hp := Lib.hid hp
  have HS := Lib.hid hS
  have Hl := Lib.hid hl
  have HL := Lib.hid hL
  have Hm := Lib.hid hm
  have Hlen := Lib.hid hS.len
  have Hll := Lib.hid hl.len
  have hsm := hS.small
  have hsm2 := hl.small
  have hn64 : n ≤ 64 := by have := mayB_len hm; have := hS.len; omega
  have hmay : Hid (∀ W, Ints W A n xs → Calls Tryd.prog 65 #[.agg #[.slice A n c, .int .u64 L]] W fun e w' => e = .returned (.bool true) ∧ Kept W w') := fun W hW => by
    have := rmay_any A n c L xs W hW HL.out
    rwa [hm] at this
  clear hS hl hL hm hp
  go_enter Tryd.func66, Tryd.ntmps66
  refine wp_seq_k fun K h => ?_
  have H := Lib.hid h
  clear h
  go_wp2_with fail
  refine H.out _ _ ?_
  clear H K
  refine wp_seq_k fun K h => ?_
  have H := Lib.hid h
  clear h
  go_wp2_with fail
  refine (hmay.out _ (HS.out.kept ((Kept.box _ _).newBlock _))).mono ?_
  rintro e wm ⟨rfl, hk1⟩
  have HD := Lib.hid (hk1.heapAt ((Kept.box _ _).heapAt (heap_new w (.cells #[.slice A n c, .int .u64 (L : Nat)] 71))))
  have HR := Lib.hid (hk1.heapAt (heap_new2 w (.cells #[.slice A n c, .int .u64 (L : Nat)] 71) _))
  have HK1 := Lib.hid (((Kept.box w _).newBlock _).then hk1)
  have hsz := hk1.size
  simp only [World.size_alloc] at hsz
  clear hk1 hmay
  go_wp2_with fail
  refine H.out _ _ ?_
  clear H K
  refine wp_seq_k fun K h => wp_region_list ?_
  have H := Lib.hid h
  clear h
  refine Great.wpList_runTo rfl (some 13) rfl (.agg (rowB fun _ => false)) wm (by kernel_rfl) ?_
  refine Great.wpList_runTo rfl (some 5) rfl (.pointer (some ⟨wm.heap.size, 0, none⟩)) (wm.alloc (.cells (rowB fun _ => false) 100)) (by kernel_rfl) ?_
  refine wpList_store_row rfl 100 (.tmp 5) (.tmp 13) rfl wm.heap.size (rowB fun _ => false) rfl rfl 100 (rowB fun _ => false) (heap_new _ _) (rowB_info _) rfl (rowB_one _) ?_
  rw [World.setRow_alloc_new]
  refine wpList_nil (H.out _ _ ?_)
  clear H K
  have HKa := Lib.hid (Kept.box wm (.cells (rowB fun _ => false) 100))
  have HA0 := Lib.hid (heap_new wm (.cells (rowB fun _ => false) 100))
  generalize wm.alloc (.cells (rowB fun _ => false) 100) = wa at *
  have hd := HKa.out.heapAt HD.out
  have hd0 := cell_at hd 0
  have hd1 := cell_at hd 1
  simp only [List.getElem?_toArray, List.getElem?_cons_zero, List.getElem?_cons_succ] at hd0 hd1
  clear hd
  go_wp2_with fail
  clear hd0 hd1
  go_loopw [6, 7] (fun u v wr => ∃ (k z : Nat), k ≤ n ∧ v = .int .i64 k ∧ u = .int .u64 (z : Nat) ∧ Hid (z = L / 2 ^ k) ∧ Hid (KeptBut wm.heap.size wa wr) ∧ Hid (wr.heap[wm.heap.size]? = some (.cells (rowB (keepUpto xs l L k)) 100))) (fun _ v _ => n - (intOf v).toNat)
  case atStart => exact ⟨0, L, Nat.zero_le _, rfl, rfl, by show L = L / 2 ^ 0; simp, KeptBut.refl _ _, by rw [rowB_congr (g := fun _ => false) (fun j _ => by simp [keepUpto])]; exact HA0⟩
  case round =>
    obtain ⟨k, z, hk, rfl, rfl, Hz, Hkw, HA⟩ := hrel
    have HDr := Lib.hid (Hkw.out.heapAt (HKa.out.heapAt HD.out) (by omega))
    have hd0 := cell_at HDr.out 0
    have hd1 := cell_at HDr.out 1
    simp only [List.getElem?_toArray, List.getElem?_cons_zero, List.getElem?_cons_succ] at hd0 hd1
    by_cases hlt : k < n
    · have hxs := (HS.out.kept (HK1.out.then HKa.out)).keptBut0 Hkw.out (fun hn a ha => by subst ha; have := HS.out.block hn; omega)
      obtain ⟨a, rfl, hblk⟩ := hxs.addr (by omega)
      obtain ⟨x, Hx, hcx, hx1, hx2⟩ := hxs.named k hlt
      have hzL : z ≤ L := by rw [Hz.out]; exact Nat.div_le_self _ _
      have hwz : IntKind.u64.wrap ((z : Int) / 2) = (z : Int) / 2 := by rw [IntKind.wrap_u64]; have := HL.out; omega
      have Hnz : Hid (z / 2 = L / 2 ^ (k + 1)) := by show _ = _; rw [Hz.out, Nat.div_div_eq_div_mul, Nat.pow_succ]
      have Hbit : Hid (L.testBit k = decide (z % 2 = 1)) := by show _ = _; rw [testBit_div, Hz.out]
      clear hxs
      go_wp2_with fail
      clear hd0 hd1 hcx hblk
      go_loopw [8] (fun v wq => ∃ j : Nat, j ≤ m ∧ v = .int .i64 j ∧ Hid (KeptBut wm.heap.size wa wq) ∧ Hid (wq.heap[wm.heap.size]? = some (.cells (rowB fun i => if i = k then L.testBit k && (l.take j).contains x else keepUpto xs l L k i) 100))) (fun v _ => m - (intOf v).toNat)
      case atStart => exact ⟨0, Nat.zero_le _, rfl, Hkw.out, by rw [rowB_congr (g := keepUpto xs l L k) (fun i _ => by by_cases h : i = k <;> simp [h, keepUpto])]; exact HA.out⟩
      case round =>
        obtain ⟨j, hj, rfl, Hkq, HAq⟩ := hrel
        have HDq := Lib.hid (Hkq.out.heapAt (HKa.out.heapAt HD.out) (by omega))
        have hd0 := cell_at HDq.out 0
        have hd1 := cell_at HDq.out 1
        simp only [List.getElem?_toArray, List.getElem?_cons_zero, List.getElem?_cons_succ] at hd0 hd1
        have hlb : w.heap.size < wr.heap.size := lt_at HDq.out
        by_cases hlt2 : j < m
        · have hxs := (HS.out.kept (HK1.out.then HKa.out)).keptBut0 Hkq.out (fun hn a ha => by cases ha; have := HS.out.block hn; omega)
          obtain ⟨x', Hx', hcx, _, _⟩ := hxs.named k hlt
          have ex : x' = x := Hx'.out.symm.trans Hx.out
          subst ex
          have hblk := hxs.block (by omega)
          have hls := (Hl.out.kept (HK1.out.then HKa.out)).keptBut0 Hkq.out (fun hn a ha => by subst ha; have := Hl.out.block hn; omega)
          obtain ⟨bl, rfl, hbl⟩ := hls.addr (by omega)
          obtain ⟨y, Hy, hcy, _, _⟩ := hls.named j hlt2
          have Hs : Hid ((l.take (j + 1)).contains x' = ((l.take j).contains x' || decide (y = x'))) := by
            show _ = _
            rw [take_succ_getD (by have := Hll.out; omega) Hy.out]
            exact contains_snoc _ _ _
          clear hxs hls
          by_cases hyx : y = x'
          · have hd5 : (y == x') = true := by simp [hyx]
            by_cases hbit : z % 2 = 1
            · have hd6 : ((z : Int) % 2 == 1) = true := by simp; omega
              have Hnew : Hid (rowB (fun i => if i = k then true else (if i = k then L.testBit k && (l.take j).contains x' else keepUpto xs l L k i)) = rowB (fun i => if i = k then L.testBit k && (l.take (j + 1)).contains x' else keepUpto xs l L k i)) := rowB_congr fun i _ => by
                by_cases h : i = k
                · simp only [h, if_true]
                  rw [Hbit.out, Hs.out, decide_eq_true hyx, decide_eq_true hbit]; simp
                · simp only [h, if_false]
              go_wp2_with fail
              refine wp_region_quiet_below (by kernel_rfl) (by kernel_rfl) ?_
              repeat (any_goals (first | go_big_quiet_step ((fail)) | quiet_step ((fail)) | (refine wpQuiet_step (fun K hK => ?_); go_simp; split <;> (refine hK _ ?_; clear hK K))))
              all_goals (refine wpQuiet_nil ?_; intro w1 hw'; replace hw' := Kept.regrown hw')
              all_goals try (exfalso; omega)
              have HA9 := Lib.hid (hw'.heapAt HAq.out)
              have hO1 := cell_at HA9.out k
              rw [rowB_get _ (by omega)] at hO1
              have hfr := frozen_at HA9.out k
              have Hk9 := Lib.hid (Hkq.out.then (KeptBut.of hw' _))
              have hset := rowB_set (fun i => if i = k then L.testBit k && (l.take j).contains x' else keepUpto xs l L k i) k true
              have Hset : Hid ((w1.setCell ⟨wm.heap.size, k, Option.none⟩ (.bool true)).heap[wm.heap.size]? = some (.cells (rowB fun i => if i = k then L.testBit k && (l.take (j + 1)).contains x' else keepUpto xs l L k i) 100)) := by
                show _ = _
                rw [heap_setCell_same _ _ _ _ _ _ HA9.out, hset, Hnew.out]
              clear hw' hd0 hd1 hset
              go_wp2_with fail
              go_roundw
              case rel => exact ⟨j + 1, by omega, by go_num, Hk9.out.then (KeptBut.set _ (a := ⟨wm.heap.size, k, Option.none⟩) rfl _), Hset.out⟩
              case measure => simp [intOf]; omega
            · have hd6 : ((z : Int) % 2 == 1) = false := by simp; omega
              have Hnew : Hid (rowB (fun i => if i = k then L.testBit k && (l.take j).contains x' else keepUpto xs l L k i) = rowB (fun i => if i = k then L.testBit k && (l.take (j + 1)).contains x' else keepUpto xs l L k i)) := rowB_congr fun i _ => by
                by_cases h : i = k
                · simp only [h, if_true]
                  rw [Hbit.out, decide_eq_false hbit]; rfl
                · simp only [h, if_false]
              go_wp2_with fail
              refine wp_region_quiet_below (by kernel_rfl) (by kernel_rfl) ?_
              repeat (any_goals (first | go_big_quiet_step ((fail)) | quiet_step ((fail)) | (refine wpQuiet_step (fun K hK => ?_); go_simp; split <;> (refine hK _ ?_; clear hK K))))
              all_goals (refine wpQuiet_nil ?_; intro w1 hw'; replace hw' := Kept.regrown hw')
              all_goals try (exfalso; omega)
              have HA9 := Lib.hid (hw'.heapAt HAq.out)
              have Hk9 := Lib.hid (Hkq.out.then (KeptBut.of hw' _))
              clear hw' hd0 hd1
              go_wp2_with fail
              go_roundw
              case rel => exact ⟨j + 1, by omega, by go_num, Hk9.out, by rw [← Hnew.out]; exact HA9.out⟩
              case measure => simp [intOf]; omega
          · have hd5 : (y == x') = false := by simp [hyx]
            have Hnew : Hid (rowB (fun i => if i = k then L.testBit k && (l.take j).contains x' else keepUpto xs l L k i) = rowB (fun i => if i = k then L.testBit k && (l.take (j + 1)).contains x' else keepUpto xs l L k i)) := rowB_congr fun i _ => by
              by_cases h : i = k
              · simp only [h, if_true]
                rw [Hs.out, decide_eq_false hyx, Bool.or_false]
              · simp only [h, if_false]
            go_wp2_with fail
            refine wp_region_quiet_below (by kernel_rfl) (by kernel_rfl) ?_
            repeat (any_goals (first | go_big_quiet_step ((fail)) | quiet_step ((fail)) | (refine wpQuiet_step (fun K hK => ?_); go_simp; split <;> (refine hK _ ?_; clear hK K))))
            all_goals (refine wpQuiet_nil ?_; intro w1 hw'; replace hw' := Kept.regrown hw')
            all_goals try (exfalso; omega)
            have HA9 := Lib.hid (hw'.heapAt HAq.out)
            have Hk9 := Lib.hid (Hkq.out.then (KeptBut.of hw' _))
            clear hw' hd0 hd1
            go_wp2_with fail
            go_roundw
            case rel => exact ⟨j + 1, by omega, by go_num, Hk9.out, by rw [← Hnew.out]; exact HA9.out⟩
            case measure => simp [intOf]; omega
        · have e : j = m := by omega
          subst e
          have Hnew : Hid (rowB (fun i => if i = k then L.testBit k && (l.take j).contains x else keepUpto xs l L k i) = rowB (keepUpto xs l L (k + 1))) := rowB_congr fun i _ => by
            rw [List.take_of_length_le (by have := Hll.out; omega)]
            unfold keepUpto
            by_cases h : i = k
            · subst h
              rw [if_pos rfl, Hx.out]; simp
            · rw [if_neg h]
              have : decide (i < k + 1) = decide (i < k) := by
                rw [decide_eq_decide]; omega
              rw [this]
          have HA9 := Lib.hid (Hnew.out ▸ HAq.out)
          go_wp2_with fail
          go_roundw
          case rel => exact ⟨k + 1, z / 2, by omega, by go_num, by simp, Hnz.out, Hkq.out, HA9.out⟩
          case measure => simp [intOf]; omega
    · have e : k = n := by omega
      subst e
      obtain ⟨f, hf⟩ : ∃ f, f = keepUpto xs l L k := ⟨_, rfl⟩
      have Hset : Hid (mkSet f 64 = (keepD p (xs, L)).2) := by
        show _ = _
        have e : p = fun x => l.contains x := funext Hp.out
        rw [hf, e, ← keepUpto_set Hm.out, Hlen.out]
      rw [← hf] at HA
      have hra : wr.rangeAt wm.heap.size 0 (rowB f).toList := fun j v hv => by
        rw [Nat.zero_add, cell_at HA.out]
        simpa using hv
      have hu := Tryd.underlying100
      have hi64 : (Tryd.prog.info? 100).map (·.size) = some (rowB f).toList.length := by rw [rowB_info f]; simp
      have hl64 : (rowB f).toList.length = 64 := by simp [rowB_size]
      have hone : ∀ v ∈ (rowB f).toList, v.oneCell' = true := fun v hv => by
        have := rowB_one f
        rw [Array.all_eq_true'] at this
        exact this v (by simpa using hv)
      have Hra := Lib.hid hra
      have HSet : Hid (∀ W, Calls Tryd.prog 80 #[.agg (rowB f)] W fun e w' => e = .returned (.int .u64 (mkSet f 64 : Nat)) ∧ Kept W w') := fun W => rset_any f W
      have HRr := Lib.hid (Hkw.out.heapAt (HKa.out.heapAt HR.out) (by omega))
      have HKr := Lib.hid (((KeptBut.of (HK1.out.then HKa.out) wm.heap.size).then Hkw.out).kept (by omega))
      have Hc0 := Lib.hid hd0
      have hfacts : Hid (∀ W, Kept wr W → W.cell? ⟨w.heap.size + 1, 0, Option.none⟩ = some (.slice Option.none 0 0) ∧ W.cell? ⟨w.heap.size + 1, 1, Option.none⟩ = some (.int .u64 0) ∧ W.frozen? ⟨w.heap.size + 1, 0, Option.none⟩ = false ∧ W.frozen? ⟨w.heap.size + 1, 1, Option.none⟩ = false) := fun W hW =>
        ⟨cell_at (hW.heapAt HRr.out) 0, cell_at (hW.heapAt HRr.out) 1, frozen_at (hW.heapAt HRr.out) 0, frozen_at (hW.heapAt HRr.out) 1⟩
      have hszr := HKr.out.size
      have hszw := Hkw.out.size
      have hsza := HKa.out.size
      clear hf hra hd1
      by_cases hk0 : 0 < k
      · have hxr := HS.out.kept HKr.out
        obtain ⟨a0, rfl, hba0⟩ := hxr.addr hk0
        have HX := Lib.hid hxr
        have Hnews : Hid (∀ W, Kept wr W → ∀ (j : Nat) (u : Value), (xs.map (Value.int .i64))[j]? = some u → W.cell? (a0.add j) = some u) := fun W hW j u hu => by
          obtain ⟨b, e, hc⟩ := (HX.out.kept hW).cell hk0
          cases e
          rw [List.getElem?_map] at hu
          have hj : j < xs.length := by
            by_cases h : j < xs.length
            · exact h
            · rw [List.getElem?_eq_none (by omega)] at hu; simp at hu
          rw [List.getElem?_eq_getElem hj] at hu
          simp only [Option.map_some, Option.some.injEq] at hu
          rw [hc j (by have := Hlen.out; omega), ← hu, List.getD_eq_getElem?_getD, List.getElem?_eq_getElem hj]
          rfl
        have hnl : (xs.map (Value.int .i64)).length = k * 1 := by rw [List.length_map, Nat.mul_one]; exact Hlen.out
        have hn1 : ∀ u ∈ xs.map (Value.int .i64), u.oneCell' = true := fun u hu => by
          rw [List.mem_map] at hu
          obtain ⟨_, _, rfl⟩ := hu
          rfl
        clear hxr
        go_wp2_with fail
        go_region_held3 (fun W => W.cell? ⟨w.heap.size, 0, Option.none⟩ = some (.slice (some a0) k c) ∧ W.rangeAt wm.heap.size 0 (rowB f).toList)
          (first
            | exact ⟨hc0, Hra.out⟩
            | exact ⟨Hc0.out, Hra.out⟩
            | exact ⟨(Kept.drewn _).cellAt Hc0.out, range_kept Hra.out (Kept.drewn _)⟩
            | exact ⟨HKs.out.cellAt Hc0.out, range_kept Hra.out HKs.out⟩
            | exact ⟨HKp.out.cellAt Hc0.out, range_kept Hra.out HKp.out⟩
            | exact ⟨((Kept.drewn _).newBlock _).cellAt Hc0.out, range_kept Hra.out ((Kept.drewn _).newBlock _)⟩
            | exact ⟨(two_but _ _ _ _).cellAt (HKs.out.cellAt Hc0.out) (by simp), fun j v hv => (two_but _ _ _ _).cellAt (range_kept Hra.out HKs.out j v hv) (by show wm.heap.size ≠ w.heap.size + 1; omega)⟩)
          (first
            | (go_at_call 80
               refine (HSet.out _).mono ?_
               rintro e wS ⟨rfl, hkS⟩
               have HKs : Hid (Kept wr wS) := by first | exact HKp.out.then hkS | exact ((Kept.drewn _).newBlock _).then hkS | exact (Kept.drewn _).then hkS
               obtain ⟨r0, r1, q0, q1⟩ := hfacts.out _ HKs.out)
            | (refine step_append_lies _ (by rfl) _ _ _ (by rfl) wr.heap.size 3 i0 _ 1 8 Tryd.underlying22 hi hz0 hz1 hz2 rfl (by omega) _ 0 [] (by rfl) (by first | exact own_empty (heap_new _ _) (by simp) | exact own_empty (hkS.heapAt (heap_new _ _)) (by simp) | exact own_empty (heap_new _ _) HKs.out.size) a0 k c (xs.map (Value.int .i64)) (by rfl) hnl (by first | exact Hnews.out _ ((Kept.drewn _).newBlock _) | exact Hnews.out _ HKs.out | exact Hnews.out _ (HKs.out.newBlock _)) hn1 hk0 (by unfold maxLen; omega) (by omega) (by first | (simp; done) | exact HKs.out.size | (have := HKs.out.size; simp; omega)) _ rfl ?_
               intro gg cap w3 hown3 hgrow hat hlt3
               have HKp : Hid (Kept wr w3) := grown_kept ((Kept.drewn _).newBlock _) hgrow (fun i hi => by simp [Act.eval, Value.ownBlock] at hi; omega)
               obtain ⟨r0, r1, q0, q1⟩ := hfacts.out _ HKp.out))
        rw [Nat.zero_add, List.nil_append] at hown3
        obtain ⟨A3, c3, e3, hI3, hf3⟩ := Ints.of_own hown3 HS.out.rng
        cases e3
        have HIs := Lib.hid (hI3.kept hkS)
        have hgg := hf3 _ rfl
        have hgl : wr.heap.size ≤ gg := hgg
        have HKS := Lib.hid (HKr.out.then HKs.out)
        clear hown3 hgrow hat hI3 hf3
        go_wp2_with fail
        refine bodyPost_ret (v := .agg #[.slice (some ⟨gg, 0, Option.none⟩) k cap, .int .u64 (mkSet f 64 : Nat)]) (by simp [results, Tryd.results66, go_sem, r0, r1]) rfl ?_
        refine ⟨some ⟨gg, 0, Option.none⟩, cap, ?_, ?_, ((KeptBut.of HKS.out _).then (two_but _ _ _ _)).kept (by omega), fun a ha => by cases ha; show w.heap.size ≤ gg; omega⟩
        · rw [← Hset.out]
          show _ = Ending.returned (.agg #[.slice (some ⟨gg, 0, Option.none⟩) xs.length cap, _])
          rw [Hlen.out]
        · show Ints _ _ xs.length xs
          rw [Hlen.out]
          exact HIs.out.keptBut0 (two_but _ _ _ _) (fun _ a ha => by cases ha; show gg ≠ w.heap.size + 1; omega)
      · have Hk0 : Hid (k = 0) := by show k = 0; omega
        go_wp2_with fail
        go_region_held3 (fun W => W.cell? ⟨w.heap.size, 0, Option.none⟩ = some (.slice A k c) ∧ W.rangeAt wm.heap.size 0 (rowB f).toList)
          (first
            | exact ⟨Hc0.out, Hra.out⟩
            | exact ⟨(Kept.drewn _).cellAt Hc0.out, range_kept Hra.out (Kept.drewn _)⟩
            | exact ⟨HKs.out.cellAt Hc0.out, range_kept Hra.out HKs.out⟩
            | exact ⟨((Kept.drewn _).newBlock _).cellAt Hc0.out, range_kept Hra.out ((Kept.drewn _).newBlock _)⟩
            | exact ⟨(two_but _ _ _ _).cellAt (HKs.out.cellAt Hc0.out) (by simp), fun j v hv => (two_but _ _ _ _).cellAt (range_kept Hra.out HKs.out j v hv) (by show wm.heap.size ≠ w.heap.size + 1; omega)⟩)
          (first
            | (go_at_call 80
               refine (HSet.out _).mono ?_
               rintro e wS ⟨rfl, hkS⟩
               have HKs : Hid (Kept wr wS) := ((Kept.drewn _).newBlock _).then hkS
               obtain ⟨r0, r1, q0, q1⟩ := hfacts.out _ HKs.out)
            | (refine step_append_zero (by rfl) _ _ (by rfl) _ _ _ _ Hk0.out (by rfl) (by rfl) ?_))
        have HKS := Lib.hid (HKr.out.then HKs.out)
        go_wp2_with fail
        refine bodyPost_ret (v := .agg #[.slice (some ⟨wr.heap.size, 0, Option.none⟩) 0 0, .int .u64 (mkSet f 64 : Nat)]) (by simp [results, Tryd.results66, go_sem, r0, r1]) rfl ?_
        refine ⟨some ⟨wr.heap.size, 0, Option.none⟩, 0, ?_, ?_, ((KeptBut.of HKS.out _).then (two_but _ _ _ _)).kept (by omega), fun a ha => by cases ha; show w.heap.size ≤ wr.heap.size; omega⟩
        · rw [← Hset.out]
          show _ = Ending.returned (.agg #[.slice (some ⟨wr.heap.size, 0, Option.none⟩) xs.length 0, _])
          rw [Hlen.out, Hk0.out]
        · show Ints _ _ xs.length xs
          exact ⟨rfl, by rw [Hlen.out]; omega, HS.out.rng, fun h => by rw [Hlen.out, Hk0.out] at h; omega⟩

theorem rkeep_any (A B : Option Addr) (n c m d L : Nat) (xs l : List Int) (w : World) (hS : Ints w A n xs) (hl : Ints w B m l) (hL : L < 2 ^ 64) (hm : mayB xs L = true) :
    Calls Tryd.prog 66 #[.agg #[.slice A n c, .int .u64 L], .slice B m d] w (DomPost (keepD (fun x => l.contains x) (xs, L)) w) := rkeep_p _ A B n c m d L xs l w (fun _ => rfl) hS hl hL hm
end Go.Proofs.YtekcenacpklpgaaDoor

set_option maxHeartbeats 1000000
set_option maxRecDepth 10000
namespace Go.Proofs.YtekcenacpklpgaaDoor
open Go Go.RowKit Pl

theorem info_rdom : (Tryd.prog.info? 71).map (fun i => (i.zero, i.size, i.bytes)) = some (some (.agg #[.slice Option.none 0 0, .int .u64 0]), 2, 32) := by kernel_rfl

theorem own_any (A : Option Addr) (n c : Nat) (ds : List DomB) (w : World) (hS : Doms w A n ds) (hn : n ≤ 1000) :
    Calls Tryd.prog 12 #[.slice A n c] w (DomsPost ds w) := by
  obtain ⟨i0, hi, hz0, hz1, hz2⟩ := info_parts info_rdom
  have HS := Lib.hid hS
  have Hlen := Lib.hid hS.len
  clear hS
  go_enter Tryd.func12, Tryd.ntmps12
  go_wp2_with fail
  go_loopw [3, 9] (fun u v wr => ∃ k : Nat, k ≤ n ∧ v = .int .i64 k ∧ Hid (OwnR wr w.heap.size u (ds.take k)) ∧ Hid (Kept w wr)) (fun _ v _ => n - (intOf v).toNat)
  case atStart =>
    refine ⟨0, Nat.zero_le _, rfl, ?_, Kept.box _ _⟩
    rw [List.take_zero]
    exact ⟨[], World.ownsRow_made w #[] 0 (Nat.le_refl _) (by decide) rfl, fun j hj => by simp at hj⟩
  case round =>
    obtain ⟨k, hk, rfl, HO, Hkw⟩ := hrel
    by_cases hlt : k < n
    · have hSr := HS.out.kept Hkw.out
      obtain ⟨a, rfl, hblk⟩ := hSr.addr (by omega)
      obtain ⟨xs, L, B, m, cB, Hd, hc1, hc2, HI, hL⟩ := hSr.named k hlt
      have HIw : Hid (0 < m → ∀ a, B = some a → a.block < w.heap.size) := fun hm a' ha' => by
        obtain ⟨b, e, hc⟩ := HS.out.cell (by omega)
        cases e
        obtain ⟨B', m', c', q1, _, q3⟩ := hc k hlt
        have q4 := Hkw.out.cellAt q1
        rw [hc1] at q4
        cases q4
        subst ha'
        exact q3.block hm
      obtain ⟨vs, hown, hd⟩ := HO.out
      have hkl : (ds.take k).length = k := by rw [List.length_take]; have := Hlen.out; omega
      rw [hkl] at hown hd
      have Hown := Lib.hid hown
      have Hdd := Lib.hid hd
      have Hul : Hid (∀ i, u3.ownBlock = some i → w.heap.size ≤ i ∧ i < wr.heap.size) := hown.lt
      have hszr := Hkw.out.size
      clear hSr hown hd
      go_wp2_with (at_builtin; refine wpList_append_own_at _ rfl _ _ 31 rfl w.heap.size 71 i0 (.agg #[.slice Option.none 0 0, .int .u64 0]) 2 32 Tryd.underlying31 hi hz0 hz1 hz2 rfl (by decide) _ _ _ rfl (own_kept Hown.out ((Kept.box _ _).newBlock _)) ⟨wr.heap.size + 1, 0, none⟩ 1 1 [.slice B m cB, .int .u64 L] rfl rfl (World.news_of_block (cs := #[.slice B m cB, .int .u64 L]) (t := 71) (fr := (0, 0)) (heap_new2 _ _ _)) (by simp [Value.oneCell']) (by unfold maxLen; omega) (by omega) (by simp; omega) ?_; intro v' w2 hown' hgrow _ hloc; obtain ⟨g, cap, rfl, hgb, hgl⟩ := hown'.form (by omega))
      go_roundw
      case rel =>
        have hk2 := (Kept.box wr (.cells #[.slice B m cB, .int .u64 (L : Nat)] 47)).newBlock (.cells #[.slice B m cB, .int .u64 (L : Nat)] 71)
        refine ⟨k + 1, by omega, by go_num, ?_, ?_⟩
        · show OwnR _ _ _ _
          rw [take_dom (by have := Hlen.out; omega) Hd.out]
          have := OwnR.snoc (ds := ds.take k) (d := (xs, L)) (c := cB) (by rw [hkl]; exact own_kept Hown.out hk2) ?_ (HI.out.kept hk2) ?_ hL (by rw [hkl]; exact hown') hgrow ?_
          · rw [hkl] at this; exact this
          · rw [hkl]
            intro j hj
            obtain ⟨hl, B1, m1, c1', e1, e2, e3, e4⟩ := Hdd.out j hj
            exact ⟨hl, B1, m1, c1', e1, e2, e3.kept hk2, e4⟩
          · intro hm a' ha' e
            have := Hul.out _ e
            have := HIw.out hm a' ha'
            omega
          · rcases hloc with h | h
            · exact Or.inl (by rw [← h]; rfl)
            · right
              have : g = wr.heap.size + 1 + 1 := by simpa [Value.ownBlock] using h
              simp only [World.size_alloc]
              omega
        · show Kept w w2
          exact ((Hkw.out.newBlock _).newBlock _).grown hgrow (by simp; omega) (fun i hi => (Hul.out i hi).1)
      case measure => simp [intOf]; omega
    · have e : k = n := by omega
      subst e
      rw [List.take_of_length_le (by have := Hlen.out; omega)] at HO
      obtain ⟨A5, c5, rfl⟩ := HO.out.parts
      have HD := Lib.hid (HO.out.doms (n := ds.length) rfl (by have := Hlen.out; omega))
      clear HO
      go_wp2_with fail
      go_ret
      exact ⟨A5, c5, rfl, HD.out, Hkw.out⟩
end Go.Proofs.YtekcenacpklpgaaDoor

set_option maxHeartbeats 1000000
set_option maxRecDepth 10000
namespace Go.Proofs.YtekcenacpklpgaaDoor
open Go Go.RowKit Pl

theorem rkeeps_any (kq : Nat → Int → Bool) (A B : Option Addr) (n c d : Nat) (ds : List DomB) (ls : List (List Int)) (w : World) (hS : Doms w A n ds) (hL : LL w B n ls) (hm : allMay ds = true) (hkq : ∀ i x, kq i x = (ls.getD i []).contains x) (hn : n ≤ 1000) :
    Calls Tryd.prog 34 #[.slice A n c, .slice B n d] w (DomsPost (stepB kq ds) w) := by
  obtain ⟨i0, hi, hz0, hz1, hz2⟩ := info_parts info_rdom
  have HS := Lib.hid hS
  have HL := Lib.hid hL
  have Hlen := Lib.hid hS.len
  have Hm := Lib.hid hm
  have Hkq := Lib.hid hkq
  have Hsl : Hid ((stepB kq ds).length = n) := by show _ = _; rw [stepB_length]; exact hS.len
  clear hS hL hm hkq
  go_enter Tryd.func34, Tryd.ntmps34
  go_wp2_with fail
  go_loopw [5, 6] (fun u v wr => ∃ k : Nat, k ≤ n ∧ v = .int .i64 k ∧ Hid (OwnR wr w.heap.size u ((stepB kq ds).take k)) ∧ Hid (Kept w wr)) (fun _ v _ => n - (intOf v).toNat)
  case atStart =>
    refine ⟨0, Nat.zero_le _, rfl, ?_, Kept.box _ _⟩
    rw [List.take_zero]
    exact ⟨[], World.ownsRow_made w #[] 0 (Nat.le_refl _) (by decide) rfl, fun j hj => by simp at hj⟩
  case round =>
    obtain ⟨k, hk, rfl, HO, Hkw⟩ := hrel
    by_cases hlt : k < n
    · obtain ⟨a, rfl, hblk0⟩ := HS.out.addr (by omega)
      obtain ⟨xs, L, B1, m, cB, Hd, hw1, hw2, HI0, hL⟩ := HS.out.named k hlt
      obtain ⟨b, l, B2, m2, cB2, rfl, hblk20, Hl, hw3, HI20⟩ := HL.out.named k hlt
      have HI := Lib.hid (HI0.out.kept Hkw.out)
      have HI2 := Lib.hid (HI20.out.kept Hkw.out)
      have Hw1 := Lib.hid hw1
      have Hw2 := Lib.hid hw2
      have Hw3 := Lib.hid hw3
      have hc1 := Hkw.out.cellAt hw1
      have hc2 := Hkw.out.cellAt hw2
      have hc3 := Hkw.out.cellAt hw3
      have hblk : a.block < wr.heap.size := by have := Hkw.out.size; omega
      have hblk2 : b.block < wr.heap.size := by have := Hkw.out.size; omega
      clear hw1 hw2 hw3
      have Hmay : Hid (mayB xs L = true) := by
        have := allMay_at Hm.out (show k < ds.length by have := Hlen.out; omega)
        have h2 := Hd.out
        unfold nilD at h2
        rw [h2] at this
        exact this
      obtain ⟨vs, hown, hd⟩ := HO.out
      have hkl : ((stepB kq ds).take k).length = k := by rw [List.length_take]; have := Hsl.out; omega
      rw [hkl] at hown hd
      have Hul : Hid (∀ i, u5.ownBlock = some i → w.heap.size ≤ i ∧ i < wr.heap.size) := hown.lt
      have Hown := Lib.hid hown
      have Hdd := Lib.hid hd
      have hszr := Hkw.out.size
      obtain ⟨dk, hdk⟩ : ∃ dk, dk = keepD (kq k) (xs, L) := ⟨_, rfl⟩
      have Hnext : Hid ((stepB kq ds).take (k + 1) = (stepB kq ds).take k ++ [dk]) := by
        show _ = _
        refine take_dom (by have := Hsl.out; omega) ?_
        rw [hdk, ← Hd.out]
        exact stepB_getD kq ds (by have := Hlen.out; omega)
      have Hdl : Hid (dk.2 < 2 ^ 64) := by show _ < _; rw [hdk]; exact keepD_lt _ _
      have Hd1 : Hid (dk.1 = xs) := by show _ = _; rw [hdk]; rfl
      have HK : Hid (∀ W, Kept wr W → Calls Tryd.prog 66 #[.agg #[.slice B1 m cB, .int .u64 L], .slice B2 m2 cB2] W fun e w' => ∃ A' c', e = .returned (.agg #[.slice A' m c', .int .u64 (dk.2 : Nat)]) ∧ Ints w' A' m dk.1 ∧ Kept W w' ∧ Fresh W A') := fun W hW => by
        have hml : xs.length = m := HI.out.len
        refine (rkeep_p (kq k) B1 B2 m cB m2 cB2 L xs l W (fun x => by rw [Hkq.out k x, Hl.out]) (HI.out.kept hW) (HI2.out.kept hW) hL Hmay.out).mono ?_
        rintro e w' ⟨A', c', rfl, h1, h2, h3⟩
        rw [← hdk] at h1 ⊢
        have e2 : dk.1.length = m := by rw [Hd1.out]; exact hml
        rw [e2] at h1 ⊢
        exact ⟨A', c', rfl, h1, h2, h3⟩
      have hn1 := World.new_ne wr _ hc1
      have hn2 := World.new_ne wr _ hc2
      have hn3 := World.new_ne wr _ hc3
      have Hc1 := Lib.hid hc1
      have Hc2 := Lib.hid hc2
      have Hc3 := Lib.hid hc3
      clear hown hd hdk
      go_wp2_with fail
      go_region_held3 (fun W => W.cell? (a.add (k * 2)) = some (.slice B1 m cB) ∧ W.cell? ⟨a.block, (a.add (k * 2)).off + 1, Option.none⟩ = some (.int .u64 L) ∧ W.cell? (b.add k) = some (.slice B2 m2 cB2))
        (first
          | exact ⟨Hc1.out, Hc2.out, Hc3.out⟩
          | exact ⟨(Kept.drewn _).cellAt Hc1.out, (Kept.drewn _).cellAt Hc2.out, (Kept.drewn _).cellAt Hc3.out⟩
          | exact ⟨HKe.out.cellAt Hc1.out, HKe.out.cellAt Hc2.out, HKe.out.cellAt Hc3.out⟩
          | exact ⟨HKp.out.cellAt Hw1.out, HKp.out.cellAt Hw2.out, HKp.out.cellAt Hw3.out⟩
          | exact ⟨(HKe.out.newBlock _).cellAt Hc1.out, (HKe.out.newBlock _).cellAt Hc2.out, (HKe.out.newBlock _).cellAt Hc3.out⟩)
        (first
          | (go_at_call 66; refine (HK.out _ (Kept.drewn _)).mono ?_; rintro e wC ⟨B', c', rfl, hIB, hkC, hfB⟩; have HKe : Hid (Kept wr wC) := (Kept.drewn _).then hkC)
          | (refine step_append_lies _ (by rfl) _ _ _ (by rfl) w.heap.size 71 i0 _ 2 32 Tryd.underlying31 hi hz0 hz1 hz2 rfl (by omega) u5 k vs (by rfl) (own_kept Hown.out (HKe.out.newBlock _)) ⟨wC.heap.size, 0, none⟩ 1 1 [.slice B' m c', .int .u64 dk.2] (by rfl) (by rfl) (World.news_of_block (cs := #[.slice B' m c', .int .u64 dk.2]) (t := 71) (fr := (0, 0)) (heap_alloc_new wC _)) (by simp [Value.oneCell']) (by omega) (by unfold maxLen; omega) (by omega) (by have := hkC.size; simp at this ⊢; omega) (wC.heap.size + 1) (by simp) ?_; intro gg cap w3 hown3 hgrow hat hlt3; have HKp : Hid (Kept w w3) := (Hkw.out.then (HKe.out.newBlock _)).grown hgrow (by have := hkC.size; simp at this ⊢; omega) (fun i hi => (Hul.out i hi).1)))
      go_wp2_with fail
      go_roundw
      case rel =>
        refine ⟨k + 1, by omega, by go_num, ?_, HKp.out⟩
        show OwnR w3 _ _ _
        rw [Hnext.out]
        have := OwnR.snoc (ds := (stepB kq ds).take k) (d := dk) (w1 := wC.alloc (.cells #[.slice B' m c', .int .u64 dk.2] 71)) (B := B') (m := m) (c := c') (by rw [hkl]; exact own_kept Hown.out (HKe.out.newBlock _)) ?_ (hIB.kept (Kept.box _ _)) ?_ Hdl.out (by rw [hkl]; exact hown3) hgrow ?_
        · rw [hkl] at this; exact this
        · rw [hkl]
          intro j hj
          obtain ⟨hl, B3, m3, c3', e1, e2, e3, e4⟩ := Hdd.out j hj
          exact ⟨hl, B3, m3, c3', e1, e2, e3.kept (HKe.out.newBlock _), e4⟩
        · intro _ a' ha' e
          have h5 : wr.heap.size ≤ a'.block := hfB a' ha'
          have := Hul.out _ e
          omega
        · rcases hat with h | h
          · exact Or.inl h
          · exact Or.inr (by rw [h]; simp)
      case measure => simp [intOf]; omega
    · have e : k = n := by omega
      subst e
      rw [List.take_of_length_le (by have := Hsl.out; omega)] at HO
      obtain ⟨A5, c5, rfl⟩ := HO.out.parts
      have HD := Lib.hid (HO.out.doms (n := (stepB kq ds).length) rfl (by have := Hsl.out; omega))
      clear HO
      go_wp2_with fail
      go_ret
      exact ⟨A5, c5, rfl, HD.out, Hkw.out⟩

end Go.Proofs.YtekcenacpklpgaaDoor

set_option maxHeartbeats 1000000
set_option maxRecDepth 10000
namespace Go.Proofs.YtekcenacpklpgaaDoor
open Go Go.RowKit Pl

end Go.Proofs.YtekcenacpklpgaaDoor

set_option maxHeartbeats 1000000
set_option maxRecDepth 10000
namespace Go.Proofs.YtekcenacpklpgaaDoor
open Go Go.RowKit Go.Maps Pl

theorem lawInt : Keyed Tryd.prog 3 := int_keyed Tryd.underlying3
theorem zeroInt (w : World) : (zeroValue 3).run Tryd.prog w = .ok (.int .i64 0) w := by kernel_rfl

/-- Whether a place's number may stand. -/
def isE (nums vals : List Int) (i : Int) : Bool := decide (0 ≤ i) && decide (i < nums.length) && vals.contains (nums.getD i.toNat 0)
/-- How often a number has been counted. -/
def cntE (nums vals l : List Int) (x : Int) : Nat := (l.filter fun i => isE nums vals i && (nums.getD i.toNat 0 == x)).length
/-- A map of counts. -/
def Counts (w : World) (M n : Nat) (f : Int → Nat) : Prop :=
  ∃ D : DataW Unit, w.ownsMap Tryd.prog 3 (plainElem Tryd.prog 3) M n D ∧ ∀ x, D.atKey (.int .i64 x) (.lit (.int .i64 0)) = .lit (.int .i64 (f x : Nat))

theorem Counts.made (w : World) : Counts (w.alloc (.map #[] 0)) w.heap.size 0 (fun _ => 0) := ⟨_, World.ownsMap_made _ _ _ _, fun _ => rfl⟩

/-- What Step's first question reads. -/
structure ElemBox (w : World) (Bc Bl Bv Bm M : Nat) (Al : Option Addr) (nl cl : Nat) (A3 : Option Addr) (n3 c3 : Nat) (nums : List Int) (ds : List DomB) (pv : Nat) : Prop where
  con : w.cell? ⟨Bc, 5, none⟩ = some (.slice A3 n3 c3)
  nums : Ints w A3 n3 nums
  lst : w.cell? ⟨Bl, 0, none⟩ = some (.slice Al nl cl)
  doms : Doms w Al nl ds
  val : w.cell? ⟨Bv, 0, none⟩ = some (.int .i64 (pv : Nat))
  lt : pv < nl
  map : w.cell? ⟨Bm, 0, none⟩ = some (.map (some M))
  may : mayB (ds.getD pv nilD).1 (ds.getD pv nilD).2 = true

theorem Counts.kept {w w' : World} {M n : Nat} {f : Int → Nat} (h : Counts w M n f) (hk : Kept w w') : Counts w' M n f := by
  obtain ⟨D, ⟨es, clock, hb, F, hs, hD⟩, hx⟩ := h
  exact ⟨D, ⟨es, clock, hk.heapAt hb, F, hs, hD⟩, hx⟩
theorem KeptBut.grown {M : Nat} {w w' : World} (h : w.grownBy w' (some M)) : KeptBut M w w' :=
  ⟨h.os, h.tape, h.output, h.size, fun k hk hB => h.block k hk (by simpa using hB)⟩
theorem isMap_of {w : World} {P : Program} {k : TypeId} {R : Value → Option (DataW Unit × List MemPlace)} {b n : Nat} {D : DataW Unit} (h : w.ownsMap P k R b n D) : IsMap D := by
  obtain ⟨es, clock, _, _, _, hD⟩ := h
  exact ⟨_, hD⟩
theorem Counts.same {w : World} {M n : Nat} {f : Int → Nat} (h : Counts w M n f) {b : Bool} (p : Int → Bool) (hb : b = false) : Counts w M (n + 1) (fun v => f v + if b && p v then 1 else 0) := by
  obtain ⟨D, hown, hx⟩ := h
  subst hb
  exact ⟨D, hown.mono (Nat.le_succ _), by simpa using hx⟩

end Go.Proofs.YtekcenacpklpgaaDoor

set_option maxHeartbeats 1000000
set_option maxRecDepth 10000
namespace Go.Proofs.YtekcenacpklpgaaDoor
open Go Go.RowKit Go.Maps Pl

/-- What is kept behind the first ones of a list. -/
def pk (g : Int → Bool) (l : List Int) (x : Int) : Bool := l.all fun v => x != v || g v
theorem pk_nil (g : Int → Bool) (d : DomB) (hm : mayB d.1 d.2 = true) : keepD (pk g []) d = d := keepD_all hm (fun _ _ => rfl)
theorem pk_yes {g : Int → Bool} {l : List Int} {v : Int} (hv : g v = true) : pk g (l ++ [v]) = pk g l := by
  funext x; unfold pk; rw [List.all_append]; simp [hv]
theorem pk_no {g : Int → Bool} {l : List Int} {v : Int} (hv : g v = false) (d : DomB) : keepD (fun x => x != v) (keepD (pk g l) d) = keepD (pk g (l ++ [v])) d := by
  rw [keepD_keepD]
  congr 1
  funext x; unfold pk; rw [List.all_append]; simp [hv]
theorem pk_all {g : Int → Bool} {d : DomB} (hm : mayB d.1 d.2 = true) : keepD (pk g (listB d.1 d.2)) d = keepD g d := by
  refine keepD_congr hm fun v hv => ?_
  unfold pk
  rw [Bool.eq_iff_iff, List.all_eq_true]
  constructor
  · intro h
    simpa using h v hv
  · intro h u _
    by_cases e : v = u
    · subst e; simp [h]
    · simp [e]

end Go.Proofs.YtekcenacpklpgaaDoor

/-
  Contracts and plain laws that the card rests on, part 3.
-/
import Derived.Test.YtjmegicopdbkdaaDoorL2
import Derived.Deep.RegionHeld3
set_option maxHeartbeats 1000000
set_option maxRecDepth 10000
namespace Go.Proofs.YtjmegicopdbkdaaDoor
open Go Go.RowKit Pl

/-- A copy, in memory of the call's own. -/
theorem clone_any (A : Option Addr) (n c : Nat) (xs : List Int) (w : World) (hS : Ints w A n xs) (hn : n ≤ 100000) :
    Calls Tryd.prog 29 #[.slice A n c] w fun e w' => ∃ B c', e = .returned (.slice B n c') ∧ Ints w' B n xs ∧ Kept w w' ∧ Fresh w B := by
  by_cases h0 : 0 < n
  · obtain ⟨b, off, rfl, hc⟩ := hS.plain h0
    refine (Tryd.slices_Clone_int b off n c xs w (by have := hS.len; omega) (by omega) hc).mono ?_
    rintro e w' ⟨v', rfl, hown, _, hk⟩
    rw [← hS.len, List.take_length, hS.len] at hown
    obtain ⟨B, c', rfl, hI, hf⟩ := Ints.of_own hown hS.rng
    exact ⟨B, c', rfl, hI, hk, hf⟩
  · have h1 : n = 0 := by omega
    subst h1
    have hx : xs = [] := List.eq_nil_of_length_eq_zero hS.len
    subst hx
    cases A with
    | none =>
      refine (Tryd.slices_Clone_int_nil 0 c w).mono ?_
      rintro e w' ⟨rfl, rfl⟩
      exact ⟨Option.none, 0, rfl, Ints.none _, Below.refl _ _, Fresh.none _⟩
    | some a =>
      refine (Tryd.slices_Clone_int_zero a c w).mono ?_
      rintro e w' ⟨v', rfl, hown, _, hk⟩
      obtain ⟨B, c', rfl, hI, hf⟩ := Ints.of_own (xs := []) (by simpa using hown) (by simp)
      exact ⟨B, c', rfl, hI, hk, hf⟩

/-- A domain is handed back; its values lie in memory of the call's own. -/
def DomPost (d : DomB) (w : World) (e : Ending) (w' : World) : Prop :=
  ∃ A c, e = .returned (.agg #[.slice A d.1.length c, .int .u64 d.2]) ∧ Ints w' A d.1.length d.1 ∧ Kept w w' ∧ Fresh w A

theorem less1_any (x v : Int) (B : Nat) (w : World) (hB : w.cell? ⟨B, 0, none⟩ = some (.int .i64 v)) :
    Calls Tryd.prog 65 #[.int .i64 x, .pointer (some ⟨B, 0, none⟩)] w fun e w' => e = .returned (.bool (x != v)) ∧ w = w' := by
  go_enter Tryd.func65, Tryd.ntmps65
  go_wp2
  go_ret
  exact ⟨ret_bool (by simp), rfl⟩

theorem less1_quiet (x v : Int) (B : Nat) (w : World) (hB : w.cell? ⟨B, 0, none⟩ = some (.int .i64 v)) :
    Calls Tryd.prog 65 #[.int .i64 x, .pointer (some ⟨B, 0, none⟩)] w fun e w' => e = .returned (.bool (x != v)) ∧ Kept w w' :=
  (less1_any x v B w hB).mono fun _ _ ⟨he, hw⟩ => ⟨he, hw ▸ Below.refl _ _⟩

theorem ofL_nil : ofL [] = 0 := by
  apply Nat.eq_of_testBit_eq
  intro i
  unfold ofL
  rw [testBit_mkSet]
  simp
attribute [local irreducible] ofL mkSet
theorem ofL_one {k : Nat} (hk : k < 64) : ofL [(k : Int)] = 2 ^ k := by
  have := ofL_snoc_in (l := []) hk
  simp only [List.nil_append] at this
  rw [this, ofL_nil]
  simp
theorem or_set {a k : Nat} (ha : a < 2 ^ 64) (hk : k < 64) : bits BinOp.or IntKind.u64 (a : Int) ((ofL [(k : Int)] : Nat) : Int) = ((a ||| 2 ^ k : Nat) : Int) := by
  rw [← or_pow ha hk, ofL_one hk]
  congr 1
  have h2 : 2 ^ k < 2 ^ 64 := Nat.pow_lt_pow_right (by decide) hk
  have e : ((2 : Int) ^ k) = ((2 ^ k : Nat) : Int) := by simp
  rw [e]
  generalize 2 ^ k = z at *
  unfold IntKind.wrap
  simp [IntKind.signed, IntKind.bits]
  omega

theorem cell_at {w : World} {O : Nat} {cs : Array Value} {t : TypeId} {fr : Nat × Nat} (h : w.heap[O]? = some (.cells cs t fr)) (i : Nat) : w.cell? ⟨O, i, none⟩ = cs[i]? := by
  unfold World.cell?; simp [h]
theorem frozen_at {w : World} {O : Nat} {cs : Array Value} {t : TypeId} (h : w.heap[O]? = some (.cells cs t (0, 0))) (i : Nat) : w.frozen? ⟨O, i, none⟩ = false := by
  unfold World.frozen?; simp [h]
theorem frozen_new {w : World} {O i : Nat} (o : Obj) (h : O < w.heap.size) (hf : w.frozen? ⟨O, i, none⟩ = false) : (w.alloc o).drew.frozen? ⟨O, i, none⟩ = false :=
  (World.frozen?_alloc_old w o ⟨O, i, none⟩ (by simp; omega)).trans hf
theorem lit1 (w : World) (x : Int) (t : TypeId) (fr : Nat × Nat) (hx : -9223372036854775808 ≤ x ∧ x ≤ 9223372036854775807) : Ints (w.alloc (.cells #[.int .i64 x] t fr)) (some ⟨w.heap.size, 0, none⟩) 1 [x] :=
  Ints.of_cells (xs := [x]) (by rw [heap_new]; rfl) (by simp) (by simpa using hx) rfl
theorem Kept.drewn (w : World) : Kept w w.drew := ⟨rfl, rfl, rfl, Nat.le_refl _, fun _ _ => rfl⟩
theorem lit1d (w : World) (x : Int) (t : TypeId) (fr : Nat × Nat) (hx : -9223372036854775808 ≤ x ∧ x ≤ 9223372036854775807) : Ints (w.alloc (.cells #[.int .i64 x] t fr)).drew (some ⟨w.heap.size, 0, none⟩) 1 [x] :=
  (lit1 w x t fr hx).kept (Kept.drewn _)
theorem two_set1 {w : World} {O : Nat} {v0 v1 : Value} {t : TypeId} (h : w.heap[O]? = some (.cells #[v0, v1] t (0, 0))) (v : Value) : (w.setCell ⟨O, 1, none⟩ v).heap[O]? = some (.cells #[v0, v] t (0, 0)) := by
  rw [heap_setCell_same w O 1 _ t v h]; rfl
theorem KeptBut.heapAt {B : Nat} {w w' : World} (h : KeptBut B w w') {O : Nat} {o : Obj} (hO : w.heap[O]? = some o) (hB : O ≠ B) : w'.heap[O]? = some o := (h.block O (Array.getElem?_eq_some_iff.1 hO).1 hB).trans hO
theorem lt_at {w : World} {O : Nat} {o : Obj} (h : w.heap[O]? = some o) : O < w.heap.size := (Array.getElem?_eq_some_iff.1 h).1
theorem Kept.heapAt {w w' : World} (h : Kept w w') {O : Nat} {o : Obj} (hO : w.heap[O]? = some o) : w'.heap[O]? = some o := (h.block O (lt_at hO)).trans hO

theorem two_step {w : World} {O : Nat} {v0 v1 : Value} {t : TypeId} (h : w.heap[O]? = some (.cells #[v0, v1] t (0, 0))) (v : Value) (o : Obj) : ((w.setCell ⟨O, 1, none⟩ v).alloc o).drew.heap[O]? = some (.cells #[v0, v] t (0, 0)) :=
  Kept.heapAt ((Kept.box _ o).then (Kept.drewn _)) (two_set1 h v)
theorem but_step (w : World) (O : Nat) (v : Value) (o : Obj) : KeptBut O w ((w.setCell ⟨O, 1, none⟩ v).alloc o).drew :=
  (KeptBut.set w (a := ⟨O, 1, none⟩) (B := O) rfl v).then (KeptBut.of ((Kept.box _ o).then (Kept.drewn _)) O)

theorem heap_new2 (w : World) (o o' : Obj) : ((w.alloc o).alloc o').heap[w.heap.size + 1]? = some o' := by
  have := heap_new (w.alloc o) o'
  rwa [World.size_alloc] at this

theorem Ints.keptBut0 {B : Nat} {w w' : World} {A : Option Addr} {n : Nat} {xs : List Int} (h : Ints w A n xs) (hk : KeptBut B w w') (hB : 0 < n → ∀ a, A = some a → a.block ≠ B) : Ints w' A n xs :=
  ⟨h.len, h.small, h.rng, fun hn => by
    obtain ⟨a, e, hc⟩ := h.cell hn
    exact ⟨a, e, fun j hj => hk.cellAt (hc j hj) (by rw [add_block']; exact hB hn a e)⟩⟩

theorem filter_in {p : Int → Bool} {l : List Int} {x : Int} (h : p x = true) : (l ++ [x]).filter p = l.filter p ++ [x] := by
  rw [List.filter_append]; simp [h]
theorem filter_out {p : Int → Bool} {l : List Int} {x : Int} (h : p x = false) : (l ++ [x]).filter p = l.filter p := by
  rw [List.filter_append]; simp [h]

theorem Kept.cellBut {O : Nat} {w w' : World} (h : KeptBut O w w') {a : Addr} {v : Value} (hc : w.cell? a = some v) (hO : w.heap.size ≤ O) : w'.cell? a = some v :=
  h.cellAt hc (by have := World.block_lt_of_cell? w a hc; omega)

theorem ofL_filter {xs : List Int} {L : Nat} (f : Int → Bool) : ofL ((elemsI L).filter fun i => f (xs.getD i.toNat 0)) = (keepD f (xs, L)).2 := by
  apply Nat.eq_of_testBit_eq
  intro i
  rw [testBit_keepD]
  unfold ofL
  rw [testBit_mkSet]
  by_cases hi : i < 64
  · simp only [hi, decide_true, Bool.true_and]
    rw [Bool.eq_iff_iff, List.contains_iff_mem, List.mem_filter, mem_elemsI, Bool.and_eq_true]
    constructor
    · rintro ⟨⟨k, hk, _, hb⟩, hf⟩
      have e : k = i := by omega
      subst e
      exact ⟨hb, hf⟩
    · rintro ⟨hb, hf⟩
      exact ⟨⟨i, rfl, hi, hb⟩, hf⟩
  · simp [hi]

theorem kept1_any (A : Option Addr) (n c L : Nat) (xs : List Int) (v : Int) (Bf Bv : Nat) (w : World) (hS : Ints w A n xs) (hL : L < 2 ^ 64) (hT : Tab w) (hm : mayB xs L = true)
    (hf : w.cell? ⟨Bf, 0, none⟩ = some (.func (.func 65) #[] #[.pointer (some ⟨Bv, 0, none⟩)])) (hv : w.cell? ⟨Bv, 0, none⟩ = some (.int .i64 v)) :
    Calls Tryd.prog 80 #[.agg #[.slice A n c, .int .u64 L], .pointer (some ⟨Bf, 0, none⟩)] w (DomPost (keepD (fun x => x != v) (xs, L)) w) := by
  have HS := Lib.hid hS
  have HL := Lib.hid hL
  have HT := Lib.hid hT
  have Hm := Lib.hid hm
  have Hlen := Lib.hid hS.len
  have Hf := Lib.hid hf
  have Hv := Lib.hid hv
  clear hS hL hT hm hf hv
  go_enter Tryd.func80, Tryd.ntmps80
  go_wp2_with fail
  refine (clone_any A n c xs _ (HS.out.kept ((Kept.box _ _).newBlock _)) (by have := mayB_len Hm.out; have := Hlen.out; omega)).mono ?_
  rintro e wc ⟨B, cb, rfl, hIb, hk1, hfb⟩
  have Hb0 := Lib.hid (hk1.cellAt ((Kept.box _ _).cellAt (box2_0 w (.slice A n c) (.int .u64 L) _)))
  have hb1 := hk1.cellAt ((Kept.box _ _).cellAt (box2_1 w (.slice A n c) (.int .u64 L) _))
  have HR := Lib.hid (hk1.heapAt (heap_new2 _ _ _))
  have HIb := Lib.hid hIb
  have Hk1 := Lib.hid (((Kept.box _ _).newBlock _).then hk1)
  have hsz := hk1.size
  simp only [World.size_alloc] at hsz
  clear hIb hk1
  have hlt : w.heap.size < wc.heap.size := by omega
  go_wp2_with fail
  refine (list_any L _ HL.out (HT.out.kept (Hk1.out.newBlock _))).mono ?_
  rintro e w2 ⟨Bl, cl, rfl, hIl, hk2, hfl⟩
  have HO : Hid (w2.heap[wc.heap.size]? = some (.cells #[.slice B n cb, .int .u64 0] 47 (0, 0))) := Kept.heapAt hk2 (heap_new _ _)
  have HIl := Lib.hid hIl
  have Hfl := Lib.hid hfl
  have Hfb := Lib.hid hfb
  have Hk2 := Lib.hid ((Kept.box _ _).then hk2)
  have hsz2 := hk2.size
  simp only [World.size_alloc] at hsz2
  clear hIl hk2 hfl hfb
  have hel := elemsI_length_le L
  generalize hm : (elemsI L).length = m at *
  have Hmm := Lib.hid hm
  clear hm
  go_wp2_with fail
  go_loopw [15] (fun u wr => ∃ k : Nat, k ≤ m ∧ u = .int .i64 k ∧ Hid (KeptBut wc.heap.size w2 wr) ∧ Hid (wr.heap[wc.heap.size]? = some (.cells #[.slice B n cb, .int .u64 (ofL (((elemsI L).take k).filter fun i => xs.getD i.toNat 0 != v) : Nat)] 47 (0, 0)))) (fun u _ => m - (intOf u).toNat)
  case atStart => exact ⟨0, Nat.zero_le _, rfl, KeptBut.refl _ _, by rw [List.take_zero, List.filter_nil, ofL_nil]; exact HO⟩
  case round =>
    obtain ⟨k, hk, rfl, Hkw, HOr⟩ := hrel
    by_cases hlt : k < m
    · have hbs := HIl.out.keptBut Hkw.out (fun a ha => by have := Hfl.out a ha; simp only [World.size_alloc] at this; omega)
      obtain ⟨b, rfl, hbb⟩ := hbs.addr (by omega)
      obtain ⟨q, Hq, hcq, _, _⟩ := hbs.named k hlt
      have hqm : q ∈ elemsI L := by
        have := Hq.out
        rw [List.getD_eq_getElem?_getD, List.getElem?_eq_getElem (by have := Hmm.out; omega)] at this
        simp at this
        rw [← this]
        exact List.getElem_mem _
      obtain ⟨hq0, hq1⟩ := elemsI_lt Hm.out hqm
      obtain ⟨hqa, hqb⟩ := elemsI_rng _ hqm
      have hqi : -9223372036854775808 ≤ q ∧ q ≤ 9223372036854775807 := by omega
      obtain ⟨j, rfl⟩ := Int.eq_ofNat_of_zero_le hq0
      have hjn : j < n := by have := Hlen.out; omega
      have hxs2 := HS.out.kept (Hk1.out.then Hk2.out)
      have hxs := hxs2.keptBut Hkw.out (fun a ha => by subst ha; have := HS.out.block (by omega); omega)
      obtain ⟨a, rfl, hba⟩ := hxs.addr (by omega)
      obtain ⟨x, Hx, hcx, hx1, hx2⟩ := hxs.named j hjn
      have hb0 := Hkw.out.cellAt (Hk2.out.cellAt Hb0.out) (by simp; omega)
      have hf := Hkw.out.cellAt ((Hk1.out.then Hk2.out).cellAt Hf.out) (by have := World.block_lt_of_cell? w _ Hf.out; simp at this ⊢; omega)
      have hv := Hkw.out.cellAt ((Hk1.out.then Hk2.out).cellAt Hv.out) (by have := World.block_lt_of_cell? w _ Hv.out; simp at this ⊢; omega)
      clear hqm hbs hxs hxs2
      have hszr := Hkw.out.size
      have Htake : Hid ((elemsI L).take (k + 1) = (elemsI L).take k ++ [(j : Int)]) := take_succ_getD (by have := Hmm.out; omega) Hq.out
      have hsame : Hid (x = v → ((elemsI L).take (k + 1)).filter (fun i => xs.getD i.toNat 0 != v) = ((elemsI L).take k).filter (fun i => xs.getD i.toNat 0 != v)) := by
        intro hxv
        rw [Htake.out]
        exact filter_out (by rw [Int.toNat_natCast, Hx.out]; simp [hxv])
      have hmore : Hid (x ≠ v → ((elemsI L).take (k + 1)).filter (fun i => xs.getD i.toNat 0 != v) = ((elemsI L).take k).filter (fun i => xs.getD i.toNat 0 != v) ++ [(j : Int)]) := by
        intro hxv
        rw [Htake.out]
        exact filter_in (by rw [Int.toNat_natCast, Hx.out]; simp [hxv])
      have hlf : Bf < wr.heap.size := World.block_lt_of_cell? wr _ hf
      have hlv : Bv < wr.heap.size := World.block_lt_of_cell? wr _ hv
      have hlb : w.heap.size < wr.heap.size := World.block_lt_of_cell? wr _ hb0
      by_cases hxv : x = v
      · have hd : (x != v) = false := by simp [hxv]
        go_wp2
        refine wp_region_quiet_below (by kernel_rfl) (by kernel_rfl) ?_
        repeat (any_goals (first | go_big_quiet_step (((go_at_call 65; exact Calls.regrown_of (less1_quiet _ _ _ _ (cell_regrown hv _ _))))) | quiet_step (((go_at_call 65; exact Calls.regrown_of (less1_quiet _ _ _ _ (cell_regrown hv _ _))))) | (refine wpQuiet_step (fun K hK => ?_); go_simp; split <;> (refine hK _ ?_; clear hK K))))
        all_goals (refine wpQuiet_nil ?_; intro w1 hw'; replace hw' := Kept.regrown hw')
        have HK := Lib.hid (KeptBut.of hw' wc.heap.size)
        have HO' := Lib.hid (hw'.heapAt HOr.out)
        clear hw' HOr hb0 hf hv hcq hcx
        go_wp2
        go_roundw
        case rel => exact ⟨k + 1, by omega, by go_num, Hkw.out.then HK.out, by rw [hsame.out hxv]; exact HO'⟩
        case measure => simp [intOf]; omega
      · have hd : (x != v) = true := by simp [hxv]
        go_wp2
        refine wp_region_quiet_below (by kernel_rfl) (by kernel_rfl) ?_
        repeat (any_goals (first | go_big_quiet_step (((go_at_call 65; exact Calls.regrown_of (less1_quiet _ _ _ _ (cell_regrown hv _ _))))) | quiet_step (((go_at_call 65; exact Calls.regrown_of (less1_quiet _ _ _ _ (cell_regrown hv _ _))))) | (refine wpQuiet_step (fun K hK => ?_); go_simp; split <;> (refine hK _ ?_; clear hK K))))
        all_goals (refine wpQuiet_nil ?_; intro w1 hw'; replace hw' := Kept.regrown hw')
        have HK := Lib.hid (KeptBut.of hw' wc.heap.size)
        have HO' := Lib.hid (hw'.heapAt HOr.out)
        have hGl := ofL_lt (((elemsI L).take k).filter fun i => xs.getD i.toNat 0 != v)
        have HG : Hid (ofL (((elemsI L).take (k + 1)).filter fun i => xs.getD i.toNat 0 != v) = ofL (((elemsI L).take k).filter fun i => xs.getD i.toNat 0 != v) ||| 2 ^ j) := by
          rw [hmore.out hxv]; exact ofL_snoc_in (by omega)
        generalize ofL (((elemsI L).take k).filter fun i => xs.getD i.toNat 0 != v) = G at HO' hGl HG
        have hO1' := cell_at HO'.out 1
        have hfr := frozen_at HO'.out 1
        have hlo : wc.heap.size < w1.heap.size := lt_at HO'.out
        have hne := World.new_ne w1 _ hO1'
        clear hw' HOr hb0 hf hv hcq hcx
        go_wp2
        go_region_with (first | (go_at_call 81; refine (of_any _ _ _ [(j : Int)] _ ?_).mono ?_; exact lit1d _ _ _ _ hqi; rintro e W ⟨rfl, rfl⟩))
        all_goals go_wp2
        all_goals go_roundw
        case rel | rel | rel => exact ⟨k + 1, by omega, by go_num, (Hkw.out.then HK.out).then (but_step _ _ _ _), by rw [HG.out, ← or_set hGl (by omega)]; exact two_step HO'.out _ _⟩
        all_goals (simp [intOf]; omega)
    · have hO0 := cell_at HOr.out 0
      have hO1 := cell_at HOr.out 1
      have HRr := Lib.hid (Hkw.out.heapAt (Hk2.out.heapAt HR.out) (by omega))
      have hR0 := cell_at HRr.out 0
      have hR1 := cell_at HRr.out 1
      have hf0 := frozen_at HRr.out 0
      have hf1 := frozen_at HRr.out 1
      simp only [List.getElem?_toArray, List.getElem?_cons_zero, List.getElem?_cons_succ] at hO0 hO1 hR0 hR1
      have HG : Hid (ofL (((elemsI L).take k).filter fun i => xs.getD i.toNat 0 != v) = (keepD (fun x => x != v) (xs, L)).2) := by
        rw [List.take_of_length_le (by have := Hmm.out; omega)]
        exact ofL_filter (fun x => x != v)
      clear HOr
      generalize ofL (((elemsI L).take k).filter fun i => xs.getD i.toNat 0 != v) = G at hO1 HG
      go_wp2
      have hkR : Kept w ((wr.setCell ⟨w.heap.size + 1, 0, none⟩ (.slice B n cb)).setCell ⟨w.heap.size + 1, 1, none⟩ (.int .u64 G)) :=
        (((KeptBut.of (((KeptBut.of (Hk1.out.then Hk2.out) wc.heap.size).then Hkw.out).kept (by omega)) (w.heap.size + 1)).then (KeptBut.set _ (a := ⟨w.heap.size + 1, 0, none⟩) (B := w.heap.size + 1) rfl _)).then (KeptBut.set _ (a := ⟨w.heap.size + 1, 1, none⟩) (B := w.heap.size + 1) rfl _)).kept (by omega)
      have hIr : Ints ((wr.setCell ⟨w.heap.size + 1, 0, none⟩ (.slice B n cb)).setCell ⟨w.heap.size + 1, 1, none⟩ (.int .u64 G)) B n xs := by
        refine Ints.keptBut0 (B := w.heap.size + 1) (Ints.keptBut0 (HIb.out.kept Hk2.out) Hkw.out ?_) ((KeptBut.set _ (a := ⟨w.heap.size + 1, 0, none⟩) rfl _).then (KeptBut.set _ (a := ⟨w.heap.size + 1, 1, none⟩) rfl _)) ?_
        · intro hn a ha
          subst ha
          have := HIb.out.block hn
          omega
        · intro hn a ha
          have := Hfb.out a ha
          simp only [World.size_alloc] at this
          omega
      refine bodyPost_ret (v := .agg #[.slice B n cb, .int .u64 G]) (by simp [results, Tryd.results80, go_sem, hR0, hR1]) rfl ?_
      refine ⟨B, cb, ?_, ?_, hkR, Fresh.mono Hfb.out (by simp; omega)⟩
      · rw [← HG.out]
        show _ = Ending.returned (.agg #[.slice B xs.length cb, _])
        rw [Hlen.out]
      · show Ints _ B xs.length xs
        rw [Hlen.out]
        exact hIr
end Go.Proofs.YtjmegicopdbkdaaDoor

set_option maxHeartbeats 1000000
set_option maxRecDepth 10000
namespace Go.Proofs.YtjmegicopdbkdaaDoor
open Go Go.RowKit Pl

theorem two_set01 {w : World} {O : Nat} {v0 v1 : Value} {t : TypeId} (h : w.heap[O]? = some (.cells #[v0, v1] t (0, 0))) (x0 x1 : Value) : ((w.setCell ⟨O, 0, none⟩ x0).setCell ⟨O, 1, none⟩ x1).heap[O]? = some (.cells #[x0, x1] t (0, 0)) := by
  have h0 : (w.setCell ⟨O, 0, none⟩ x0).heap[O]? = some (.cells #[x0, v1] t (0, 0)) := by rw [heap_setCell_same w O 0 _ t x0 h]; rfl
  exact two_set1 h0 x1
theorem heap_new3 (w : World) (o o' o'' : Obj) : (((w.alloc o).alloc o').alloc o'').heap[w.heap.size + 1 + 1]? = some o'' := by
  have := heap_new ((w.alloc o).alloc o') o''
  rwa [World.size_alloc, World.size_alloc] at this
/-- A domain is stored into a variable of the call's own. -/
theorem dom_out {w wr : World} {R n : Nat} {B : Option Addr} {xs : List Int} (hk : Kept w wr) (hR : w.heap.size ≤ R) (hI : Ints wr B n xs) (hB : ∀ a, B = some a → R < a.block) (x0 x1 : Value) :
    Kept w ((wr.setCell ⟨R, 0, none⟩ x0).setCell ⟨R, 1, none⟩ x1) ∧ Ints ((wr.setCell ⟨R, 0, none⟩ x0).setCell ⟨R, 1, none⟩ x1) B n xs := by
  have h2 : KeptBut R wr ((wr.setCell ⟨R, 0, none⟩ x0).setCell ⟨R, 1, none⟩ x1) := (KeptBut.set _ (a := ⟨R, 0, none⟩) rfl _).then (KeptBut.set _ (a := ⟨R, 1, none⟩) rfl _)
  exact ⟨((KeptBut.of hk R).then h2).kept hR, hI.keptBut h2 (fun a ha => by have := hB a ha; omega)⟩

theorem askedDom_any (A : Option Addr) (n c L : Nat) (xs : List Int) (v : Int) (Bf Bv : Nat) (w : World) (hS : Ints w A n xs) (hL : L < 2 ^ 64) (hT : Tab w) (hm : mayB xs L = true)
    (hf : w.cell? ⟨Bf, 0, none⟩ = some (.func (.func 65) #[] #[.pointer (some ⟨Bv, 0, none⟩)])) (hv : w.cell? ⟨Bv, 0, none⟩ = some (.int .i64 v)) :
    Calls Tryd.prog 79 #[.agg #[.slice A n c, .int .u64 L], .func (.func 80) #[] #[.pointer (some ⟨Bf, 0, none⟩)]] w (DomPost (keepD (fun x => x != v) (xs, L)) w) := by
  have HS := Lib.hid hS
  have HL := Lib.hid hL
  have HT := Lib.hid hT
  have Hm := Lib.hid hm
  have Hf := Lib.hid hf
  have Hv := Lib.hid hv
  have hmay : Hid (∀ W, Ints W A n xs → Calls Tryd.prog 28 #[.agg #[.slice A n c, .int .u64 L]] W fun e w' => e = .returned (.bool true) ∧ Kept W w') := fun W hW => by
    have := may_any A n c L xs W hW HL.out
    rwa [hm] at this
  clear hS hL hT hm hf hv
  go_enter Tryd.func79, Tryd.ntmps79
  go_wp2_with fail
  refine (hmay.out _ (HS.out.kept (((Kept.box _ _).newBlock _).newBlock _))).mono ?_
  rintro e w1 ⟨rfl, hk⟩
  have hb0 := hk.cellAt ((Kept.box _ _).cellAt ((Kept.box _ _).cellAt (box2_0 w (.slice A n c) (.int .u64 L) _)))
  have hb1 := hk.cellAt ((Kept.box _ _).cellAt ((Kept.box _ _).cellAt (box2_1 w (.slice A n c) (.int .u64 L) _)))
  have HR := Lib.hid (hk.heapAt ((Kept.box _ _).heapAt (heap_new2 _ _ _)))
  have Hk := Lib.hid ((((Kept.box _ _).newBlock _).newBlock _).then hk)
  have hsz := hk.size
  simp only [World.size_alloc] at hsz
  clear hmay hk
  go_wp2_with fail
  refine (kept1_any A n c L xs v Bf Bv _ (HS.out.kept Hk.out) HL.out (HT.out.kept Hk.out) Hm.out (Hk.out.cellAt Hf.out) (Hk.out.cellAt Hv.out)).mono ?_
  rintro e w2 ⟨B, cb, rfl, hI, hk2, hfr⟩
  generalize hd : keepD (fun x => x != v) (xs, L) = d at *
  have hR := hk2.heapAt HR.out
  have hR0 := cell_at hR 0
  have hR1 := cell_at hR 1
  have hf0 := frozen_at hR 0
  have hf1 := frozen_at hR 1
  simp only [List.getElem?_toArray, List.getElem?_cons_zero, List.getElem?_cons_succ] at hR0 hR1
  obtain ⟨hkR, hIr⟩ := dom_out (R := w.heap.size + 1) (Hk.out.then hk2) (by omega) hI (fun a ha => by have := hfr a ha; omega) (.slice B d.1.length cb) (.int .u64 d.2)
  have HkR := Lib.hid hkR
  have HIr := Lib.hid hIr
  have Hfr : Hid (Fresh w B) := Fresh.mono hfr (by omega)
  clear hI hk2 hR hkR hIr hfr
  go_wp2
  refine bodyPost_ret (v := .agg #[.slice B d.1.length cb, .int .u64 d.2]) (by simp [results, Tryd.results79, go_sem, hR0, hR1]) rfl ?_
  subst hd
  exact ⟨B, cb, rfl, HIr.out, HkR.out, Hfr.out⟩

/-- A domain that may be, of which all is kept but one value. -/
theorem domkept_any (A : Option Addr) (n c L : Nat) (xs : List Int) (v : Int) (Bv : Nat) (w : World) (hS : Ints w A n xs) (hL : L < 2 ^ 64) (hT : Tab w) (hm : mayB xs L = true)
    (hv : w.cell? ⟨Bv, 0, none⟩ = some (.int .i64 v)) :
    Calls Tryd.prog 64 #[.agg #[.slice A n c, .int .u64 L], .func (.func 65) #[] #[.pointer (some ⟨Bv, 0, none⟩)]] w (DomPost (keepD (fun x => x != v) (xs, L)) w) := by
  have HS := Lib.hid hS
  have HL := Lib.hid hL
  have HT := Lib.hid hT
  have Hm := Lib.hid hm
  have Hv := Lib.hid hv
  clear hS hL hT hm hv
  go_enter Tryd.func64, Tryd.ntmps64
  go_wp2_with fail
  refine (askedDom_any A n c L xs v (w.heap.size + 1) Bv _ (HS.out.kept (((Kept.box _ _).newBlock _).newBlock _)) HL.out (HT.out.kept (((Kept.box _ _).newBlock _).newBlock _)) Hm.out ?_ ((((Kept.box _ _).newBlock _).newBlock _).cellAt Hv.out)).mono ?_
  · exact (Kept.box _ _).cellAt (by rw [cell_at (heap_new2 _ _ _) 0]; rfl)
  rintro e w2 ⟨B, cb, rfl, hI, hk2, hfr⟩
  generalize hd : keepD (fun x => x != v) (xs, L) = d at *
  have hR := hk2.heapAt (heap_new3 _ _ _ _)
  have hR0 := cell_at hR 0
  have hR1 := cell_at hR 1
  have hf0 := frozen_at hR 0
  have hf1 := frozen_at hR 1
  simp only [List.getElem?_toArray, List.getElem?_cons_zero, List.getElem?_cons_succ] at hR0 hR1
  obtain ⟨hkR, hIr⟩ := dom_out (R := w.heap.size + 1 + 1) ((((Kept.box _ _).newBlock _).newBlock _).then hk2) (by omega) hI (fun a ha => by have := hfr a ha; simp only [World.size_alloc] at this; omega) (.slice B d.1.length cb) (.int .u64 d.2)
  have HkR := Lib.hid hkR
  have HIr := Lib.hid hIr
  have Hfr : Hid (Fresh w B) := Fresh.mono hfr (by simp only [World.size_alloc]; omega)
  clear hI hk2 hR hkR hIr hfr
  go_wp2
  refine bodyPost_ret (v := .agg #[.slice B d.1.length cb, .int .u64 d.2]) (by simp [results, Tryd.results64, go_sem, hR0, hR1]) rfl ?_
  subst hd
  exact ⟨B, cb, rfl, HIr.out, HkR.out, Hfr.out⟩

theorem domless_any (A : Option Addr) (n c L : Nat) (xs : List Int) (v : Int) (w : World) (hS : Ints w A n xs) (hL : L < 2 ^ 64) (hT : Tab w) (hm : mayB xs L = true) :
    Calls Tryd.prog 32 #[.agg #[.slice A n c, .int .u64 L], .int .i64 v] w (DomPost (keepD (fun x => x != v) (xs, L)) w) := by
  have HS := Lib.hid hS
  have HL := Lib.hid hL
  have HT := Lib.hid hT
  have Hm := Lib.hid hm
  clear hS hL hT hm
  go_enter Tryd.func32, Tryd.ntmps32
  go_wp2_with fail
  refine (domkept_any A n c L xs v (w.heap.size + 1) _ (HS.out.kept (((Kept.box _ _).newBlock _).newBlock _)) HL.out (HT.out.kept (((Kept.box _ _).newBlock _).newBlock _)) Hm.out ?_).mono ?_
  · exact (Kept.box _ _).cellAt (by rw [cell_at (heap_new2 _ _ _) 0]; rfl)
  rintro e w2 ⟨B, cb, rfl, hI, hk2, hfr⟩
  generalize hd : keepD (fun x => x != v) (xs, L) = d at *
  have hR := hk2.heapAt (heap_new3 _ _ _ _)
  have hR0 := cell_at hR 0
  have hR1 := cell_at hR 1
  have hf0 := frozen_at hR 0
  have hf1 := frozen_at hR 1
  simp only [List.getElem?_toArray, List.getElem?_cons_zero, List.getElem?_cons_succ] at hR0 hR1
  obtain ⟨hkR, hIr⟩ := dom_out (R := w.heap.size + 1 + 1) ((((Kept.box _ _).newBlock _).newBlock _).then hk2) (by omega) hI (fun a ha => by have := hfr a ha; simp only [World.size_alloc] at this; omega) (.slice B d.1.length cb) (.int .u64 d.2)
  have HkR := Lib.hid hkR
  have HIr := Lib.hid hIr
  have Hfr : Hid (Fresh w B) := Fresh.mono hfr (by simp only [World.size_alloc]; omega)
  clear hI hk2 hR hkR hIr hfr
  go_wp2
  refine bodyPost_ret (v := .agg #[.slice B d.1.length cb, .int .u64 d.2]) (by simp [results, Tryd.results32, go_sem, hR0, hR1]) rfl ?_
  subst hd
  exact ⟨B, cb, rfl, HIr.out, HkR.out, Hfr.out⟩
end Go.Proofs.YtjmegicopdbkdaaDoor

set_option maxHeartbeats 1000000
set_option maxRecDepth 10000
namespace Go.Proofs.YtjmegicopdbkdaaDoor
open Go Go.RowKit Pl

theorem mwithin1_any (x m : Int) (B : Nat) (w : World) (hB : w.cell? ⟨B, 0, none⟩ = some (.int .i64 m)) (hm : 0 ≤ m ∧ m ≤ 4611686018427387904) :
    Calls Tryd.prog 95 #[.int .i64 x, .pointer (some ⟨B, 0, none⟩)] w fun e w' => e = .returned (.bool (!(decide (-m ≤ x) && decide (x ≤ m)))) ∧ w = w' := by
  by_cases h1 : x < -m
  · have hd : decide (x < -m) = true := by simp [h1]
    go_enter Tryd.func95, Tryd.ntmps95
    go_wp2
    go_ret
    exact ⟨ret_bool (by simp; omega), rfl⟩
  · by_cases h2 : m < x
    · have hd : decide (x < -m) = false := by simp; omega
      have hd2 : decide (m < x) = true := by simp [h2]
      go_enter Tryd.func95, Tryd.ntmps95
      go_wp2
      go_ret
      exact ⟨ret_bool (by simp; omega), rfl⟩
    · have hd : decide (x < -m) = false := by simp; omega
      have hd2 : decide (m < x) = false := by simp; omega
      go_enter Tryd.func95, Tryd.ntmps95
      go_wp2
      go_ret
      exact ⟨ret_bool (by simp <;> omega), rfl⟩

theorem mindex_any (A : Option Addr) (n c : Nat) (l : List Int) (m : Int) (Bv : Nat) (w : World) (hS : Ints w A n l) (hv : w.cell? ⟨Bv, 0, none⟩ = some (.int .i64 m)) (hm : 0 ≤ m ∧ m ≤ 4611686018427387904) :
    Calls Tryd.prog 71 #[.slice A n c, .func (.func 95) #[] #[.pointer (some ⟨Bv, 0, none⟩)]] w fun e w' => ∃ i : Int, e = .returned (.int .i64 i) ∧ (decide (0 ≤ i) = !withinB l m) ∧ Kept w w' := by
  have HS := Lib.hid hS
  have Hv := Lib.hid hv
  have hsm := hS.small
  have Hlen := Lib.hid hS.len
  have Hm := Lib.hid hm
  clear hS hv hm
  go_enter Tryd.func71, Tryd.ntmps71
  go_wp2_with fail
  go_loopw [8] (fun v wr => ∃ k : Nat, k ≤ n ∧ v = .int .i64 k ∧ Hid (Kept w wr) ∧ Hid (withinB (l.take k) m = true)) (fun v _ => n - (intOf v).toNat)
  case atStart => exact ⟨0, Nat.zero_le _, rfl, Below.refl _ _, rfl⟩
  case round =>
    obtain ⟨k, hk, rfl, Hkw, Hok⟩ := hrel
    by_cases hlt : k < n
    · have hSr := HS.out.kept Hkw.out
      obtain ⟨a, rfl, hblk⟩ := hSr.addr (by omega)
      obtain ⟨x, Hx, hcx, hx1, hx2⟩ := hSr.named k hlt
      have Hnext : Hid (withinB (l.take (k + 1)) m = (decide (-m ≤ x) && decide (x ≤ m))) := within_take (by have := Hlen.out; omega) Hx.out Hok.out
      have HQ := Lib.hid (mwithin1_any x m Bv wr (Hkw.out.cellAt Hv.out) Hm.out)
      clear hSr
      generalize hb : (decide (-m ≤ x) && decide (x ≤ m)) = b at HQ Hnext
      clear hb
      go_wp2_with fail
      refine HQ.out.mono ?_
      rintro e w1 ⟨rfl, rfl⟩
      clear HQ
      cases b with
      | true =>
        simp only [Bool.not_true]
        go_wp2
        go_roundw
        case rel => exact ⟨k + 1, by omega, by go_num, Hkw.out, Hnext.out⟩
        case measure => simp [intOf]; omega
      | false =>
        simp only [Bool.not_false]
        go_wp2
        go_ret
        refine ⟨k, rfl, ?_, Hkw.out⟩
        rw [within_bad Hnext.out]
        simp
    · have e : k = n := by omega
      subst e
      have h2 : withinB l m = true := by have := Hok.out; rwa [List.take_of_length_le (by have := Hlen.out; omega)] at this
      go_wp2
      go_ret
      exact ⟨-1, rfl, by rw [h2]; decide, Hkw.out⟩

theorem mcontains_any (A : Option Addr) (n c : Nat) (l : List Int) (m : Int) (Bv : Nat) (w : World) (hS : Ints w A n l) (hv : w.cell? ⟨Bv, 0, none⟩ = some (.int .i64 m)) (hm : 0 ≤ m ∧ m ≤ 4611686018427387904) :
    Calls Tryd.prog 46 #[.slice A n c, .func (.func 95) #[] #[.pointer (some ⟨Bv, 0, none⟩)]] w fun e w' => e = .returned (.bool (!withinB l m)) ∧ Kept w w' := by
  have HS := Lib.hid hS
  have Hv := Lib.hid hv
  have Hm := Lib.hid hm
  clear hS hv hm
  go_enter Tryd.func46, Tryd.ntmps46
  go_wp2_with fail
  refine (mindex_any A n c l m Bv _ HS.out Hv.out Hm.out).mono ?_
  rintro e w1 ⟨i, rfl, hi, hk⟩
  have Hi := Lib.hid hi
  clear hi
  go_wp2
  go_ret
  exact ⟨ret_bool Hi.out, hk⟩

theorem mwithin_any (A : Option Addr) (n c : Nat) (l : List Int) (m : Int) (w : World) (hS : Ints w A n l) (hm : 0 ≤ m ∧ m ≤ 4611686018427387904) :
    Calls Tryd.prog 89 #[.slice A n c, .int .i64 m] w fun e w' => e = .returned (.bool (withinB l m)) ∧ Kept w w' := by
  have HS := Lib.hid hS
  have Hm := Lib.hid hm
  clear hS hm
  go_enter Tryd.func89, Tryd.ntmps89
  go_wp2_with fail
  refine (mcontains_any A n c l m w.heap.size _ (HS.out.kept (Kept.box _ _)) (by rw [cell_at (heap_new _ _) 0]; rfl) Hm.out).mono ?_
  rintro e w1 ⟨rfl, hk⟩
  generalize hb : withinB l m = b
  have Hk := Lib.hid ((Kept.box _ _).then hk)
  clear hk
  go_wp2
  go_ret
  subst hb
  exact ⟨ret_bool (by simp), Hk.out⟩
end Go.Proofs.YtjmegicopdbkdaaDoor

set_option maxHeartbeats 1000000
set_option maxRecDepth 10000
namespace Go.Proofs.YtjmegicopdbkdaaDoor
open Go Go.RowKit Pl

/-- A constraint, as it is read. -/
structure ConIn (w : World) (K R Ct : Int) (A1 A2 A3 : Option Addr) (n1 c1 n2 c2 n3 c3 : Nat) (C : ConB) : Prop where
  kind : C.kind = K
  rel : C.rel = R
  const : C.const = Ct
  vars : Ints w A1 n1 C.vars
  coefs : Ints w A2 n2 C.coefs
  nums : Ints w A3 n3 C.nums
  cap1 : n1 ≤ c1
  cap3 : n3 ≤ c3
  rk : -9223372036854775808 ≤ K ∧ K ≤ 9223372036854775807
  rr : -9223372036854775808 ≤ R ∧ R ≤ 9223372036854775807
  rc : -9223372036854775808 ≤ Ct ∧ Ct ≤ 9223372036854775807
theorem ConIn.kept {w w' : World} {K R Ct : Int} {A1 A2 A3 : Option Addr} {n1 c1 n2 c2 n3 c3 : Nat} {C : ConB} (h : ConIn w K R Ct A1 A2 A3 n1 c1 n2 c2 n3 c3 C) (hk : Kept w w') : ConIn w' K R Ct A1 A2 A3 n1 c1 n2 c2 n3 c3 C :=
  ⟨h.kind, h.rel, h.const, h.vars.kept hk, h.coefs.kept hk, h.nums.kept hk, h.cap1, h.cap3, h.rk, h.rr, h.rc⟩

theorem Ints.taken {w : World} {A : Option Addr} {n : Nat} {xs : List Int} (h : Ints w A n xs) {k : Nat} (hk : k ≤ n) : Ints w A k (xs.take k) :=
  ⟨by rw [List.length_take, h.len]; omega, by have := h.small; omega, fun x hx => h.rng x (List.mem_of_mem_take hx), fun h0 => by
    obtain ⟨a, e, hc⟩ := h.cell (by omega)
    refine ⟨a, e, fun j hj => ?_⟩
    rw [hc j (by omega)]
    simp [List.getD_eq_getElem?_getD, hj]⟩

theorem variables_any (K R Ct : Int) (A1 A2 A3 : Option Addr) (n1 c1 n2 c2 n3 c3 : Nat) (C : ConB) (V least most : Int) (w : World) (hC : ConIn w K R Ct A1 A2 A3 n1 c1 n2 c2 n3 c3 C) :
    Calls Tryd.prog 73 #[.agg #[.int .i64 K, .slice A1 n1 c1, .slice A2 n2 c2, .int .i64 R, .int .i64 Ct, .slice A3 n3 c3, .int .i64 V], .int .i64 least, .int .i64 most] w fun e w' => e = .returned (.bool (variablesB C V least most)) ∧ Kept w w' := by
  have HV := Lib.hid hC.vars
  have Hlen := Lib.hid hC.vars.len
  have hsm := hC.vars.small
  have hcap := hC.cap1
  clear hC
  by_cases h1 : (n1 : Int) < least
  · have hd : decide ((n1 : Int) < least) = true := by simp [h1]
    go_enter Tryd.func73, Tryd.ntmps73
    go_wp2_with fail
    go_ret
    exact ⟨ret_bool (by unfold variablesB; rw [Hlen.out]; simp; omega), Kept.box _ _⟩
  by_cases h2 : most < (n1 : Int)
  · have hd : decide ((n1 : Int) < least) = false := by simp; omega
    have hd2 : decide (most < (n1 : Int)) = true := by simp [h2]
    go_enter Tryd.func73, Tryd.ntmps73
    go_wp2_with fail
    go_ret
    exact ⟨ret_bool (by unfold variablesB; rw [Hlen.out]; simp; omega), Kept.box _ _⟩
  have hd : decide ((n1 : Int) < least) = false := by simp; omega
  have hd2 : decide (most < (n1 : Int)) = false := by simp; omega
  have hB : Hid (variablesB C V least most = varsOk C.vars V) := by
    show _ = _
    unfold variablesB; rw [Hlen.out]
    have e1 : decide (least ≤ (n1 : Int)) = true := by simp; omega
    have e2 : decide ((n1 : Int) ≤ most) = true := by simp; omega
    rw [e1, e2]; simp
  go_enter Tryd.func73, Tryd.ntmps73
  go_wp2_with fail
  have HB : Hid (∀ wr, Kept (w.alloc (.cells #[.int .i64 K, .slice A1 n1 c1, .slice A2 n2 c2, .int .i64 R, .int .i64 Ct, .slice A3 n3 c3, .int .i64 V] 79)) wr → wr.heap[w.heap.size]? = some (.cells #[.int .i64 K, .slice A1 n1 c1, .slice A2 n2 c2, .int .i64 R, .int .i64 Ct, .slice A3 n3 c3, .int .i64 V] 79)) := fun wr h => h.heapAt (heap_new _ _)
  go_loopw [26] (fun v wr => ∃ k : Nat, k ≤ n1 ∧ v = .int .i64 k ∧ Hid (Kept (w.alloc (.cells #[.int .i64 K, .slice A1 n1 c1, .slice A2 n2 c2, .int .i64 R, .int .i64 Ct, .slice A3 n3 c3, .int .i64 V] 79)) wr) ∧ Hid (vUpto C.vars V k = true)) (fun v _ => n1 - (intOf v).toNat)
  case atStart => exact ⟨0, Nat.zero_le _, rfl, Below.refl _ _, rfl⟩
  case round =>
    obtain ⟨k, hk, rfl, Hkw, Hok⟩ := hrel
    have hbk := HB.out wr Hkw.out
    have hb1 := cell_at hbk 1
    have hb6 := cell_at hbk 6
    simp only [List.getElem?_toArray, List.getElem?_cons_zero, List.getElem?_cons_succ] at hb1 hb6
    clear hbk
    by_cases hlt : k < n1
    · have hSr := HV.out.kept ((Kept.box _ _).then Hkw.out)
      obtain ⟨a, rfl, hblk⟩ := hSr.addr (by omega)
      obtain ⟨x, Hx, hcx, hx1, hx2⟩ := hSr.named k hlt
      have Hnext : Hid (vUpto C.vars V (k + 1) = (decide (0 ≤ x) && decide (x < V) && !((C.vars.take k).contains x))) := by
        show _ = _
        rw [vUpto_succ, Hok.out, vOk_named Hx.out, Bool.true_and]
      have HQ := Lib.hid (contains_any (some a) k c1 (C.vars.take k) x wr (hSr.taken (by omega)))
      clear hSr
      generalize hb : (C.vars.take k).contains x = b at HQ Hnext
      clear hb
      have hkc : (k : Int) ≤ (c1 : Int) := by omega
      have Hbad : Hid (vUpto C.vars V (k + 1) = false → varsOk C.vars V = false) := fun h => by
        unfold varsOk
        rw [vUpto_succ, Hok.out, Bool.true_and] at h
        exact vUpto_bad h (by have := Hlen.out; omega)
      by_cases h3 : x < 0
      · have hd3 : decide (x < 0) = true := by simp [h3]
        go_wp2_with fail
        go_ret
        exact ⟨ret_bool (by rw [hB.out, Hbad.out (by rw [Hnext.out]; simp; omega)]), (Kept.box _ _).then Hkw.out⟩
      have hd3 : decide (x < 0) = false := by simp; omega
      by_cases h4 : V ≤ x
      · have hd4 : decide (V ≤ x) = true := by simp [h4]
        go_wp2_with fail
        go_ret
        exact ⟨ret_bool (by rw [hB.out, Hbad.out (by rw [Hnext.out]; simp; omega)]), (Kept.box _ _).then Hkw.out⟩
      have hd4 : decide (V ≤ x) = false := by simp; omega
      go_wp2_with fail
      refine HQ.out.mono ?_
      rintro e w1 ⟨rfl, rfl⟩
      clear HQ
      cases b with
      | true =>
        go_wp2_with fail
        go_ret
        exact ⟨ret_bool (by rw [hB.out, Hbad.out (by rw [Hnext.out]; simp)]), (Kept.box _ _).then Hkw.out⟩
      | false =>
        go_wp2_with fail
        go_roundw
        case rel => exact ⟨k + 1, by omega, by go_num, Hkw.out, by show _ = _; rw [Hnext.out]; simp; omega⟩
        case measure => simp [intOf]; omega
    · have e : k = n1 := by omega
      subst e
      have h2 : varsOk C.vars V = true := by have := Hok.out; rwa [← Hlen.out] at this
      go_wp2
      go_ret
      exact ⟨ret_bool (by rw [hB.out, h2]), (Kept.box _ _).then Hkw.out⟩

theorem bare_any (K R Ct : Int) (A1 A2 A3 : Option Addr) (n1 c1 n2 c2 n3 c3 : Nat) (C : ConB) (V least most : Int) (w : World) (hC : ConIn w K R Ct A1 A2 A3 n1 c1 n2 c2 n3 c3 C) :
    Calls Tryd.prog 75 #[.agg #[.int .i64 K, .slice A1 n1 c1, .slice A2 n2 c2, .int .i64 R, .int .i64 Ct, .slice A3 n3 c3, .int .i64 V], .int .i64 least, .int .i64 most] w fun e w' => e = .returned (.bool (bareB C least most)) ∧ Kept w w' := by
  have HN := Lib.hid hC.nums
  have h2l := hC.coefs.len
  have h3l := hC.nums.len
  have hsm := hC.nums.small
  have hsm2 := hC.coefs.small
  have hB : Hid (bareB C least most = (decide ((n2 : Int) = 0) && decide (R = 0) && decide (Ct = 0) && decide (least ≤ (n3 : Int)) && decide ((n3 : Int) ≤ most) && withinB C.nums 1048576)) := by
    show _ = _
    unfold bareB; rw [h2l, h3l, hC.rel, hC.const]
    have : decide (n2 = 0) = decide ((n2 : Int) = 0) := by simp
    rw [this]
  clear hC
  by_cases g1 : ¬ ((n2 : Int) = 0)
  · have hd : ((n2 : Int) == 0) = false := by simp; omega
    go_enter Tryd.func75, Tryd.ntmps75
    go_wp2_with fail
    go_ret
    exact ⟨ret_bool (by rw [hB.out]; simp; omega), (Kept.box _ _).newBlock _⟩
  have g1 := Classical.not_not.1 g1
  have h1 : n2 = 0 := by omega
  subst h1
  by_cases g2 : ¬ (R = 0)
  · have hd : (R == 0) = false := by simp; omega
    go_enter Tryd.func75, Tryd.ntmps75
    go_wp2_with fail
    go_ret
    exact ⟨ret_bool (by rw [hB.out]; simp; omega), (Kept.box _ _).newBlock _⟩
  have g2 := Classical.not_not.1 g2
  subst g2
  by_cases g3 : ¬ (Ct = 0)
  · have hd : (Ct == 0) = false := by simp; omega
    go_enter Tryd.func75, Tryd.ntmps75
    go_wp2_with fail
    go_ret
    exact ⟨ret_bool (by rw [hB.out]; simp; omega), (Kept.box _ _).newBlock _⟩
  have g3 := Classical.not_not.1 g3
  subst g3
  by_cases g4 : ¬ (least ≤ (n3 : Int))
  · have hd : (decide (least ≤ (n3 : Int))) = false := by simp; omega
    go_enter Tryd.func75, Tryd.ntmps75
    go_wp2_with fail
    go_ret
    exact ⟨ret_bool (by rw [hB.out]; simp; omega), (Kept.box _ _).newBlock _⟩
  have g4 := Classical.not_not.1 g4
  have e4 : decide (least ≤ (n3 : Int)) = true := by simp [g4]
  by_cases g5 : ¬ ((n3 : Int) ≤ most)
  · have hd : (decide ((n3 : Int) ≤ most)) = false := by simp; omega
    go_enter Tryd.func75, Tryd.ntmps75
    go_wp2_with fail
    go_ret
    exact ⟨ret_bool (by rw [hB.out]; simp; omega), (Kept.box _ _).newBlock _⟩
  have g5 := Classical.not_not.1 g5
  have e5 : decide ((n3 : Int) ≤ most) = true := by simp [g5]
  have hB2 : Hid (bareB C least most = withinB C.nums 1048576) := by
    show _ = _
    rw [hB.out, e4, e5]; simp
  go_enter Tryd.func75, Tryd.ntmps75
  go_wp2_with fail
  refine (mwithin_any A3 n3 c3 C.nums 1048576 _ (HN.out.kept ((Kept.box _ _).newBlock _)) (by decide)).mono ?_
  rintro e w1 ⟨rfl, hk⟩
  have Hk := Lib.hid (((Kept.box _ _).newBlock _).then hk)
  clear hk
  generalize hb : withinB C.nums 1048576 = b at hB2
  clear hb
  go_wp2_with fail
  go_ret
  exact ⟨ret_bool (by rw [hB2.out]), Hk.out⟩

theorem box_look (w : World) (K R Ct V : Int) (A1 A2 A3 : Option Addr) (n1 c1 n2 c2 n3 c3 : Nat) : (w.alloc (.cells #[.int .i64 K, .slice A1 n1 c1, .slice A2 n2 c2, .int .i64 R, .int .i64 Ct, .slice A3 n3 c3, .int .i64 V] 79)).heap[w.heap.size]? = some (.cells #[.int .i64 K, .slice A1 n1 c1, .slice A2 n2 c2, .int .i64 R, .int .i64 Ct, .slice A3 n3 c3, .int .i64 V] 79) := heap_new _ _

theorem lookelem_any (K R Ct : Int) (A1 A2 A3 : Option Addr) (n1 c1 n2 c2 n3 c3 : Nat) (C : ConB) (V : Int) (w : World) (hC : ConIn w K R Ct A1 A2 A3 n1 c1 n2 c2 n3 c3 C) :
    Calls Tryd.prog 55 #[.agg #[.int .i64 K, .slice A1 n1 c1, .slice A2 n2 c2, .int .i64 R, .int .i64 Ct, .slice A3 n3 c3, .int .i64 V]] w fun e w' => e = .returned (.bool (elemB C V)) ∧ Kept w w' := by
  have HC := Lib.hid hC
  clear hC
  go_enter Tryd.func55, Tryd.ntmps55
  go_wp2_with fail
  refine (variables_any K R Ct A1 A2 A3 n1 c1 n2 c2 n3 c3 C V 2 2 _ (HC.out.kept (Kept.box _ _))).mono ?_
  rintro e w1 ⟨rfl, hk⟩
  have Hb := Lib.hid (hk.heapAt (box_look w K R Ct V A1 A2 A3 n1 c1 n2 c2 n3 c3))
  have Hk := Lib.hid ((Kept.box _ _).then hk)
  have hb0 := cell_at Hb.out 0
  have hb1 := cell_at Hb.out 1
  have hb2 := cell_at Hb.out 2
  have hb3 := cell_at Hb.out 3
  have hb4 := cell_at Hb.out 4
  have hb5 := cell_at Hb.out 5
  have hb6 := cell_at Hb.out 6
  simp only [List.getElem?_toArray, List.getElem?_cons_zero, List.getElem?_cons_succ] at hb0 hb1 hb2 hb3 hb4 hb5 hb6
  have HB : Hid (elemB C V = (variablesB C V 2 2 && bareB C 1 96)) := rfl
  clear hk
  generalize variablesB C V 2 2 = b at HB
  cases b with
  | false =>
    go_wp2_with fail
    go_ret
    exact ⟨ret_bool (by rw [HB.out]; simp), Hk.out⟩
  | true =>
    go_wp2_with fail
    refine (bare_any K R Ct A1 A2 A3 n1 c1 n2 c2 n3 c3 C V 1 96 _ (HC.out.kept Hk.out)).mono ?_
    rintro e w2 ⟨rfl, hk2⟩
    have Hk2 := Lib.hid (Hk.out.then hk2)
    clear hk2 hb0 hb1 hb2 hb3 hb4 hb5 hb6
    generalize bareB C 1 96 = d at HB
    go_wp2_with fail
    go_ret
    exact ⟨ret_bool (by rw [HB.out]; simp), Hk2.out⟩
end Go.Proofs.YtjmegicopdbkdaaDoor

set_option maxHeartbeats 1000000
set_option maxRecDepth 10000
namespace Go.Proofs.YtjmegicopdbkdaaDoor
open Go Go.RowKit Pl

abbrev nilD : DomB := ([], 0)

/-- 'A', n: a slice's address and length: it reads as the domains ds. -/
structure Doms (w : World) (A : Option Addr) (n : Nat) (ds : List DomB) : Prop where
  len : ds.length = n
  small : n ≤ 9223372036854775807
  live : ∀ j, j < n → (ds.getD j nilD).2 < 2 ^ 64
  cell : 0 < n → ∃ a, A = some a ∧ ∀ j, j < n → ∃ B m c, w.cell? (a.add (j * 2)) = some (.slice B m c) ∧ w.cell? ⟨a.block, (a.add (j * 2)).off + 1, Option.none⟩ = some (.int .u64 ((ds.getD j nilD).2 : Nat)) ∧ Ints w B m (ds.getD j nilD).1

theorem Doms.kept {w w' : World} {A : Option Addr} {n : Nat} {ds : List DomB} (h : Doms w A n ds) (hk : Kept w w') : Doms w' A n ds :=
  ⟨h.len, h.small, h.live, fun hn => by
    obtain ⟨a, e, hc⟩ := h.cell hn
    refine ⟨a, e, fun j hj => ?_⟩
    obtain ⟨B, m, c, h1, h2, h3⟩ := hc j hj
    exact ⟨B, m, c, hk.cellAt h1, hk.cellAt h2, h3.kept hk⟩⟩
theorem Doms.none (w : World) : Doms w Option.none 0 [] := ⟨rfl, by omega, fun j hj => by omega, fun h => by omega⟩
theorem Doms.addr {w : World} {A : Option Addr} {n : Nat} {ds : List DomB} (h : Doms w A n ds) (hn : 0 < n) : ∃ a, A = some a ∧ a.block < w.heap.size := by
  obtain ⟨a, rfl, hc⟩ := h.cell hn
  obtain ⟨B, m, c, h1, _⟩ := hc 0 hn
  have := World.block_lt_of_cell? w _ h1
  exact ⟨a, rfl, by rwa [add_block'] at this⟩
/-- The domain at a place, behind names. -/
theorem Doms.named {w : World} {a : Addr} {n : Nat} {ds : List DomB} (h : Doms w (some a) n ds) (k : Nat) (hk : k < n) :
    ∃ (xs : List Int) (L : Nat) (B : Option Addr) (m c : Nat), Hid (ds.getD k nilD = (xs, L)) ∧ w.cell? (a.add (k * 2)) = some (.slice B m c) ∧ w.cell? ⟨a.block, (a.add (k * 2)).off + 1, Option.none⟩ = some (.int .u64 (L : Nat)) ∧ Hid (Ints w B m xs) ∧ L < 2 ^ 64 := by
  obtain ⟨b, e, hc⟩ := h.cell (by omega)
  cases e
  obtain ⟨B, m, c, h1, h2, h3⟩ := hc k hk
  exact ⟨_, _, B, m, c, rfl, h1, h2, h3, h.live k hk⟩
theorem take_dom {ds : List DomB} {k : Nat} {d : DomB} (hk : k < ds.length) (hd : ds.getD k nilD = d) : ds.take (k + 1) = ds.take k ++ [d] := by
  rw [List.take_succ_eq_append_getElem hk]
  rw [List.getD_eq_getElem?_getD, List.getElem?_eq_getElem hk] at hd
  simp only [Option.getD_some] at hd
  rw [hd]
theorem allMay_take {ds : List DomB} {k : Nat} {xs : List Int} {L : Nat} (hk : k < ds.length) (hd : ds.getD k nilD = (xs, L)) (h : allMay (ds.take k) = true) : allMay (ds.take (k + 1)) = mayB xs L := by
  rw [take_dom hk hd]
  unfold allMay at *
  rw [List.all_append, h]
  simp
theorem allMay_bad {ds : List DomB} {k : Nat} (h : allMay (ds.take k) = false) : allMay ds = false := by
  cases e : allMay ds with
  | false => rfl
  | true =>
    unfold allMay at *
    rw [List.all_eq_true] at e
    have : (ds.take k).all (fun d => mayB d.1 d.2) = true := List.all_eq_true.2 fun d hd => e d (List.mem_of_mem_take hd)
    rw [h] at this
    cases this
end Go.Proofs.YtjmegicopdbkdaaDoor

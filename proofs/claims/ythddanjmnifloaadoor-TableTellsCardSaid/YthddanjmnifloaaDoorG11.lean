/-
  Contracts and plain laws that the card rests on, part 11.
-/
import Derived.Test.YthddanjmnifloaaDoorG10
import Derived.Test.YthddanjmnifloaaDoorG7
import Derived.ScopeJumps
import Derived.Test.YthddanjmnifloaaDoorG4
set_option maxHeartbeats 1000000
set_option maxRecDepth 10000
namespace Go.Proofs.YthddanjmnifloaaDoor
open Go Go.RowKit Pl

theorem add_add' (a : Addr) (j i : Nat) : (a.add j).add i = a.add (j + i) := by
  unfold Addr.add
  by_cases h1 : j = 0
  · subst h1; simp
  · by_cases h2 : i = 0
    · subst h2; simp [h1]
    · have h3 : ¬ j + i = 0 := by omega
      simp [h2, h1, Nat.add_assoc]
theorem getD_drop' {α : Type} (l : List α) (j i : Nat) (d : α) : (l.drop j).getD i d = l.getD (j + i) d := by simp only [List.getD_eq_getElem?_getD, List.getElem?_drop]
theorem getD_take' {α : Type} (l : List α) {j i : Nat} {d : α} (h : i < j) : (l.take j).getD i d = l.getD i d := by simp only [List.getD_eq_getElem?_getD, List.getElem?_take_of_lt h]
/-- A label that is fallen into. -/
theorem wp_scope_fall {P : Program} {a : Act} {w : World} {Q : Exit → Act → World → Prop} {c X : Code} (l : Nat) (J : Act → World → Prop) (μ : Act → World → Nat) (hf : findLabel c l = some (Code.seq Code.skip X))
    (pass : ∀ a w, J a w → X.wp P (Exit.jump l (fun a' w' => J a' w' ∧ μ a' w' < μ a w) Q) a w)
    (first : (∀ a w, J a w → X.wp P (Exit.jump l J Q) a w) → c.wp P (Exit.jump l J Q) a w) : (Code.scope c).wp P Q a w :=
  wp_scope_jumps l J μ hf (first fun a w h => Code.wp_mono (fun e a' w' hq => by
    cases e with
    | goto l' => exact ⟨hq.1, hq.2.1⟩
    | _ => exact hq) (pass a w h)) fun a w h => wp_seq (wp_skip (pass a w h))
theorem Ints.drop {w : World} {a : Addr} {m : Nat} {xs : List Int} (h : Ints w (some a) m xs) (j : Nat) : Ints w (some (a.add j)) (m - j) (xs.drop j) := by
  refine ⟨by rw [List.length_drop, h.len], by have := h.small; omega, fun x hx => h.rng x (List.mem_of_mem_drop hx), fun hn => ?_⟩
  obtain ⟨b, e, hc⟩ := h.cell (by omega)
  cases e
  refine ⟨_, rfl, fun i hi => ?_⟩
  rw [add_add', hc (j + i) (by omega), getD_drop']
theorem Ints.take {w : World} {A : Option Addr} {m : Nat} {xs : List Int} (h : Ints w A m xs) {j : Nat} (hj : j ≤ m) : Ints w A j (xs.take j) := by
  refine ⟨by rw [List.length_take, h.len]; omega, by have := h.small; omega, fun x hx => h.rng x (List.mem_of_mem_take hx), fun hn => ?_⟩
  obtain ⟨b, e, hc⟩ := h.cell (by omega)
  refine ⟨b, e, fun i hi => ?_⟩
  rw [hc i (by omega), getD_take' _ hi]

/-- A row of the table. -/
def chunk (nums : List Int) (n k : Nat) : List Int := (nums.drop (k * n)).take n
/-- Is each number of a row left, up to a place? -/
def liveUpto (C : ConB) (ds : List DomB) (row : List Int) (j : Nat) : Bool := (List.range j).all fun i => (listB (ds.getD (C.vars.getD i 0).toNat nilD).1 (ds.getD (C.vars.getD i 0).toNat nilD).2).contains (row.getD i 0)
def liveRow (C : ConB) (ds : List DomB) (row : List Int) : Bool := liveUpto C ds row C.vars.length
/-- The rows that are alive, of the first ones. -/
def rowsUpto (C : ConB) (ds : List DomB) (k : Nat) : List (List Int) := ((List.range k).map (chunk C.nums C.vars.length)).filter (liveRow C ds)
def rowsOf (C : ConB) (ds : List DomB) : List (List Int) := rowsUpto C ds (C.nums.length / C.vars.length)
theorem liveUpto_succ (C : ConB) (ds : List DomB) (row : List Int) (j : Nat) : liveUpto C ds row (j + 1) = (liveUpto C ds row j && (listB (ds.getD (C.vars.getD j 0).toNat nilD).1 (ds.getD (C.vars.getD j 0).toNat nilD).2).contains (row.getD j 0)) := by
  unfold liveUpto
  rw [List.range_succ, List.all_append]; simp
theorem liveUpto_bad {C : ConB} {ds : List DomB} {row : List Int} {j m : Nat} (h : liveUpto C ds row j = false) (hm : j ≤ m) : liveUpto C ds row m = false := by
  cases e : liveUpto C ds row m with
  | false => rfl
  | true =>
    unfold liveUpto at *
    rw [List.all_eq_true] at e
    rw [← h, eq_comm, List.all_eq_true]
    exact fun i hi => e i (List.mem_range.2 (by have := List.mem_range.1 hi; omega))
theorem rowsUpto_succ (C : ConB) (ds : List DomB) (k : Nat) : rowsUpto C ds (k + 1) = rowsUpto C ds k ++ (if liveRow C ds (chunk C.nums C.vars.length k) = true then [chunk C.nums C.vars.length k] else []) := by
  unfold rowsUpto
  rw [List.range_succ, List.map_append, List.filter_append]
  congr 1
  cases h : liveRow C ds (chunk C.nums C.vars.length k) <;> simp [h]

/-- The slice u, in blocks from base on, owns the lists; their numbers lie in w0. -/
def OwnL0 (w0 w : World) (base : Nat) (u : Value) (ls : List (List Int)) : Prop :=
  ∃ vs : List Value, w.ownsRow base 23 1 u ls.length vs ∧ ∀ j, j < ls.length → ∃ B m c, vs[j]? = some (.slice B m c) ∧ Ints w0 B m (ls.getD j [])
theorem OwnL0.kept {w0 w w' : World} {base : Nat} {u : Value} {ls : List (List Int)} (h : OwnL0 w0 w base u ls) (hk : Kept w w') : OwnL0 w0 w' base u ls := by
  obtain ⟨vs, hown, hd⟩ := h
  exact ⟨vs, own_kept hown hk, hd⟩
theorem OwnL0.parts {w0 w : World} {base : Nat} {u : Value} {ls : List (List Int)} (h : OwnL0 w0 w base u ls) : ∃ A c, u = .slice A ls.length c := by
  obtain ⟨vs, hown, _⟩ := h
  rcases hown.2 with ⟨rfl, h0⟩ | ⟨g, cap, cur, rfl, _⟩
  · rw [h0]; exact ⟨_, _, rfl⟩
  · exact ⟨_, _, rfl⟩
theorem OwnL0.snoc {w0 w2 : World} {base n : Nat} {v : Value} {ls : List (List Int)} {l : List Int} {B : Option Addr} {m c : Nat} {vs : List Value} (hl : ls.length = n) (hlen0 : vs.length = n * 1) (hd : ∀ j, j < ls.length → ∃ B m c, vs[j]? = some (.slice B m c) ∧ Ints w0 B m (ls.getD j []))
    (hI : Ints w0 B m l) (h2 : w2.ownsRow base 23 1 v (n + 1) (vs ++ [.slice B m c])) : OwnL0 w0 w2 base v (ls ++ [l]) := by
  subst hl
  have hlen : vs.length = ls.length := by omega
  refine ⟨vs ++ [.slice B m c], by rw [List.length_append]; exact h2, fun j hj => ?_⟩
  rw [List.length_append] at hj
  simp only [List.length_cons, List.length_nil] at hj
  by_cases hlt : j < ls.length
  · obtain ⟨B', m', c', e1, e2⟩ := hd j hlt
    refine ⟨B', m', c', ?_, ?_⟩
    · rw [List.getElem?_append_left (by omega)]; exact e1
    · rw [List.getD_eq_getElem?_getD, List.getElem?_append_left hlt, ← List.getD_eq_getElem?_getD]; exact e2
  · have e : j = ls.length := by omega
    subst e
    refine ⟨B, m, c, ?_, ?_⟩
    · rw [List.getElem?_append_right (by omega), hlen]; simp
    · rw [List.getD_eq_getElem?_getD, List.getElem?_append_right (by omega)]; simp; exact hI
/-- It reads as the lists as long as block g alone turns, which is below its own. -/
theorem OwnL0.lists {w0 w W : World} {base c g : Nat} {A : Option Addr} {n : Nat} {ls : List (List Int)} (h : OwnL0 w0 w base (.slice A n c) ls) (hn : ls.length = n) (hs : n ≤ 9223372036854775807) (h0 : Kept w0 W) (hk : KeptBut g w W) (hg : g < base) : LL W A n ls := by
  obtain ⟨vs, hown, hd⟩ := h
  subst hn
  refine ⟨rfl, hs, fun hp => ?_⟩
  obtain ⟨g', cap, e, hb, hlt⟩ := hown.form hp
  cases e
  refine ⟨_, rfl, fun j hj => ?_⟩
  obtain ⟨B, m, c, e1, e2⟩ := hd j hj
  refine ⟨B, m, c, hk.cellAt (hown.cells (g := g') rfl _ _ e1) ?_, e2.kept h0⟩
  rw [add_block']; show g' ≠ g; omega

/-- Where the walk over the rows stands. -/
def TabJ (w0 w : World) (u : Value) (B : Option Addr) (m cB n1 k : Nat) (C : ConB) (ds : List DomB) (wr : World) : Prop :=
  k * n1 + m = C.nums.length ∧ m ≤ cB ∧ Ints w0 B m (C.nums.drop (k * n1)) ∧ OwnL0 w0 wr (w.heap.size + 1) u (rowsUpto C ds k)

/-- The rows are handed back, in a slice of the call's own. -/
def RowsPost (w0 : World) (ls : List (List Int)) (w : World) (e : Ending) (w' : World) : Prop :=
  ∃ A c, e = .returned (.slice A ls.length c) ∧ OwnL0 w0 w' (w.heap.size + 1) (.slice A ls.length c) ls ∧ ls.length ≤ 1000 ∧ Kept w w'

theorem alive_any (K R Ct : Int) (A1 A2 A3 : Option Addr) (n1 c1 n2 c2 n3 c3 : Nat) (C : ConB) (A : Option Addr) (n c : Nat) (ds : List DomB) (w0 w : World) (hw0 : Kept w0 w) (hC0 : ConIn w0 K R Ct A1 A2 A3 n1 c1 n2 c2 n3 c3 C) (hS0 : Doms w0 A n ds) (hT0 : Tab w0) (hv : varsOk C.vars n = true) (h0 : 0 < n1) (hdv : C.nums.length % n1 = 0) (hnn : n3 ≤ 1000) :
    Calls Tryd.prog 66 #[.agg #[.int .i64 K, .slice A1 n1 c1, .slice A2 n2 c2, .int .i64 R, .int .i64 Ct, .slice A3 n3 c3], .slice A n c] w (RowsPost w0 (rowsOf C ds) w) := by
  have Hw0 := Lib.hid hw0
  have HN := Lib.hid hC0.nums
  have hC := hC0.kept hw0
  have hS := hS0.kept hw0
  have hT := hT0.kept hw0
  clear hC0 hS0 hT0 hw0
  obtain ⟨i0, hi, hz0, hz1, hz2⟩ := info_parts info_ints
  have HC := Lib.hid hC
  have HS := Lib.hid hS
  have HT := Lib.hid hT
  have Hlen := Lib.hid hS.len
  have Hvl := Lib.hid hC.vars.len
  have Hnl := Lib.hid hC.nums.len
  have Hv := Lib.hid hv
  have Hdv := Lib.hid hdv
  have hs1 := hC.vars.small
  have hs3 := hC.nums.small
  have hcap3 := hC.cap3
  clear hC hS hT hv hdv
  have HB : Hid (∀ wr, Kept (w.alloc (.cells #[.int .i64 K, .slice A1 n1 c1, .slice A2 n2 c2, .int .i64 R, .int .i64 Ct, .slice A3 n3 c3] 37)) wr → wr.heap[w.heap.size]? = some (.cells #[.int .i64 K, .slice A1 n1 c1, .slice A2 n2 c2, .int .i64 R, .int .i64 Ct, .slice A3 n3 c3] 37)) := fun wr h => h.heapAt (heap_new _ _)
  go_enter Tryd.func66, Tryd.ntmps66
  go_wp2
  refine wp_scope_fall 0 (fun a' wr => ∃ (k m cB : Nat) (B : Option Addr) (u3 u4 u5 u8 u9 u10 u11 u12 u13 u14 u15 u16 u17 u18 u19 u20 u21 u22 u23 u24 u25 u26 u27 u28 u29 u30 u31 u32 u33 u34 u35 u36 u37 u38 u39 u40 u41 u42 u43 u44 u45 u46 u47 u48 u49 : Value), a' = { tmps := #[.agg #[.int .i64 K, .slice A1 n1 c1, .slice A2 n2 c2, .int .i64 R, .int .i64 Ct, .slice A3 n3 c3], .slice A n c, .pointer (some ⟨w.heap.size, 0, Option.none⟩), u3, u4, u5, .int .i64 n1, .slice B m cB, u8, u9, u10, u11, u12, u13, u14, u15, u16, u17, u18, u19, u20, u21, u22, u23, u24, u25, u26, u27, u28, u29, u30, u31, u32, u33, u34, u35, u36, u37, u38, u39, u40, u41, u42, u43, u44, u45, u46, u47, u48, u49], defers := [] } ∧ Hid (TabJ w0 w u5 B m cB n1 k C ds wr) ∧ Hid (Kept (w.alloc (.cells #[.int .i64 K, .slice A1 n1 c1, .slice A2 n2 c2, .int .i64 R, .int .i64 Ct, .slice A3 n3 c3] 37)) wr)) (fun a' _ => match a'.tmps.getD 7 undef with | .slice _ m _ => m | _ => 0) rfl ?_ ?_
  · rintro a' w4 ⟨k, m, cB, B, u3, u4, u5, u8, u9, u10, u11, u12, u13, u14, u15, u16, u17, u18, u19, u20, u21, u22, u23, u24, u25, u26, u27, u28, u29, u30, u31, u32, u33, u34, u35, u36, u37, u38, u39, u40, u41, u42, u43, u44, u45, u46, u47, u48, u49, rfl, HJ, Hkw⟩
    obtain ⟨hkm, hcB, hIB, hO⟩ := HJ.out
    clear HJ
    by_cases hm0 : m = 0
    · subst hm0
      have Hr : Hid (rowsOf C ds = rowsUpto C ds k) := by
        show _ = _
        unfold rowsOf
        congr 1
        rw [Hvl.out, ← hkm, Nat.add_zero, Nat.mul_div_cancel _ h0]
      obtain ⟨Ar, cr, rfl⟩ := hO.parts
      have HO := Lib.hid hO
      rw [Hr.out]
      have hrl : (rowsUpto C ds k).length ≤ 1000 := by
        have h1 := List.length_filter_le (liveRow C ds) ((List.range k).map (chunk C.nums C.vars.length))
        rw [List.length_map, List.length_range] at h1
        have h2 : k ≤ k * n1 := Nat.le_mul_of_pos_right _ h0
        have := Hnl.out
        unfold rowsUpto
        omega
      clear hO hIB Hr
      generalize rowsUpto C ds k = rows at *
      generalize hrm : rows.length = rm at *
      have Hrm := Lib.hid hrm
      clear hrm
      go_wp2_with fail
      simp only [Exit.jump]
      go_ret
      exact ⟨Ar, cr, by rw [Hrm.out]; rfl, by rw [Hrm.out]; exact HO.out, by rw [Hrm.out]; exact hrl, (Kept.box _ _).then Hkw.out⟩
    · obtain ⟨b, rfl, hbb⟩ := (hIB.kept Hw0.out).addr (by omega)
      obtain ⟨av, rfl, hbv⟩ := HC.out.vars.addr h0
      have hmn : n1 ≤ m := by
        have h1 : (k * n1 + m) % n1 = 0 := by rw [hkm]; exact Hdv.out
        rw [Nat.mul_add_mod_self_right] at h1
        exact Nat.le_of_dvd (by omega) (Nat.dvd_of_mod_eq_zero h1)
      obtain ⟨m', rfl⟩ : ∃ m', m = n1 + m' := ⟨m - n1, by omega⟩
      obtain ⟨c', rfl⟩ : ∃ c', cB = n1 + c' := ⟨cB - n1, by omega⟩
      have hcm : m' ≤ c' := by omega
      have Hrow0 : Hid (Ints w0 (some b) n1 (chunk C.nums n1 k)) := hIB.take hmn
      have Hrow : Hid (Ints w (some b) n1 (chunk C.nums n1 k)) := Hrow0.out.kept Hw0.out
      have Hrest : Hid (Ints w0 (some (b.add n1)) m' (C.nums.drop ((k + 1) * n1))) := by
        have h := hIB.drop n1
        rw [List.drop_drop, show n1 + m' - n1 = m' by omega, show k * n1 + n1 = (k + 1) * n1 by rw [Nat.add_mul, Nat.one_mul]] at h
        exact h
      have HO := Lib.hid hO
      have Hkm : Hid ((k + 1) * n1 + m' = C.nums.length) := by show _ = _; rw [Nat.add_mul, Nat.one_mul]; omega
      clear hO hIB hkm hmn hcB
      have hkey : ∀ (B2 : Option Addr), (0 < m' → B2 = some (b.add n1)) → ∃ B' cB', Value.slice B2 m' c' = .slice B' m' cB' ∧ m' ≤ cB' ∧ Hid (Ints w0 B' m' (C.nums.drop ((k + 1) * n1))) := by
        intro B2 e
        refine ⟨B2, c', rfl, hcm, ?_⟩
        have h := Hrest.out
        exact ⟨h.len, h.small, h.rng, fun hn => by rw [e hn]; exact h.cell hn⟩
      have Hkey := Lib.hid hkey
      have hszr := Hkw.out.size
      simp only [World.size_alloc] at hszr
      clear hkey Hrest
      have hb := HB.out w4 Hkw.out
      have b0 := cell_at hb 0
      have b1 := cell_at hb 1
      have b2 := cell_at hb 2
      have b3 := cell_at hb 3
      have b4 := cell_at hb 4
      have b5 := cell_at hb 5
      simp only [List.getElem?_toArray, List.getElem?_cons_zero, List.getElem?_cons_succ] at b0 b1 b2 b3 b4 b5
      clear hb
      rcases Nat.eq_zero_or_pos c' with hcn | hcn
      · obtain rfl : m' = 0 := by omega
        subst hcn
        go_wp2_with fail
        obtain ⟨B', cB', e, hc', HI'⟩ := Hkey.out (some b) (fun h => by omega)
        rw [e]
        clear e Hkey
        go_loopw [30] (fun u wq => ∃ j : Nat, j ≤ n1 ∧ u = .int .i64 j ∧ Hid (liveUpto C ds (chunk C.nums n1 k) j = true) ∧ Hid (Kept w4 wq)) (fun u _ => n1 - (intOf u).toNat)
        case atStart => exact ⟨0, Nat.zero_le _, rfl, rfl, Kept.same _⟩
        case round =>
          obtain ⟨j, hj, rfl, Hlv, Hkq⟩ := hrel
          have HbQ := Lib.hid (Hkw.out.then Hkq.out)
          have HwQ := Lib.hid ((Kept.box _ _).then HbQ.out)
          clear b0 b1 b2 b3 b4 b5
          by_cases hlt : j < n1
          · obtain ⟨v, Hv1, hcv, _, _⟩ := (HC.out.vars.kept HwQ.out).named j hlt
            obtain ⟨hv0, hv1⟩ := varsOk_rng Hv.out (i := j) (by have := Hvl.out; omega)
            rw [Hv1.out] at hv0 hv1
            obtain ⟨p, rfl⟩ := Int.eq_ofNat_of_zero_le hv0
            have hpn : p < n := by omega
            obtain ⟨x, Hx, hcx, _, _⟩ := (Hrow.out.kept HwQ.out).named j hlt
            have hbr := (Hrow.out.kept HwQ.out).block h0
            have hSr := HS.out.kept HwQ.out
            obtain ⟨a, rfl, hblk⟩ := hSr.addr (by omega)
            obtain ⟨xs, L, B1, m1, cB1, Hd, hc1, hc2, HI, hL⟩ := hSr.named p hpn
            have Hnext : Hid (liveUpto C ds (chunk C.nums n1 k) (j + 1) = (listB xs L).contains x) := by
              show _ = _
              rw [liveUpto_succ, Hlv.out, Bool.true_and, Hv1.out, Hx.out, Int.toNat_natCast, Hd.out]
            have HQ : Hid (∀ W, Kept wr W → Calls Tryd.prog 55 #[.agg #[.slice B1 m1 cB1, .int .u64 L], .int .i64 x] W fun e w' => e = .returned (.bool ((listB xs L).contains x)) ∧ Kept W w') := fun W hW => has_any B1 m1 cB1 L xs x W (HI.out.kept hW) hL (HT.out.kept (HwQ.out.then hW))
            clear hSr hv0 hv1
            generalize (listB xs L).contains x = g at HQ Hnext
            cases g with
            | true =>
              go_wp2_with fail
              refine wp_region_quiet_below (by kernel_rfl) (by kernel_rfl) ?_
              repeat (any_goals (first | go_big_quiet_step (((go_at_call 55; exact Calls.regrown_of (HQ.out _ (below_regrown _ _ _))))) | quiet_step (((go_at_call 55; exact Calls.regrown_of (HQ.out _ (below_regrown _ _ _))))) | (refine wpQuiet_step (fun K hK => ?_); go_simp; split <;> (refine hK _ ?_; clear hK K))))
              all_goals (refine wpQuiet_nil ?_; intro w1 hw'; replace hw' := Kept.regrown hw')
              all_goals try (exfalso; omega)
              have Hk9 := Lib.hid (Hkq.out.then hw')
              clear hw'
              go_wp2_with fail
              go_roundw
              case rel => exact ⟨j + 1, by omega, by go_num, Hnext.out, Hk9.out⟩
              case measure => simp [intOf]; omega
            | false =>
              go_wp2_with fail
              refine wp_region_quiet_below (by kernel_rfl) (by kernel_rfl) ?_
              repeat (any_goals (first | go_big_quiet_step (((go_at_call 55; exact Calls.regrown_of (HQ.out _ (below_regrown _ _ _))))) | quiet_step (((go_at_call 55; exact Calls.regrown_of (HQ.out _ (below_regrown _ _ _))))) | (refine wpQuiet_step (fun K hK => ?_); go_simp; split <;> (refine hK _ ?_; clear hK K))))
              all_goals (refine wpQuiet_nil ?_; intro w1 hw'; replace hw' := Kept.regrown hw')
              all_goals try (exfalso; omega)
              have Hk9 := Lib.hid (Hkq.out.then hw')
              clear hw'
              go_wp2_with fail
              go_step3
              refine ⟨rfl, ⟨k + 1, 0, cB', B', _, _, _, _, _, _, _, _, _, _, _, _, _, _, _, _, _, _, _, _, _, _, _, _, _, _, _, _, _, _, _, _, _, _, _, _, _, _, _, _, _, _, _, _, _, rfl, ?_, Hkw.out.then Hk9.out⟩, by simp; omega⟩
              refine ⟨Hkm.out, hc', HI'.out, ?_⟩
              rw [rowsUpto_succ, Hvl.out, show liveRow C ds (chunk C.nums n1 k) = false from liveUpto_bad Hnext.out (by have := Hvl.out; omega), if_neg (by decide), List.append_nil]
              exact HO.out.kept Hk9.out
          · have e : j = n1 := by omega
            have Hlive : Hid (rowsUpto C ds (k + 1) = rowsUpto C ds k ++ [chunk C.nums n1 k]) := by
              show _ = _
              rw [rowsUpto_succ, Hvl.out, show liveRow C ds (chunk C.nums n1 k) = true by unfold liveRow; rw [Hvl.out]; have h := Hlv.out; rw [e] at h; exact h, if_pos rfl]
            have hrl : (rowsUpto C ds k).length ≤ 1000 := by
              have h1 := List.length_filter_le (liveRow C ds) ((List.range k).map (chunk C.nums C.vars.length))
              rw [List.length_map, List.length_range] at h1
              have h2 : k ≤ k * n1 := Nat.le_mul_of_pos_right _ h0
              have h3 := Hkm.out
              rw [Nat.add_mul, Nat.one_mul] at h3
              have := Hnl.out
              unfold rowsUpto
              omega
            have HOq := Lib.hid (HO.out.kept Hkq.out)
            obtain ⟨vs, hown, hd⟩ := HOq.out
            have Hown := Lib.hid hown
            have Hdd := Lib.hid hd
            have Hul : Hid (∀ i, u5.ownBlock = some i → w.heap.size + 1 ≤ i ∧ i < wr.heap.size) := hown.lt
            have hszq := HwQ.out.size
            have HIr := Lib.hid (Hrow.out.kept HwQ.out)
            clear e hown hd
            generalize rowsUpto C ds k = rows at *
            generalize chunk C.nums n1 k = row at *
            go_wp2_with (at_builtin; refine wpList_append_own_at _ rfl _ _ 74 rfl (w.heap.size + 1) 23 i0 (.slice Option.none 0 0) 1 24 Tryd.underlying74 hi hz0 hz1 hz2 rfl (by decide) _ _ _ rfl (Hown.out.alloc _) ⟨wr.heap.size, 0, none⟩ 1 1 [.slice (some b) n1 n1] rfl rfl (cell_one_new _ _ _) (by simp [Value.oneCell']) (by unfold maxLen; omega) (by omega) (by simp; omega) ?_; intro v' w2 hown' hgrow _ hloc; obtain ⟨g, cap, rfl, hgb, hgl⟩ := hown'.form (by omega))
            go_step3
            refine ⟨rfl, ⟨k + 1, 0, cB', B', _, _, _, _, _, _, _, _, _, _, _, _, _, _, _, _, _, _, _, _, _, _, _, _, _, _, _, _, _, _, _, _, _, _, _, _, _, _, _, _, _, _, _, _, _, rfl, ?_, ?_⟩, by simp; omega⟩
            · refine ⟨Hkm.out, hc', HI'.out, ?_⟩
              rw [Hlive.out]
              exact OwnL0.snoc (ls := rows) (l := row) (c := n1) rfl Hown.out.1 Hdd.out Hrow0.out hown'
            · have hbase := Hkq.out
              have hbw := (HbQ.out.newBlock (.cells #[.slice (some b) n1 n1] 23)).size
              exact (HbQ.out.newBlock _).grown hgrow (by simp at hbw ⊢; omega) (fun i hi => by have := (Hul.out i hi).1; simpa using this)
      · go_wp2_with fail
        obtain ⟨B', cB', e, hc', HI'⟩ := Hkey.out (some (b.add n1)) (fun _ => rfl)
        rw [e]
        clear e Hkey
        go_loopw [30] (fun u wq => ∃ j : Nat, j ≤ n1 ∧ u = .int .i64 j ∧ Hid (liveUpto C ds (chunk C.nums n1 k) j = true) ∧ Hid (Kept w4 wq)) (fun u _ => n1 - (intOf u).toNat)
        case atStart => exact ⟨0, Nat.zero_le _, rfl, rfl, Kept.same _⟩
        case round =>
          obtain ⟨j, hj, rfl, Hlv, Hkq⟩ := hrel
          have HbQ := Lib.hid (Hkw.out.then Hkq.out)
          have HwQ := Lib.hid ((Kept.box _ _).then HbQ.out)
          clear b0 b1 b2 b3 b4 b5
          by_cases hlt : j < n1
          · obtain ⟨v, Hv1, hcv, _, _⟩ := (HC.out.vars.kept HwQ.out).named j hlt
            obtain ⟨hv0, hv1⟩ := varsOk_rng Hv.out (i := j) (by have := Hvl.out; omega)
            rw [Hv1.out] at hv0 hv1
            obtain ⟨p, rfl⟩ := Int.eq_ofNat_of_zero_le hv0
            have hpn : p < n := by omega
            obtain ⟨x, Hx, hcx, _, _⟩ := (Hrow.out.kept HwQ.out).named j hlt
            have hbr := (Hrow.out.kept HwQ.out).block h0
            have hSr := HS.out.kept HwQ.out
            obtain ⟨a, rfl, hblk⟩ := hSr.addr (by omega)
            obtain ⟨xs, L, B1, m1, cB1, Hd, hc1, hc2, HI, hL⟩ := hSr.named p hpn
            have Hnext : Hid (liveUpto C ds (chunk C.nums n1 k) (j + 1) = (listB xs L).contains x) := by
              show _ = _
              rw [liveUpto_succ, Hlv.out, Bool.true_and, Hv1.out, Hx.out, Int.toNat_natCast, Hd.out]
            have HQ : Hid (∀ W, Kept wr W → Calls Tryd.prog 55 #[.agg #[.slice B1 m1 cB1, .int .u64 L], .int .i64 x] W fun e w' => e = .returned (.bool ((listB xs L).contains x)) ∧ Kept W w') := fun W hW => has_any B1 m1 cB1 L xs x W (HI.out.kept hW) hL (HT.out.kept (HwQ.out.then hW))
            clear hSr hv0 hv1
            generalize (listB xs L).contains x = g at HQ Hnext
            cases g with
            | true =>
              go_wp2_with fail
              refine wp_region_quiet_below (by kernel_rfl) (by kernel_rfl) ?_
              repeat (any_goals (first | go_big_quiet_step (((go_at_call 55; exact Calls.regrown_of (HQ.out _ (below_regrown _ _ _))))) | quiet_step (((go_at_call 55; exact Calls.regrown_of (HQ.out _ (below_regrown _ _ _))))) | (refine wpQuiet_step (fun K hK => ?_); go_simp; split <;> (refine hK _ ?_; clear hK K))))
              all_goals (refine wpQuiet_nil ?_; intro w1 hw'; replace hw' := Kept.regrown hw')
              all_goals try (exfalso; omega)
              have Hk9 := Lib.hid (Hkq.out.then hw')
              clear hw'
              go_wp2_with fail
              go_roundw
              case rel => exact ⟨j + 1, by omega, by go_num, Hnext.out, Hk9.out⟩
              case measure => simp [intOf]; omega
            | false =>
              go_wp2_with fail
              refine wp_region_quiet_below (by kernel_rfl) (by kernel_rfl) ?_
              repeat (any_goals (first | go_big_quiet_step (((go_at_call 55; exact Calls.regrown_of (HQ.out _ (below_regrown _ _ _))))) | quiet_step (((go_at_call 55; exact Calls.regrown_of (HQ.out _ (below_regrown _ _ _))))) | (refine wpQuiet_step (fun K hK => ?_); go_simp; split <;> (refine hK _ ?_; clear hK K))))
              all_goals (refine wpQuiet_nil ?_; intro w1 hw'; replace hw' := Kept.regrown hw')
              all_goals try (exfalso; omega)
              have Hk9 := Lib.hid (Hkq.out.then hw')
              clear hw'
              go_wp2_with fail
              go_step3
              refine ⟨rfl, ⟨k + 1, m', cB', B', _, _, _, _, _, _, _, _, _, _, _, _, _, _, _, _, _, _, _, _, _, _, _, _, _, _, _, _, _, _, _, _, _, _, _, _, _, _, _, _, _, _, _, _, _, rfl, ?_, Hkw.out.then Hk9.out⟩, by simp; omega⟩
              refine ⟨Hkm.out, hc', HI'.out, ?_⟩
              rw [rowsUpto_succ, Hvl.out, show liveRow C ds (chunk C.nums n1 k) = false from liveUpto_bad Hnext.out (by have := Hvl.out; omega), if_neg (by decide), List.append_nil]
              exact HO.out.kept Hk9.out
          · have e : j = n1 := by omega
            have Hlive : Hid (rowsUpto C ds (k + 1) = rowsUpto C ds k ++ [chunk C.nums n1 k]) := by
              show _ = _
              rw [rowsUpto_succ, Hvl.out, show liveRow C ds (chunk C.nums n1 k) = true by unfold liveRow; rw [Hvl.out]; have h := Hlv.out; rw [e] at h; exact h, if_pos rfl]
            have hrl : (rowsUpto C ds k).length ≤ 1000 := by
              have h1 := List.length_filter_le (liveRow C ds) ((List.range k).map (chunk C.nums C.vars.length))
              rw [List.length_map, List.length_range] at h1
              have h2 : k ≤ k * n1 := Nat.le_mul_of_pos_right _ h0
              have h3 := Hkm.out
              rw [Nat.add_mul, Nat.one_mul] at h3
              have := Hnl.out
              unfold rowsUpto
              omega
            have HOq := Lib.hid (HO.out.kept Hkq.out)
            obtain ⟨vs, hown, hd⟩ := HOq.out
            have Hown := Lib.hid hown
            have Hdd := Lib.hid hd
            have Hul : Hid (∀ i, u5.ownBlock = some i → w.heap.size + 1 ≤ i ∧ i < wr.heap.size) := hown.lt
            have hszq := HwQ.out.size
            have HIr := Lib.hid (Hrow.out.kept HwQ.out)
            clear e hown hd
            generalize rowsUpto C ds k = rows at *
            generalize chunk C.nums n1 k = row at *
            go_wp2_with (at_builtin; refine wpList_append_own_at _ rfl _ _ 74 rfl (w.heap.size + 1) 23 i0 (.slice Option.none 0 0) 1 24 Tryd.underlying74 hi hz0 hz1 hz2 rfl (by decide) _ _ _ rfl (Hown.out.alloc _) ⟨wr.heap.size, 0, none⟩ 1 1 [.slice (some b) n1 n1] rfl rfl (cell_one_new _ _ _) (by simp [Value.oneCell']) (by unfold maxLen; omega) (by omega) (by simp; omega) ?_; intro v' w2 hown' hgrow _ hloc; obtain ⟨g, cap, rfl, hgb, hgl⟩ := hown'.form (by omega))
            go_step3
            refine ⟨rfl, ⟨k + 1, m', cB', B', _, _, _, _, _, _, _, _, _, _, _, _, _, _, _, _, _, _, _, _, _, _, _, _, _, _, _, _, _, _, _, _, _, _, _, _, _, _, _, _, _, _, _, _, _, rfl, ?_, ?_⟩, by simp; omega⟩
            · refine ⟨Hkm.out, hc', HI'.out, ?_⟩
              rw [Hlive.out]
              exact OwnL0.snoc (ls := rows) (l := row) (c := n1) rfl Hown.out.1 Hdd.out Hrow0.out hown'
            · have hbase := Hkq.out
              have hbw := (HbQ.out.newBlock (.cells #[.slice (some b) n1 n1] 23)).size
              exact (HbQ.out.newBlock _).grown hgrow (by simp at hbw ⊢; omega) (fun i hi => by have := (Hul.out i hi).1; simpa using this)
  · intro HPass
    go_wp2
    go_step3
    rename_i K0 hK0
    refine hK0 _ _ (HPass _ _ ⟨0, n3, c3, A3, _, _, _, _, _, _, _, _, _, _, _, _, _, _, _, _, _, _, _, _, _, _, _, _, _, _, _, _, _, _, _, _, _, _, _, _, _, _, _, _, _, _, _, _, _, rfl, ?_, Kept.same _⟩)
    exact ⟨by rw [Nat.zero_mul, Nat.zero_add]; exact Hnl.out.symm, hcap3, by rw [Nat.zero_mul, List.drop_zero]; exact HN.out, ⟨[], World.ownsRow_nil _ _ _ _, fun j hj => by simp [rowsUpto] at hj⟩⟩
end Go.Proofs.YthddanjmnifloaaDoor

set_option maxHeartbeats 1000000
set_option maxRecDepth 10000
namespace Go.Proofs.YthddanjmnifloaaDoor
open Go Go.RowKit Pl

theorem tab2_any (B : Option Addr) (m c : Nat) (row : List Int) (i : Nat) (v : Int) (Bi Bv : Nat) (w : World) (hI : Ints w B m row) (hi : i < m)
    (hci : w.cell? ⟨Bi, 0, Option.none⟩ = some (.int .i64 i)) (hcv : w.cell? ⟨Bv, 0, Option.none⟩ = some (.int .i64 v)) :
    Calls Tryd.prog 69 #[.slice B m c, .pointer (some ⟨Bi, 0, Option.none⟩), .pointer (some ⟨Bv, 0, Option.none⟩)] w fun e w' => e = .returned (.bool (row.getD i 0 == v)) ∧ Kept w w' := by
  have hsm := hI.small
  obtain ⟨b, rfl, hbb⟩ := hI.addr (by omega)
  obtain ⟨x, Hx, hcx, _, _⟩ := hI.named i hi
  have hb1 := World.block_lt_of_cell? w _ hci
  have hb2 := World.block_lt_of_cell? w _ hcv
  simp only at hb1 hb2
  rw [Hx.out]
  clear hI
  generalize hg : (x == v) = g
  have Hg := Lib.hid hg
  clear hg
  go_enter Tryd.func69, Tryd.ntmps69
  go_wp2_with fail
  refine wp_region_quiet_below (by kernel_rfl) (by kernel_rfl) ?_
  repeat (any_goals (first | go_big_quiet_step ((fail)) | quiet_step ((fail)) | (refine wpQuiet_step (fun K hK => ?_); go_simp; split <;> (refine hK _ ?_; clear hK K))))
  all_goals (refine wpQuiet_nil ?_; intro w1 hw'; replace hw' := Kept.regrown hw')
  go_wp2_with fail
  go_ret
  exact ⟨by rw [← Hg.out]; rfl, hw'⟩

theorem tabindex_any (A : Option Addr) (n c : Nat) (rows : List (List Int)) (i : Nat) (v : Int) (Bi Bv : Nat) (w : World) (hL : LL w A n rows) (hi : ∀ row ∈ rows, i < row.length)
    (hci : w.cell? ⟨Bi, 0, Option.none⟩ = some (.int .i64 i)) (hcv : w.cell? ⟨Bv, 0, Option.none⟩ = some (.int .i64 v)) :
    Calls Tryd.prog 88 #[.slice A n c, .func (.func 69) #[] #[.pointer (some ⟨Bi, 0, Option.none⟩), .pointer (some ⟨Bv, 0, Option.none⟩)]] w fun e w' => ∃ k : Int, e = .returned (.int .i64 k) ∧ (decide (0 ≤ k) = rows.any fun row => row.getD i 0 == v) ∧ Kept w w' := by
  have HL := Lib.hid hL
  have Hi := Lib.hid hi
  have Hci := Lib.hid hci
  have Hcv := Lib.hid hcv
  have hsm := hL.small
  have Hlen := Lib.hid hL.len
  clear hL hi hci hcv
  obtain ⟨f, hf⟩ : ∃ f : List Int → Bool, ∀ row, f row = (row.getD i 0 == v) := ⟨_, fun _ => rfl⟩
  have Hf := Lib.hid hf
  have hany : (rows.any fun row => row.getD i 0 == v) = rows.any f := by congr 1; funext row; exact (hf row).symm
  rw [hany]
  clear hany hf
  go_enter Tryd.func88, Tryd.ntmps88
  go_wp2_with fail
  go_loopw [8] (fun u wr => ∃ k : Nat, k ≤ n ∧ u = .int .i64 k ∧ Hid (Kept w wr) ∧ Hid ((rows.take k).any f = false)) (fun u _ => n - (intOf u).toNat)
  case atStart => exact ⟨0, Nat.zero_le _, rfl, Below.refl _ _, rfl⟩
  case round =>
    obtain ⟨k, hk, rfl, Hkw, Hok⟩ := hrel
    by_cases hlt : k < n
    · obtain ⟨a, row, B, m, cB, rfl, hblk, Hrow, hc1, HI⟩ := (HL.out.kept Hkw.out).named k hlt
      have hmem : row ∈ rows := by
        rw [← Hrow.out, List.getD_eq_getElem?_getD, List.getElem?_eq_getElem (by have := Hlen.out; omega)]
        exact List.getElem_mem _
      have him := Hi.out row hmem
      rw [HI.out.len] at him
      have Hnext : Hid ((rows.take (k + 1)).any f = f row) := by
        show _ = _
        rw [List.take_succ_eq_append_getElem (by have := Hlen.out; omega), List.any_append, Hok.out, Bool.false_or]
        have h2 := Hrow.out
        rw [List.getD_eq_getElem?_getD, List.getElem?_eq_getElem (by have := Hlen.out; omega), Option.getD_some] at h2
        rw [h2]; simp
      have HQ : Hid (Calls Tryd.prog 69 #[.slice B m cB, .pointer (some ⟨Bi, 0, Option.none⟩), .pointer (some ⟨Bv, 0, Option.none⟩)] wr fun e w' => e = .returned (.bool (f row)) ∧ Kept wr w') := by
        have := tab2_any B m cB row i v Bi Bv wr HI.out him (Hkw.out.cellAt Hci.out) (Hkw.out.cellAt Hcv.out)
        rwa [← Hf.out row] at this
      clear hmem him
      generalize hm : f row = b at HQ Hnext
      have Hm := Lib.hid hm
      clear hm
      go_wp2_with fail
      refine HQ.out.mono ?_
      rintro e w1 ⟨rfl, hk1⟩
      have Hk1 := Lib.hid (Hkw.out.then hk1)
      clear hk1 HQ
      cases b with
      | false =>
        go_wp2
        go_roundw
        case rel => exact ⟨k + 1, by omega, by go_num, Hk1.out, Hnext.out⟩
        case measure => simp [intOf]; omega
      | true =>
        go_wp2
        go_ret
        refine ⟨k, rfl, ?_, Hk1.out⟩
        have h3 : rows.any f = true := by
          have h4 := Hnext.out
          rw [List.any_eq_true] at h4 ⊢
          obtain ⟨r, hr, hfr⟩ := h4
          exact ⟨r, List.mem_of_mem_take hr, hfr⟩
        rw [h3]; simp
    · have e : k = n := by omega
      subst e
      have h2 : rows.any f = false := by have := Hok.out; rwa [List.take_of_length_le (by have := Hlen.out; omega)] at this
      go_wp2
      go_ret
      exact ⟨-1, rfl, by rw [h2]; decide, Hkw.out⟩

theorem tabcontains_any (A : Option Addr) (n c : Nat) (rows : List (List Int)) (i : Nat) (v : Int) (Bi Bv : Nat) (w : World) (hL : LL w A n rows) (hi : ∀ row ∈ rows, i < row.length)
    (hci : w.cell? ⟨Bi, 0, Option.none⟩ = some (.int .i64 i)) (hcv : w.cell? ⟨Bv, 0, Option.none⟩ = some (.int .i64 v)) :
    Calls Tryd.prog 68 #[.slice A n c, .func (.func 69) #[] #[.pointer (some ⟨Bi, 0, Option.none⟩), .pointer (some ⟨Bv, 0, Option.none⟩)]] w fun e w' => e = .returned (.bool (rows.any fun row => row.getD i 0 == v)) ∧ Kept w w' := by
  have HQ := Lib.hid (tabindex_any A n c rows i v Bi Bv w hL hi hci hcv)
  clear hL hi hci hcv
  generalize (rows.any fun row => row.getD i 0 == v) = g at *
  go_enter Tryd.func68, Tryd.ntmps68
  go_wp2_with fail
  refine HQ.out.mono ?_
  rintro e w1 ⟨k, rfl, hk0, hk⟩
  have Hi := Lib.hid hk0
  clear hk0
  go_wp2
  go_ret
  exact ⟨ret_bool Hi.out, hk⟩
end Go.Proofs.YthddanjmnifloaaDoor

set_option maxHeartbeats 1000000
namespace Go.Proofs.YthddanjmnifloaaDoor
open Go Go.RowKit Pl

/-- What a step hands back. -/
def StepPost (r : Option (List DomB)) (w : World) (e : Ending) (w' : World) : Prop :=
  match r with
  | Option.none => e = .returned (.tuple #[.slice Option.none 0 0, .int .i64 1]) ∧ Kept w w'
  | some ds => ∃ A c, e = .returned (.tuple #[.slice A ds.length c, .int .i64 0]) ∧ Doms w' A ds.length ds ∧ Kept w w'

theorem info_dom : (Tryd.prog.info? 58).map (fun i => (i.zero, i.size, i.bytes)) = some (some (.agg #[.slice Option.none 0 0, .int .u64 0]), 2, 32) := by kernel_rfl
end Go.Proofs.YthddanjmnifloaaDoor

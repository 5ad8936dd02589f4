/-
  Contracts and plain laws that the card rests on, part 9.
-/
import Derived.Test.YtjmegicopdbkdaaDoorL5
import Derived.Test.YtjmegicopdbkdaaDoorL8
import Derived.Test.YtjmegicopdbkdaaDoorL6
import Derived.Test.YtjmegicopdbkdaaDoorL7
import Derived.Test.YtjmegicopdbkdaaDoorL4
import Derived.Great.Walk
import Derived.Deep.WholeRow
import Derived.Laws.NewBlocks
import Derived.Test.YtjmegicopdbkdaaDoorL3
import Derived.Deep.AppendLies
set_option maxHeartbeats 1000000
set_option maxRecDepth 10000
namespace Go.Proofs.YtjmegicopdbkdaaDoor
open Go Go.RowKit Pl

/-- The list of a variable. -/
def lsAt (vars : List Int) (ls : List (List Int)) (i : Nat) : List Int := ls.getD (vars.getD i 0).toNat []
/-- All values of the first variables' lists, each once. -/
def allS (vars : List Int) (ls : List (List Int)) (j : Nat) : List Int := (List.range j).foldl (fun acc i => addAll acc (lsAt vars ls i)) []
theorem allS_zero (vars : List Int) (ls : List (List Int)) : allS vars ls 0 = [] := rfl
theorem allS_succ (vars : List Int) (ls : List (List Int)) (j : Nat) : allS vars ls (j + 1) = addAll (allS vars ls j) (lsAt vars ls j) := by unfold allS; rw [List.range_succ, List.foldl_append]; rfl
theorem addB_len (acc : List Int) (v : Int) : (addB acc v).length ≤ acc.length + 1 := by unfold addB; split <;> simp
theorem addAll_len (l : List Int) : ∀ acc : List Int, (addAll acc l).length ≤ acc.length + l.length := by
  induction l with
  | nil => intro acc; simp [addAll]
  | cons v l ih =>
    intro acc
    have e : addAll acc (v :: l) = addAll (addB acc v) l := rfl
    have h1 := ih (addB acc v)
    have h2 := addB_len acc v
    rw [e, List.length_cons]
    omega
theorem allS_len {vars : List Int} {ls : List (List Int)} (h : ∀ q, (ls.getD q []).length ≤ 64) (j : Nat) : (allS vars ls j).length ≤ 64 * j := by
  induction j with
  | zero => simp [allS_zero]
  | succ j ih =>
    rw [allS_succ]
    have h1 := addAll_len (lsAt vars ls j) (allS vars ls j)
    have h2 := h (vars.getD j 0).toNat
    unfold lsAt at h1 ⊢
    omega
theorem allS_allU {C : ConB} {ds : List DomB} (hv : varsOk C.vars ds.length = true) {j : Nat} (hj : j ≤ C.vars.length) : allS C.vars (listsOf ds) j = allU C ds j := by
  induction j with
  | zero => rfl
  | succ j ih =>
    rw [allS_succ, allU_succ, ih (by omega)]
    have h1 := varsOk_rng hv (i := j) (by omega)
    unfold lsAt
    rw [listsOf_getD ds (by omega)]
    rfl

/-- Is one of the first variables' lists empty? -/
def wipedS (vars : List Int) (ls : List (List Int)) (j : Nat) : Bool := (List.range j).any fun i => decide ((lsAt vars ls i).length = 0)
theorem wipedS_succ (vars : List Int) (ls : List (List Int)) (j : Nat) : wipedS vars ls (j + 1) = (wipedS vars ls j || decide ((lsAt vars ls j).length = 0)) := by
  unfold wipedS; rw [List.range_succ, List.any_append]; simp
theorem wipedS_wiped {C : ConB} {ds : List DomB} (hv : varsOk C.vars ds.length = true) : wipedS C.vars (listsOf ds) C.vars.length = wipedB C ds C.vars.length := by
  unfold wipedS wipedB
  rw [Bool.eq_iff_iff, List.any_eq_true, List.any_eq_true]
  have e : ∀ i, i < C.vars.length → lsAt C.vars (listsOf ds) i = leftOf C ds i := fun i hi => by
    have h1 := varsOk_rng hv hi
    unfold lsAt
    rw [listsOf_getD ds (by omega)]
    rfl
  constructor
  · rintro ⟨i, hi, h⟩
    exact ⟨i, hi, by rw [← e i (List.mem_range.1 hi)]; exact h⟩
  · rintro ⟨i, hi, h⟩
    exact ⟨i, hi, by rw [e i (List.mem_range.1 hi)]; exact h⟩

/-- Is a value none of the first other lists alone? -/
def soloP (vars : List Int) (ls : List (List Int)) (i k : Nat) (x : Int) : Bool := (List.range k).all fun q => decide (q = i) || !(lsAt vars ls q == [x])
theorem soloP_zero (vars : List Int) (ls : List (List Int)) (i : Nat) (x : Int) : soloP vars ls i 0 x = true := rfl
theorem soloP_succ (vars : List Int) (ls : List (List Int)) (i k : Nat) (x : Int) : soloP vars ls i (k + 1) x = (soloP vars ls i k x && (decide (k = i) || !(lsAt vars ls k == [x]))) := by
  unfold soloP; rw [List.range_succ, List.all_append]; simp
theorem soloP_sole {C : ConB} {ds : List DomB} (hv : varsOk C.vars ds.length = true) {i : Nat} (hi : i < C.vars.length) (x : Int) : soloP C.vars (listsOf ds) i C.vars.length x = !soleB C ds i x := by
  have e : ∀ i, i < C.vars.length → lsAt C.vars (listsOf ds) i = leftOf C ds i := fun i hi => by
    have h1 := varsOk_rng hv hi
    unfold lsAt
    rw [listsOf_getD ds (by omega)]
    rfl
  unfold soloP soleB
  rw [Bool.eq_iff_iff, List.all_eq_true, Bool.not_eq_true', List.any_eq_false]
  constructor
  · intro h k hk
    have h1 := h k hk
    have hk := List.mem_range.1 hk
    rw [e k hk] at h1
    by_cases ek : k = i
    · subst ek; simp
    · rw [decide_eq_false ek] at h1
      simp at h1
      simp [h1]
  · intro h k hk
    have h1 := h k hk
    have hk := List.mem_range.1 hk
    rw [e k hk]
    by_cases ek : k = i
    · rw [decide_eq_true ek]; rfl
    · have hne : C.vars.getD k 0 ≠ C.vars.getD i 0 := by
        rcases Nat.lt_or_ge k i with h4 | h4
        · exact varsOk_ne hv hi h4
        · exact (varsOk_ne hv hk (by omega)).symm
      rw [decide_eq_false hne] at h1
      simp at h1
      simp [h1]

/-- The lists, those of the first j filtered by questions at the places. -/
def setU (vars : List Int) (ls : List (List Int)) (g : Nat → Int → Bool) : Nat → List (List Int)
  | 0 => ls
  | j + 1 => (setU vars ls g j).set (vars.getD j 0).toNat ((ls.getD (vars.getD j 0).toNat []).filter (g j))
theorem setU_length (vars : List Int) (ls : List (List Int)) (g : Nat → Int → Bool) (j : Nat) : (setU vars ls g j).length = ls.length := by
  induction j with
  | zero => rfl
  | succ j ih => simp only [setU, List.length_set, ih]
theorem setU_out {vars : List Int} {ls : List (List Int)} {g : Nat → Int → Bool} {j q : Nat} (h : ∀ k, k < j → (vars.getD k 0).toNat ≠ q) : (setU vars ls g j).getD q [] = ls.getD q [] := by
  induction j with
  | zero => rfl
  | succ j ih =>
    simp only [setU]
    rw [List.getD_eq_getElem?_getD, List.getElem?_set_ne (h j (by omega)), ← List.getD_eq_getElem?_getD]
    exact ih fun k hk => h k (by omega)
theorem setU_in {vars : List Int} {ls : List (List Int)} {g : Nat → Int → Bool} {j i : Nat} (hv : ∀ k, k < j → (vars.getD k 0).toNat < ls.length) (hd : ∀ k, k < j → k ≠ i → (vars.getD k 0).toNat ≠ (vars.getD i 0).toNat) (hi : i < j) :
    (setU vars ls g j).getD (vars.getD i 0).toNat [] = (ls.getD (vars.getD i 0).toNat []).filter (g i) := by
  induction j with
  | zero => omega
  | succ j ih =>
    simp only [setU]
    rw [getD_set3 _ _ _ _ _ (by rw [setU_length]; exact hv j (by omega))]
    by_cases e : j = i
    · subst e; rw [if_pos rfl]
    · rw [if_neg (fun h => hd j (by omega) e h.symm)]
      exact ih (fun k hk => hv k (by omega)) (fun k hk => hd k (by omega)) (by omega)
/-- What is kept by the lists so filtered. -/
theorem setU_keeps {vars : List Int} {ls : List (List Int)} {g : Nat → Int → Bool} {q : Nat} {v : Int} (hv : varsOk vars ls.length = true) (hm : v ∈ ls.getD q []) : ((setU vars ls g vars.length).getD q []).contains v = varsKp vars g vars.length q v := by
  have hr : ∀ k, k < vars.length → (vars.getD k 0).toNat < ls.length := fun k hk => by have := varsOk_rng hv hk; omega
  rw [Bool.eq_iff_iff, List.contains_iff_mem, varsKp_iff]
  by_cases h : ∃ i, i < vars.length ∧ (vars.getD i 0).toNat = q
  · obtain ⟨i, hi, rfl⟩ := h
    rw [setU_in hr (fun k hk e => varsOk_ne' hv hi hk e) hi, List.mem_filter]
    constructor
    · rintro ⟨_, h2⟩ k hk e
      have : k = i := by
        rcases Nat.decEq k i with h3 | h3
        · exact absurd e (varsOk_ne' hv hi hk h3)
        · exact h3
      subst this; exact h2
    · intro h2
      exact ⟨hm, h2 i hi rfl⟩
  · have hn : ∀ k, k < vars.length → (vars.getD k 0).toNat ≠ q := fun k hk e => h ⟨k, hk, e⟩
    rw [setU_out hn]
    exact ⟨fun _ k hk e => absurd e (hn k hk), fun _ => hm⟩

/-- The lists, those of the first j less what others are alone. -/
abbrev lessG (vars : List Int) (ls : List (List Int)) (m i : Nat) (x : Int) : Bool := soloP vars ls i m x
abbrev lessU (vars : List Int) (ls : List (List Int)) (m j : Nat) : List (List Int) := setU vars ls (lessG vars ls m) j
/-- In the middle of a variable's round. -/
def midU (vars : List Int) (ls : List (List Int)) (m j p k : Nat) : List (List Int) := (lessU vars ls m j).set p ((ls.getD p []).filter (soloP vars ls j k))
theorem midU_length (vars : List Int) (ls : List (List Int)) (m j p k : Nat) : (midU vars ls m j p k).length = ls.length := by
  unfold midU; rw [List.length_set, setU_length]
theorem midU_zero {vars : List Int} {ls : List (List Int)} {m j p : Nat} (hv : varsOk vars ls.length = true) (hj : j < vars.length) (hp : vars.getD j 0 = (p : Nat)) : midU vars ls m j p 0 = lessU vars ls m j := by
  have hpl : p < ls.length := by have := varsOk_rng hv hj; omega
  unfold midU
  have e0 : (ls.getD p []).filter (soloP vars ls j 0) = ls.getD p [] := List.filter_eq_self.2 fun x _ => soloP_zero _ _ _ _
  have e : (lessU vars ls m j).getD p [] = ls.getD p [] := setU_out (fun k hk => by have := varsOk_ne' hv hj (show k < vars.length by omega) (by omega); rw [hp] at this; exact this)
  have h := set_getD_self (lessU vars ls m j) p [] (by rw [setU_length]; exact hpl)
  rw [e0, ← e]
  exact h
theorem midU_at {vars : List Int} {ls : List (List Int)} {m j p k : Nat} (hp : p < ls.length) : (midU vars ls m j p k).getD p [] = (ls.getD p []).filter (soloP vars ls j k) := by
  unfold midU
  rw [getD_set3 _ _ _ _ _ (by rw [setU_length]; exact hp), if_pos rfl]
theorem midU_no {vars : List Int} {ls : List (List Int)} {m j p k : Nat} (h : k = j ∨ (lsAt vars ls k).length ≠ 1) : midU vars ls m j p (k + 1) = midU vars ls m j p k := by
  unfold midU
  congr 1
  refine List.filter_congr fun x _ => ?_
  rw [soloP_succ]
  rcases h with h | h
  · rw [decide_eq_true h]; simp
  · have e : (lsAt vars ls k == [x]) = false := by
      rw [Bool.eq_false_iff]
      intro h2
      rw [beq_iff_eq] at h2
      rw [h2] at h
      simp at h
    rw [e]; simp
theorem midU_yes {vars : List Int} {ls : List (List Int)} {m j p k : Nat} {y : Int} (f : Int → Bool) (hf : ∀ x, f x = (x != y)) (hp : p < ls.length) (hk : k ≠ j) (h : lsAt vars ls k = [y]) :
    midU vars ls m j p (k + 1) = (midU vars ls m j p k).set p (((midU vars ls m j p k).getD p []).filter f) := by
  rw [midU_at hp]
  unfold midU
  rw [List.set_set, List.filter_filter]
  congr 1
  refine List.filter_congr fun x _ => ?_
  rw [soloP_succ, h, decide_eq_false hk, hf, Bool.and_comm]
  congr 1
  rw [Bool.eq_iff_iff, Bool.false_or, Bool.not_eq_true', beq_eq_false_iff_ne, bne_iff_ne]
  constructor
  · intro h e
    subst e
    exact h rfl
  · intro h e
    injection e with e
    exact h e.symm
theorem midU_end {vars : List Int} {ls : List (List Int)} {m j p : Nat} (hp : vars.getD j 0 = (p : Nat)) : midU vars ls m j p m = lessU vars ls m (j + 1) := by
  unfold midU
  rw [show lessU vars ls m (j + 1) = (lessU vars ls m j).set (vars.getD j 0).toNat ((ls.getD (vars.getD j 0).toNat []).filter (soloP vars ls j m)) from rfl, hp, Int.toNat_natCast]
/-- What is kept by the lists emptied. -/
theorem noneU_keeps {vars : List Int} {ls : List (List Int)} {q : Nat} {v : Int} (hv : varsOk vars ls.length = true) (hm : v ∈ ls.getD q []) : ((noneU vars ls vars.length).getD q []).contains v = varsKp vars (fun _ _ => false) vars.length q v := by
  have hr : ∀ k, k < vars.length → (vars.getD k 0).toNat < ls.length := fun k hk => by have := varsOk_rng hv hk; omega
  rw [Bool.eq_iff_iff, List.contains_iff_mem, varsKp_iff]
  by_cases h : ∃ i, i < vars.length ∧ (vars.getD i 0).toNat = q
  · rw [noneU_in hr h]
    obtain ⟨i, hi, e⟩ := h
    constructor
    · intro h; simp at h
    · intro h; exact absurd (h i hi e) (by decide)
  · have hn : ∀ k, k < vars.length → (vars.getD k 0).toNat ≠ q := fun k hk e => h ⟨k, hk, e⟩
    rw [noneU_out hn]
    exact ⟨fun _ k hk e => absurd e (hn k hk), fun _ => hm⟩
theorem noneU_noneU (vars : List Int) (ls : List (List Int)) (q j : Nat) (hv : varsOk vars ls.length = true) (hj : j = vars.length) : (noneU vars (noneU vars ls j) j).getD q [] = (noneU vars ls j).getD q [] := by
  subst hj
  have hr : ∀ k, k < vars.length → (vars.getD k 0).toNat < ls.length := fun k hk => by have := varsOk_rng hv hk; omega
  by_cases h : ∃ i, i < vars.length ∧ (vars.getD i 0).toNat = q
  · rw [noneU_in hr h, noneU_in (by rw [noneU_length]; exact hr) h]
  · have hn : ∀ k, k < vars.length → (vars.getD k 0).toNat ≠ q := fun k hk e => h ⟨k, hk, e⟩
    rw [noneU_out hn]
end Go.Proofs.YtjmegicopdbkdaaDoor

set_option maxHeartbeats 1000000
set_option maxRecDepth 10000
namespace Go.Proofs.YtjmegicopdbkdaaDoor
open Go Go.RowKit Pl

/-- Lists are handed back, emptied where one was empty, and whether one was. -/
def WipedPost (vars : List Int) (n m : Nat) (ls : List (List Int)) (w : World) (e : Ending) (w' : World) : Prop :=
  ∃ A c, e = .returned (.tuple #[.slice A n c, .bool (wipedS vars ls m)]) ∧ LL w' A n (if wipedS vars ls m = true then noneU vars ls m else ls) ∧ Kept w w'

theorem wiped_no {vars : List Int} {n m : Nat} {ls : List (List Int)} {w w' : World} {A : Option Addr} {c : Nat} (h : wipedS vars ls m = false) (hL : LL w' A n ls) (hk : Kept w w') : WipedPost vars n m ls w (.returned (.tuple #[.slice A n c, .bool false])) w' :=
  ⟨A, c, by rw [h], by rw [h, if_neg (by decide)]; exact hL, hk⟩
theorem wiped_yes {vars : List Int} {n m : Nat} {ls : List (List Int)} {w w' : World} {A : Option Addr} {c : Nat} (h : wipedS vars ls m = true) (hL : LL w' A n (noneU vars ls m)) (hk : Kept w w') : WipedPost vars n m ls w (.returned (.tuple #[.slice A n c, .bool true])) w' :=
  ⟨A, c, by rw [h], by rw [h, if_pos rfl]; exact hL, hk⟩

theorem rwiped_any (K R Ct : Int) (A1 A2 A3 : Option Addr) (n1 c1 n2 c2 n3 c3 : Nat) (C : ConB) (A : Option Addr) (n c : Nat) (ls : List (List Int)) (w : World) (hC : ConIn w K R Ct A1 A2 A3 n1 c1 n2 c2 n3 c3 C) (hL : LL w A n ls) (hv : varsOk C.vars n = true) (h0 : 0 < n) (hn : n ≤ 1000) :
    Calls Tryd.prog 49 #[.agg #[.int .i64 K, .slice A1 n1 c1, .slice A2 n2 c2, .int .i64 R, .int .i64 Ct, .slice A3 n3 c3], .slice A n c] w (WipedPost C.vars n n1 ls w) := by
  have HC := Lib.hid hC
  have HL := Lib.hid hL
  have Hv := Lib.hid hv
  have Hlen := Lib.hid hL.len
  have Hl1 := Lib.hid hC.vars.len
  have hs1 := hC.vars.small
  clear hC hL hv
  have HB : Hid (∀ wr, Kept (w.alloc (.cells #[.int .i64 K, .slice A1 n1 c1, .slice A2 n2 c2, .int .i64 R, .int .i64 Ct, .slice A3 n3 c3] 24)) wr → wr.heap[w.heap.size]? = some (.cells #[.int .i64 K, .slice A1 n1 c1, .slice A2 n2 c2, .int .i64 R, .int .i64 Ct, .slice A3 n3 c3] 24)) := fun wr h => h.heapAt (heap_new _ _)
  go_enter Tryd.func49, Tryd.ntmps49
  go_wp2_with fail
  go_loopw [6, 7] (fun u v wr => ∃ j : Nat, j ≤ n1 ∧ v = .int .i64 j ∧ u = .bool (wipedS C.vars ls j) ∧ Hid (Kept (w.alloc (.cells #[.int .i64 K, .slice A1 n1 c1, .slice A2 n2 c2, .int .i64 R, .int .i64 Ct, .slice A3 n3 c3] 24)) wr)) (fun _ v _ => n1 - (intOf v).toNat)
  case atStart => exact ⟨0, Nat.zero_le _, rfl, rfl, Kept.same _⟩
  case round =>
    obtain ⟨j, hj, rfl, rfl, Hkw⟩ := hrel
    have HKq := Lib.hid ((Kept.box w _).then Hkw.out)
    have hb := HB.out wr Hkw.out
    have b0 := cell_at hb 0
    have b1 := cell_at hb 1
    have b2 := cell_at hb 2
    have b3 := cell_at hb 3
    have b4 := cell_at hb 4
    have b5 := cell_at hb 5
    simp only [List.getElem?_toArray, List.getElem?_cons_zero, List.getElem?_cons_succ] at b0 b1 b2 b3 b4 b5
    clear hb
    have hlb : w.heap.size < wr.heap.size := World.block_lt_of_cell? wr _ b0
    by_cases hlt : j < n1
    · obtain ⟨av, hav, hbv⟩ := (HC.out.vars.kept HKq.out).addr (by omega)
      subst hav
      obtain ⟨v, Hv1, hcv, _, _⟩ := (HC.out.vars.kept HKq.out).named j hlt
      obtain ⟨hv0, hv1⟩ := varsOk_rng Hv.out (i := j) (by have := Hl1.out; omega)
      rw [Hv1.out] at hv0 hv1
      obtain ⟨p, rfl⟩ := Int.eq_ofNat_of_zero_le hv0
      have hpn : p < n := by omega
      obtain ⟨al, l, Bl, ml, clp, hal, hbal, Hl, hclp, HIl⟩ := (HL.out.kept HKq.out).named p hpn
      subst hal
      have Hlm := Lib.hid HIl.out.len
      have hsm := HIl.out.small
      have Hnx : Hid (wipedS C.vars ls (j + 1) = (wipedS C.vars ls j || decide (ml = 0))) := by
        show _ = _
        rw [wipedS_succ]
        unfold lsAt
        rw [Hv1.out, Int.toNat_natCast, Hl.out, Hlm.out]
      generalize wipedS C.vars ls j = q at *
      cases q with
      | true =>
        go_wp2_with fail
        go_roundw
        case rel => exact ⟨j + 1, by omega, by go_num, by rw [Hnx.out]; rfl, Hkw.out⟩
        case measure => simp [intOf]; omega
      | false =>
        by_cases hm : ml = 0
        · have hd : ((ml : Int) == 0) = true := by simp [hm]
          have Hnx2 : Hid (wipedS C.vars ls (j + 1) = true) := by show _ = _; rw [Hnx.out, hm]; rfl
          have Hm := Lib.hid hm
          clear hm
          go_wp2_with fail
          go_roundw
          case rel => exact ⟨j + 1, by omega, by go_num, by rw [Hnx2.out], Hkw.out⟩
          case measure => simp [intOf]; omega
        · have hd : ((ml : Int) == 0) = false := by simp; omega
          have Hnx2 : Hid (wipedS C.vars ls (j + 1) = false) := by show _ = _; rw [Hnx.out, decide_eq_false hm]; rfl
          clear hm
          go_wp2_with fail
          go_roundw
          case rel => exact ⟨j + 1, by omega, by go_num, by rw [Hnx2.out], Hkw.out⟩
          case measure => simp [intOf]; omega
    · have e : j = n1 := by omega
      subst e
      generalize hq : wipedS C.vars ls j = q at *
      have Hq := Lib.hid hq
      clear hq
      cases q with
      | false =>
        go_wp2_with fail
        go_ret2
        exact wiped_no Hq.out (HL.out.kept HKq.out) HKq.out
      | true =>
        go_wp2_with fail
        refine (rnone_any K R Ct A1 A2 A3 j c1 n2 c2 n3 c3 C A n c ls wr (HC.out.kept HKq.out) (HL.out.kept HKq.out) Hv.out h0 hn).mono ?_
        rintro e W3 ⟨g, cg, rfl, hO3, hg2, hg3, hk3⟩
        have Hfl : Hid ((noneU C.vars ls j).length = n) := by show _ = _; rw [noneU_length]; exact Hlen.out
        have HLo := Lib.hid (hO3.lists Hfl.out (by omega))
        have HK3 := Lib.hid (HKq.out.then hk3)
        clear hO3 hk3 b0 b1 b2 b3 b4 b5
        go_wp2_with fail
        go_ret2
        exact wiped_yes Hq.out HLo.out HK3.out
end Go.Proofs.YtjmegicopdbkdaaDoor

set_option maxHeartbeats 1000000
set_option maxRecDepth 10000
namespace Go.Proofs.YtjmegicopdbkdaaDoor
open Go Go.RowKit Pl

theorem doms_nil (w : World) : Doms w Option.none 0 [] := ⟨rfl, by decide, fun j hj => absurd hj (Nat.not_lt_zero _), fun h => absurd h (Nat.lt_irrefl _)⟩
theorem beq_decide (a b : Int) : (a == b) = decide (b = a) := by
  rw [Bool.eq_iff_iff, beq_iff_eq, decide_eq_true_eq]; exact eq_comm

theorem rsames_any (A B : Option Addr) (n c d : Nat) (ds : List DomB) (w : World) (hA : Doms w A n ds) (hB : Doms w B n ds) :
    Calls Tryd.prog 16 #[.slice A n c, .slice B n d] w fun e w' => e = .returned (.bool true) ∧ Kept w w' := by
  have HA := Lib.hid hA
  have HB := Lib.hid hB
  have hsm := hA.small
  clear hA hB
  go_enter Tryd.func16, Tryd.ntmps16
  go_wp2_with fail
  go_loopw [5] (fun v wr => ∃ k : Nat, k ≤ n ∧ v = .int .i64 k ∧ Hid (Kept w wr)) (fun v _ => n - (intOf v).toNat)
  case atStart => exact ⟨0, Nat.zero_le _, rfl, Kept.same _⟩
  case round =>
    obtain ⟨k, hk, rfl, Hkw⟩ := hrel
    by_cases hlt : k < n
    · have hSr := HA.out.kept Hkw.out
      have hSb := HB.out.kept Hkw.out
      obtain ⟨a, rfl, hblk⟩ := hSr.addr (by omega)
      obtain ⟨b, rfl, hblk2⟩ := hSb.addr (by omega)
      obtain ⟨xs, L, Bx, mx, cx, Hdx, hc1, hc2, HIx, hLx⟩ := hSr.named k hlt
      obtain ⟨ys, M, By, my, cy, Hdy, hc3, hc4, HIy, hLy⟩ := hSb.named k hlt
      have e := Hdx.out.symm.trans Hdy.out
      simp only [Prod.mk.injEq] at e
      obtain ⟨rfl, rfl⟩ := e
      have HQ : Hid (∀ W, Kept wr W → Calls Tryd.prog 38 #[.agg #[.slice Bx mx cx, .int .u64 L], .agg #[.slice By my cy, .int .u64 L]] W fun e w' => e = .returned (.bool true) ∧ Kept W w') := fun W hW => by
        have := rdsame_any Bx By mx my cx cy L L xs xs W (HIx.out.kept hW) (HIy.out.kept hW)
        simpa using this
      have hl1 := World.block_lt_of_cell? wr _ hc1
      have hl2 := World.block_lt_of_cell? wr _ hc2
      have hl3 := World.block_lt_of_cell? wr _ hc3
      have hl4 := World.block_lt_of_cell? wr _ hc4
      clear hSr hSb
      go_wp2_with fail
      refine wp_region_quiet_below (by kernel_rfl) (by kernel_rfl) ?_
      repeat (any_goals (first | go_big_quiet_step (((go_at_call 38; exact Calls.regrown_of (HQ.out _ (below_regrown _ _ _))))) | quiet_step (((go_at_call 38; exact Calls.regrown_of (HQ.out _ (below_regrown _ _ _))))) | (refine wpQuiet_step (fun K hK => ?_); go_simp; split <;> (refine hK _ ?_; clear hK K))))
      all_goals (refine wpQuiet_nil ?_; intro w1 hw'; replace hw' := Kept.regrown hw')
      have Hk9 := Lib.hid (Hkw.out.then hw')
      clear hw'
      go_wp2_with fail
      go_roundw
      case rel => exact ⟨k + 1, by omega, by go_num, Hk9.out⟩
      case measure => simp [intOf]; omega
    · have e : k = n := by omega
      subst e
      go_wp2_with fail
      go_ret
      exact ⟨rfl, Hkw.out⟩

theorem rright12_any (K R Ct : Int) (A1 A2 A3 : Option Addr) (n1 c1 n2 c2 n3 c3 : Nat) (C : ConB) (q : Int) (O : Nat) (A : Option Addr) (n c : Nat) (ds : List DomB) (w : World) (hC : ConIn w K R Ct A1 A2 A3 n1 c1 n2 c2 n3 c3 C) (hS : Doms w A n ds) (hO : w.heap[O]? = some (.cells #[.int .i64 q] 3)) :
    Calls Tryd.prog 33 #[.agg #[.int .i64 K, .slice A1 n1 c1, .slice A2 n2 c2, .int .i64 R, .int .i64 Ct, .slice A3 n3 c3], .slice A n c, .slice (some ⟨O, 0, Option.none⟩) 1 1] w fun e w' => e = .returned (.bool (decide (C.kind = q) && allMay ds && rightB C n)) ∧ Kept w w' := by
  have HC := Lib.hid hC
  have HS := Lib.hid hS
  have HO := Lib.hid hO
  have Hlen := Lib.hid hS.len
  have hsm := hS.small
  have Hkind := Lib.hid hC.kind
  clear hC hS hO
  have HB : Hid (∀ wr, Kept (w.alloc (.cells #[.int .i64 K, .slice A1 n1 c1, .slice A2 n2 c2, .int .i64 R, .int .i64 Ct, .slice A3 n3 c3] 24)) wr → wr.heap[w.heap.size]? = some (.cells #[.int .i64 K, .slice A1 n1 c1, .slice A2 n2 c2, .int .i64 R, .int .i64 Ct, .slice A3 n3 c3] 24)) := fun wr h => h.heapAt (heap_new _ _)
  go_enter Tryd.func33, Tryd.ntmps33
  go_wp2_with fail
  go_loopw [7, 8] (fun u v wr => ∃ k : Nat, k ≤ 1 ∧ v = .int .i64 k ∧ u = .bool (decide (k = 1) && decide (K = q)) ∧ Hid (Kept (w.alloc (.cells #[.int .i64 K, .slice A1 n1 c1, .slice A2 n2 c2, .int .i64 R, .int .i64 Ct, .slice A3 n3 c3] 24)) wr)) (fun _ v _ => 1 - (intOf v).toNat)
  case atStart => exact ⟨0, Nat.zero_le _, rfl, rfl, Kept.same _⟩
  case round =>
    obtain ⟨k, hk, rfl, rfl, Hkw⟩ := hrel
    have hb := HB.out wr Hkw.out
    have b0 := cell_at hb 0
    have b1 := cell_at hb 1
    have b2 := cell_at hb 2
    have b3 := cell_at hb 3
    have b4 := cell_at hb 4
    have b5 := cell_at hb 5
    simp only [List.getElem?_toArray, List.getElem?_cons_zero, List.getElem?_cons_succ] at b0 b1 b2 b3 b4 b5
    clear hb
    have hlb : w.heap.size < wr.heap.size := World.block_lt_of_cell? wr _ b0
    have hq := cell_at (((Kept.box _ _).then Hkw.out).heapAt HO.out) 0
    simp only [List.getElem?_toArray, List.getElem?_cons_zero] at hq
    have hlO : O < wr.heap.size := World.block_lt_of_cell? wr _ hq
    by_cases hk1 : k = 1
    · subst hk1
      have eK : (decide (1 = 1) && decide (K = q)) = decide (K = q) := by simp
      rw [eK]
      have Hb : Hid (decide (C.kind = q) = decide (K = q)) := by show _ = _; rw [Hkind.out]
      clear eK hq
      generalize decide (K = q) = b at *
      go_wp2_with fail
      clear b0 b1 b2 b3 b4 b5
      have Hkw0 := Lib.hid Hkw.out
      go_loopw [7, 9] (fun u v wq => ∃ j : Nat, j ≤ n ∧ v = .int .i64 j ∧ u = .bool (b && allMay (ds.take j)) ∧ Hid (Kept wr wq)) (fun _ v _ => n - (intOf v).toNat)
      case atStart => exact ⟨0, Nat.zero_le _, rfl, by simp [allMay], Kept.same _⟩
      case round =>
        obtain ⟨j, hj, rfl, rfl, Hkq⟩ := hrel
        have Hk2 := Lib.hid (Hkw0.out.then Hkq.out)
        have hb := HB.out wr Hk2.out
        have b0 := cell_at hb 0
        have b1 := cell_at hb 1
        have b2 := cell_at hb 2
        have b3 := cell_at hb 3
        have b4 := cell_at hb 4
        have b5 := cell_at hb 5
        simp only [List.getElem?_toArray, List.getElem?_cons_zero, List.getElem?_cons_succ] at b0 b1 b2 b3 b4 b5
        clear hb
        by_cases hlt : j < n
        · have hSr := HS.out.kept ((Kept.box _ _).then Hk2.out)
          obtain ⟨a, rfl, hblk⟩ := hSr.addr (by omega)
          obtain ⟨xs, L, Bx, mx, cx, Hdx, hc1, hc2, HIx, hLx⟩ := hSr.named j hlt
          have Hs : Hid (allMay (ds.take (j + 1)) = (allMay (ds.take j) && mayB xs L)) := by
            show _ = _
            rw [take_dom (by have := Hlen.out; omega) Hdx.out]
            unfold allMay
            rw [List.all_append]
            simp
          have HQ := Lib.hid (rmay_any Bx mx cx L xs wr HIx.out hLx)
          clear hSr
          generalize mayB xs L = m1 at HQ Hs
          generalize hq1 : (b && allMay (ds.take j)) = q1
          have Hq1 := Lib.hid hq1
          clear hq1
          cases q1 with
          | false =>
            go_wp2_with fail
            go_roundw
            case rel => exact ⟨j + 1, by omega, by go_num, by rw [Hs.out, ← Bool.and_assoc, Hq1.out]; rfl, Hkq.out⟩
            case measure => simp [intOf]; omega
          | true =>
            go_wp2_with fail
            refine HQ.out.mono ?_
            rintro e w1 ⟨rfl, hk1⟩
            have Hk1 := Lib.hid (Hkq.out.then hk1)
            clear hk1 b0 b1 b2 b3 b4 b5
            go_wp2_with fail
            go_roundw
            case rel => (repeat apply Exists.intro); exact ⟨⟨j + 1, by omega, by go_num, by rw [Hs.out, ← Bool.and_assoc, Hq1.out]; simp, Hk1.out⟩, rfl⟩
            case measure => simp [intOf]; omega
        · have e : j = n := by omega
          subst e
          rw [List.take_of_length_le (by have := Hlen.out; omega)]
          generalize hq1 : (b && allMay ds) = q1
          have Hq2 : Hid ((decide (C.kind = q) && allMay ds && rightB C j) = (q1 && rightB C j)) := by show _ = _; rw [Hb.out, hq1]
          clear hq1
          have HQ := Lib.hid (rright_any K R Ct A1 A2 A3 n1 c1 n2 c2 n3 c3 C j wr (HC.out.kept ((Kept.box _ _).then Hk2.out)))
          have HK2 := Lib.hid ((Kept.box _ _).then Hk2.out)
          cases q1 with
          | false =>
            go_wp2_with fail
            go_ret
            exact ⟨ret_bool (by rw [Hq2.out]; rfl), HK2.out⟩
          | true =>
            generalize hr : rightB C j = r at HQ
            have Hr := Lib.hid hr
            clear hr
            go_wp2_with fail
            refine HQ.out.mono ?_
            rintro e w1 ⟨rfl, hk1⟩
            have HK3 := Lib.hid (HK2.out.then hk1)
            clear hk1 b0 b1 b2 b3 b4 b5
            go_wp2_with fail
            go_ret
            exact ⟨ret_bool (by rw [Hq2.out, Hr.out]; simp), HK3.out⟩
    · have e : k = 0 := by omega
      subst e
      go_wp2_with fail
      refine wp_region_quiet_below (by kernel_rfl) (by kernel_rfl) ?_
      repeat (any_goals (first | go_big_quiet_step ((fail)) | quiet_step ((fail)) | (refine wpQuiet_step (fun K hK => ?_); go_simp; split <;> (refine hK _ ?_; clear hK K))))
      all_goals (refine wpQuiet_nil ?_; intro w1 hw'; replace hw' := Kept.regrown hw')
      all_goals try (exfalso; omega)
      have Hk9 := Lib.hid (Hkw.out.then hw')
      clear hw' b0 b1 b2 b3 b4 b5 hq
      go_wp2_with fail
      go_roundw
      case rel => exact ⟨1, by omega, by go_num, by first | rfl | (simp; exact beq_decide _ _), Hk9.out⟩
      case measure => simp [intOf]
end Go.Proofs.YtjmegicopdbkdaaDoor

set_option maxHeartbeats 1000000
set_option maxRecDepth 10000
namespace Go.Proofs.YtjmegicopdbkdaaDoor
open Go Go.RowKit Pl

/-- An array of 64 bools. -/
def rowB (f : Nat → Bool) : Array Value := (((List.range 64).map f).map Value.bool).toArray
theorem rowB_size (f : Nat → Bool) : (rowB f).size = 64 := by simp [rowB]
theorem rowB_get (f : Nat → Bool) {k : Nat} (hk : k < 64) : (rowB f)[k]? = some (.bool (f k)) := by
  unfold rowB
  rw [List.getElem?_toArray, List.getElem?_map, List.getElem?_map, List.getElem?_range hk]
  rfl
theorem rowB_set (f : Nat → Bool) (k : Nat) (b : Bool) : (rowB f).setIfInBounds k (.bool b) = rowB (fun j => if j = k then b else f j) := by
  unfold rowB
  rw [List.setIfInBounds_toArray]
  congr 1
  apply List.ext_getElem?
  intro i
  rw [List.getElem?_set]
  simp only [List.getElem?_map]
  by_cases hi : i < 64
  · rw [List.getElem?_range hi]
    by_cases h : k = i
    · subst h; simp [hi]
    · have h' : ¬ i = k := fun e => h e.symm
      simp [h, h']
  · rw [List.getElem?_eq_none (by simp; omega)]
    by_cases h : k = i
    · subst h; simp [hi]
    · simp [h]
theorem rowB_congr {f g : Nat → Bool} (h : ∀ j, j < 64 → f j = g j) : rowB f = rowB g := by
  unfold rowB
  have e : (List.range 64).map f = (List.range 64).map g := List.map_congr_left fun j hj => h j (List.mem_range.1 hj)
  rw [e]
theorem rowB_one (f : Nat → Bool) : (rowB f).all (·.oneCell') = true := by
  rw [Array.all_eq_true_iff_forall_mem]
  intro v hv
  simp [rowB] at hv
  obtain ⟨a, _, rfl⟩ := hv
  rfl
theorem rowB_cell (f : Nat → Bool) (w : World) {k : Nat} (hk : k < 64) : (w.alloc (.cells (rowB f) 102)).cell? ⟨w.heap.size, k, none⟩ = some (.bool (f k)) := by
  unfold World.cell?
  simp only [heap_new]
  exact rowB_get f hk
theorem rowB_info (f : Nat → Bool) : (Tryd.prog.info? 102).map (·.size) = some (rowB f).size := by
  rw [rowB_size]; kernel_rfl

/-- The number that the loop of Set has behind the k-th round: the bits from k on. -/
def high (f : Nat → Bool) (k : Nat) : Nat := mkSet (fun j => f (k + j)) (64 - k)
theorem mkSet_low (f : Nat → Bool) : ∀ n, mkSet f (n + 1) = (if f 0 then 1 else 0) + 2 * mkSet (fun j => f (j + 1)) n
  | 0 => by simp [mkSet]
  | n + 1 => by
    have ih := mkSet_low f n
    rw [mkSet, ih]
    rw [mkSet]
    have e : 2 ^ (n + 1) = 2 * 2 ^ n := by rw [Nat.pow_succ]; omega
    rw [e]
    split <;> omega
theorem high_step (f : Nat → Bool) {k : Nat} (hk : k < 64) : high f k = (if f k then 1 else 0) + 2 * high f (k + 1) := by
  unfold high
  obtain ⟨n, hn⟩ : ∃ n, 64 - k = n + 1 := ⟨64 - k - 1, by omega⟩
  have e : 64 - (k + 1) = n := by omega
  rw [hn, mkSet_low, e]
  have e2 : (fun j => f (k + (j + 1))) = fun j => f (k + 1 + j) := by funext j; congr 1; omega
  rw [e2]
  rfl
theorem high_end (f : Nat → Bool) : high f 64 = 0 := by simp [high, mkSet]
theorem high_all (f : Nat → Bool) : high f 0 = mkSet f 64 := by simp [high]
theorem high_lt (f : Nat → Bool) {k : Nat} (hk : k < 64) : 2 * high f (k + 1) + 1 < 2 ^ 64 := by
  have h := mkSet_lt (fun j => f (k + 1 + j)) (64 - (k + 1))
  have h2 : (2 : Nat) ^ (64 - (k + 1)) ≤ 2 ^ 63 := Nat.pow_le_pow_right (by decide) (by omega)
  unfold high
  omega

theorem rset_any (f : Nat → Bool) (w : World) :
    Calls Tryd.prog 82 #[.agg (rowB f)] w fun e w' => e = .returned (.int .u64 (mkSet f 64 : Nat)) ∧ Kept w w' := by
  have hcell : Hid (∀ k, k < 64 → (w.alloc (.cells (rowB f) 102)).cell? ⟨w.heap.size, k, none⟩ = some (.bool (f k))) := fun k hk => rowB_cell f w hk
  have Hall := Lib.hid (high_all f)
  have hk0 : Hid (Kept w (w.alloc (.cells (rowB f) 102))) := Kept.box _ _
  generalize rowB f = vs at *
  go_enter Tryd.func82, Tryd.ntmps82
  go_wp2
  go_loop [3, 4] (fun u v => ∃ k : Nat, k ≤ 64 ∧ v = .int .i64 ((k : Int) - 1) ∧ ∃ h : Nat, u = .int .u64 h ∧ Hid (h = high f k)) (fun _ v => (intOf v + 1).toNat)
  case atStart => exact ⟨64, Nat.le_refl _, rfl, 0, rfl, by show 0 = high f 64; rw [high_end]⟩
  case round =>
    obtain ⟨k, hk, rfl, h, rfl, Hh⟩ := hrel
    by_cases hlt : 0 < k
    · obtain ⟨m, rfl⟩ : ∃ m, k = m + 1 := ⟨k - 1, by omega⟩
      have hm : m < 64 := by omega
      have e1 : ((m + 1 : Nat) : Int) - 1 = m := by omega
      have hc := hcell.out m hm
      have hb : 2 * h + 1 < 2 ^ 64 := by rw [Hh.out]; exact high_lt f hm
      have Hs := Lib.hid (high_step f hm)
      have Hb := Lib.hid hb
      have hw1 : IntKind.u64.wrap (2 * (h : Int)) = ((2 * h : Nat) : Int) := by rw [IntKind.wrap_u64]; omega
      have hw2 : IntKind.u64.wrap (((2 * h : Nat) : Int) + 1) = ((2 * h + 1 : Nat) : Int) := by rw [IntKind.wrap_u64]; omega
      clear hb
      rw [e1]
      cases hf : f m with
      | true =>
        rw [hf] at hc
        have Hn : Hid (2 * h + 1 = high f m) := by
          show _ = _
          rw [Hs.out, hf, ← Hh.out, if_pos rfl, Nat.add_comm]
        clear hf
        generalize 2 * h + 1 = h2 at *
        generalize 2 * h = h1 at *
        go_wp2
        go_round
        case rel => exact ⟨m, by omega, rfl, h2, rfl, Hn⟩
        case measure => simp [intOf] <;> omega
      | false =>
        rw [hf] at hc
        have Hn : Hid (2 * h = high f m) := by
          show _ = _
          rw [Hs.out, hf, ← Hh.out, if_neg (by decide), Nat.zero_add]
        clear hf hw2
        generalize 2 * h = h1 at *
        go_wp2
        go_round
        case rel => exact ⟨m, by omega, rfl, h1, rfl, Hn⟩
        case measure => simp [intOf] <;> omega
    · have e : k = 0 := by omega
      subst e
      go_wp2
      go_ret
      exact ⟨ret_u64 (by rw [Hh.out, Hall.out]), hk0.out⟩

end Go.Proofs.YtjmegicopdbkdaaDoor

set_option maxHeartbeats 1000000
set_option maxRecDepth 10000
namespace Go.Proofs.YtjmegicopdbkdaaDoor
open Go Go.RowKit Pl

theorem step_append_zero {ops : Array Oper} {o : Oper} {a : Act} {w : World} {K : Act → World → Prop} {Q : Exit → Act → World → Prop} {E : Prop} (hgd : o.guard = Option.none) (s x : Operand)
    (ho : o.op = .call { callee := .builtin .append, args := #[s, x], argTypes := #[22, 22] }) (g n c : Nat) (A : Option Addr) (hn : n = 0)
    (hs : a.eval s = .slice (some ⟨g, 0, Option.none⟩) 0 0) (hx : a.eval x = .slice A n c)
    (h : K (a.put o.dst (.slice (some ⟨g, 0, Option.none⟩) 0 0)) w) :
    if Region.wanted o (yielded ops a.tmps) = true then Oper.wp Tryd.prog o a w K Q else E := by
  subst hn
  have hw : Region.wanted o (yielded ops a.tmps) = true := by simp [Region.wanted, hgd]
  rw [if_pos hw]
  unfold Oper.wp execOp
  simp only [ho, resolve, invoke, builtin, Sem.run_bind, Sem.run_pure, Result.andThen_ok, List.map_toArray, List.map_cons, List.map_nil, hs, hx]
  cases A with
  | none =>
    simp [go_sem]
    exact h
  | some b =>
    simp [go_sem]
    exact h
end Go.Proofs.YtjmegicopdbkdaaDoor

/-
  Plain: what is kept by questions at a constraint's variables, place by place.
-/
import Derived.Test.YtjmegicopdbkdaaDoorConPlain
namespace Go.Proofs.YtjmegicopdbkdaaDoor
namespace Pl

/-- What the questions of the first j variables keep. -/
def varsKp (vars : List Int) (g : Nat → Int → Bool) (j i : Nat) (x : Int) : Bool := (List.range j).all fun k => !decide ((vars.getD k 0).toNat = i) || g k x
theorem varsKp_iff {vars : List Int} {g : Nat → Int → Bool} {j i : Nat} {x : Int} : varsKp vars g j i x = true ↔ ∀ k, k < j → (vars.getD k 0).toNat = i → g k x = true := by
  unfold varsKp
  rw [List.all_eq_true]
  constructor
  · intro h k hk e
    have := h k (List.mem_range.2 hk)
    rw [decide_eq_true e] at this
    simpa using this
  · intro h k hk
    by_cases e : (vars.getD k 0).toNat = i
    · rw [h k (List.mem_range.1 hk) e]; simp
    · rw [decide_eq_false e]; rfl
theorem varsKp_succ (vars : List Int) (g : Nat → Int → Bool) (j i : Nat) (x : Int) : varsKp vars g (j + 1) i x = (varsKp vars g j i x && (!decide ((vars.getD j 0).toNat = i) || g j x)) := by
  unfold varsKp
  rw [List.range_succ, List.all_append]; simp

/-- What is kept behind the first ones of a list. -/
def pkV (g : Int → Bool) (l : List Int) (x : Int) : Bool := l.all fun v => x != v || g v
theorem pkV_none (g : Int → Bool) {d : DomB} (hm : mayB d.1 d.2 = true) : keepD (pkV g []) d = d := keepD_all hm (fun _ _ => rfl)
theorem pkV_yes {g : Int → Bool} {l : List Int} {v : Int} (hv : g v = true) : pkV g (l ++ [v]) = pkV g l := by
  funext x; unfold pkV; rw [List.all_append]; simp [hv]
theorem pkV_no {g : Int → Bool} {l : List Int} {v : Int} (hv : g v = false) (d : DomB) : keepD (fun x => x != v) (keepD (pkV g l) d) = keepD (pkV g (l ++ [v])) d := by
  rw [keepD_keepD]
  congr 1
  funext x; unfold pkV; rw [List.all_append]; simp [hv]

/-- The domains in the middle of a variable's round. -/
def midB (vars : List Int) (g : Nat → Int → Bool) (ds : List DomB) (j p m : Nat) : List DomB :=
  (stepB (varsKp vars g j) ds).set p (keepD (pkV (g j) ((listB (ds.getD p ([], 0)).1 (ds.getD p ([], 0)).2).take m)) ((stepB (varsKp vars g j) ds).getD p ([], 0)))

theorem set_getD_self {α : Type} (l : List α) (p : Nat) (d : α) (hp : p < l.length) : l.set p (l.getD p d) = l := by
  apply List.ext_getElem (by simp)
  intro i h1 h2
  rw [List.getElem_set]
  split
  · rename_i e; subst e
    rw [List.getD_eq_getElem?_getD, List.getElem?_eq_getElem hp]; rfl
  · rfl

theorem midB_length (vars : List Int) (g : Nat → Int → Bool) (ds : List DomB) (j p m : Nat) : (midB vars g ds j p m).length = ds.length := by
  unfold midB; rw [List.length_set, stepB_length]
theorem midB_at (vars : List Int) (g : Nat → Int → Bool) (ds : List DomB) (j p m : Nat) (hp : p < ds.length) :
    (midB vars g ds j p m).getD p ([], 0) = keepD (pkV (g j) ((listB (ds.getD p ([], 0)).1 (ds.getD p ([], 0)).2).take m)) (keepD (varsKp vars g j p) (ds.getD p ([], 0))) := by
  unfold midB
  rw [getD_set _ _ _ _ (by rw [stepB_length]; exact hp), if_pos rfl, stepB_getD _ _ hp]
theorem midB_may {vars : List Int} {g : Nat → Int → Bool} {ds : List DomB} {j p m : Nat} (hp : p < ds.length) (hm : allMay ds = true) : mayB ((midB vars g ds j p m).getD p ([], 0)).1 ((midB vars g ds j p m).getD p ([], 0)).2 = true := by
  rw [midB_at _ _ _ _ _ _ hp]
  exact keepD_may (keepD_may (allMay_at hm hp))
theorem midB_vals (vars : List Int) (g : Nat → Int → Bool) (ds : List DomB) (j p m : Nat) (hp : p < ds.length) : ((midB vars g ds j p m).getD p ([], 0)).1 = (ds.getD p ([], 0)).1 := by
  rw [midB_at _ _ _ _ _ _ hp, keepD_fst, keepD_fst]

theorem stepB_varsKp_zero {vars : List Int} {g : Nat → Int → Bool} {ds : List DomB} (hm : allMay ds = true) : stepB (varsKp vars g 0) ds = ds := by
  apply ext_getD (stepB_length _ _)
  intro i hi
  rw [stepB_length] at hi
  rw [stepB_getD _ _ hi]
  exact keepD_all (allMay_at hm hi) (fun _ _ => rfl)

theorem midB_zero {vars : List Int} {g : Nat → Int → Bool} {ds : List DomB} {j p : Nat} (hp : p < ds.length) (hm : allMay ds = true) : midB vars g ds j p 0 = stepB (varsKp vars g j) ds := by
  unfold midB
  rw [List.take_zero, stepB_getD _ _ hp, pkV_none _ (keepD_may (allMay_at hm hp)), ← stepB_getD _ _ hp]
  exact set_getD_self _ _ _ (by rw [stepB_length]; exact hp)

theorem take_one {l : List Int} {m : Nat} {v : Int} (hm : m < l.length) (hv : l.getD m 0 = v) : l.take (m + 1) = l.take m ++ [v] := by
  rw [List.take_succ_eq_append_getElem hm]
  rw [List.getD_eq_getElem?_getD, List.getElem?_eq_getElem hm] at hv
  simp only [Option.getD_some] at hv
  rw [hv]

theorem midB_yes {vars : List Int} {g : Nat → Int → Bool} {ds : List DomB} {j p m : Nat} {v : Int} (hl : m < (listB (ds.getD p ([], 0)).1 (ds.getD p ([], 0)).2).length) (hv : (listB (ds.getD p ([], 0)).1 (ds.getD p ([], 0)).2).getD m 0 = v) (hg : g j v = true) :
    midB vars g ds j p (m + 1) = midB vars g ds j p m := by
  unfold midB
  rw [take_one hl hv, pkV_yes hg]
theorem midB_no {vars : List Int} {g : Nat → Int → Bool} {ds : List DomB} {j p m : Nat} {v : Int} (hp : p < ds.length) (hl : m < (listB (ds.getD p ([], 0)).1 (ds.getD p ([], 0)).2).length) (hv : (listB (ds.getD p ([], 0)).1 (ds.getD p ([], 0)).2).getD m 0 = v) (hg : g j v = false) :
    midB vars g ds j p (m + 1) = (midB vars g ds j p m).set p (keepD (fun x => x != v) ((midB vars g ds j p m).getD p ([], 0))) := by
  rw [midB_at _ _ _ _ _ _ hp]
  unfold midB
  rw [List.set_set, take_one hl hv, stepB_getD _ _ hp, pkV_no hg]
theorem midB_end {vars : List Int} {g : Nat → Int → Bool} {ds : List DomB} {j p m : Nat} (hp : p < ds.length) (hm : allMay ds = true) (hj : vars.getD j 0 = (p : Nat)) (hl : (listB (ds.getD p ([], 0)).1 (ds.getD p ([], 0)).2).length = m) :
    midB vars g ds j p m = stepB (varsKp vars g (j + 1)) ds := by
  apply ext_getD (by rw [midB_length, stepB_length])
  intro i hi
  rw [midB_length] at hi
  rw [stepB_getD _ _ hi]
  by_cases e : i = p
  · subst e
    rw [midB_at _ _ _ _ _ _ hi, List.take_of_length_le (by omega), keepD_keepD]
    refine keepD_congr (allMay_at hm hi) fun v hv => ?_
    rw [varsKp_succ, hj, Int.toNat_natCast, decide_eq_true rfl]
    congr 1
    simp only [Bool.not_true, Bool.false_or]
    unfold pkV
    rw [Bool.eq_iff_iff, List.all_eq_true]
    constructor
    · intro h
      simpa using h v hv
    · intro h u _
      by_cases e : v = u
      · subst e; simp [h]
      · simp [e]
  · unfold midB
    rw [getD_set _ _ _ _ (by rw [stepB_length]; exact hp), if_neg e, stepB_getD _ _ hi]
    congr 1
    funext x
    rw [varsKp_succ, hj, Int.toNat_natCast, decide_eq_false (fun h => e h.symm)]
    simp

/-! ### The laws of a step that keeps so -/
theorem varsKp_mono {vars : List Int} {g h : Nat → Int → Bool} {j i : Nat} {x : Int} (hgh : ∀ k, k < j → (vars.getD k 0).toNat = i → g k x = true → h k x = true) (hx : varsKp vars g j i x = true) : varsKp vars h j i x = true :=
  varsKp_iff.2 fun k hk e => hgh k hk e (varsKp_iff.1 hx k hk e)

end Pl
end Go.Proofs.YtjmegicopdbkdaaDoor

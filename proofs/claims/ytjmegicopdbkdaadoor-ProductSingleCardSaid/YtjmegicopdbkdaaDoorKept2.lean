/-
  Contracts of the package dom: Less.
-/
import Derived.Test.YtjmegicopdbkdaaDoorKept
set_option maxHeartbeats 1000000
set_option maxRecDepth 10000
namespace Go.Proofs.YtjmegicopdbkdaaDoor
open Go Go.RowKit Pl

theorem two_set01 {w : World} {O : Nat} {v0 v1 : Value} {t : TypeId} (h : w.heap[O]? = some (.cells #[v0, v1] t (0, 0))) (x0 x1 : Value) : ((w.setCell ⟨O, 0, none⟩ x0).setCell ⟨O, 1, none⟩ x1).heap[O]? = some (.cells #[x0, x1] t (0, 0)) := by
  have h0 : (w.setCell ⟨O, 0, none⟩ x0).heap[O]? = some (.cells #[x0, v1] t (0, 0)) := by rw [heap_setCell_same w O 0 _ t x0 h]; rfl
  exact two_set1 h0 x1
theorem heap_new3 (w : World) (o o' o'' : Obj) : (((w.alloc o).alloc o').alloc o'').heap[w.heap.size + 1 + 1]? = some o'' := by
  have := heap_new ((w.alloc o).alloc o') o''
  rwa [World.size_alloc, World.size_alloc] at this
/-- A domain is stored into a variable of the call's own. -/
theorem dom_out {w wr : World} {R n : Nat} {B : Option Addr} {xs : List Int} (hk : Kept w wr) (hR : w.heap.size ≤ R) (hI : Ints wr B n xs) (hB : ∀ a, B = some a → R < a.block) (x0 x1 : Value) :
    Kept w ((wr.setCell ⟨R, 0, none⟩ x0).setCell ⟨R, 1, none⟩ x1) ∧ Ints ((wr.setCell ⟨R, 0, none⟩ x0).setCell ⟨R, 1, none⟩ x1) B n xs := by
  have h2 : KeptBut R wr ((wr.setCell ⟨R, 0, none⟩ x0).setCell ⟨R, 1, none⟩ x1) := (KeptBut.set _ (a := ⟨R, 0, none⟩) rfl _).then (KeptBut.set _ (a := ⟨R, 1, none⟩) rfl _)
  exact ⟨((KeptBut.of hk R).then h2).kept hR, hI.keptBut h2 (fun a ha => by have := hB a ha; omega)⟩

theorem askedDom_any (A : Option Addr) (n c L : Nat) (xs : List Int) (v : Int) (Bf Bv : Nat) (w : World) (hS : Ints w A n xs) (hL : L < 2 ^ 64) (hT : Tab w) (hm : mayB xs L = true)
    (hf : w.cell? ⟨Bf, 0, none⟩ = some (.func (.func 65) #[] #[.pointer (some ⟨Bv, 0, none⟩)])) (hv : w.cell? ⟨Bv, 0, none⟩ = some (.int .i64 v)) :
    Calls Tryd.prog 79 #[.agg #[.slice A n c, .int .u64 L], .func (.func 80) #[] #[.pointer (some ⟨Bf, 0, none⟩)]] w (DomPost (keepD (fun x => x != v) (xs, L)) w) := by
  have HS := Lib.hid hS
  have HL := Lib.hid hL
  have HT := Lib.hid hT
  have Hm := Lib.hid hm
  have Hf := Lib.hid hf
  have Hv := Lib.hid hv
  have hmay : Hid (∀ W, Ints W A n xs → Calls Tryd.prog 28 #[.agg #[.slice A n c, .int .u64 L]] W fun e w' => e = .returned (.bool true) ∧ Kept W w') := fun W hW => by
    have := may_any A n c L xs W hW HL.out
    rwa [hm] at this
  clear hS hL hT hm hf hv
  go_enter Tryd.func79, Tryd.ntmps79
  go_wp2_with fail
  refine (hmay.out _ (HS.out.kept (((Kept.box _ _).newBlock _).newBlock _))).mono ?_
  rintro e w1 ⟨rfl, hk⟩
  have hb0 := hk.cellAt ((Kept.box _ _).cellAt ((Kept.box _ _).cellAt (box2_0 w (.slice A n c) (.int .u64 L) _)))
  have hb1 := hk.cellAt ((Kept.box _ _).cellAt ((Kept.box _ _).cellAt (box2_1 w (.slice A n c) (.int .u64 L) _)))
  have HR := Lib.hid (hk.heapAt ((Kept.box _ _).heapAt (heap_new2 _ _ _)))
  have Hk := Lib.hid ((((Kept.box _ _).newBlock _).newBlock _).then hk)
  have hsz := hk.size
  simp only [World.size_alloc] at hsz
  clear hmay hk
  go_wp2_with fail
  refine (kept1_any A n c L xs v Bf Bv _ (HS.out.kept Hk.out) HL.out (HT.out.kept Hk.out) Hm.out (Hk.out.cellAt Hf.out) (Hk.out.cellAt Hv.out)).mono ?_
  rintro e w2 ⟨B, cb, rfl, hI, hk2, hfr⟩
  generalize hd : keepD (fun x => x != v) (xs, L) = d at *
  have hR := hk2.heapAt HR.out
  have hR0 := cell_at hR 0
  have hR1 := cell_at hR 1
  have hf0 := frozen_at hR 0
  have hf1 := frozen_at hR 1
  simp only [List.getElem?_toArray, List.getElem?_cons_zero, List.getElem?_cons_succ] at hR0 hR1
  obtain ⟨hkR, hIr⟩ := dom_out (R := w.heap.size + 1) (Hk.out.then hk2) (by omega) hI (fun a ha => by have := hfr a ha; omega) (.slice B d.1.length cb) (.int .u64 d.2)
  have HkR := Lib.hid hkR
  have HIr := Lib.hid hIr
  have Hfr : Hid (Fresh w B) := Fresh.mono hfr (by omega)
  clear hI hk2 hR hkR hIr hfr
  go_wp2
  refine bodyPost_ret (v := .agg #[.slice B d.1.length cb, .int .u64 d.2]) (by simp [results, Tryd.results79, go_sem, hR0, hR1]) rfl ?_
  subst hd
  exact ⟨B, cb, rfl, HIr.out, HkR.out, Hfr.out⟩

/-- A domain that may be, of which all is kept but one value. -/
theorem domkept_any (A : Option Addr) (n c L : Nat) (xs : List Int) (v : Int) (Bv : Nat) (w : World) (hS : Ints w A n xs) (hL : L < 2 ^ 64) (hT : Tab w) (hm : mayB xs L = true)
    (hv : w.cell? ⟨Bv, 0, none⟩ = some (.int .i64 v)) :
    Calls Tryd.prog 64 #[.agg #[.slice A n c, .int .u64 L], .func (.func 65) #[] #[.pointer (some ⟨Bv, 0, none⟩)]] w (DomPost (keepD (fun x => x != v) (xs, L)) w) := by
  have HS := Lib.hid hS
  have HL := Lib.hid hL
  have HT := Lib.hid hT
  have Hm := Lib.hid hm
  have Hv := Lib.hid hv
  clear hS hL hT hm hv
  go_enter Tryd.func64, Tryd.ntmps64
  go_wp2_with fail
  refine (askedDom_any A n c L xs v (w.heap.size + 1) Bv _ (HS.out.kept (((Kept.box _ _).newBlock _).newBlock _)) HL.out (HT.out.kept (((Kept.box _ _).newBlock _).newBlock _)) Hm.out ?_ ((((Kept.box _ _).newBlock _).newBlock _).cellAt Hv.out)).mono ?_
  · exact (Kept.box _ _).cellAt (by rw [cell_at (heap_new2 _ _ _) 0]; rfl)
  rintro e w2 ⟨B, cb, rfl, hI, hk2, hfr⟩
  generalize hd : keepD (fun x => x != v) (xs, L) = d at *
  have hR := hk2.heapAt (heap_new3 _ _ _ _)
  have hR0 := cell_at hR 0
  have hR1 := cell_at hR 1
  have hf0 := frozen_at hR 0
  have hf1 := frozen_at hR 1
  simp only [List.getElem?_toArray, List.getElem?_cons_zero, List.getElem?_cons_succ] at hR0 hR1
  obtain ⟨hkR, hIr⟩ := dom_out (R := w.heap.size + 1 + 1) ((((Kept.box _ _).newBlock _).newBlock _).then hk2) (by omega) hI (fun a ha => by have := hfr a ha; simp only [World.size_alloc] at this; omega) (.slice B d.1.length cb) (.int .u64 d.2)
  have HkR := Lib.hid hkR
  have HIr := Lib.hid hIr
  have Hfr : Hid (Fresh w B) := Fresh.mono hfr (by simp only [World.size_alloc]; omega)
  clear hI hk2 hR hkR hIr hfr
  go_wp2
  refine bodyPost_ret (v := .agg #[.slice B d.1.length cb, .int .u64 d.2]) (by simp [results, Tryd.results64, go_sem, hR0, hR1]) rfl ?_
  subst hd
  exact ⟨B, cb, rfl, HIr.out, HkR.out, Hfr.out⟩

theorem domless_any (A : Option Addr) (n c L : Nat) (xs : List Int) (v : Int) (w : World) (hS : Ints w A n xs) (hL : L < 2 ^ 64) (hT : Tab w) (hm : mayB xs L = true) :
    Calls Tryd.prog 32 #[.agg #[.slice A n c, .int .u64 L], .int .i64 v] w (DomPost (keepD (fun x => x != v) (xs, L)) w) := by
  have HS := Lib.hid hS
  have HL := Lib.hid hL
  have HT := Lib.hid hT
  have Hm := Lib.hid hm
  clear hS hL hT hm
  go_enter Tryd.func32, Tryd.ntmps32
  go_wp2_with fail
  refine (domkept_any A n c L xs v (w.heap.size + 1) _ (HS.out.kept (((Kept.box _ _).newBlock _).newBlock _)) HL.out (HT.out.kept (((Kept.box _ _).newBlock _).newBlock _)) Hm.out ?_).mono ?_
  · exact (Kept.box _ _).cellAt (by rw [cell_at (heap_new2 _ _ _) 0]; rfl)
  rintro e w2 ⟨B, cb, rfl, hI, hk2, hfr⟩
  generalize hd : keepD (fun x => x != v) (xs, L) = d at *
  have hR := hk2.heapAt (heap_new3 _ _ _ _)
  have hR0 := cell_at hR 0
  have hR1 := cell_at hR 1
  have hf0 := frozen_at hR 0
  have hf1 := frozen_at hR 1
  simp only [List.getElem?_toArray, List.getElem?_cons_zero, List.getElem?_cons_succ] at hR0 hR1
  obtain ⟨hkR, hIr⟩ := dom_out (R := w.heap.size + 1 + 1) ((((Kept.box _ _).newBlock _).newBlock _).then hk2) (by omega) hI (fun a ha => by have := hfr a ha; simp only [World.size_alloc] at this; omega) (.slice B d.1.length cb) (.int .u64 d.2)
  have HkR := Lib.hid hkR
  have HIr := Lib.hid hIr
  have Hfr : Hid (Fresh w B) := Fresh.mono hfr (by simp only [World.size_alloc]; omega)
  clear hI hk2 hR hkR hIr hfr
  go_wp2
  refine bodyPost_ret (v := .agg #[.slice B d.1.length cb, .int .u64 d.2]) (by simp [results, Tryd.results32, go_sem, hR0, hR1]) rfl ?_
  subst hd
  exact ⟨B, cb, rfl, HIr.out, HkR.out, Hfr.out⟩
end Go.Proofs.YtjmegicopdbkdaaDoor

/-
  What the listed table gives the walks; the door's own heap meets the condition.
-/
import Derived.Test.YtjmegicopdbkdaaDoorRows
import Derived.Test.YtjmegicopdbkdaaDoorBits2
import Derived.ProofKit
import Derived.LaidMore
import Derived.OpenShut
import Derived.Stop.Joined
namespace Go.Proofs.YtjmegicopdbkdaaDoor
open Go Go.ChangeShapes Go.WideShapes Go.ChangeAt Go.RowKit

abbrev laidL : List (String × DataW Unit) := [("math/bits.deBruijn64tab", Rows.laid_math_bits_deBruijn64tab)]
set_option maxRecDepth 100000 in
theorem door_met (os : Os) (args : Array Value) : laidMetH Tryd.prog laidL ((World.doorLaid Tryd.prog 400 os).forCall (fun _ _ => 0) ⟨#[], args, []⟩).memory :=
  laidMetH_of_parts3 (fuel := 8) (laidMet_of_run' 8 (by kernel_rfl) (by kernel_rfl)) (by kernel_rfl) (by kernel_rfl)
theorem laid_list : (Rows.laid_math_bits_deBruijn64tab : DataW Unit) = .agg (Lib.deBruijn64tab.map fun (n : Nat) => .lit (.int .u8 (n : Int))) := rfl
theorem tab_len : Lib.deBruijn64tab.length = 64 := rfl
set_option maxRecDepth 100000 in
theorem tab_of_laid {W : World} (h : laidMetH Tryd.prog laidL W) : Tab W := by
  rw [MakeChecks.laidMetH_plain _ _ _ (by kernel_rfl)] at h
  obtain ⟨ps, ⟨g, t, cs, fuel, p, q, hg, ht, hv, hd, _, _⟩, _, _⟩ := h
  obtain rfl := Option.some.inj ((show Tryd.prog.globalNamed "math/bits.deBruijn64tab" = some 0 by kernel_rfl).symm.trans hg)
  obtain rfl := Option.some.inj ((show (Tryd.prog.globals[0]?).map (·.type) = some 108 by kernel_rfl).symm.trans ht)
  have cu : Tryd.prog.cellsOf 5 = 1 := by kernel_rfl
  have ca : Tryd.prog.cellsOf 108 = 64 := by kernel_rfl
  obtain ⟨xs, m, _, ex, hlen, hl, hel⟩ := DataW.trod_array Tryd.underlying108 hd
  rw [ca] at hlen
  rw [laid_list] at ex
  have e3 := DataW.agg.inj (Prod.mk.inj ex).1
  intro j hj
  rw [tab_len] at hj
  have k := hel j hj
  rw [cu] at k
  have hx : xs[j]? = some xs[j] := List.getElem?_eq_getElem (by omega)
  rw [hx] at k
  obtain ⟨z, a, b, _⟩ := DataW.trod_int Tryd.underlying5 k
  have ej : (xs.map (·.1))[j]? = (Lib.deBruijn64tab.map fun (n : Nat) => (DataW.lit (.int .u8 (n : Int)) : DataW Unit))[j]? := by rw [e3]
  rw [List.getElem?_map, List.getElem?_map, hx, List.getElem?_eq_getElem (by rw [tab_len]; exact hj)] at ej
  simp only [Option.map_some, Option.some.injEq] at ej
  rw [b] at ej
  have ez : z = ((Lib.deBruijn64tab[j]'(by rw [tab_len]; exact hj) : Nat) : Int) := by simpa using ej
  rw [World.var?_cell (show Tryd.prog.globalNamed "math/bits.deBruijn64tab" = some 0 by kernel_rfl) hv j]
  have hc : cs[j]? = some (.int .u8 z) := by
    have h1 : (cs.toList.drop (j * 1)).take 1 = [.int .u8 z] := a
    rw [Nat.mul_one] at h1
    have h2 : (cs.toList.drop j)[0]? = some (.int .u8 z) := by
      have := congrArg (fun l => l[0]?) h1
      simpa [List.getElem?_take] using this
    rw [List.getElem?_drop] at h2
    simpa using h2
  rw [hc, ez]
  rw [List.getD_eq_getElem?_getD, List.getElem?_eq_getElem (by rw [tab_len]; exact hj)]
  rfl
end Go.Proofs.YtjmegicopdbkdaaDoor

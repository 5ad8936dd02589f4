/-
  NARROWER THAN 'FOR EVERY INPUT', by the rows' own cells (each row's printed sentence says how): BitsTells: laid · BitsBack: laid · BitsParts: laid · ElementTells: laid · ElementSound: laid · ElementFalls: laid · ElementSingle: laid · TableTells: laid · TableSound: laid · TableFalls: laid · TableSingle: laid.
  DERIVED. THE GIVEN ROWS OF THIS SEAT. 11 by the template 'for every input the law returns true; each argument reads behind the call as it read before'; 0 by the template 'total and deterministic' (their statements: YthddanjmnifloaaDoorTotals.lean).
  GIVEN WITH THE SEED: the statements are not yours to turn. If you find one false, say at which input.
  Laid BY PROGRAM, IN A SANDBOX (cutbox-rows.mjs): the forced cells as the released guide's own fill.sh prints them over the translation b11c1b2f825a067f… (all of the seat's roots in one cut). By AI agents, Wed Nov 11 2026. No macro, syntax, notation, axiom, sorry.
-/
import Derived.Test.YthddanjmnifloaaDoorChecked
import GoSem.Claim
import GoSem.ClaimJoined
import GoSem.ClaimMapViews
import Derived.JoinedTies
import Derived.KernelRfl
namespace Go.Proofs.YthddanjmnifloaaDoor
/- THE CELL 'sum', in the pinned program and in every row, IS THE sha256 OF THE DUMP (.gsa) THAT YthddanjmnifloaaDoorProg.lean LOADS. Nothing in Lean hashes anything: it is a label: what it is worth is what the hold of that sum in a sandbox is worth. -/
noncomputable def Tryd.pinned : Pinned := { name := "ythddanjmnifloaadoor", sum := "b11c1b2f825a067fd5f05df6ab9178805ef58d3b4fd3be5368cbef2290462ed9", checked := Tryd.checked }
namespace Rows
def none {H : Type} : Left H := { results := [], args := [] }

/- WHAT THE LISTED PACKAGE-LEVEL VARIABLES READ AS WHEN THE CALL BEGINS. Each datum BY PROGRAM (the guide's laid-datum.mjs) off the statement by which the dump's own 'gosem.cut.vars' lays the variable. In a bare row this is a premise. The card (YthddanjmnifloaaDoorCards.lean) ties it to the program's text. -/
def laid_math_bits_deBruijn64tab {H : Type} : DataW H := .agg [.lit (.int .u8 0), .lit (.int .u8 1), .lit (.int .u8 56), .lit (.int .u8 2), .lit (.int .u8 57), .lit (.int .u8 49), .lit (.int .u8 28), .lit (.int .u8 3), .lit (.int .u8 61), .lit (.int .u8 58), .lit (.int .u8 42), .lit (.int .u8 50), .lit (.int .u8 38), .lit (.int .u8 29), .lit (.int .u8 17), .lit (.int .u8 4), .lit (.int .u8 62), .lit (.int .u8 47), .lit (.int .u8 59), .lit (.int .u8 36), .lit (.int .u8 45), .lit (.int .u8 43), .lit (.int .u8 51), .lit (.int .u8 22), .lit (.int .u8 53), .lit (.int .u8 39), .lit (.int .u8 33), .lit (.int .u8 30), .lit (.int .u8 24), .lit (.int .u8 18), .lit (.int .u8 12), .lit (.int .u8 5), .lit (.int .u8 63), .lit (.int .u8 55), .lit (.int .u8 48), .lit (.int .u8 27), .lit (.int .u8 60), .lit (.int .u8 41), .lit (.int .u8 37), .lit (.int .u8 16), .lit (.int .u8 46), .lit (.int .u8 35), .lit (.int .u8 44), .lit (.int .u8 21), .lit (.int .u8 52), .lit (.int .u8 32), .lit (.int .u8 23), .lit (.int .u8 11), .lit (.int .u8 54), .lit (.int .u8 26), .lit (.int .u8 40), .lit (.int .u8 15), .lit (.int .u8 34), .lit (.int .u8 20), .lit (.int .u8 31), .lit (.int .u8 10), .lit (.int .u8 25), .lit (.int .u8 14), .lit (.int .u8 19), .lit (.int .u8 9), .lit (.int .u8 13), .lit (.int .u8 8), .lit (.int .u8 7), .lit (.int .u8 6)]

/-- 'stratagemlaw02.BitsTells': WHATEVER THE INPUT: true; the input reads as it did. -/
def bitsTellsSpec : ChangeSpec := { name := "bitsTells", fn := fun _ => fun
  | [d1, d2, d3, d4] => { results := [.lit (.bool true)], args := [d1, d2, d3, d4] }
  | _ => none }
def bitsTellsRow : OpenClaim := { program := "ythddanjmnifloaadoor", sum := "b11c1b2f825a067fd5f05df6ab9178805ef58d3b4fd3be5368cbef2290462ed9", func := "stratagem/stratagemlaw02.BitsTells", spec := "bitsTells", unfollowed := true, recurses := true, named := ["math/bits.deBruijn64tab"], apart := false, laid := [("math/bits.deBruijn64tab", laid_math_bits_deBruijn64tab)] }
def BitsTellsSaid : Prop := bitsTellsRow.holds Tryd.pinned (OpenSpec.ofChange bitsTellsSpec)

/-- ITS FALSE NEIGHBOUR: 'it returns false'. Refute it at one input. -/
def bitsTellsWrong : ChangeSpec := { name := "bitsTells", fn := fun _ => fun
  | [d1, d2, d3, d4] => { results := [.lit (.bool false)], args := [d1, d2, d3, d4] }
  | _ => none }
def BitsTellsWrongFalsely : Prop := bitsTellsRow.holds Tryd.pinned (OpenSpec.ofChange bitsTellsWrong)

/-- 'stratagemlaw02.BitsBack': WHATEVER THE INPUT: true; the input reads as it did. -/
def bitsBackSpec : ChangeSpec := { name := "bitsBack", fn := fun _ => fun
  | [d] => { results := [.lit (.bool true)], args := [d] }
  | _ => none }
def bitsBackRow : OpenClaim := { program := "ythddanjmnifloaadoor", sum := "b11c1b2f825a067fd5f05df6ab9178805ef58d3b4fd3be5368cbef2290462ed9", func := "stratagem/stratagemlaw02.BitsBack", spec := "bitsBack", unfollowed := true, recurses := true, named := ["math/bits.deBruijn64tab"], apart := false, laid := [("math/bits.deBruijn64tab", laid_math_bits_deBruijn64tab)] }
def BitsBackSaid : Prop := bitsBackRow.holds Tryd.pinned (OpenSpec.ofChange bitsBackSpec)

/-- ITS FALSE NEIGHBOUR: 'it returns false'. Refute it at one input. -/
def bitsBackWrong : ChangeSpec := { name := "bitsBack", fn := fun _ => fun
  | [d] => { results := [.lit (.bool false)], args := [d] }
  | _ => none }
def BitsBackWrongFalsely : Prop := bitsBackRow.holds Tryd.pinned (OpenSpec.ofChange bitsBackWrong)

/-- 'stratagemlaw02.BitsParts': WHATEVER THE INPUT: true; the input reads as it did. -/
def bitsPartsSpec : ChangeSpec := { name := "bitsParts", fn := fun _ => fun
  | [d1, d2, d3, d4] => { results := [.lit (.bool true)], args := [d1, d2, d3, d4] }
  | _ => none }
def bitsPartsRow : OpenClaim := { program := "ythddanjmnifloaadoor", sum := "b11c1b2f825a067fd5f05df6ab9178805ef58d3b4fd3be5368cbef2290462ed9", func := "stratagem/stratagemlaw02.BitsParts", spec := "bitsParts", unfollowed := true, recurses := true, named := ["math/bits.deBruijn64tab"], apart := false, laid := [("math/bits.deBruijn64tab", laid_math_bits_deBruijn64tab)] }
def BitsPartsSaid : Prop := bitsPartsRow.holds Tryd.pinned (OpenSpec.ofChange bitsPartsSpec)

/-- ITS FALSE NEIGHBOUR: 'it returns false'. Refute it at one input. -/
def bitsPartsWrong : ChangeSpec := { name := "bitsParts", fn := fun _ => fun
  | [d1, d2, d3, d4] => { results := [.lit (.bool false)], args := [d1, d2, d3, d4] }
  | _ => none }
def BitsPartsWrongFalsely : Prop := bitsPartsRow.holds Tryd.pinned (OpenSpec.ofChange bitsPartsWrong)

/-- 'stratagemlaw14.ElementTells': WHATEVER THE INPUT: true; the input reads as it did. -/
def elementTellsSpec : ChangeSpec := { name := "elementTells", fn := fun _ => fun
  | [d1, d2] => { results := [.lit (.bool true)], args := [d1, d2] }
  | _ => none }
def elementTellsRow : OpenClaim := { program := "ythddanjmnifloaadoor", sum := "b11c1b2f825a067fd5f05df6ab9178805ef58d3b4fd3be5368cbef2290462ed9", func := "stratagem/stratagemlaw14.ElementTells", spec := "elementTells", unfollowed := true, recurses := true, named := ["math/bits.deBruijn64tab"], apart := false, laid := [("math/bits.deBruijn64tab", laid_math_bits_deBruijn64tab)] }
def ElementTellsSaid : Prop := elementTellsRow.holds Tryd.pinned (OpenSpec.ofChange elementTellsSpec)

/-- ITS FALSE NEIGHBOUR: 'it returns false'. Refute it at one input. -/
def elementTellsWrong : ChangeSpec := { name := "elementTells", fn := fun _ => fun
  | [d1, d2] => { results := [.lit (.bool false)], args := [d1, d2] }
  | _ => none }
def ElementTellsWrongFalsely : Prop := elementTellsRow.holds Tryd.pinned (OpenSpec.ofChange elementTellsWrong)

/-- 'stratagemlaw14.ElementSound': WHATEVER THE INPUT: true; the input reads as it did. -/
def elementSoundSpec : ChangeSpec := { name := "elementSound", fn := fun _ => fun
  | [d1, d2, d3] => { results := [.lit (.bool true)], args := [d1, d2, d3] }
  | _ => none }
def elementSoundRow : OpenClaim := { program := "ythddanjmnifloaadoor", sum := "b11c1b2f825a067fd5f05df6ab9178805ef58d3b4fd3be5368cbef2290462ed9", func := "stratagem/stratagemlaw14.ElementSound", spec := "elementSound", unfollowed := true, recurses := true, named := ["math/bits.deBruijn64tab"], apart := false, laid := [("math/bits.deBruijn64tab", laid_math_bits_deBruijn64tab)] }
def ElementSoundSaid : Prop := elementSoundRow.holds Tryd.pinned (OpenSpec.ofChange elementSoundSpec)

/-- ITS FALSE NEIGHBOUR: 'it returns false'. Refute it at one input. -/
def elementSoundWrong : ChangeSpec := { name := "elementSound", fn := fun _ => fun
  | [d1, d2, d3] => { results := [.lit (.bool false)], args := [d1, d2, d3] }
  | _ => none }
def ElementSoundWrongFalsely : Prop := elementSoundRow.holds Tryd.pinned (OpenSpec.ofChange elementSoundWrong)

/-- 'stratagemlaw14.ElementFalls': WHATEVER THE INPUT: true; the input reads as it did. -/
def elementFallsSpec : ChangeSpec := { name := "elementFalls", fn := fun _ => fun
  | [d1, d2, d3] => { results := [.lit (.bool true)], args := [d1, d2, d3] }
  | _ => none }
def elementFallsRow : OpenClaim := { program := "ythddanjmnifloaadoor", sum := "b11c1b2f825a067fd5f05df6ab9178805ef58d3b4fd3be5368cbef2290462ed9", func := "stratagem/stratagemlaw14.ElementFalls", spec := "elementFalls", unfollowed := true, recurses := true, named := ["math/bits.deBruijn64tab"], apart := false, laid := [("math/bits.deBruijn64tab", laid_math_bits_deBruijn64tab)] }
def ElementFallsSaid : Prop := elementFallsRow.holds Tryd.pinned (OpenSpec.ofChange elementFallsSpec)

/-- ITS FALSE NEIGHBOUR: 'it returns false'. Refute it at one input. -/
def elementFallsWrong : ChangeSpec := { name := "elementFalls", fn := fun _ => fun
  | [d1, d2, d3] => { results := [.lit (.bool false)], args := [d1, d2, d3] }
  | _ => none }
def ElementFallsWrongFalsely : Prop := elementFallsRow.holds Tryd.pinned (OpenSpec.ofChange elementFallsWrong)

/-- 'stratagemlaw14.ElementSingle': WHATEVER THE INPUT: true; the input reads as it did. -/
def elementSingleSpec : ChangeSpec := { name := "elementSingle", fn := fun _ => fun
  | [d1, d2] => { results := [.lit (.bool true)], args := [d1, d2] }
  | _ => none }
def elementSingleRow : OpenClaim := { program := "ythddanjmnifloaadoor", sum := "b11c1b2f825a067fd5f05df6ab9178805ef58d3b4fd3be5368cbef2290462ed9", func := "stratagem/stratagemlaw14.ElementSingle", spec := "elementSingle", unfollowed := true, recurses := true, named := ["math/bits.deBruijn64tab"], apart := false, laid := [("math/bits.deBruijn64tab", laid_math_bits_deBruijn64tab)] }
def ElementSingleSaid : Prop := elementSingleRow.holds Tryd.pinned (OpenSpec.ofChange elementSingleSpec)

/-- ITS FALSE NEIGHBOUR: 'it returns false'. Refute it at one input. -/
def elementSingleWrong : ChangeSpec := { name := "elementSingle", fn := fun _ => fun
  | [d1, d2] => { results := [.lit (.bool false)], args := [d1, d2] }
  | _ => none }
def ElementSingleWrongFalsely : Prop := elementSingleRow.holds Tryd.pinned (OpenSpec.ofChange elementSingleWrong)

/-- 'stratagemlaw16.TableTells': WHATEVER THE INPUT: true; the input reads as it did. -/
def tableTellsSpec : ChangeSpec := { name := "tableTells", fn := fun _ => fun
  | [d1, d2] => { results := [.lit (.bool true)], args := [d1, d2] }
  | _ => none }
def tableTellsRow : OpenClaim := { program := "ythddanjmnifloaadoor", sum := "b11c1b2f825a067fd5f05df6ab9178805ef58d3b4fd3be5368cbef2290462ed9", func := "stratagem/stratagemlaw16.TableTells", spec := "tableTells", unfollowed := true, recurses := true, named := ["math/bits.deBruijn64tab"], apart := false, laid := [("math/bits.deBruijn64tab", laid_math_bits_deBruijn64tab)] }
def TableTellsSaid : Prop := tableTellsRow.holds Tryd.pinned (OpenSpec.ofChange tableTellsSpec)

/-- ITS FALSE NEIGHBOUR: 'it returns false'. Refute it at one input. -/
def tableTellsWrong : ChangeSpec := { name := "tableTells", fn := fun _ => fun
  | [d1, d2] => { results := [.lit (.bool false)], args := [d1, d2] }
  | _ => none }
def TableTellsWrongFalsely : Prop := tableTellsRow.holds Tryd.pinned (OpenSpec.ofChange tableTellsWrong)

/-- 'stratagemlaw16.TableSound': WHATEVER THE INPUT: true; the input reads as it did. -/
def tableSoundSpec : ChangeSpec := { name := "tableSound", fn := fun _ => fun
  | [d1, d2, d3] => { results := [.lit (.bool true)], args := [d1, d2, d3] }
  | _ => none }
def tableSoundRow : OpenClaim := { program := "ythddanjmnifloaadoor", sum := "b11c1b2f825a067fd5f05df6ab9178805ef58d3b4fd3be5368cbef2290462ed9", func := "stratagem/stratagemlaw16.TableSound", spec := "tableSound", unfollowed := true, recurses := true, named := ["math/bits.deBruijn64tab"], apart := false, laid := [("math/bits.deBruijn64tab", laid_math_bits_deBruijn64tab)] }
def TableSoundSaid : Prop := tableSoundRow.holds Tryd.pinned (OpenSpec.ofChange tableSoundSpec)

/-- ITS FALSE NEIGHBOUR: 'it returns false'. Refute it at one input. -/
def tableSoundWrong : ChangeSpec := { name := "tableSound", fn := fun _ => fun
  | [d1, d2, d3] => { results := [.lit (.bool false)], args := [d1, d2, d3] }
  | _ => none }
def TableSoundWrongFalsely : Prop := tableSoundRow.holds Tryd.pinned (OpenSpec.ofChange tableSoundWrong)

/-- 'stratagemlaw16.TableFalls': WHATEVER THE INPUT: true; the input reads as it did. -/
def tableFallsSpec : ChangeSpec := { name := "tableFalls", fn := fun _ => fun
  | [d1, d2, d3] => { results := [.lit (.bool true)], args := [d1, d2, d3] }
  | _ => none }
def tableFallsRow : OpenClaim := { program := "ythddanjmnifloaadoor", sum := "b11c1b2f825a067fd5f05df6ab9178805ef58d3b4fd3be5368cbef2290462ed9", func := "stratagem/stratagemlaw16.TableFalls", spec := "tableFalls", unfollowed := true, recurses := true, named := ["math/bits.deBruijn64tab"], apart := false, laid := [("math/bits.deBruijn64tab", laid_math_bits_deBruijn64tab)] }
def TableFallsSaid : Prop := tableFallsRow.holds Tryd.pinned (OpenSpec.ofChange tableFallsSpec)

/-- ITS FALSE NEIGHBOUR: 'it returns false'. Refute it at one input. -/
def tableFallsWrong : ChangeSpec := { name := "tableFalls", fn := fun _ => fun
  | [d1, d2, d3] => { results := [.lit (.bool false)], args := [d1, d2, d3] }
  | _ => none }
def TableFallsWrongFalsely : Prop := tableFallsRow.holds Tryd.pinned (OpenSpec.ofChange tableFallsWrong)

/-- 'stratagemlaw16.TableSingle': WHATEVER THE INPUT: true; the input reads as it did. -/
def tableSingleSpec : ChangeSpec := { name := "tableSingle", fn := fun _ => fun
  | [d1, d2] => { results := [.lit (.bool true)], args := [d1, d2] }
  | _ => none }
def tableSingleRow : OpenClaim := { program := "ythddanjmnifloaadoor", sum := "b11c1b2f825a067fd5f05df6ab9178805ef58d3b4fd3be5368cbef2290462ed9", func := "stratagem/stratagemlaw16.TableSingle", spec := "tableSingle", unfollowed := true, recurses := true, named := ["math/bits.deBruijn64tab"], apart := false, laid := [("math/bits.deBruijn64tab", laid_math_bits_deBruijn64tab)] }
def TableSingleSaid : Prop := tableSingleRow.holds Tryd.pinned (OpenSpec.ofChange tableSingleSpec)

/-- ITS FALSE NEIGHBOUR: 'it returns false'. Refute it at one input. -/
def tableSingleWrong : ChangeSpec := { name := "tableSingle", fn := fun _ => fun
  | [d1, d2] => { results := [.lit (.bool false)], args := [d1, d2] }
  | _ => none }
def TableSingleWrongFalsely : Prop := tableSingleRow.holds Tryd.pinned (OpenSpec.ofChange tableSingleWrong)

/- THE SECOND FORM. 'bulk': how many values and letters a reading holds, each counted each time it is reached (what is shared counts as often as it is met; a slice's spare places count too). A statement '..UptoSaid' is the law's where the arguments, and the package variables that the reading takes, are together of bulk at most 1048576: NARROWER than '..Said'. Prove '..Said' where nothing that the law and all that it calls make is longer than what came in: it says more and counts as full. Else prove '..UptoSaid'. A law counts once. -/
mutual
def uptoBulk {H : Type} : DataW H → Nat
  | .lit (.string bytes) => bytes.length + 1
  | .lit _ => 1
  | .nil => 1
  | .ptr d => uptoBulk d + 1
  | .slice elems spare => uptoBulkAll elems + uptoBulkAll spare + 1
  | .agg parts => uptoBulkAll parts + 1
  | .iface _ d => uptoBulk d + 1
  | .map entries => uptoBulkEntries entries + 1
  | .held _ => 1
def uptoBulkAll {H : Type} : List (DataW H) → Nat
  | [] => 0
  | d :: r => uptoBulk d + uptoBulkAll r
def uptoBulkEntries {H : Type} : List (Lit × DataW H) → Nat
  | [] => 0
  | x :: r => uptoBulkEntry x + uptoBulkEntries r
def uptoBulkEntry {H : Type} : Lit × DataW H → Nat
  | (.string bytes, d) => bytes.length + uptoBulk d + 1
  | (_, d) => uptoBulk d + 1
 end
def uptoSmall : (H : Type) → List (DataW H) → Bool := fun _ ds => decide (uptoBulkAll ds ≤ 1048576)
def OpenSpec.upto (s : _root_.Go.ChangeSpec) : _root_.Go.OpenSpec := { _root_.Go.OpenSpec.ofChange s with cond := some uptoSmall }

/-- 'stratagemlaw02.BitsTells', WHERE WHAT IT READS IS OF BULK AT MOST 1048576: true; the input reads as it did. -/
def bitsTellsUptoRow : OpenClaim := { program := "ythddanjmnifloaadoor", sum := "b11c1b2f825a067fd5f05df6ab9178805ef58d3b4fd3be5368cbef2290462ed9", func := "stratagem/stratagemlaw02.BitsTells", spec := "bitsTells", unfollowed := true, recurses := true, named := ["math/bits.deBruijn64tab"], apart := false, laid := [("math/bits.deBruijn64tab", laid_math_bits_deBruijn64tab)], narrowed := true }
def BitsTellsUptoSaid : Prop := bitsTellsUptoRow.holds Tryd.pinned (OpenSpec.upto bitsTellsSpec)

/-- 'stratagemlaw02.BitsBack', WHERE WHAT IT READS IS OF BULK AT MOST 1048576: true; the input reads as it did. -/
def bitsBackUptoRow : OpenClaim := { program := "ythddanjmnifloaadoor", sum := "b11c1b2f825a067fd5f05df6ab9178805ef58d3b4fd3be5368cbef2290462ed9", func := "stratagem/stratagemlaw02.BitsBack", spec := "bitsBack", unfollowed := true, recurses := true, named := ["math/bits.deBruijn64tab"], apart := false, laid := [("math/bits.deBruijn64tab", laid_math_bits_deBruijn64tab)], narrowed := true }
def BitsBackUptoSaid : Prop := bitsBackUptoRow.holds Tryd.pinned (OpenSpec.upto bitsBackSpec)

/-- 'stratagemlaw02.BitsParts', WHERE WHAT IT READS IS OF BULK AT MOST 1048576: true; the input reads as it did. -/
def bitsPartsUptoRow : OpenClaim := { program := "ythddanjmnifloaadoor", sum := "b11c1b2f825a067fd5f05df6ab9178805ef58d3b4fd3be5368cbef2290462ed9", func := "stratagem/stratagemlaw02.BitsParts", spec := "bitsParts", unfollowed := true, recurses := true, named := ["math/bits.deBruijn64tab"], apart := false, laid := [("math/bits.deBruijn64tab", laid_math_bits_deBruijn64tab)], narrowed := true }
def BitsPartsUptoSaid : Prop := bitsPartsUptoRow.holds Tryd.pinned (OpenSpec.upto bitsPartsSpec)

/-- 'stratagemlaw14.ElementTells', WHERE WHAT IT READS IS OF BULK AT MOST 1048576: true; the input reads as it did. -/
def elementTellsUptoRow : OpenClaim := { program := "ythddanjmnifloaadoor", sum := "b11c1b2f825a067fd5f05df6ab9178805ef58d3b4fd3be5368cbef2290462ed9", func := "stratagem/stratagemlaw14.ElementTells", spec := "elementTells", unfollowed := true, recurses := true, named := ["math/bits.deBruijn64tab"], apart := false, laid := [("math/bits.deBruijn64tab", laid_math_bits_deBruijn64tab)], narrowed := true }
def ElementTellsUptoSaid : Prop := elementTellsUptoRow.holds Tryd.pinned (OpenSpec.upto elementTellsSpec)

/-- 'stratagemlaw14.ElementSound', WHERE WHAT IT READS IS OF BULK AT MOST 1048576: true; the input reads as it did. -/
def elementSoundUptoRow : OpenClaim := { program := "ythddanjmnifloaadoor", sum := "b11c1b2f825a067fd5f05df6ab9178805ef58d3b4fd3be5368cbef2290462ed9", func := "stratagem/stratagemlaw14.ElementSound", spec := "elementSound", unfollowed := true, recurses := true, named := ["math/bits.deBruijn64tab"], apart := false, laid := [("math/bits.deBruijn64tab", laid_math_bits_deBruijn64tab)], narrowed := true }
def ElementSoundUptoSaid : Prop := elementSoundUptoRow.holds Tryd.pinned (OpenSpec.upto elementSoundSpec)

/-- 'stratagemlaw14.ElementFalls', WHERE WHAT IT READS IS OF BULK AT MOST 1048576: true; the input reads as it did. -/
def elementFallsUptoRow : OpenClaim := { program := "ythddanjmnifloaadoor", sum := "b11c1b2f825a067fd5f05df6ab9178805ef58d3b4fd3be5368cbef2290462ed9", func := "stratagem/stratagemlaw14.ElementFalls", spec := "elementFalls", unfollowed := true, recurses := true, named := ["math/bits.deBruijn64tab"], apart := false, laid := [("math/bits.deBruijn64tab", laid_math_bits_deBruijn64tab)], narrowed := true }
def ElementFallsUptoSaid : Prop := elementFallsUptoRow.holds Tryd.pinned (OpenSpec.upto elementFallsSpec)

/-- 'stratagemlaw14.ElementSingle', WHERE WHAT IT READS IS OF BULK AT MOST 1048576: true; the input reads as it did. -/
def elementSingleUptoRow : OpenClaim := { program := "ythddanjmnifloaadoor", sum := "b11c1b2f825a067fd5f05df6ab9178805ef58d3b4fd3be5368cbef2290462ed9", func := "stratagem/stratagemlaw14.ElementSingle", spec := "elementSingle", unfollowed := true, recurses := true, named := ["math/bits.deBruijn64tab"], apart := false, laid := [("math/bits.deBruijn64tab", laid_math_bits_deBruijn64tab)], narrowed := true }
def ElementSingleUptoSaid : Prop := elementSingleUptoRow.holds Tryd.pinned (OpenSpec.upto elementSingleSpec)

/-- 'stratagemlaw16.TableTells', WHERE WHAT IT READS IS OF BULK AT MOST 1048576: true; the input reads as it did. -/
def tableTellsUptoRow : OpenClaim := { program := "ythddanjmnifloaadoor", sum := "b11c1b2f825a067fd5f05df6ab9178805ef58d3b4fd3be5368cbef2290462ed9", func := "stratagem/stratagemlaw16.TableTells", spec := "tableTells", unfollowed := true, recurses := true, named := ["math/bits.deBruijn64tab"], apart := false, laid := [("math/bits.deBruijn64tab", laid_math_bits_deBruijn64tab)], narrowed := true }
def TableTellsUptoSaid : Prop := tableTellsUptoRow.holds Tryd.pinned (OpenSpec.upto tableTellsSpec)

/-- 'stratagemlaw16.TableSound', WHERE WHAT IT READS IS OF BULK AT MOST 1048576: true; the input reads as it did. -/
def tableSoundUptoRow : OpenClaim := { program := "ythddanjmnifloaadoor", sum := "b11c1b2f825a067fd5f05df6ab9178805ef58d3b4fd3be5368cbef2290462ed9", func := "stratagem/stratagemlaw16.TableSound", spec := "tableSound", unfollowed := true, recurses := true, named := ["math/bits.deBruijn64tab"], apart := false, laid := [("math/bits.deBruijn64tab", laid_math_bits_deBruijn64tab)], narrowed := true }
def TableSoundUptoSaid : Prop := tableSoundUptoRow.holds Tryd.pinned (OpenSpec.upto tableSoundSpec)

/-- 'stratagemlaw16.TableFalls', WHERE WHAT IT READS IS OF BULK AT MOST 1048576: true; the input reads as it did. -/
def tableFallsUptoRow : OpenClaim := { program := "ythddanjmnifloaadoor", sum := "b11c1b2f825a067fd5f05df6ab9178805ef58d3b4fd3be5368cbef2290462ed9", func := "stratagem/stratagemlaw16.TableFalls", spec := "tableFalls", unfollowed := true, recurses := true, named := ["math/bits.deBruijn64tab"], apart := false, laid := [("math/bits.deBruijn64tab", laid_math_bits_deBruijn64tab)], narrowed := true }
def TableFallsUptoSaid : Prop := tableFallsUptoRow.holds Tryd.pinned (OpenSpec.upto tableFallsSpec)

/-- 'stratagemlaw16.TableSingle', WHERE WHAT IT READS IS OF BULK AT MOST 1048576: true; the input reads as it did. -/
def tableSingleUptoRow : OpenClaim := { program := "ythddanjmnifloaadoor", sum := "b11c1b2f825a067fd5f05df6ab9178805ef58d3b4fd3be5368cbef2290462ed9", func := "stratagem/stratagemlaw16.TableSingle", spec := "tableSingle", unfollowed := true, recurses := true, named := ["math/bits.deBruijn64tab"], apart := false, laid := [("math/bits.deBruijn64tab", laid_math_bits_deBruijn64tab)], narrowed := true }
def TableSingleUptoSaid : Prop := tableSingleUptoRow.holds Tryd.pinned (OpenSpec.upto tableSingleSpec)

end Rows
end Go.Proofs.YthddanjmnifloaaDoor

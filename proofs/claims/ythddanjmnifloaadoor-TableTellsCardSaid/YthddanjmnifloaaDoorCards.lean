/-
  DERIVED. GIVEN WITH THE SEED: THE CARDS: each row of YthddanjmnifloaaDoorRows.lean that lists a variable, with what it lists TIED to the program's text (the seventh form; the later family's looks); each row that meets fmt, with fmt's text TOLD by the authors' own Lean function (tested against real Go, not proved from fmt's source: count such statements apart). THE CARD IS WHAT COUNTS. Prove the row's statement (the work); the ties are given (YthddanjmnifloaaDoorTie.lean); close each card by the builder's one call (the guide's Derived/Test/ToyasCard.lean, 'card_holds'). Laid BY PROGRAM, IN A SANDBOX (cutbox-door.mjs). By AI agents, Wed Nov 11 2026. No macro, syntax, notation, axiom, sorry.
-/
import Derived.Test.YthddanjmnifloaaDoorRows
import GoSem.ClaimSeven
namespace Go.Proofs.YthddanjmnifloaaDoor
namespace Rows

/-- THE TIED CARD OF 'stratagemlaw02.BitsTells'. -/
def bitsTellsCard : Claim7 := { stood := { row := bitsTellsRow, standIns := [], harness := (true, "524dc4e9f8670d605076c950c66c950c461a9b39cb741fbe13b1841d06104d9b"), looks := false }, kinds := [], alts := [], laidByText := true, laidKinds := [.data], laidTests := true, laidLooks := .later }
def BitsTellsCardSaid : Prop := Claim7.holds Tryd.pinned (.plain (OpenSpec.ofChange bitsTellsSpec)) bitsTellsCard

/-- THE TIED CARD OF 'stratagemlaw02.BitsBack'. -/
def bitsBackCard : Claim7 := { stood := { row := bitsBackRow, standIns := [], harness := (true, "524dc4e9f8670d605076c950c66c950c461a9b39cb741fbe13b1841d06104d9b"), looks := false }, kinds := [], alts := [], laidByText := true, laidKinds := [.data], laidTests := true, laidLooks := .later }
def BitsBackCardSaid : Prop := Claim7.holds Tryd.pinned (.plain (OpenSpec.ofChange bitsBackSpec)) bitsBackCard

/-- THE TIED CARD OF 'stratagemlaw02.BitsParts'. -/
def bitsPartsCard : Claim7 := { stood := { row := bitsPartsRow, standIns := [], harness := (true, "524dc4e9f8670d605076c950c66c950c461a9b39cb741fbe13b1841d06104d9b"), looks := false }, kinds := [], alts := [], laidByText := true, laidKinds := [.data], laidTests := true, laidLooks := .later }
def BitsPartsCardSaid : Prop := Claim7.holds Tryd.pinned (.plain (OpenSpec.ofChange bitsPartsSpec)) bitsPartsCard

/-- THE TIED CARD OF 'stratagemlaw14.ElementTells'. -/
def elementTellsCard : Claim7 := { stood := { row := elementTellsRow, standIns := [], harness := (true, "524dc4e9f8670d605076c950c66c950c461a9b39cb741fbe13b1841d06104d9b"), looks := false }, kinds := [], alts := [], laidByText := true, laidKinds := [.data], laidTests := true, laidLooks := .later }
def ElementTellsCardSaid : Prop := Claim7.holds Tryd.pinned (.plain (OpenSpec.ofChange elementTellsSpec)) elementTellsCard

/-- THE TIED CARD OF 'stratagemlaw14.ElementSound'. -/
def elementSoundCard : Claim7 := { stood := { row := elementSoundRow, standIns := [], harness := (true, "524dc4e9f8670d605076c950c66c950c461a9b39cb741fbe13b1841d06104d9b"), looks := false }, kinds := [], alts := [], laidByText := true, laidKinds := [.data], laidTests := true, laidLooks := .later }
def ElementSoundCardSaid : Prop := Claim7.holds Tryd.pinned (.plain (OpenSpec.ofChange elementSoundSpec)) elementSoundCard

/-- THE TIED CARD OF 'stratagemlaw14.ElementFalls'. -/
def elementFallsCard : Claim7 := { stood := { row := elementFallsRow, standIns := [], harness := (true, "524dc4e9f8670d605076c950c66c950c461a9b39cb741fbe13b1841d06104d9b"), looks := false }, kinds := [], alts := [], laidByText := true, laidKinds := [.data], laidTests := true, laidLooks := .later }
def ElementFallsCardSaid : Prop := Claim7.holds Tryd.pinned (.plain (OpenSpec.ofChange elementFallsSpec)) elementFallsCard

/-- THE TIED CARD OF 'stratagemlaw14.ElementSingle'. -/
def elementSingleCard : Claim7 := { stood := { row := elementSingleRow, standIns := [], harness := (true, "524dc4e9f8670d605076c950c66c950c461a9b39cb741fbe13b1841d06104d9b"), looks := false }, kinds := [], alts := [], laidByText := true, laidKinds := [.data], laidTests := true, laidLooks := .later }
def ElementSingleCardSaid : Prop := Claim7.holds Tryd.pinned (.plain (OpenSpec.ofChange elementSingleSpec)) elementSingleCard

/-- THE TIED CARD OF 'stratagemlaw16.TableTells'. -/
def tableTellsCard : Claim7 := { stood := { row := tableTellsRow, standIns := [], harness := (true, "524dc4e9f8670d605076c950c66c950c461a9b39cb741fbe13b1841d06104d9b"), looks := false }, kinds := [], alts := [], laidByText := true, laidKinds := [.data], laidTests := true, laidLooks := .later }
def TableTellsCardSaid : Prop := Claim7.holds Tryd.pinned (.plain (OpenSpec.ofChange tableTellsSpec)) tableTellsCard

/-- THE TIED CARD OF 'stratagemlaw16.TableSound'. -/
def tableSoundCard : Claim7 := { stood := { row := tableSoundRow, standIns := [], harness := (true, "524dc4e9f8670d605076c950c66c950c461a9b39cb741fbe13b1841d06104d9b"), looks := false }, kinds := [], alts := [], laidByText := true, laidKinds := [.data], laidTests := true, laidLooks := .later }
def TableSoundCardSaid : Prop := Claim7.holds Tryd.pinned (.plain (OpenSpec.ofChange tableSoundSpec)) tableSoundCard

/-- THE TIED CARD OF 'stratagemlaw16.TableFalls'. -/
def tableFallsCard : Claim7 := { stood := { row := tableFallsRow, standIns := [], harness := (true, "524dc4e9f8670d605076c950c66c950c461a9b39cb741fbe13b1841d06104d9b"), looks := false }, kinds := [], alts := [], laidByText := true, laidKinds := [.data], laidTests := true, laidLooks := .later }
def TableFallsCardSaid : Prop := Claim7.holds Tryd.pinned (.plain (OpenSpec.ofChange tableFallsSpec)) tableFallsCard

/-- THE TIED CARD OF 'stratagemlaw16.TableSingle'. -/
def tableSingleCard : Claim7 := { stood := { row := tableSingleRow, standIns := [], harness := (true, "524dc4e9f8670d605076c950c66c950c461a9b39cb741fbe13b1841d06104d9b"), looks := false }, kinds := [], alts := [], laidByText := true, laidKinds := [.data], laidTests := true, laidLooks := .later }
def TableSingleCardSaid : Prop := Claim7.holds Tryd.pinned (.plain (OpenSpec.ofChange tableSingleSpec)) tableSingleCard

/-- THE SECOND FORM's CARD OF 'stratagemlaw02.BitsTells'. -/
def bitsTellsUptoCard : Claim7 := { stood := { row := bitsTellsUptoRow, standIns := [], harness := (true, "524dc4e9f8670d605076c950c66c950c461a9b39cb741fbe13b1841d06104d9b"), looks := false }, kinds := [], alts := [], laidByText := true, laidKinds := [.data], laidTests := true, laidLooks := .later }
def BitsTellsUptoCardSaid : Prop := Claim7.holds Tryd.pinned (.plain (OpenSpec.upto bitsTellsSpec)) bitsTellsUptoCard

/-- THE SECOND FORM's CARD OF 'stratagemlaw02.BitsBack'. -/
def bitsBackUptoCard : Claim7 := { stood := { row := bitsBackUptoRow, standIns := [], harness := (true, "524dc4e9f8670d605076c950c66c950c461a9b39cb741fbe13b1841d06104d9b"), looks := false }, kinds := [], alts := [], laidByText := true, laidKinds := [.data], laidTests := true, laidLooks := .later }
def BitsBackUptoCardSaid : Prop := Claim7.holds Tryd.pinned (.plain (OpenSpec.upto bitsBackSpec)) bitsBackUptoCard

/-- THE SECOND FORM's CARD OF 'stratagemlaw02.BitsParts'. -/
def bitsPartsUptoCard : Claim7 := { stood := { row := bitsPartsUptoRow, standIns := [], harness := (true, "524dc4e9f8670d605076c950c66c950c461a9b39cb741fbe13b1841d06104d9b"), looks := false }, kinds := [], alts := [], laidByText := true, laidKinds := [.data], laidTests := true, laidLooks := .later }
def BitsPartsUptoCardSaid : Prop := Claim7.holds Tryd.pinned (.plain (OpenSpec.upto bitsPartsSpec)) bitsPartsUptoCard

/-- THE SECOND FORM's CARD OF 'stratagemlaw14.ElementTells'. -/
def elementTellsUptoCard : Claim7 := { stood := { row := elementTellsUptoRow, standIns := [], harness := (true, "524dc4e9f8670d605076c950c66c950c461a9b39cb741fbe13b1841d06104d9b"), looks := false }, kinds := [], alts := [], laidByText := true, laidKinds := [.data], laidTests := true, laidLooks := .later }
def ElementTellsUptoCardSaid : Prop := Claim7.holds Tryd.pinned (.plain (OpenSpec.upto elementTellsSpec)) elementTellsUptoCard

/-- THE SECOND FORM's CARD OF 'stratagemlaw14.ElementSound'. -/
def elementSoundUptoCard : Claim7 := { stood := { row := elementSoundUptoRow, standIns := [], harness := (true, "524dc4e9f8670d605076c950c66c950c461a9b39cb741fbe13b1841d06104d9b"), looks := false }, kinds := [], alts := [], laidByText := true, laidKinds := [.data], laidTests := true, laidLooks := .later }
def ElementSoundUptoCardSaid : Prop := Claim7.holds Tryd.pinned (.plain (OpenSpec.upto elementSoundSpec)) elementSoundUptoCard

/-- THE SECOND FORM's CARD OF 'stratagemlaw14.ElementFalls'. -/
def elementFallsUptoCard : Claim7 := { stood := { row := elementFallsUptoRow, standIns := [], harness := (true, "524dc4e9f8670d605076c950c66c950c461a9b39cb741fbe13b1841d06104d9b"), looks := false }, kinds := [], alts := [], laidByText := true, laidKinds := [.data], laidTests := true, laidLooks := .later }
def ElementFallsUptoCardSaid : Prop := Claim7.holds Tryd.pinned (.plain (OpenSpec.upto elementFallsSpec)) elementFallsUptoCard

/-- THE SECOND FORM's CARD OF 'stratagemlaw14.ElementSingle'. -/
def elementSingleUptoCard : Claim7 := { stood := { row := elementSingleUptoRow, standIns := [], harness := (true, "524dc4e9f8670d605076c950c66c950c461a9b39cb741fbe13b1841d06104d9b"), looks := false }, kinds := [], alts := [], laidByText := true, laidKinds := [.data], laidTests := true, laidLooks := .later }
def ElementSingleUptoCardSaid : Prop := Claim7.holds Tryd.pinned (.plain (OpenSpec.upto elementSingleSpec)) elementSingleUptoCard

/-- THE SECOND FORM's CARD OF 'stratagemlaw16.TableTells'. -/
def tableTellsUptoCard : Claim7 := { stood := { row := tableTellsUptoRow, standIns := [], harness := (true, "524dc4e9f8670d605076c950c66c950c461a9b39cb741fbe13b1841d06104d9b"), looks := false }, kinds := [], alts := [], laidByText := true, laidKinds := [.data], laidTests := true, laidLooks := .later }
def TableTellsUptoCardSaid : Prop := Claim7.holds Tryd.pinned (.plain (OpenSpec.upto tableTellsSpec)) tableTellsUptoCard

/-- THE SECOND FORM's CARD OF 'stratagemlaw16.TableSound'. -/
def tableSoundUptoCard : Claim7 := { stood := { row := tableSoundUptoRow, standIns := [], harness := (true, "524dc4e9f8670d605076c950c66c950c461a9b39cb741fbe13b1841d06104d9b"), looks := false }, kinds := [], alts := [], laidByText := true, laidKinds := [.data], laidTests := true, laidLooks := .later }
def TableSoundUptoCardSaid : Prop := Claim7.holds Tryd.pinned (.plain (OpenSpec.upto tableSoundSpec)) tableSoundUptoCard

/-- THE SECOND FORM's CARD OF 'stratagemlaw16.TableFalls'. -/
def tableFallsUptoCard : Claim7 := { stood := { row := tableFallsUptoRow, standIns := [], harness := (true, "524dc4e9f8670d605076c950c66c950c461a9b39cb741fbe13b1841d06104d9b"), looks := false }, kinds := [], alts := [], laidByText := true, laidKinds := [.data], laidTests := true, laidLooks := .later }
def TableFallsUptoCardSaid : Prop := Claim7.holds Tryd.pinned (.plain (OpenSpec.upto tableFallsSpec)) tableFallsUptoCard

/-- THE SECOND FORM's CARD OF 'stratagemlaw16.TableSingle'. -/
def tableSingleUptoCard : Claim7 := { stood := { row := tableSingleUptoRow, standIns := [], harness := (true, "524dc4e9f8670d605076c950c66c950c461a9b39cb741fbe13b1841d06104d9b"), looks := false }, kinds := [], alts := [], laidByText := true, laidKinds := [.data], laidTests := true, laidLooks := .later }
def TableSingleUptoCardSaid : Prop := Claim7.holds Tryd.pinned (.plain (OpenSpec.upto tableSingleSpec)) tableSingleUptoCard
end Rows
end Go.Proofs.YthddanjmnifloaaDoor

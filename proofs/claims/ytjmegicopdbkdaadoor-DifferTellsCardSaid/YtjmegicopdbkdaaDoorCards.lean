/-
  DERIVED. GIVEN WITH THE SEED: THE CARDS: each row of YtjmegicopdbkdaaDoorRows.lean that lists a variable, with what it lists TIED to the program's text (the seventh form; the later family's looks); each row that meets fmt, with fmt's text TOLD by the authors' own Lean function (tested against real Go, not proved from fmt's source: count such statements apart). THE CARD IS WHAT COUNTS. Prove the row's statement (the work); the ties are given (YtjmegicopdbkdaaDoorTie.lean); close each card by the builder's one call (the guide's Derived/Test/ToyasCard.lean, 'card_holds'). Laid BY PROGRAM, IN A SANDBOX (cutbox-door.mjs). By AI agents, Wed Nov 11 2026. No macro, syntax, notation, axiom, sorry.
-/
import Derived.Test.YtjmegicopdbkdaaDoorRows
import GoSem.ClaimSeven
namespace Go.Proofs.YtjmegicopdbkdaaDoor
namespace Rows

/-- THE TIED CARD OF 'stratagemlaw13.ProductTells'. -/
def productTellsCard : Claim7 := { stood := { row := productTellsRow, standIns := [], harness := (true, "a1d90a9d9d21f9b5abfdb2da22122162701b9fc21110a21807c09a6b2dd0051e"), looks := false }, kinds := [], alts := [], laidByText := true, laidKinds := [.data], laidTests := true, laidLooks := .later }
def ProductTellsCardSaid : Prop := Claim7.holds Tryd.pinned (.plain (OpenSpec.ofChange productTellsSpec)) productTellsCard

/-- THE TIED CARD OF 'stratagemlaw13.ProductSound'. -/
def productSoundCard : Claim7 := { stood := { row := productSoundRow, standIns := [], harness := (true, "a1d90a9d9d21f9b5abfdb2da22122162701b9fc21110a21807c09a6b2dd0051e"), looks := false }, kinds := [], alts := [], laidByText := true, laidKinds := [.data], laidTests := true, laidLooks := .later }
def ProductSoundCardSaid : Prop := Claim7.holds Tryd.pinned (.plain (OpenSpec.ofChange productSoundSpec)) productSoundCard

/-- THE TIED CARD OF 'stratagemlaw13.ProductFalls'. -/
def productFallsCard : Claim7 := { stood := { row := productFallsRow, standIns := [], harness := (true, "a1d90a9d9d21f9b5abfdb2da22122162701b9fc21110a21807c09a6b2dd0051e"), looks := false }, kinds := [], alts := [], laidByText := true, laidKinds := [.data], laidTests := true, laidLooks := .later }
def ProductFallsCardSaid : Prop := Claim7.holds Tryd.pinned (.plain (OpenSpec.ofChange productFallsSpec)) productFallsCard

/-- THE TIED CARD OF 'stratagemlaw13.ProductSingle'. -/
def productSingleCard : Claim7 := { stood := { row := productSingleRow, standIns := [], harness := (true, "a1d90a9d9d21f9b5abfdb2da22122162701b9fc21110a21807c09a6b2dd0051e"), looks := false }, kinds := [], alts := [], laidByText := true, laidKinds := [.data], laidTests := true, laidLooks := .later }
def ProductSingleCardSaid : Prop := Claim7.holds Tryd.pinned (.plain (OpenSpec.ofChange productSingleSpec)) productSingleCard

/-- THE TIED CARD OF 'stratagemlaw15.DifferTells'. -/
def differTellsCard : Claim7 := { stood := { row := differTellsRow, standIns := [], harness := (true, "a1d90a9d9d21f9b5abfdb2da22122162701b9fc21110a21807c09a6b2dd0051e"), looks := false }, kinds := [], alts := [], laidByText := true, laidKinds := [.data], laidTests := true, laidLooks := .later }
def DifferTellsCardSaid : Prop := Claim7.holds Tryd.pinned (.plain (OpenSpec.ofChange differTellsSpec)) differTellsCard

/-- THE TIED CARD OF 'stratagemlaw15.DifferSound'. -/
def differSoundCard : Claim7 := { stood := { row := differSoundRow, standIns := [], harness := (true, "a1d90a9d9d21f9b5abfdb2da22122162701b9fc21110a21807c09a6b2dd0051e"), looks := false }, kinds := [], alts := [], laidByText := true, laidKinds := [.data], laidTests := true, laidLooks := .later }
def DifferSoundCardSaid : Prop := Claim7.holds Tryd.pinned (.plain (OpenSpec.ofChange differSoundSpec)) differSoundCard

/-- THE TIED CARD OF 'stratagemlaw15.DifferFalls'. -/
def differFallsCard : Claim7 := { stood := { row := differFallsRow, standIns := [], harness := (true, "a1d90a9d9d21f9b5abfdb2da22122162701b9fc21110a21807c09a6b2dd0051e"), looks := false }, kinds := [], alts := [], laidByText := true, laidKinds := [.data], laidTests := true, laidLooks := .later }
def DifferFallsCardSaid : Prop := Claim7.holds Tryd.pinned (.plain (OpenSpec.ofChange differFallsSpec)) differFallsCard

/-- THE TIED CARD OF 'stratagemlaw15.DifferSingle'. -/
def differSingleCard : Claim7 := { stood := { row := differSingleRow, standIns := [], harness := (true, "a1d90a9d9d21f9b5abfdb2da22122162701b9fc21110a21807c09a6b2dd0051e"), looks := false }, kinds := [], alts := [], laidByText := true, laidKinds := [.data], laidTests := true, laidLooks := .later }
def DifferSingleCardSaid : Prop := Claim7.holds Tryd.pinned (.plain (OpenSpec.ofChange differSingleSpec)) differSingleCard

/-- THE SECOND FORM's CARD OF 'stratagemlaw13.ProductTells'. -/
def productTellsUptoCard : Claim7 := { stood := { row := productTellsUptoRow, standIns := [], harness := (true, "a1d90a9d9d21f9b5abfdb2da22122162701b9fc21110a21807c09a6b2dd0051e"), looks := false }, kinds := [], alts := [], laidByText := true, laidKinds := [.data], laidTests := true, laidLooks := .later }
def ProductTellsUptoCardSaid : Prop := Claim7.holds Tryd.pinned (.plain (OpenSpec.upto productTellsSpec)) productTellsUptoCard

/-- THE SECOND FORM's CARD OF 'stratagemlaw13.ProductSound'. -/
def productSoundUptoCard : Claim7 := { stood := { row := productSoundUptoRow, standIns := [], harness := (true, "a1d90a9d9d21f9b5abfdb2da22122162701b9fc21110a21807c09a6b2dd0051e"), looks := false }, kinds := [], alts := [], laidByText := true, laidKinds := [.data], laidTests := true, laidLooks := .later }
def ProductSoundUptoCardSaid : Prop := Claim7.holds Tryd.pinned (.plain (OpenSpec.upto productSoundSpec)) productSoundUptoCard

/-- THE SECOND FORM's CARD OF 'stratagemlaw13.ProductFalls'. -/
def productFallsUptoCard : Claim7 := { stood := { row := productFallsUptoRow, standIns := [], harness := (true, "a1d90a9d9d21f9b5abfdb2da22122162701b9fc21110a21807c09a6b2dd0051e"), looks := false }, kinds := [], alts := [], laidByText := true, laidKinds := [.data], laidTests := true, laidLooks := .later }
def ProductFallsUptoCardSaid : Prop := Claim7.holds Tryd.pinned (.plain (OpenSpec.upto productFallsSpec)) productFallsUptoCard

/-- THE SECOND FORM's CARD OF 'stratagemlaw13.ProductSingle'. -/
def productSingleUptoCard : Claim7 := { stood := { row := productSingleUptoRow, standIns := [], harness := (true, "a1d90a9d9d21f9b5abfdb2da22122162701b9fc21110a21807c09a6b2dd0051e"), looks := false }, kinds := [], alts := [], laidByText := true, laidKinds := [.data], laidTests := true, laidLooks := .later }
def ProductSingleUptoCardSaid : Prop := Claim7.holds Tryd.pinned (.plain (OpenSpec.upto productSingleSpec)) productSingleUptoCard

/-- THE SECOND FORM's CARD OF 'stratagemlaw15.DifferTells'. -/
def differTellsUptoCard : Claim7 := { stood := { row := differTellsUptoRow, standIns := [], harness := (true, "a1d90a9d9d21f9b5abfdb2da22122162701b9fc21110a21807c09a6b2dd0051e"), looks := false }, kinds := [], alts := [], laidByText := true, laidKinds := [.data], laidTests := true, laidLooks := .later }
def DifferTellsUptoCardSaid : Prop := Claim7.holds Tryd.pinned (.plain (OpenSpec.upto differTellsSpec)) differTellsUptoCard

/-- THE SECOND FORM's CARD OF 'stratagemlaw15.DifferSound'. -/
def differSoundUptoCard : Claim7 := { stood := { row := differSoundUptoRow, standIns := [], harness := (true, "a1d90a9d9d21f9b5abfdb2da22122162701b9fc21110a21807c09a6b2dd0051e"), looks := false }, kinds := [], alts := [], laidByText := true, laidKinds := [.data], laidTests := true, laidLooks := .later }
def DifferSoundUptoCardSaid : Prop := Claim7.holds Tryd.pinned (.plain (OpenSpec.upto differSoundSpec)) differSoundUptoCard

/-- THE SECOND FORM's CARD OF 'stratagemlaw15.DifferFalls'. -/
def differFallsUptoCard : Claim7 := { stood := { row := differFallsUptoRow, standIns := [], harness := (true, "a1d90a9d9d21f9b5abfdb2da22122162701b9fc21110a21807c09a6b2dd0051e"), looks := false }, kinds := [], alts := [], laidByText := true, laidKinds := [.data], laidTests := true, laidLooks := .later }
def DifferFallsUptoCardSaid : Prop := Claim7.holds Tryd.pinned (.plain (OpenSpec.upto differFallsSpec)) differFallsUptoCard

/-- THE SECOND FORM's CARD OF 'stratagemlaw15.DifferSingle'. -/
def differSingleUptoCard : Claim7 := { stood := { row := differSingleUptoRow, standIns := [], harness := (true, "a1d90a9d9d21f9b5abfdb2da22122162701b9fc21110a21807c09a6b2dd0051e"), looks := false }, kinds := [], alts := [], laidByText := true, laidKinds := [.data], laidTests := true, laidLooks := .later }
def DifferSingleUptoCardSaid : Prop := Claim7.holds Tryd.pinned (.plain (OpenSpec.upto differSingleSpec)) differSingleUptoCard
end Rows
end Go.Proofs.YtjmegicopdbkdaaDoor

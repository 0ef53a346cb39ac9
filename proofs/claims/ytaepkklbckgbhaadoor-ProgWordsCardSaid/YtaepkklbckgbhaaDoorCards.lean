/-
  DERIVED. GIVEN WITH THE SEED: THE CARDS: each row of YtaepkklbckgbhaaDoorRows.lean that lists a variable, with what it lists TIED to the program's text (the seventh form; the later family's looks); each row that meets fmt, with fmt's text TOLD by the authors' own Lean function (tested against real Go, not proved from fmt's source: count such statements apart). THE CARD IS WHAT COUNTS. Prove the row's statement (the work); the ties are given (YtaepkklbckgbhaaDoorTie.lean); close each card by the builder's one call (the guide's Derived/Test/ToyasCard.lean, 'card_holds'). Laid BY PROGRAM, IN A SANDBOX (cutbox-door.mjs). By AI agents, Wed Nov 11 2026. No macro, syntax, notation, axiom, sorry.
-/
import Derived.Test.YtaepkklbckgbhaaDoorRows
import GoSem.ClaimSeven
namespace Go.Proofs.YtaepkklbckgbhaaDoor
namespace Rows

/-- THE TIED CARD OF 'gimmallaw09.ProgReads'. -/
def progReadsCard : Claim7 := { stood := { row := progReadsRow, standIns := [], harness := (true, "7881846117a746198ca116a75ab2026ec1c64489dedcc3fda2bdcfedd8d9806a"), looks := false }, kinds := [], alts := [], laidByText := true, laidKinds := [.data, .data, .data], laidTests := true, laidLooks := .later }
def ProgReadsCardSaid : Prop := Claim7.holds Tryd.pinned (.plain (OpenSpec.ofChange progReadsSpec)) progReadsCard

/-- THE TIED CARD OF 'gimmallaw09.ProgSure'. -/
def progSureCard : Claim7 := { stood := { row := progSureRow, standIns := [], harness := (true, "7881846117a746198ca116a75ab2026ec1c64489dedcc3fda2bdcfedd8d9806a"), looks := false }, kinds := [], alts := [], laidByText := true, laidKinds := [.data, .data, .data], laidTests := true, laidLooks := .later }
def ProgSureCardSaid : Prop := Claim7.holds Tryd.pinned (.plain (OpenSpec.ofChange progSureSpec)) progSureCard

/-- THE TIED CARD OF 'gimmallaw09.ProgMay'. -/
def progMayCard : Claim7 := { stood := { row := progMayRow, standIns := [], harness := (true, "7881846117a746198ca116a75ab2026ec1c64489dedcc3fda2bdcfedd8d9806a"), looks := false }, kinds := [], alts := [], laidByText := true, laidKinds := [.data, .data, .data], laidTests := true, laidLooks := .later }
def ProgMayCardSaid : Prop := Claim7.holds Tryd.pinned (.plain (OpenSpec.ofChange progMaySpec)) progMayCard

/-- THE TIED CARD OF 'gimmallaw09.ProgWords'. -/
def progWordsCard : Claim7 := { stood := { row := progWordsRow, standIns := [], harness := (true, "7881846117a746198ca116a75ab2026ec1c64489dedcc3fda2bdcfedd8d9806a"), looks := false }, kinds := [], alts := [], laidByText := true, laidKinds := [.data, .data, .data], laidTests := true, laidLooks := .later }
def ProgWordsCardSaid : Prop := Claim7.holds Tryd.pinned (.plain (OpenSpec.ofChange progWordsSpec)) progWordsCard

/-- THE SECOND FORM's CARD OF 'gimmallaw09.ProgReads'. -/
def progReadsUptoCard : Claim7 := { stood := { row := progReadsUptoRow, standIns := [], harness := (true, "7881846117a746198ca116a75ab2026ec1c64489dedcc3fda2bdcfedd8d9806a"), looks := false }, kinds := [], alts := [], laidByText := true, laidKinds := [.data, .data, .data], laidTests := true, laidLooks := .later }
def ProgReadsUptoCardSaid : Prop := Claim7.holds Tryd.pinned (.plain (OpenSpec.upto progReadsSpec)) progReadsUptoCard

/-- THE SECOND FORM's CARD OF 'gimmallaw09.ProgSure'. -/
def progSureUptoCard : Claim7 := { stood := { row := progSureUptoRow, standIns := [], harness := (true, "7881846117a746198ca116a75ab2026ec1c64489dedcc3fda2bdcfedd8d9806a"), looks := false }, kinds := [], alts := [], laidByText := true, laidKinds := [.data, .data, .data], laidTests := true, laidLooks := .later }
def ProgSureUptoCardSaid : Prop := Claim7.holds Tryd.pinned (.plain (OpenSpec.upto progSureSpec)) progSureUptoCard

/-- THE SECOND FORM's CARD OF 'gimmallaw09.ProgMay'. -/
def progMayUptoCard : Claim7 := { stood := { row := progMayUptoRow, standIns := [], harness := (true, "7881846117a746198ca116a75ab2026ec1c64489dedcc3fda2bdcfedd8d9806a"), looks := false }, kinds := [], alts := [], laidByText := true, laidKinds := [.data, .data, .data], laidTests := true, laidLooks := .later }
def ProgMayUptoCardSaid : Prop := Claim7.holds Tryd.pinned (.plain (OpenSpec.upto progMaySpec)) progMayUptoCard

/-- THE SECOND FORM's CARD OF 'gimmallaw09.ProgWords'. -/
def progWordsUptoCard : Claim7 := { stood := { row := progWordsUptoRow, standIns := [], harness := (true, "7881846117a746198ca116a75ab2026ec1c64489dedcc3fda2bdcfedd8d9806a"), looks := false }, kinds := [], alts := [], laidByText := true, laidKinds := [.data, .data, .data], laidTests := true, laidLooks := .later }
def ProgWordsUptoCardSaid : Prop := Claim7.holds Tryd.pinned (.plain (OpenSpec.upto progWordsSpec)) progWordsUptoCard
end Rows
end Go.Proofs.YtaepkklbckgbhaaDoor

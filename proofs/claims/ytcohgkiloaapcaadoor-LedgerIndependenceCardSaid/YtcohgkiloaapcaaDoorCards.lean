/-
  DERIVED. GIVEN WITH THE SEED: THE CARDS: each row of YtcohgkiloaapcaaDoorRows.lean that lists a variable, with what it lists TIED to the program's text (the seventh form; the later family's looks); each row that meets fmt, with fmt's text TOLD by the authors' own Lean function (tested against real Go, not proved from fmt's source: count such statements apart). THE CARD IS WHAT COUNTS. Prove the row's statement (the work); the ties are given (YtcohgkiloaapcaaDoorTie.lean); close each card by the builder's one call (the guide's Derived/Test/ToyasCard.lean, 'card_holds'). Laid BY PROGRAM, IN A SANDBOX (cutbox-door.mjs). By AI agents, Wed Nov 11 2026. No macro, syntax, notation, axiom, sorry.
-/
import Derived.Test.YtcohgkiloaapcaaDoorRows
import GoSem.ClaimSeven
namespace Go.Proofs.YtcohgkiloaapcaaDoor
namespace Rows

/-- THE TIED CARD OF 'armillarylaw28.LedgerMatchesReference'. -/
def ledgerMatchesReferenceCard : Claim7 := { stood := { row := ledgerMatchesReferenceRow, standIns := [], harness := (true, "fef0f658d46f2b31548aceb5a193b059c844c18693a0855299c2bac37f2f0ac5"), looks := true }, kinds := [], alts := [], laidByText := true, laidKinds := [.handle], laidTests := true, laidLooks := .later }
def LedgerMatchesReferenceCardSaid : Prop := Claim7.holds Tryd.pinned (.plain (OpenSpec.ofChange ledgerMatchesReferenceSpec)) ledgerMatchesReferenceCard

/-- THE TIED CARD OF 'armillarylaw28.LedgerRoundTrip'. -/
def ledgerRoundTripCard : Claim7 := { stood := { row := ledgerRoundTripRow, standIns := [], harness := (true, "fef0f658d46f2b31548aceb5a193b059c844c18693a0855299c2bac37f2f0ac5"), looks := true }, kinds := [], alts := [], laidByText := true, laidKinds := [.handle], laidTests := true, laidLooks := .later }
def LedgerRoundTripCardSaid : Prop := Claim7.holds Tryd.pinned (.plain (OpenSpec.ofChange ledgerRoundTripSpec)) ledgerRoundTripCard

/-- THE TIED CARD OF 'armillarylaw28.LedgerCanonical'. -/
def ledgerCanonicalCard : Claim7 := { stood := { row := ledgerCanonicalRow, standIns := [], harness := (true, "fef0f658d46f2b31548aceb5a193b059c844c18693a0855299c2bac37f2f0ac5"), looks := true }, kinds := [], alts := [], laidByText := true, laidKinds := [.handle], laidTests := true, laidLooks := .later }
def LedgerCanonicalCardSaid : Prop := Claim7.holds Tryd.pinned (.plain (OpenSpec.ofChange ledgerCanonicalSpec)) ledgerCanonicalCard

/-- THE TIED CARD OF 'armillarylaw28.LedgerTruncation'. -/
def ledgerTruncationCard : Claim7 := { stood := { row := ledgerTruncationRow, standIns := [], harness := (true, "fef0f658d46f2b31548aceb5a193b059c844c18693a0855299c2bac37f2f0ac5"), looks := true }, kinds := [], alts := [], laidByText := true, laidKinds := [.handle], laidTests := true, laidLooks := .later }
def LedgerTruncationCardSaid : Prop := Claim7.holds Tryd.pinned (.plain (OpenSpec.ofChange ledgerTruncationSpec)) ledgerTruncationCard

/-- THE TIED CARD OF 'armillarylaw28.LedgerCorruption'. -/
def ledgerCorruptionCard : Claim7 := { stood := { row := ledgerCorruptionRow, standIns := [], harness := (true, "fef0f658d46f2b31548aceb5a193b059c844c18693a0855299c2bac37f2f0ac5"), looks := true }, kinds := [], alts := [], laidByText := true, laidKinds := [.handle], laidTests := true, laidLooks := .later }
def LedgerCorruptionCardSaid : Prop := Claim7.holds Tryd.pinned (.plain (OpenSpec.ofChange ledgerCorruptionSpec)) ledgerCorruptionCard

/-- THE TIED CARD OF 'armillarylaw28.LedgerRepair'. -/
def ledgerRepairCard : Claim7 := { stood := { row := ledgerRepairRow, standIns := [], harness := (true, "fef0f658d46f2b31548aceb5a193b059c844c18693a0855299c2bac37f2f0ac5"), looks := true }, kinds := [], alts := [], laidByText := true, laidKinds := [.handle], laidTests := true, laidLooks := .later }
def LedgerRepairCardSaid : Prop := Claim7.holds Tryd.pinned (.plain (OpenSpec.ofChange ledgerRepairSpec)) ledgerRepairCard

/-- THE TIED CARD OF 'armillarylaw28.LedgerChainHash'. -/
def ledgerChainHashCard : Claim7 := { stood := { row := ledgerChainHashRow, standIns := [], harness := (true, "fef0f658d46f2b31548aceb5a193b059c844c18693a0855299c2bac37f2f0ac5"), looks := true }, kinds := [], alts := [], laidByText := true, laidKinds := [.handle], laidTests := true, laidLooks := .later }
def LedgerChainHashCardSaid : Prop := Claim7.holds Tryd.pinned (.plain (OpenSpec.ofChange ledgerChainHashSpec)) ledgerChainHashCard

/-- THE TIED CARD OF 'armillarylaw28.LedgerIndependence'. -/
def ledgerIndependenceCard : Claim7 := { stood := { row := ledgerIndependenceRow, standIns := [], harness := (true, "fef0f658d46f2b31548aceb5a193b059c844c18693a0855299c2bac37f2f0ac5"), looks := true }, kinds := [], alts := [], laidByText := true, laidKinds := [.handle], laidTests := true, laidLooks := .later }
def LedgerIndependenceCardSaid : Prop := Claim7.holds Tryd.pinned (.plain (OpenSpec.ofChange ledgerIndependenceSpec)) ledgerIndependenceCard

/-- THE SECOND FORM's CARD OF 'armillarylaw28.LedgerMatchesReference'. -/
def ledgerMatchesReferenceUptoCard : Claim7 := { stood := { row := ledgerMatchesReferenceUptoRow, standIns := [], harness := (true, "fef0f658d46f2b31548aceb5a193b059c844c18693a0855299c2bac37f2f0ac5"), looks := true }, kinds := [], alts := [], laidByText := true, laidKinds := [.handle], laidTests := true, laidLooks := .later }
def LedgerMatchesReferenceUptoCardSaid : Prop := Claim7.holds Tryd.pinned (.plain (OpenSpec.upto ledgerMatchesReferenceSpec)) ledgerMatchesReferenceUptoCard

/-- THE SECOND FORM's CARD OF 'armillarylaw28.LedgerRoundTrip'. -/
def ledgerRoundTripUptoCard : Claim7 := { stood := { row := ledgerRoundTripUptoRow, standIns := [], harness := (true, "fef0f658d46f2b31548aceb5a193b059c844c18693a0855299c2bac37f2f0ac5"), looks := true }, kinds := [], alts := [], laidByText := true, laidKinds := [.handle], laidTests := true, laidLooks := .later }
def LedgerRoundTripUptoCardSaid : Prop := Claim7.holds Tryd.pinned (.plain (OpenSpec.upto ledgerRoundTripSpec)) ledgerRoundTripUptoCard

/-- THE SECOND FORM's CARD OF 'armillarylaw28.LedgerCanonical'. -/
def ledgerCanonicalUptoCard : Claim7 := { stood := { row := ledgerCanonicalUptoRow, standIns := [], harness := (true, "fef0f658d46f2b31548aceb5a193b059c844c18693a0855299c2bac37f2f0ac5"), looks := true }, kinds := [], alts := [], laidByText := true, laidKinds := [.handle], laidTests := true, laidLooks := .later }
def LedgerCanonicalUptoCardSaid : Prop := Claim7.holds Tryd.pinned (.plain (OpenSpec.upto ledgerCanonicalSpec)) ledgerCanonicalUptoCard

/-- THE SECOND FORM's CARD OF 'armillarylaw28.LedgerTruncation'. -/
def ledgerTruncationUptoCard : Claim7 := { stood := { row := ledgerTruncationUptoRow, standIns := [], harness := (true, "fef0f658d46f2b31548aceb5a193b059c844c18693a0855299c2bac37f2f0ac5"), looks := true }, kinds := [], alts := [], laidByText := true, laidKinds := [.handle], laidTests := true, laidLooks := .later }
def LedgerTruncationUptoCardSaid : Prop := Claim7.holds Tryd.pinned (.plain (OpenSpec.upto ledgerTruncationSpec)) ledgerTruncationUptoCard

/-- THE SECOND FORM's CARD OF 'armillarylaw28.LedgerCorruption'. -/
def ledgerCorruptionUptoCard : Claim7 := { stood := { row := ledgerCorruptionUptoRow, standIns := [], harness := (true, "fef0f658d46f2b31548aceb5a193b059c844c18693a0855299c2bac37f2f0ac5"), looks := true }, kinds := [], alts := [], laidByText := true, laidKinds := [.handle], laidTests := true, laidLooks := .later }
def LedgerCorruptionUptoCardSaid : Prop := Claim7.holds Tryd.pinned (.plain (OpenSpec.upto ledgerCorruptionSpec)) ledgerCorruptionUptoCard

/-- THE SECOND FORM's CARD OF 'armillarylaw28.LedgerRepair'. -/
def ledgerRepairUptoCard : Claim7 := { stood := { row := ledgerRepairUptoRow, standIns := [], harness := (true, "fef0f658d46f2b31548aceb5a193b059c844c18693a0855299c2bac37f2f0ac5"), looks := true }, kinds := [], alts := [], laidByText := true, laidKinds := [.handle], laidTests := true, laidLooks := .later }
def LedgerRepairUptoCardSaid : Prop := Claim7.holds Tryd.pinned (.plain (OpenSpec.upto ledgerRepairSpec)) ledgerRepairUptoCard

/-- THE SECOND FORM's CARD OF 'armillarylaw28.LedgerChainHash'. -/
def ledgerChainHashUptoCard : Claim7 := { stood := { row := ledgerChainHashUptoRow, standIns := [], harness := (true, "fef0f658d46f2b31548aceb5a193b059c844c18693a0855299c2bac37f2f0ac5"), looks := true }, kinds := [], alts := [], laidByText := true, laidKinds := [.handle], laidTests := true, laidLooks := .later }
def LedgerChainHashUptoCardSaid : Prop := Claim7.holds Tryd.pinned (.plain (OpenSpec.upto ledgerChainHashSpec)) ledgerChainHashUptoCard

/-- THE SECOND FORM's CARD OF 'armillarylaw28.LedgerIndependence'. -/
def ledgerIndependenceUptoCard : Claim7 := { stood := { row := ledgerIndependenceUptoRow, standIns := [], harness := (true, "fef0f658d46f2b31548aceb5a193b059c844c18693a0855299c2bac37f2f0ac5"), looks := true }, kinds := [], alts := [], laidByText := true, laidKinds := [.handle], laidTests := true, laidLooks := .later }
def LedgerIndependenceUptoCardSaid : Prop := Claim7.holds Tryd.pinned (.plain (OpenSpec.upto ledgerIndependenceSpec)) ledgerIndependenceUptoCard
end Rows
end Go.Proofs.YtcohgkiloaapcaaDoor

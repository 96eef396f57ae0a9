/-
  NARROWER THAN 'FOR EVERY INPUT', by the rows' own cells (each row's printed sentence says how): LedgerMatchesReference: laid · LedgerRoundTrip: laid · LedgerCanonical: laid · LedgerTruncation: laid · LedgerCorruption: laid · LedgerRepair: laid · LedgerChainHash: laid · LedgerIndependence: laid.
  DERIVED. THE GIVEN ROWS OF THIS SEAT. 8 by the template 'for every input the law returns true; each argument reads behind the call as it read before'; 0 by the template 'total and deterministic' (their statements: YtcohgkiloaapcaaDoorTotals.lean).
  GIVEN WITH THE SEED: the statements are not yours to turn. If you find one false, say at which input.
  Laid BY PROGRAM, IN A SANDBOX (cutbox-rows.mjs): the forced cells as the released guide's own fill.sh prints them over the translation 4884508727090e91… (all of the seat's roots in one cut). By AI agents, Wed Nov 11 2026. No macro, syntax, notation, axiom, sorry.
-/
import Derived.Test.YtcohgkiloaapcaaDoorChecked
import GoSem.Claim
import GoSem.ClaimJoined
import GoSem.ClaimMapViews
import Derived.JoinedTies
import Derived.KernelRfl
namespace Go.Proofs.YtcohgkiloaapcaaDoor
/- THE CELL 'sum', in the pinned program and in every row, IS THE sha256 OF THE DUMP (.gsa) THAT YtcohgkiloaapcaaDoorProg.lean LOADS. Nothing in Lean hashes anything: it is a label: what it is worth is what the hold of that sum in a sandbox is worth. -/
noncomputable def Tryd.pinned : Pinned := { name := "ytcohgkiloaapcaadoor", sum := "4884508727090e91fb5d053e8c3bfab6876a09870e9a4dbe26675d4ff1b1d3e0", checked := Tryd.checked }
namespace Rows
def none {H : Type} : Left H := { results := [], args := [] }

/- WHAT THE LISTED PACKAGE-LEVEL VARIABLES READ AS WHEN THE CALL BEGINS. Each datum BY PROGRAM (the guide's laid-datum.mjs) off the statement by which the dump's own 'gosem.cut.vars' lays the variable. In a bare row this is a premise. The card (YtcohgkiloaapcaaDoorCards.lean) ties it to the program's text. -/
def laid_errors_errorType {H : Type} : DataW H := .iface "internal/reflectlite.rtype" (.agg [.ptr (.lit (.string [101, 114, 114, 111, 114]))])

/-- 'armillarylaw28.LedgerMatchesReference': WHATEVER THE INPUT: true; the input reads as it did. -/
def ledgerMatchesReferenceSpec : ChangeSpec := { name := "ledgerMatchesReference", fn := fun _ => fun
  | [d1, d2, d3] => { results := [.lit (.bool true)], args := [d1, d2, d3] }
  | _ => none }
def ledgerMatchesReferenceRow : OpenClaim := { program := "ytcohgkiloaapcaadoor", sum := "4884508727090e91fb5d053e8c3bfab6876a09870e9a4dbe26675d4ff1b1d3e0", func := "armillary/armillarylaw28.LedgerMatchesReference", spec := "ledgerMatchesReference", inPlace := ["internal/reflectlite.ValueOf", "(internal/reflectlite.Value).Type", "(internal/reflectlite.Value).IsNil", "internal/reflectlite.TypeOf", "(internal/reflectlite.Value).Elem", "(internal/reflectlite.Value).Set"], unfollowed := true, recurses := true, named := ["errors.errorType"], apart := false, laid := [("errors.errorType", laid_errors_errorType)] }
def LedgerMatchesReferenceSaid : Prop := ledgerMatchesReferenceRow.holds Tryd.pinned (OpenSpec.ofChange ledgerMatchesReferenceSpec)

/-- ITS FALSE NEIGHBOUR: 'it returns false'. Refute it at one input. -/
def ledgerMatchesReferenceWrong : ChangeSpec := { name := "ledgerMatchesReference", fn := fun _ => fun
  | [d1, d2, d3] => { results := [.lit (.bool false)], args := [d1, d2, d3] }
  | _ => none }
def LedgerMatchesReferenceWrongFalsely : Prop := ledgerMatchesReferenceRow.holds Tryd.pinned (OpenSpec.ofChange ledgerMatchesReferenceWrong)

/-- 'armillarylaw28.LedgerRoundTrip': WHATEVER THE INPUT: true; the input reads as it did. -/
def ledgerRoundTripSpec : ChangeSpec := { name := "ledgerRoundTrip", fn := fun _ => fun
  | [d] => { results := [.lit (.bool true)], args := [d] }
  | _ => none }
def ledgerRoundTripRow : OpenClaim := { program := "ytcohgkiloaapcaadoor", sum := "4884508727090e91fb5d053e8c3bfab6876a09870e9a4dbe26675d4ff1b1d3e0", func := "armillary/armillarylaw28.LedgerRoundTrip", spec := "ledgerRoundTrip", inPlace := ["internal/reflectlite.ValueOf", "(internal/reflectlite.Value).Type", "(internal/reflectlite.Value).IsNil", "internal/reflectlite.TypeOf", "(internal/reflectlite.Value).Elem", "(internal/reflectlite.Value).Set"], unfollowed := true, recurses := true, named := ["errors.errorType"], apart := false, laid := [("errors.errorType", laid_errors_errorType)] }
def LedgerRoundTripSaid : Prop := ledgerRoundTripRow.holds Tryd.pinned (OpenSpec.ofChange ledgerRoundTripSpec)

/-- ITS FALSE NEIGHBOUR: 'it returns false'. Refute it at one input. -/
def ledgerRoundTripWrong : ChangeSpec := { name := "ledgerRoundTrip", fn := fun _ => fun
  | [d] => { results := [.lit (.bool false)], args := [d] }
  | _ => none }
def LedgerRoundTripWrongFalsely : Prop := ledgerRoundTripRow.holds Tryd.pinned (OpenSpec.ofChange ledgerRoundTripWrong)

/-- 'armillarylaw28.LedgerCanonical': WHATEVER THE INPUT: true; the input reads as it did. -/
def ledgerCanonicalSpec : ChangeSpec := { name := "ledgerCanonical", fn := fun _ => fun
  | [d1, d2, d3] => { results := [.lit (.bool true)], args := [d1, d2, d3] }
  | _ => none }
def ledgerCanonicalRow : OpenClaim := { program := "ytcohgkiloaapcaadoor", sum := "4884508727090e91fb5d053e8c3bfab6876a09870e9a4dbe26675d4ff1b1d3e0", func := "armillary/armillarylaw28.LedgerCanonical", spec := "ledgerCanonical", inPlace := ["internal/reflectlite.ValueOf", "(internal/reflectlite.Value).Type", "(internal/reflectlite.Value).IsNil", "internal/reflectlite.TypeOf", "(internal/reflectlite.Value).Elem", "(internal/reflectlite.Value).Set"], unfollowed := true, recurses := true, named := ["errors.errorType"], apart := false, laid := [("errors.errorType", laid_errors_errorType)] }
def LedgerCanonicalSaid : Prop := ledgerCanonicalRow.holds Tryd.pinned (OpenSpec.ofChange ledgerCanonicalSpec)

/-- ITS FALSE NEIGHBOUR: 'it returns false'. Refute it at one input. -/
def ledgerCanonicalWrong : ChangeSpec := { name := "ledgerCanonical", fn := fun _ => fun
  | [d1, d2, d3] => { results := [.lit (.bool false)], args := [d1, d2, d3] }
  | _ => none }
def LedgerCanonicalWrongFalsely : Prop := ledgerCanonicalRow.holds Tryd.pinned (OpenSpec.ofChange ledgerCanonicalWrong)

/-- 'armillarylaw28.LedgerTruncation': WHATEVER THE INPUT: true; the input reads as it did. -/
def ledgerTruncationSpec : ChangeSpec := { name := "ledgerTruncation", fn := fun _ => fun
  | [d1, d2] => { results := [.lit (.bool true)], args := [d1, d2] }
  | _ => none }
def ledgerTruncationRow : OpenClaim := { program := "ytcohgkiloaapcaadoor", sum := "4884508727090e91fb5d053e8c3bfab6876a09870e9a4dbe26675d4ff1b1d3e0", func := "armillary/armillarylaw28.LedgerTruncation", spec := "ledgerTruncation", inPlace := ["internal/reflectlite.ValueOf", "(internal/reflectlite.Value).Type", "(internal/reflectlite.Value).IsNil", "internal/reflectlite.TypeOf", "(internal/reflectlite.Value).Elem", "(internal/reflectlite.Value).Set"], unfollowed := true, recurses := true, named := ["errors.errorType"], apart := false, laid := [("errors.errorType", laid_errors_errorType)] }
def LedgerTruncationSaid : Prop := ledgerTruncationRow.holds Tryd.pinned (OpenSpec.ofChange ledgerTruncationSpec)

/-- ITS FALSE NEIGHBOUR: 'it returns false'. Refute it at one input. -/
def ledgerTruncationWrong : ChangeSpec := { name := "ledgerTruncation", fn := fun _ => fun
  | [d1, d2] => { results := [.lit (.bool false)], args := [d1, d2] }
  | _ => none }
def LedgerTruncationWrongFalsely : Prop := ledgerTruncationRow.holds Tryd.pinned (OpenSpec.ofChange ledgerTruncationWrong)

/-- 'armillarylaw28.LedgerCorruption': WHATEVER THE INPUT: true; the input reads as it did. -/
def ledgerCorruptionSpec : ChangeSpec := { name := "ledgerCorruption", fn := fun _ => fun
  | [d1, d2, d3] => { results := [.lit (.bool true)], args := [d1, d2, d3] }
  | _ => none }
def ledgerCorruptionRow : OpenClaim := { program := "ytcohgkiloaapcaadoor", sum := "4884508727090e91fb5d053e8c3bfab6876a09870e9a4dbe26675d4ff1b1d3e0", func := "armillary/armillarylaw28.LedgerCorruption", spec := "ledgerCorruption", inPlace := ["internal/reflectlite.ValueOf", "(internal/reflectlite.Value).Type", "(internal/reflectlite.Value).IsNil", "internal/reflectlite.TypeOf", "(internal/reflectlite.Value).Elem", "(internal/reflectlite.Value).Set"], unfollowed := true, recurses := true, named := ["errors.errorType"], apart := false, laid := [("errors.errorType", laid_errors_errorType)] }
def LedgerCorruptionSaid : Prop := ledgerCorruptionRow.holds Tryd.pinned (OpenSpec.ofChange ledgerCorruptionSpec)

/-- ITS FALSE NEIGHBOUR: 'it returns false'. Refute it at one input. -/
def ledgerCorruptionWrong : ChangeSpec := { name := "ledgerCorruption", fn := fun _ => fun
  | [d1, d2, d3] => { results := [.lit (.bool false)], args := [d1, d2, d3] }
  | _ => none }
def LedgerCorruptionWrongFalsely : Prop := ledgerCorruptionRow.holds Tryd.pinned (OpenSpec.ofChange ledgerCorruptionWrong)

/-- 'armillarylaw28.LedgerRepair': WHATEVER THE INPUT: true; the input reads as it did. -/
def ledgerRepairSpec : ChangeSpec := { name := "ledgerRepair", fn := fun _ => fun
  | [d1, d2, d3] => { results := [.lit (.bool true)], args := [d1, d2, d3] }
  | _ => none }
def ledgerRepairRow : OpenClaim := { program := "ytcohgkiloaapcaadoor", sum := "4884508727090e91fb5d053e8c3bfab6876a09870e9a4dbe26675d4ff1b1d3e0", func := "armillary/armillarylaw28.LedgerRepair", spec := "ledgerRepair", inPlace := ["internal/reflectlite.ValueOf", "(internal/reflectlite.Value).Type", "(internal/reflectlite.Value).IsNil", "internal/reflectlite.TypeOf", "(internal/reflectlite.Value).Elem", "(internal/reflectlite.Value).Set"], unfollowed := true, recurses := true, named := ["errors.errorType"], apart := false, laid := [("errors.errorType", laid_errors_errorType)] }
def LedgerRepairSaid : Prop := ledgerRepairRow.holds Tryd.pinned (OpenSpec.ofChange ledgerRepairSpec)

/-- ITS FALSE NEIGHBOUR: 'it returns false'. Refute it at one input. -/
def ledgerRepairWrong : ChangeSpec := { name := "ledgerRepair", fn := fun _ => fun
  | [d1, d2, d3] => { results := [.lit (.bool false)], args := [d1, d2, d3] }
  | _ => none }
def LedgerRepairWrongFalsely : Prop := ledgerRepairRow.holds Tryd.pinned (OpenSpec.ofChange ledgerRepairWrong)

/-- 'armillarylaw28.LedgerChainHash': WHATEVER THE INPUT: true; the input reads as it did. -/
def ledgerChainHashSpec : ChangeSpec := { name := "ledgerChainHash", fn := fun _ => fun
  | [d1, d2, d3] => { results := [.lit (.bool true)], args := [d1, d2, d3] }
  | _ => none }
def ledgerChainHashRow : OpenClaim := { program := "ytcohgkiloaapcaadoor", sum := "4884508727090e91fb5d053e8c3bfab6876a09870e9a4dbe26675d4ff1b1d3e0", func := "armillary/armillarylaw28.LedgerChainHash", spec := "ledgerChainHash", inPlace := ["internal/reflectlite.ValueOf", "(internal/reflectlite.Value).Type", "(internal/reflectlite.Value).IsNil", "internal/reflectlite.TypeOf", "(internal/reflectlite.Value).Elem", "(internal/reflectlite.Value).Set"], unfollowed := true, recurses := true, named := ["errors.errorType"], apart := false, laid := [("errors.errorType", laid_errors_errorType)] }
def LedgerChainHashSaid : Prop := ledgerChainHashRow.holds Tryd.pinned (OpenSpec.ofChange ledgerChainHashSpec)

/-- ITS FALSE NEIGHBOUR: 'it returns false'. Refute it at one input. -/
def ledgerChainHashWrong : ChangeSpec := { name := "ledgerChainHash", fn := fun _ => fun
  | [d1, d2, d3] => { results := [.lit (.bool false)], args := [d1, d2, d3] }
  | _ => none }
def LedgerChainHashWrongFalsely : Prop := ledgerChainHashRow.holds Tryd.pinned (OpenSpec.ofChange ledgerChainHashWrong)

/-- 'armillarylaw28.LedgerIndependence': WHATEVER THE INPUT: true; the input reads as it did. -/
def ledgerIndependenceSpec : ChangeSpec := { name := "ledgerIndependence", fn := fun _ => fun
  | [d1, d2, d3] => { results := [.lit (.bool true)], args := [d1, d2, d3] }
  | _ => none }
def ledgerIndependenceRow : OpenClaim := { program := "ytcohgkiloaapcaadoor", sum := "4884508727090e91fb5d053e8c3bfab6876a09870e9a4dbe26675d4ff1b1d3e0", func := "armillary/armillarylaw28.LedgerIndependence", spec := "ledgerIndependence", inPlace := ["internal/reflectlite.ValueOf", "(internal/reflectlite.Value).Type", "(internal/reflectlite.Value).IsNil", "internal/reflectlite.TypeOf", "(internal/reflectlite.Value).Elem", "(internal/reflectlite.Value).Set"], unfollowed := true, recurses := true, named := ["errors.errorType"], apart := false, laid := [("errors.errorType", laid_errors_errorType)] }
def LedgerIndependenceSaid : Prop := ledgerIndependenceRow.holds Tryd.pinned (OpenSpec.ofChange ledgerIndependenceSpec)

/-- ITS FALSE NEIGHBOUR: 'it returns false'. Refute it at one input. -/
def ledgerIndependenceWrong : ChangeSpec := { name := "ledgerIndependence", fn := fun _ => fun
  | [d1, d2, d3] => { results := [.lit (.bool false)], args := [d1, d2, d3] }
  | _ => none }
def LedgerIndependenceWrongFalsely : Prop := ledgerIndependenceRow.holds Tryd.pinned (OpenSpec.ofChange ledgerIndependenceWrong)

/- THE SECOND FORM. 'bulk': how many values and letters a reading holds, each counted each time it is reached (what is shared counts as often as it is met; a slice's spare places count too). A statement '..UptoSaid' is the law's where the arguments, and the package variables that the reading takes, are together of bulk at most 1048576: NARROWER than '..Said'. Prove '..Said' where nothing that the law and all that it calls make is longer than what came in: it says more and counts as full. Else prove '..UptoSaid'. A law counts once. -/
mutual
def uptoBulk {H : Type} : DataW H → Nat
  | .lit (.string bytes) => bytes.length + 1
  | .lit _ => 1
  | .nil => 1
  | .ptr d => uptoBulk d + 1
  | .slice elems spare => uptoBulkAll elems + uptoBulkAll spare + 1
  | .agg parts => uptoBulkAll parts + 1
  | .iface _ d => uptoBulk d + 1
  | .map entries => uptoBulkEntries entries + 1
  | .held _ => 1
def uptoBulkAll {H : Type} : List (DataW H) → Nat
  | [] => 0
  | d :: r => uptoBulk d + uptoBulkAll r
def uptoBulkEntries {H : Type} : List (Lit × DataW H) → Nat
  | [] => 0
  | x :: r => uptoBulkEntry x + uptoBulkEntries r
def uptoBulkEntry {H : Type} : Lit × DataW H → Nat
  | (.string bytes, d) => bytes.length + uptoBulk d + 1
  | (_, d) => uptoBulk d + 1
 end
def uptoSmall : (H : Type) → List (DataW H) → Bool := fun _ ds => decide (uptoBulkAll ds ≤ 1048576)
def OpenSpec.upto (s : _root_.Go.ChangeSpec) : _root_.Go.OpenSpec := { _root_.Go.OpenSpec.ofChange s with cond := some uptoSmall }

/-- 'armillarylaw28.LedgerMatchesReference', WHERE WHAT IT READS IS OF BULK AT MOST 1048576: true; the input reads as it did. -/
def ledgerMatchesReferenceUptoRow : OpenClaim := { program := "ytcohgkiloaapcaadoor", sum := "4884508727090e91fb5d053e8c3bfab6876a09870e9a4dbe26675d4ff1b1d3e0", func := "armillary/armillarylaw28.LedgerMatchesReference", spec := "ledgerMatchesReference", inPlace := ["internal/reflectlite.ValueOf", "(internal/reflectlite.Value).Type", "(internal/reflectlite.Value).IsNil", "internal/reflectlite.TypeOf", "(internal/reflectlite.Value).Elem", "(internal/reflectlite.Value).Set"], unfollowed := true, recurses := true, named := ["errors.errorType"], apart := false, laid := [("errors.errorType", laid_errors_errorType)], narrowed := true }
def LedgerMatchesReferenceUptoSaid : Prop := ledgerMatchesReferenceUptoRow.holds Tryd.pinned (OpenSpec.upto ledgerMatchesReferenceSpec)

/-- 'armillarylaw28.LedgerRoundTrip', WHERE WHAT IT READS IS OF BULK AT MOST 1048576: true; the input reads as it did. -/
def ledgerRoundTripUptoRow : OpenClaim := { program := "ytcohgkiloaapcaadoor", sum := "4884508727090e91fb5d053e8c3bfab6876a09870e9a4dbe26675d4ff1b1d3e0", func := "armillary/armillarylaw28.LedgerRoundTrip", spec := "ledgerRoundTrip", inPlace := ["internal/reflectlite.ValueOf", "(internal/reflectlite.Value).Type", "(internal/reflectlite.Value).IsNil", "internal/reflectlite.TypeOf", "(internal/reflectlite.Value).Elem", "(internal/reflectlite.Value).Set"], unfollowed := true, recurses := true, named := ["errors.errorType"], apart := false, laid := [("errors.errorType", laid_errors_errorType)], narrowed := true }
def LedgerRoundTripUptoSaid : Prop := ledgerRoundTripUptoRow.holds Tryd.pinned (OpenSpec.upto ledgerRoundTripSpec)

/-- 'armillarylaw28.LedgerCanonical', WHERE WHAT IT READS IS OF BULK AT MOST 1048576: true; the input reads as it did. -/
def ledgerCanonicalUptoRow : OpenClaim := { program := "ytcohgkiloaapcaadoor", sum := "4884508727090e91fb5d053e8c3bfab6876a09870e9a4dbe26675d4ff1b1d3e0", func := "armillary/armillarylaw28.LedgerCanonical", spec := "ledgerCanonical", inPlace := ["internal/reflectlite.ValueOf", "(internal/reflectlite.Value).Type", "(internal/reflectlite.Value).IsNil", "internal/reflectlite.TypeOf", "(internal/reflectlite.Value).Elem", "(internal/reflectlite.Value).Set"], unfollowed := true, recurses := true, named := ["errors.errorType"], apart := false, laid := [("errors.errorType", laid_errors_errorType)], narrowed := true }
def LedgerCanonicalUptoSaid : Prop := ledgerCanonicalUptoRow.holds Tryd.pinned (OpenSpec.upto ledgerCanonicalSpec)

/-- 'armillarylaw28.LedgerTruncation', WHERE WHAT IT READS IS OF BULK AT MOST 1048576: true; the input reads as it did. -/
def ledgerTruncationUptoRow : OpenClaim := { program := "ytcohgkiloaapcaadoor", sum := "4884508727090e91fb5d053e8c3bfab6876a09870e9a4dbe26675d4ff1b1d3e0", func := "armillary/armillarylaw28.LedgerTruncation", spec := "ledgerTruncation", inPlace := ["internal/reflectlite.ValueOf", "(internal/reflectlite.Value).Type", "(internal/reflectlite.Value).IsNil", "internal/reflectlite.TypeOf", "(internal/reflectlite.Value).Elem", "(internal/reflectlite.Value).Set"], unfollowed := true, recurses := true, named := ["errors.errorType"], apart := false, laid := [("errors.errorType", laid_errors_errorType)], narrowed := true }
def LedgerTruncationUptoSaid : Prop := ledgerTruncationUptoRow.holds Tryd.pinned (OpenSpec.upto ledgerTruncationSpec)

/-- 'armillarylaw28.LedgerCorruption', WHERE WHAT IT READS IS OF BULK AT MOST 1048576: true; the input reads as it did. -/
def ledgerCorruptionUptoRow : OpenClaim := { program := "ytcohgkiloaapcaadoor", sum := "4884508727090e91fb5d053e8c3bfab6876a09870e9a4dbe26675d4ff1b1d3e0", func := "armillary/armillarylaw28.LedgerCorruption", spec := "ledgerCorruption", inPlace := ["internal/reflectlite.ValueOf", "(internal/reflectlite.Value).Type", "(internal/reflectlite.Value).IsNil", "internal/reflectlite.TypeOf", "(internal/reflectlite.Value).Elem", "(internal/reflectlite.Value).Set"], unfollowed := true, recurses := true, named := ["errors.errorType"], apart := false, laid := [("errors.errorType", laid_errors_errorType)], narrowed := true }
def LedgerCorruptionUptoSaid : Prop := ledgerCorruptionUptoRow.holds Tryd.pinned (OpenSpec.upto ledgerCorruptionSpec)

/-- 'armillarylaw28.LedgerRepair', WHERE WHAT IT READS IS OF BULK AT MOST 1048576: true; the input reads as it did. -/
def ledgerRepairUptoRow : OpenClaim := { program := "ytcohgkiloaapcaadoor", sum := "4884508727090e91fb5d053e8c3bfab6876a09870e9a4dbe26675d4ff1b1d3e0", func := "armillary/armillarylaw28.LedgerRepair", spec := "ledgerRepair", inPlace := ["internal/reflectlite.ValueOf", "(internal/reflectlite.Value).Type", "(internal/reflectlite.Value).IsNil", "internal/reflectlite.TypeOf", "(internal/reflectlite.Value).Elem", "(internal/reflectlite.Value).Set"], unfollowed := true, recurses := true, named := ["errors.errorType"], apart := false, laid := [("errors.errorType", laid_errors_errorType)], narrowed := true }
def LedgerRepairUptoSaid : Prop := ledgerRepairUptoRow.holds Tryd.pinned (OpenSpec.upto ledgerRepairSpec)

/-- 'armillarylaw28.LedgerChainHash', WHERE WHAT IT READS IS OF BULK AT MOST 1048576: true; the input reads as it did. -/
def ledgerChainHashUptoRow : OpenClaim := { program := "ytcohgkiloaapcaadoor", sum := "4884508727090e91fb5d053e8c3bfab6876a09870e9a4dbe26675d4ff1b1d3e0", func := "armillary/armillarylaw28.LedgerChainHash", spec := "ledgerChainHash", inPlace := ["internal/reflectlite.ValueOf", "(internal/reflectlite.Value).Type", "(internal/reflectlite.Value).IsNil", "internal/reflectlite.TypeOf", "(internal/reflectlite.Value).Elem", "(internal/reflectlite.Value).Set"], unfollowed := true, recurses := true, named := ["errors.errorType"], apart := false, laid := [("errors.errorType", laid_errors_errorType)], narrowed := true }
def LedgerChainHashUptoSaid : Prop := ledgerChainHashUptoRow.holds Tryd.pinned (OpenSpec.upto ledgerChainHashSpec)

/-- 'armillarylaw28.LedgerIndependence', WHERE WHAT IT READS IS OF BULK AT MOST 1048576: true; the input reads as it did. -/
def ledgerIndependenceUptoRow : OpenClaim := { program := "ytcohgkiloaapcaadoor", sum := "4884508727090e91fb5d053e8c3bfab6876a09870e9a4dbe26675d4ff1b1d3e0", func := "armillary/armillarylaw28.LedgerIndependence", spec := "ledgerIndependence", inPlace := ["internal/reflectlite.ValueOf", "(internal/reflectlite.Value).Type", "(internal/reflectlite.Value).IsNil", "internal/reflectlite.TypeOf", "(internal/reflectlite.Value).Elem", "(internal/reflectlite.Value).Set"], unfollowed := true, recurses := true, named := ["errors.errorType"], apart := false, laid := [("errors.errorType", laid_errors_errorType)], narrowed := true }
def LedgerIndependenceUptoSaid : Prop := ledgerIndependenceUptoRow.holds Tryd.pinned (OpenSpec.upto ledgerIndependenceSpec)

end Rows
end Go.Proofs.YtcohgkiloaapcaaDoor

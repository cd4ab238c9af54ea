/-
  DERIVED. GIVEN WITH THE SEED: THE CARDS: each row of YtpkjiimcoepjpaaDoorRows.lean that lists a variable, with what it lists TIED to the program's text (the seventh form; the later family's looks); each row that meets fmt, with fmt's text TOLD by the authors' own Lean function (tested against real Go, not proved from fmt's source: count such statements apart). THE CARD IS WHAT COUNTS. Prove the row's statement (the work); the ties are given (YtpkjiimcoepjpaaDoorTie.lean); close each card by the builder's one call (the guide's Derived/Test/ToyasCard.lean, 'card_holds'). Laid BY PROGRAM, IN A SANDBOX (cutbox-door.mjs). By AI agents, Wed Nov 11 2026. No macro, syntax, notation, axiom, sorry.
-/
import Derived.Test.YtpkjiimcoepjpaaDoorRows
import GoSem.ClaimSeven
namespace Go.Proofs.YtpkjiimcoepjpaaDoor
namespace Rows

/-- THE TIED CARD OF 'assessorlaw43.FingerprintSymbols'. -/
def fingerprintSymbolsCard : Claim7 := { stood := { row := fingerprintSymbolsRow, standIns := [], harness := (true, "14604ec80764b1688b87705caa6c6cb237fd6eb2ffa434605e82baa77f428602"), looks := false }, kinds := [], alts := [], laidByText := true, laidKinds := [.data, .data, .data], laidTests := true, laidLooks := .later }
def FingerprintSymbolsCardSaid : Prop := Claim7.holds Tryd.pinned (.plain (OpenSpec.ofChange fingerprintSymbolsSpec)) fingerprintSymbolsCard

/-- THE TIED CARD OF 'assessorlaw43.FingerprintHashes'. -/
def fingerprintHashesCard : Claim7 := { stood := { row := fingerprintHashesRow, standIns := [], harness := (true, "14604ec80764b1688b87705caa6c6cb237fd6eb2ffa434605e82baa77f428602"), looks := false }, kinds := [], alts := [], laidByText := true, laidKinds := [.data, .data, .data], laidTests := true, laidLooks := .later }
def FingerprintHashesCardSaid : Prop := Claim7.holds Tryd.pinned (.plain (OpenSpec.ofChange fingerprintHashesSpec)) fingerprintHashesCard

/-- THE TIED CARD OF 'assessorlaw43.FingerprintRolls'. -/
def fingerprintRollsCard : Claim7 := { stood := { row := fingerprintRollsRow, standIns := [], harness := (true, "14604ec80764b1688b87705caa6c6cb237fd6eb2ffa434605e82baa77f428602"), looks := false }, kinds := [], alts := [], laidByText := true, laidKinds := [.data, .data, .data], laidTests := true, laidLooks := .later }
def FingerprintRollsCardSaid : Prop := Claim7.holds Tryd.pinned (.plain (OpenSpec.ofChange fingerprintRollsSpec)) fingerprintRollsCard

/-- THE TIED CARD OF 'assessorlaw43.FingerprintWinnows'. -/
def fingerprintWinnowsCard : Claim7 := { stood := { row := fingerprintWinnowsRow, standIns := [], harness := (true, "14604ec80764b1688b87705caa6c6cb237fd6eb2ffa434605e82baa77f428602"), looks := false }, kinds := [], alts := [], laidByText := true, laidKinds := [.data, .data, .data], laidTests := true, laidLooks := .later }
def FingerprintWinnowsCardSaid : Prop := Claim7.holds Tryd.pinned (.plain (OpenSpec.ofChange fingerprintWinnowsSpec)) fingerprintWinnowsCard

/-- THE TIED CARD OF 'assessorlaw43.FingerprintDense'. -/
def fingerprintDenseCard : Claim7 := { stood := { row := fingerprintDenseRow, standIns := [], harness := (true, "14604ec80764b1688b87705caa6c6cb237fd6eb2ffa434605e82baa77f428602"), looks := false }, kinds := [], alts := [], laidByText := true, laidKinds := [.data, .data, .data], laidTests := true, laidLooks := .later }
def FingerprintDenseCardSaid : Prop := Claim7.holds Tryd.pinned (.plain (OpenSpec.ofChange fingerprintDenseSpec)) fingerprintDenseCard

/-- THE TIED CARD OF 'assessorlaw43.FingerprintGuarantee'. -/
def fingerprintGuaranteeCard : Claim7 := { stood := { row := fingerprintGuaranteeRow, standIns := [], harness := (true, "14604ec80764b1688b87705caa6c6cb237fd6eb2ffa434605e82baa77f428602"), looks := false }, kinds := [], alts := [], laidByText := true, laidKinds := [.data, .data, .data], laidTests := true, laidLooks := .later }
def FingerprintGuaranteeCardSaid : Prop := Claim7.holds Tryd.pinned (.plain (OpenSpec.ofChange fingerprintGuaranteeSpec)) fingerprintGuaranteeCard

/-- THE TIED CARD OF 'assessorlaw43.FingerprintLocal'. -/
def fingerprintLocalCard : Claim7 := { stood := { row := fingerprintLocalRow, standIns := [], harness := (true, "14604ec80764b1688b87705caa6c6cb237fd6eb2ffa434605e82baa77f428602"), looks := false }, kinds := [], alts := [], laidByText := true, laidKinds := [.data, .data, .data], laidTests := true, laidLooks := .later }
def FingerprintLocalCardSaid : Prop := Claim7.holds Tryd.pinned (.plain (OpenSpec.ofChange fingerprintLocalSpec)) fingerprintLocalCard

/-- THE SECOND FORM's CARD OF 'assessorlaw43.FingerprintSymbols'. -/
def fingerprintSymbolsUptoCard : Claim7 := { stood := { row := fingerprintSymbolsUptoRow, standIns := [], harness := (true, "14604ec80764b1688b87705caa6c6cb237fd6eb2ffa434605e82baa77f428602"), looks := false }, kinds := [], alts := [], laidByText := true, laidKinds := [.data, .data, .data], laidTests := true, laidLooks := .later }
def FingerprintSymbolsUptoCardSaid : Prop := Claim7.holds Tryd.pinned (.plain (OpenSpec.upto fingerprintSymbolsSpec)) fingerprintSymbolsUptoCard

/-- THE SECOND FORM's CARD OF 'assessorlaw43.FingerprintHashes'. -/
def fingerprintHashesUptoCard : Claim7 := { stood := { row := fingerprintHashesUptoRow, standIns := [], harness := (true, "14604ec80764b1688b87705caa6c6cb237fd6eb2ffa434605e82baa77f428602"), looks := false }, kinds := [], alts := [], laidByText := true, laidKinds := [.data, .data, .data], laidTests := true, laidLooks := .later }
def FingerprintHashesUptoCardSaid : Prop := Claim7.holds Tryd.pinned (.plain (OpenSpec.upto fingerprintHashesSpec)) fingerprintHashesUptoCard

/-- THE SECOND FORM's CARD OF 'assessorlaw43.FingerprintRolls'. -/
def fingerprintRollsUptoCard : Claim7 := { stood := { row := fingerprintRollsUptoRow, standIns := [], harness := (true, "14604ec80764b1688b87705caa6c6cb237fd6eb2ffa434605e82baa77f428602"), looks := false }, kinds := [], alts := [], laidByText := true, laidKinds := [.data, .data, .data], laidTests := true, laidLooks := .later }
def FingerprintRollsUptoCardSaid : Prop := Claim7.holds Tryd.pinned (.plain (OpenSpec.upto fingerprintRollsSpec)) fingerprintRollsUptoCard

/-- THE SECOND FORM's CARD OF 'assessorlaw43.FingerprintWinnows'. -/
def fingerprintWinnowsUptoCard : Claim7 := { stood := { row := fingerprintWinnowsUptoRow, standIns := [], harness := (true, "14604ec80764b1688b87705caa6c6cb237fd6eb2ffa434605e82baa77f428602"), looks := false }, kinds := [], alts := [], laidByText := true, laidKinds := [.data, .data, .data], laidTests := true, laidLooks := .later }
def FingerprintWinnowsUptoCardSaid : Prop := Claim7.holds Tryd.pinned (.plain (OpenSpec.upto fingerprintWinnowsSpec)) fingerprintWinnowsUptoCard

/-- THE SECOND FORM's CARD OF 'assessorlaw43.FingerprintDense'. -/
def fingerprintDenseUptoCard : Claim7 := { stood := { row := fingerprintDenseUptoRow, standIns := [], harness := (true, "14604ec80764b1688b87705caa6c6cb237fd6eb2ffa434605e82baa77f428602"), looks := false }, kinds := [], alts := [], laidByText := true, laidKinds := [.data, .data, .data], laidTests := true, laidLooks := .later }
def FingerprintDenseUptoCardSaid : Prop := Claim7.holds Tryd.pinned (.plain (OpenSpec.upto fingerprintDenseSpec)) fingerprintDenseUptoCard

/-- THE SECOND FORM's CARD OF 'assessorlaw43.FingerprintGuarantee'. -/
def fingerprintGuaranteeUptoCard : Claim7 := { stood := { row := fingerprintGuaranteeUptoRow, standIns := [], harness := (true, "14604ec80764b1688b87705caa6c6cb237fd6eb2ffa434605e82baa77f428602"), looks := false }, kinds := [], alts := [], laidByText := true, laidKinds := [.data, .data, .data], laidTests := true, laidLooks := .later }
def FingerprintGuaranteeUptoCardSaid : Prop := Claim7.holds Tryd.pinned (.plain (OpenSpec.upto fingerprintGuaranteeSpec)) fingerprintGuaranteeUptoCard

/-- THE SECOND FORM's CARD OF 'assessorlaw43.FingerprintLocal'. -/
def fingerprintLocalUptoCard : Claim7 := { stood := { row := fingerprintLocalUptoRow, standIns := [], harness := (true, "14604ec80764b1688b87705caa6c6cb237fd6eb2ffa434605e82baa77f428602"), looks := false }, kinds := [], alts := [], laidByText := true, laidKinds := [.data, .data, .data], laidTests := true, laidLooks := .later }
def FingerprintLocalUptoCardSaid : Prop := Claim7.holds Tryd.pinned (.plain (OpenSpec.upto fingerprintLocalSpec)) fingerprintLocalUptoCard
end Rows
end Go.Proofs.YtpkjiimcoepjpaaDoor

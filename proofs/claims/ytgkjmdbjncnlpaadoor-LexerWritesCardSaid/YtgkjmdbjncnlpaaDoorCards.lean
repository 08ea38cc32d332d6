/-
  DERIVED. GIVEN WITH THE SEED: THE CARDS: each row of YtgkjmdbjncnlpaaDoorRows.lean that lists a variable, with what it lists TIED to the program's text (the seventh form; the later family's looks); each row that meets fmt, with fmt's text TOLD by the authors' own Lean function (tested against real Go, not proved from fmt's source: count such statements apart). THE CARD IS WHAT COUNTS. Prove the row's statement (the work); the ties are given (YtgkjmdbjncnlpaaDoorTie.lean); close each card by the builder's one call (the guide's Derived/Test/ToyasCard.lean, 'card_holds'). Laid BY PROGRAM, IN A SANDBOX (cutbox-door.mjs). By AI agents, Wed Nov 11 2026. No macro, syntax, notation, axiom, sorry.
-/
import Derived.Test.YtgkjmdbjncnlpaaDoorRows
import GoSem.ClaimSeven
namespace Go.Proofs.YtgkjmdbjncnlpaaDoor
namespace Rows

/-- THE TIED CARD OF 'chargeparklaw01.LexerMatchesReference'. -/
def lexerMatchesReferenceCard : Claim7 := { stood := { row := lexerMatchesReferenceRow, standIns := [], harness := (true, "5d6a2adc1b7722c716f88ded3abfa30e7dcb2029d9b0574fe13fb8289b9329c0"), looks := true }, kinds := [], alts := [], laidByText := true, laidKinds := [.data, .data, .data, .sentinel, .sentinel], laidTests := true, laidLooks := .later }
def LexerMatchesReferenceCardSaid : Prop := Claim7.holds Tryd.pinned (.plain (OpenSpec.ofChange lexerMatchesReferenceSpec)) lexerMatchesReferenceCard

/-- THE TIED CARD OF 'chargeparklaw01.LexerCovers'. -/
def lexerCoversCard : Claim7 := { stood := { row := lexerCoversRow, standIns := [], harness := (true, "5d6a2adc1b7722c716f88ded3abfa30e7dcb2029d9b0574fe13fb8289b9329c0"), looks := true }, kinds := [], alts := [], laidByText := true, laidKinds := [.data, .data, .data, .sentinel, .sentinel], laidTests := true, laidLooks := .later }
def LexerCoversCardSaid : Prop := Claim7.holds Tryd.pinned (.plain (OpenSpec.ofChange lexerCoversSpec)) lexerCoversCard

/-- THE TIED CARD OF 'chargeparklaw01.LexerGaps'. -/
def lexerGapsCard : Claim7 := { stood := { row := lexerGapsRow, standIns := [], harness := (true, "5d6a2adc1b7722c716f88ded3abfa30e7dcb2029d9b0574fe13fb8289b9329c0"), looks := true }, kinds := [], alts := [], laidByText := true, laidKinds := [.data, .data, .data, .sentinel, .sentinel], laidTests := true, laidLooks := .later }
def LexerGapsCardSaid : Prop := Claim7.holds Tryd.pinned (.plain (OpenSpec.ofChange lexerGapsSpec)) lexerGapsCard

/-- THE TIED CARD OF 'chargeparklaw01.LexerJoins'. -/
def lexerJoinsCard : Claim7 := { stood := { row := lexerJoinsRow, standIns := [], harness := (true, "5d6a2adc1b7722c716f88ded3abfa30e7dcb2029d9b0574fe13fb8289b9329c0"), looks := true }, kinds := [], alts := [], laidByText := true, laidKinds := [.data, .data, .data, .sentinel, .sentinel], laidTests := true, laidLooks := .later }
def LexerJoinsCardSaid : Prop := Claim7.holds Tryd.pinned (.plain (OpenSpec.ofChange lexerJoinsSpec)) lexerJoinsCard

/-- THE TIED CARD OF 'chargeparklaw01.LexerWrites'. -/
def lexerWritesCard : Claim7 := { stood := { row := lexerWritesRow, standIns := [], harness := (true, "5d6a2adc1b7722c716f88ded3abfa30e7dcb2029d9b0574fe13fb8289b9329c0"), looks := true }, kinds := [], alts := [], laidByText := true, laidKinds := [.data, .data, .data, .sentinel, .sentinel], laidTests := true, laidLooks := .later }
def LexerWritesCardSaid : Prop := Claim7.holds Tryd.pinned (.plain (OpenSpec.ofChange lexerWritesSpec)) lexerWritesCard

/-- THE TIED CARD OF 'chargeparklaw01.LexerErrors'. -/
def lexerErrorsCard : Claim7 := { stood := { row := lexerErrorsRow, standIns := [], harness := (true, "5d6a2adc1b7722c716f88ded3abfa30e7dcb2029d9b0574fe13fb8289b9329c0"), looks := true }, kinds := [], alts := [], laidByText := true, laidKinds := [.data, .data, .data, .sentinel, .sentinel], laidTests := true, laidLooks := .later }
def LexerErrorsCardSaid : Prop := Claim7.holds Tryd.pinned (.plain (OpenSpec.ofChange lexerErrorsSpec)) lexerErrorsCard

/-- THE SECOND FORM's CARD OF 'chargeparklaw01.LexerMatchesReference'. -/
def lexerMatchesReferenceUptoCard : Claim7 := { stood := { row := lexerMatchesReferenceUptoRow, standIns := [], harness := (true, "5d6a2adc1b7722c716f88ded3abfa30e7dcb2029d9b0574fe13fb8289b9329c0"), looks := true }, kinds := [], alts := [], laidByText := true, laidKinds := [.data, .data, .data, .sentinel, .sentinel], laidTests := true, laidLooks := .later }
def LexerMatchesReferenceUptoCardSaid : Prop := Claim7.holds Tryd.pinned (.plain (OpenSpec.upto lexerMatchesReferenceSpec)) lexerMatchesReferenceUptoCard

/-- THE SECOND FORM's CARD OF 'chargeparklaw01.LexerCovers'. -/
def lexerCoversUptoCard : Claim7 := { stood := { row := lexerCoversUptoRow, standIns := [], harness := (true, "5d6a2adc1b7722c716f88ded3abfa30e7dcb2029d9b0574fe13fb8289b9329c0"), looks := true }, kinds := [], alts := [], laidByText := true, laidKinds := [.data, .data, .data, .sentinel, .sentinel], laidTests := true, laidLooks := .later }
def LexerCoversUptoCardSaid : Prop := Claim7.holds Tryd.pinned (.plain (OpenSpec.upto lexerCoversSpec)) lexerCoversUptoCard

/-- THE SECOND FORM's CARD OF 'chargeparklaw01.LexerGaps'. -/
def lexerGapsUptoCard : Claim7 := { stood := { row := lexerGapsUptoRow, standIns := [], harness := (true, "5d6a2adc1b7722c716f88ded3abfa30e7dcb2029d9b0574fe13fb8289b9329c0"), looks := true }, kinds := [], alts := [], laidByText := true, laidKinds := [.data, .data, .data, .sentinel, .sentinel], laidTests := true, laidLooks := .later }
def LexerGapsUptoCardSaid : Prop := Claim7.holds Tryd.pinned (.plain (OpenSpec.upto lexerGapsSpec)) lexerGapsUptoCard

/-- THE SECOND FORM's CARD OF 'chargeparklaw01.LexerJoins'. -/
def lexerJoinsUptoCard : Claim7 := { stood := { row := lexerJoinsUptoRow, standIns := [], harness := (true, "5d6a2adc1b7722c716f88ded3abfa30e7dcb2029d9b0574fe13fb8289b9329c0"), looks := true }, kinds := [], alts := [], laidByText := true, laidKinds := [.data, .data, .data, .sentinel, .sentinel], laidTests := true, laidLooks := .later }
def LexerJoinsUptoCardSaid : Prop := Claim7.holds Tryd.pinned (.plain (OpenSpec.upto lexerJoinsSpec)) lexerJoinsUptoCard

/-- THE SECOND FORM's CARD OF 'chargeparklaw01.LexerWrites'. -/
def lexerWritesUptoCard : Claim7 := { stood := { row := lexerWritesUptoRow, standIns := [], harness := (true, "5d6a2adc1b7722c716f88ded3abfa30e7dcb2029d9b0574fe13fb8289b9329c0"), looks := true }, kinds := [], alts := [], laidByText := true, laidKinds := [.data, .data, .data, .sentinel, .sentinel], laidTests := true, laidLooks := .later }
def LexerWritesUptoCardSaid : Prop := Claim7.holds Tryd.pinned (.plain (OpenSpec.upto lexerWritesSpec)) lexerWritesUptoCard

/-- THE SECOND FORM's CARD OF 'chargeparklaw01.LexerErrors'. -/
def lexerErrorsUptoCard : Claim7 := { stood := { row := lexerErrorsUptoRow, standIns := [], harness := (true, "5d6a2adc1b7722c716f88ded3abfa30e7dcb2029d9b0574fe13fb8289b9329c0"), looks := true }, kinds := [], alts := [], laidByText := true, laidKinds := [.data, .data, .data, .sentinel, .sentinel], laidTests := true, laidLooks := .later }
def LexerErrorsUptoCardSaid : Prop := Claim7.holds Tryd.pinned (.plain (OpenSpec.upto lexerErrorsSpec)) lexerErrorsUptoCard
end Rows
end Go.Proofs.YtgkjmdbjncnlpaaDoor

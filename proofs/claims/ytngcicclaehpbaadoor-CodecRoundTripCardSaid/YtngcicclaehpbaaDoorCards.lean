/-
  DERIVED. GIVEN WITH THE SEED: THE CARDS: each row of YtngcicclaehpbaaDoorRows.lean that lists a variable, with what it lists TIED to the program's text (the seventh form; the later family's looks); each row that meets fmt, with fmt's text TOLD by the authors' own Lean function (tested against real Go, not proved from fmt's source: count such statements apart). THE CARD IS WHAT COUNTS. Prove the row's statement (the work); the ties are given (YtngcicclaehpbaaDoorTie.lean); close each card by the builder's one call (the guide's Derived/Test/ToyasCard.lean, 'card_holds'). Laid BY PROGRAM, IN A SANDBOX (cutbox-door.mjs). By AI agents, Wed Nov 11 2026. No macro, syntax, notation, axiom, sorry.
-/
import Derived.Test.YtngcicclaehpbaaDoorRows
import GoSem.ClaimSeven
namespace Go.Proofs.YtngcicclaehpbaaDoor
namespace Rows

/-- THE TIED CARD OF 'lineagelaw04.CodecKeyOrder'. -/
def codecKeyOrderCard : Claim7 := { stood := { row := codecKeyOrderRow, standIns := [], harness := (true, "7cb52f85df0593f4000ed915baeff6c20d433fc94e0fa51b069bf8db8a5cde42"), looks := false }, kinds := [], alts := [], laidByText := true, laidKinds := [.data, .pinned], laidTests := true, laidLooks := .later }
def CodecKeyOrderCardSaid : Prop := Claim7.holds Tryd.pinned (.plain (OpenSpec.ofChange codecKeyOrderSpec)) codecKeyOrderCard

/-- THE TIED CARD OF 'lineagelaw04.CodecChecksums'. -/
def codecChecksumsCard : Claim7 := { stood := { row := codecChecksumsRow, standIns := [], harness := (true, "7cb52f85df0593f4000ed915baeff6c20d433fc94e0fa51b069bf8db8a5cde42"), looks := false }, kinds := [], alts := [], laidByText := true, laidKinds := [.data, .pinned], laidTests := true, laidLooks := .later }
def CodecChecksumsCardSaid : Prop := Claim7.holds Tryd.pinned (.plain (OpenSpec.ofChange codecChecksumsSpec)) codecChecksumsCard

/-- THE TIED CARD OF 'lineagelaw04.CodecSuccessors'. -/
def codecSuccessorsCard : Claim7 := { stood := { row := codecSuccessorsRow, standIns := [], harness := (true, "7cb52f85df0593f4000ed915baeff6c20d433fc94e0fa51b069bf8db8a5cde42"), looks := false }, kinds := [], alts := [], laidByText := true, laidKinds := [.data, .pinned], laidTests := true, laidLooks := .later }
def CodecSuccessorsCardSaid : Prop := Claim7.holds Tryd.pinned (.plain (OpenSpec.ofChange codecSuccessorsSpec)) codecSuccessorsCard

/-- THE TIED CARD OF 'lineagelaw04.CodecUints'. -/
def codecUintsCard : Claim7 := { stood := { row := codecUintsRow, standIns := [], harness := (true, "7cb52f85df0593f4000ed915baeff6c20d433fc94e0fa51b069bf8db8a5cde42"), looks := false }, kinds := [], alts := [], laidByText := true, laidKinds := [.data, .pinned], laidTests := true, laidLooks := .later }
def CodecUintsCardSaid : Prop := Claim7.holds Tryd.pinned (.plain (OpenSpec.ofChange codecUintsSpec)) codecUintsCard

/-- THE TIED CARD OF 'lineagelaw04.CodecKeys'. -/
def codecKeysCard : Claim7 := { stood := { row := codecKeysRow, standIns := [], harness := (true, "7cb52f85df0593f4000ed915baeff6c20d433fc94e0fa51b069bf8db8a5cde42"), looks := false }, kinds := [], alts := [], laidByText := true, laidKinds := [.data, .pinned], laidTests := true, laidLooks := .later }
def CodecKeysCardSaid : Prop := Claim7.holds Tryd.pinned (.plain (OpenSpec.ofChange codecKeysSpec)) codecKeysCard

/-- THE TIED CARD OF 'lineagelaw04.CodecStrings'. -/
def codecStringsCard : Claim7 := { stood := { row := codecStringsRow, standIns := [], harness := (true, "7cb52f85df0593f4000ed915baeff6c20d433fc94e0fa51b069bf8db8a5cde42"), looks := false }, kinds := [], alts := [], laidByText := true, laidKinds := [.data, .pinned], laidTests := true, laidLooks := .later }
def CodecStringsCardSaid : Prop := Claim7.holds Tryd.pinned (.plain (OpenSpec.ofChange codecStringsSpec)) codecStringsCard

/-- THE TIED CARD OF 'lineagelaw04.CodecDecodes'. -/
def codecDecodesCard : Claim7 := { stood := { row := codecDecodesRow, standIns := [], harness := (true, "7cb52f85df0593f4000ed915baeff6c20d433fc94e0fa51b069bf8db8a5cde42"), looks := false }, kinds := [], alts := [], laidByText := true, laidKinds := [.data, .pinned], laidTests := true, laidLooks := .later }
def CodecDecodesCardSaid : Prop := Claim7.holds Tryd.pinned (.plain (OpenSpec.ofChange codecDecodesSpec)) codecDecodesCard

/-- THE TIED CARD OF 'lineagelaw04.CodecRoundTrip'. -/
def codecRoundTripCard : Claim7 := { stood := { row := codecRoundTripRow, standIns := [], harness := (true, "7cb52f85df0593f4000ed915baeff6c20d433fc94e0fa51b069bf8db8a5cde42"), looks := false }, kinds := [], alts := [], laidByText := true, laidKinds := [.data, .pinned], laidTests := true, laidLooks := .later }
def CodecRoundTripCardSaid : Prop := Claim7.holds Tryd.pinned (.plain (OpenSpec.ofChange codecRoundTripSpec)) codecRoundTripCard

/-- THE SECOND FORM's CARD OF 'lineagelaw04.CodecKeyOrder'. -/
def codecKeyOrderUptoCard : Claim7 := { stood := { row := codecKeyOrderUptoRow, standIns := [], harness := (true, "7cb52f85df0593f4000ed915baeff6c20d433fc94e0fa51b069bf8db8a5cde42"), looks := false }, kinds := [], alts := [], laidByText := true, laidKinds := [.data, .pinned], laidTests := true, laidLooks := .later }
def CodecKeyOrderUptoCardSaid : Prop := Claim7.holds Tryd.pinned (.plain (OpenSpec.upto codecKeyOrderSpec)) codecKeyOrderUptoCard

/-- THE SECOND FORM's CARD OF 'lineagelaw04.CodecChecksums'. -/
def codecChecksumsUptoCard : Claim7 := { stood := { row := codecChecksumsUptoRow, standIns := [], harness := (true, "7cb52f85df0593f4000ed915baeff6c20d433fc94e0fa51b069bf8db8a5cde42"), looks := false }, kinds := [], alts := [], laidByText := true, laidKinds := [.data, .pinned], laidTests := true, laidLooks := .later }
def CodecChecksumsUptoCardSaid : Prop := Claim7.holds Tryd.pinned (.plain (OpenSpec.upto codecChecksumsSpec)) codecChecksumsUptoCard

/-- THE SECOND FORM's CARD OF 'lineagelaw04.CodecSuccessors'. -/
def codecSuccessorsUptoCard : Claim7 := { stood := { row := codecSuccessorsUptoRow, standIns := [], harness := (true, "7cb52f85df0593f4000ed915baeff6c20d433fc94e0fa51b069bf8db8a5cde42"), looks := false }, kinds := [], alts := [], laidByText := true, laidKinds := [.data, .pinned], laidTests := true, laidLooks := .later }
def CodecSuccessorsUptoCardSaid : Prop := Claim7.holds Tryd.pinned (.plain (OpenSpec.upto codecSuccessorsSpec)) codecSuccessorsUptoCard

/-- THE SECOND FORM's CARD OF 'lineagelaw04.CodecUints'. -/
def codecUintsUptoCard : Claim7 := { stood := { row := codecUintsUptoRow, standIns := [], harness := (true, "7cb52f85df0593f4000ed915baeff6c20d433fc94e0fa51b069bf8db8a5cde42"), looks := false }, kinds := [], alts := [], laidByText := true, laidKinds := [.data, .pinned], laidTests := true, laidLooks := .later }
def CodecUintsUptoCardSaid : Prop := Claim7.holds Tryd.pinned (.plain (OpenSpec.upto codecUintsSpec)) codecUintsUptoCard

/-- THE SECOND FORM's CARD OF 'lineagelaw04.CodecKeys'. -/
def codecKeysUptoCard : Claim7 := { stood := { row := codecKeysUptoRow, standIns := [], harness := (true, "7cb52f85df0593f4000ed915baeff6c20d433fc94e0fa51b069bf8db8a5cde42"), looks := false }, kinds := [], alts := [], laidByText := true, laidKinds := [.data, .pinned], laidTests := true, laidLooks := .later }
def CodecKeysUptoCardSaid : Prop := Claim7.holds Tryd.pinned (.plain (OpenSpec.upto codecKeysSpec)) codecKeysUptoCard

/-- THE SECOND FORM's CARD OF 'lineagelaw04.CodecStrings'. -/
def codecStringsUptoCard : Claim7 := { stood := { row := codecStringsUptoRow, standIns := [], harness := (true, "7cb52f85df0593f4000ed915baeff6c20d433fc94e0fa51b069bf8db8a5cde42"), looks := false }, kinds := [], alts := [], laidByText := true, laidKinds := [.data, .pinned], laidTests := true, laidLooks := .later }
def CodecStringsUptoCardSaid : Prop := Claim7.holds Tryd.pinned (.plain (OpenSpec.upto codecStringsSpec)) codecStringsUptoCard

/-- THE SECOND FORM's CARD OF 'lineagelaw04.CodecDecodes'. -/
def codecDecodesUptoCard : Claim7 := { stood := { row := codecDecodesUptoRow, standIns := [], harness := (true, "7cb52f85df0593f4000ed915baeff6c20d433fc94e0fa51b069bf8db8a5cde42"), looks := false }, kinds := [], alts := [], laidByText := true, laidKinds := [.data, .pinned], laidTests := true, laidLooks := .later }
def CodecDecodesUptoCardSaid : Prop := Claim7.holds Tryd.pinned (.plain (OpenSpec.upto codecDecodesSpec)) codecDecodesUptoCard

/-- THE SECOND FORM's CARD OF 'lineagelaw04.CodecRoundTrip'. -/
def codecRoundTripUptoCard : Claim7 := { stood := { row := codecRoundTripUptoRow, standIns := [], harness := (true, "7cb52f85df0593f4000ed915baeff6c20d433fc94e0fa51b069bf8db8a5cde42"), looks := false }, kinds := [], alts := [], laidByText := true, laidKinds := [.data, .pinned], laidTests := true, laidLooks := .later }
def CodecRoundTripUptoCardSaid : Prop := Claim7.holds Tryd.pinned (.plain (OpenSpec.upto codecRoundTripSpec)) codecRoundTripUptoCard
end Rows
end Go.Proofs.YtngcicclaehpbaaDoor

/-
  DERIVED. GIVEN WITH THE SEED: THE CARDS: each row of YtpekibadleghbaaDoorRows.lean that lists a variable, with what it lists TIED to the program's text (the seventh form; the later family's looks); each row that meets fmt, with fmt's text TOLD by the authors' own Lean function (tested against real Go, not proved from fmt's source: count such statements apart). THE CARD IS WHAT COUNTS. Prove the row's statement (the work); the ties are given (YtpekibadleghbaaDoorTie.lean); close each card by the builder's one call (the guide's Derived/Test/ToyasCard.lean, 'card_holds'). Laid BY PROGRAM, IN A SANDBOX (cutbox-door.mjs). By AI agents, Wed Nov 11 2026. No macro, syntax, notation, axiom, sorry.
-/
import Derived.Test.YtpekibadleghbaaDoorRows
import GoSem.ClaimSeven
namespace Go.Proofs.YtpekibadleghbaaDoor
namespace Rows

/-- THE TIED CARD OF 'cloisterlaw17.NamesSalts'. -/
def namesSaltsCard : Claim7 := { stood := { row := namesSaltsRow, standIns := [], harness := (true, "e81e051958bdc199d58c5f1bdda884126f443521121da645cac2b86b497fec40"), looks := false }, kinds := [], alts := [], laidByText := true, laidKinds := [.data, .data], laidTests := true, laidLooks := .later }
def NamesSaltsCardSaid : Prop := Claim7.holds Tryd.pinned (.plain (OpenSpec.ofChange namesSaltsSpec)) namesSaltsCard

/-- THE TIED CARD OF 'cloisterlaw17.NamesCalls'. -/
def namesCallsCard : Claim7 := { stood := { row := namesCallsRow, standIns := [], harness := (true, "e81e051958bdc199d58c5f1bdda884126f443521121da645cac2b86b497fec40"), looks := false }, kinds := [], alts := [], laidByText := true, laidKinds := [.data, .data], laidTests := true, laidLooks := .later }
def NamesCallsCardSaid : Prop := Claim7.holds Tryd.pinned (.plain (OpenSpec.ofChange namesCallsSpec)) namesCallsCard

/-- THE TIED CARD OF 'cloisterlaw17.NamesOrders'. -/
def namesOrdersCard : Claim7 := { stood := { row := namesOrdersRow, standIns := [], harness := (true, "e81e051958bdc199d58c5f1bdda884126f443521121da645cac2b86b497fec40"), looks := false }, kinds := [], alts := [], laidByText := true, laidKinds := [.data, .data], laidTests := true, laidLooks := .later }
def NamesOrdersCardSaid : Prop := Claim7.holds Tryd.pinned (.plain (OpenSpec.ofChange namesOrdersSpec)) namesOrdersCard

/-- THE TIED CARD OF 'cloisterlaw18.DirFull'. -/
def dirFullCard : Claim7 := { stood := { row := dirFullRow, standIns := [], harness := (true, "e81e051958bdc199d58c5f1bdda884126f443521121da645cac2b86b497fec40"), looks := false }, kinds := [], alts := [], laidByText := true, laidKinds := [.data], laidTests := true, laidLooks := .later }
def DirFullCardSaid : Prop := Claim7.holds Tryd.pinned (.plain (OpenSpec.ofChange dirFullSpec)) dirFullCard

/-- THE TIED CARD OF 'cloisterlaw18.DirDecodes'. -/
def dirDecodesCard : Claim7 := { stood := { row := dirDecodesRow, standIns := [], harness := (true, "e81e051958bdc199d58c5f1bdda884126f443521121da645cac2b86b497fec40"), looks := false }, kinds := [], alts := [], laidByText := true, laidKinds := [.data, .data], laidTests := true, laidLooks := .later }
def DirDecodesCardSaid : Prop := Claim7.holds Tryd.pinned (.plain (OpenSpec.ofChange dirDecodesSpec)) dirDecodesCard

/-- THE TIED CARD OF 'cloisterlaw18.DirCalls'. -/
def dirCallsCard : Claim7 := { stood := { row := dirCallsRow, standIns := [], harness := (true, "e81e051958bdc199d58c5f1bdda884126f443521121da645cac2b86b497fec40"), looks := false }, kinds := [], alts := [], laidByText := true, laidKinds := [.data, .data], laidTests := true, laidLooks := .later }
def DirCallsCardSaid : Prop := Claim7.holds Tryd.pinned (.plain (OpenSpec.ofChange dirCallsSpec)) dirCallsCard

/-- THE TIED CARD OF 'cloisterlaw18.DirMaps'. -/
def dirMapsCard : Claim7 := { stood := { row := dirMapsRow, standIns := [], harness := (true, "e81e051958bdc199d58c5f1bdda884126f443521121da645cac2b86b497fec40"), looks := false }, kinds := [], alts := [], laidByText := true, laidKinds := [.data], laidTests := true, laidLooks := .later }
def DirMapsCardSaid : Prop := Claim7.holds Tryd.pinned (.plain (OpenSpec.ofChange dirMapsSpec)) dirMapsCard

/-- THE SECOND FORM's CARD OF 'cloisterlaw17.NamesSalts'. -/
def namesSaltsUptoCard : Claim7 := { stood := { row := namesSaltsUptoRow, standIns := [], harness := (true, "e81e051958bdc199d58c5f1bdda884126f443521121da645cac2b86b497fec40"), looks := false }, kinds := [], alts := [], laidByText := true, laidKinds := [.data, .data], laidTests := true, laidLooks := .later }
def NamesSaltsUptoCardSaid : Prop := Claim7.holds Tryd.pinned (.plain (OpenSpec.upto namesSaltsSpec)) namesSaltsUptoCard

/-- THE SECOND FORM's CARD OF 'cloisterlaw17.NamesCalls'. -/
def namesCallsUptoCard : Claim7 := { stood := { row := namesCallsUptoRow, standIns := [], harness := (true, "e81e051958bdc199d58c5f1bdda884126f443521121da645cac2b86b497fec40"), looks := false }, kinds := [], alts := [], laidByText := true, laidKinds := [.data, .data], laidTests := true, laidLooks := .later }
def NamesCallsUptoCardSaid : Prop := Claim7.holds Tryd.pinned (.plain (OpenSpec.upto namesCallsSpec)) namesCallsUptoCard

/-- THE SECOND FORM's CARD OF 'cloisterlaw17.NamesOrders'. -/
def namesOrdersUptoCard : Claim7 := { stood := { row := namesOrdersUptoRow, standIns := [], harness := (true, "e81e051958bdc199d58c5f1bdda884126f443521121da645cac2b86b497fec40"), looks := false }, kinds := [], alts := [], laidByText := true, laidKinds := [.data, .data], laidTests := true, laidLooks := .later }
def NamesOrdersUptoCardSaid : Prop := Claim7.holds Tryd.pinned (.plain (OpenSpec.upto namesOrdersSpec)) namesOrdersUptoCard

/-- THE SECOND FORM's CARD OF 'cloisterlaw18.DirFull'. -/
def dirFullUptoCard : Claim7 := { stood := { row := dirFullUptoRow, standIns := [], harness := (true, "e81e051958bdc199d58c5f1bdda884126f443521121da645cac2b86b497fec40"), looks := false }, kinds := [], alts := [], laidByText := true, laidKinds := [.data], laidTests := true, laidLooks := .later }
def DirFullUptoCardSaid : Prop := Claim7.holds Tryd.pinned (.plain (OpenSpec.upto dirFullSpec)) dirFullUptoCard

/-- THE SECOND FORM's CARD OF 'cloisterlaw18.DirDecodes'. -/
def dirDecodesUptoCard : Claim7 := { stood := { row := dirDecodesUptoRow, standIns := [], harness := (true, "e81e051958bdc199d58c5f1bdda884126f443521121da645cac2b86b497fec40"), looks := false }, kinds := [], alts := [], laidByText := true, laidKinds := [.data, .data], laidTests := true, laidLooks := .later }
def DirDecodesUptoCardSaid : Prop := Claim7.holds Tryd.pinned (.plain (OpenSpec.upto dirDecodesSpec)) dirDecodesUptoCard

/-- THE SECOND FORM's CARD OF 'cloisterlaw18.DirCalls'. -/
def dirCallsUptoCard : Claim7 := { stood := { row := dirCallsUptoRow, standIns := [], harness := (true, "e81e051958bdc199d58c5f1bdda884126f443521121da645cac2b86b497fec40"), looks := false }, kinds := [], alts := [], laidByText := true, laidKinds := [.data, .data], laidTests := true, laidLooks := .later }
def DirCallsUptoCardSaid : Prop := Claim7.holds Tryd.pinned (.plain (OpenSpec.upto dirCallsSpec)) dirCallsUptoCard

/-- THE SECOND FORM's CARD OF 'cloisterlaw18.DirMaps'. -/
def dirMapsUptoCard : Claim7 := { stood := { row := dirMapsUptoRow, standIns := [], harness := (true, "e81e051958bdc199d58c5f1bdda884126f443521121da645cac2b86b497fec40"), looks := false }, kinds := [], alts := [], laidByText := true, laidKinds := [.data], laidTests := true, laidLooks := .later }
def DirMapsUptoCardSaid : Prop := Claim7.holds Tryd.pinned (.plain (OpenSpec.upto dirMapsSpec)) dirMapsUptoCard
end Rows
end Go.Proofs.YtpekibadleghbaaDoor

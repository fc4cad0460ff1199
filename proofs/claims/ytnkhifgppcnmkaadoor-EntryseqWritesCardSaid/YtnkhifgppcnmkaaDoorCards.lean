/-
  DERIVED. GIVEN WITH THE SEED: THE CARDS: each row of YtnkhifgppcnmkaaDoorRows.lean that lists a variable, with what it lists TIED to the program's text (the seventh form; the later family's looks); each row that meets fmt, with fmt's text TOLD by the authors' own Lean function (tested against real Go, not proved from fmt's source: count such statements apart). THE CARD IS WHAT COUNTS. Prove the row's statement (the work); the ties are given (YtnkhifgppcnmkaaDoorTie.lean); close each card by the builder's one call (the guide's Derived/Test/ToyasCard.lean, 'card_holds'). Laid BY PROGRAM, IN A SANDBOX (cutbox-door.mjs). By AI agents, Wed Nov 11 2026. No macro, syntax, notation, axiom, sorry.
-/
import Derived.Test.YtnkhifgppcnmkaaDoorRows
import GoSem.ClaimSeven
namespace Go.Proofs.YtnkhifgppcnmkaaDoor
namespace Rows

/-- THE TIED CARD OF 'dasdlaw19.RelativeOthers'. -/
def relativeOthersCard : Claim7 := { stood := { row := relativeOthersRow, standIns := [], harness := (true, "0d0ee2ead5259659eb647f95894ea932ef6fa6b3e661cfd2b8c9afbe8510b2ad"), looks := false }, kinds := [], alts := [], laidByText := true, laidKinds := [.data, .pinned], laidTests := true, laidLooks := .later }
def RelativeOthersCardSaid : Prop := Claim7.holds Tryd.pinned (.plain (OpenSpec.ofChange relativeOthersSpec)) relativeOthersCard

/-- THE TIED CARD OF 'dasdlaw19.RelativeKeeps'. -/
def relativeKeepsCard : Claim7 := { stood := { row := relativeKeepsRow, standIns := [], harness := (true, "0d0ee2ead5259659eb647f95894ea932ef6fa6b3e661cfd2b8c9afbe8510b2ad"), looks := false }, kinds := [], alts := [], laidByText := true, laidKinds := [.data, .pinned], laidTests := true, laidLooks := .later }
def RelativeKeepsCardSaid : Prop := Claim7.holds Tryd.pinned (.plain (OpenSpec.ofChange relativeKeepsSpec)) relativeKeepsCard

/-- THE TIED CARD OF 'dasdlaw17.IntervalDecodes'. -/
def intervalDecodesCard : Claim7 := { stood := { row := intervalDecodesRow, standIns := [], harness := (true, "0d0ee2ead5259659eb647f95894ea932ef6fa6b3e661cfd2b8c9afbe8510b2ad"), looks := false }, kinds := [], alts := [], laidByText := true, laidKinds := [.data, .pinned], laidTests := true, laidLooks := .later }
def IntervalDecodesCardSaid : Prop := Claim7.holds Tryd.pinned (.plain (OpenSpec.ofChange intervalDecodesSpec)) intervalDecodesCard

/-- THE TIED CARD OF 'dasdlaw17.IntervalStrict'. -/
def intervalStrictCard : Claim7 := { stood := { row := intervalStrictRow, standIns := [], harness := (true, "0d0ee2ead5259659eb647f95894ea932ef6fa6b3e661cfd2b8c9afbe8510b2ad"), looks := false }, kinds := [], alts := [], laidByText := true, laidKinds := [.data, .pinned], laidTests := true, laidLooks := .later }
def IntervalStrictCardSaid : Prop := Claim7.holds Tryd.pinned (.plain (OpenSpec.ofChange intervalStrictSpec)) intervalStrictCard

/-- THE TIED CARD OF 'dasdlaw17.IntervalEncodes'. -/
def intervalEncodesCard : Claim7 := { stood := { row := intervalEncodesRow, standIns := [], harness := (true, "0d0ee2ead5259659eb647f95894ea932ef6fa6b3e661cfd2b8c9afbe8510b2ad"), looks := false }, kinds := [], alts := [], laidByText := true, laidKinds := [.data, .pinned], laidTests := true, laidLooks := .later }
def IntervalEncodesCardSaid : Prop := Claim7.holds Tryd.pinned (.plain (OpenSpec.ofChange intervalEncodesSpec)) intervalEncodesCard

/-- THE TIED CARD OF 'dasdlaw17.IntervalInverts'. -/
def intervalInvertsCard : Claim7 := { stood := { row := intervalInvertsRow, standIns := [], harness := (true, "0d0ee2ead5259659eb647f95894ea932ef6fa6b3e661cfd2b8c9afbe8510b2ad"), looks := false }, kinds := [], alts := [], laidByText := true, laidKinds := [.data, .pinned], laidTests := true, laidLooks := .later }
def IntervalInvertsCardSaid : Prop := Claim7.holds Tryd.pinned (.plain (OpenSpec.ofChange intervalInvertsSpec)) intervalInvertsCard

/-- THE TIED CARD OF 'dasdlaw17.IntervalShrinks'. -/
def intervalShrinksCard : Claim7 := { stood := { row := intervalShrinksRow, standIns := [], harness := (true, "0d0ee2ead5259659eb647f95894ea932ef6fa6b3e661cfd2b8c9afbe8510b2ad"), looks := false }, kinds := [], alts := [], laidByText := true, laidKinds := [.data, .pinned], laidTests := true, laidLooks := .later }
def IntervalShrinksCardSaid : Prop := Claim7.holds Tryd.pinned (.plain (OpenSpec.ofChange intervalShrinksSpec)) intervalShrinksCard

/-- THE TIED CARD OF 'dasdlaw17.IntervalSlots'. -/
def intervalSlotsCard : Claim7 := { stood := { row := intervalSlotsRow, standIns := [], harness := (true, "0d0ee2ead5259659eb647f95894ea932ef6fa6b3e661cfd2b8c9afbe8510b2ad"), looks := false }, kinds := [], alts := [], laidByText := true, laidKinds := [.data, .pinned], laidTests := true, laidLooks := .later }
def IntervalSlotsCardSaid : Prop := Claim7.holds Tryd.pinned (.plain (OpenSpec.ofChange intervalSlotsSpec)) intervalSlotsCard

/-- THE TIED CARD OF 'dasdlaw17.IntervalSlotsInvert'. -/
def intervalSlotsInvertCard : Claim7 := { stood := { row := intervalSlotsInvertRow, standIns := [], harness := (true, "0d0ee2ead5259659eb647f95894ea932ef6fa6b3e661cfd2b8c9afbe8510b2ad"), looks := false }, kinds := [], alts := [], laidByText := true, laidKinds := [.data, .pinned], laidTests := true, laidLooks := .later }
def IntervalSlotsInvertCardSaid : Prop := Claim7.holds Tryd.pinned (.plain (OpenSpec.ofChange intervalSlotsInvertSpec)) intervalSlotsInvertCard

/-- THE TIED CARD OF 'dasdlaw18.EntryseqAppends'. -/
def entryseqAppendsCard : Claim7 := { stood := { row := entryseqAppendsRow, standIns := [], harness := (true, "0d0ee2ead5259659eb647f95894ea932ef6fa6b3e661cfd2b8c9afbe8510b2ad"), looks := false }, kinds := [], alts := [], laidByText := true, laidKinds := [.data, .pinned], laidTests := true, laidLooks := .later }
def EntryseqAppendsCardSaid : Prop := Claim7.holds Tryd.pinned (.plain (OpenSpec.ofChange entryseqAppendsSpec)) entryseqAppendsCard

/-- THE TIED CARD OF 'dasdlaw18.EntryseqPlaces'. -/
def entryseqPlacesCard : Claim7 := { stood := { row := entryseqPlacesRow, standIns := [], harness := (true, "0d0ee2ead5259659eb647f95894ea932ef6fa6b3e661cfd2b8c9afbe8510b2ad"), looks := false }, kinds := [], alts := [], laidByText := true, laidKinds := [.data, .pinned], laidTests := true, laidLooks := .later }
def EntryseqPlacesCardSaid : Prop := Claim7.holds Tryd.pinned (.plain (OpenSpec.ofChange entryseqPlacesSpec)) entryseqPlacesCard

/-- THE TIED CARD OF 'dasdlaw18.EntryseqWrites'. -/
def entryseqWritesCard : Claim7 := { stood := { row := entryseqWritesRow, standIns := [], harness := (true, "0d0ee2ead5259659eb647f95894ea932ef6fa6b3e661cfd2b8c9afbe8510b2ad"), looks := false }, kinds := [], alts := [], laidByText := true, laidKinds := [.data, .pinned], laidTests := true, laidLooks := .later }
def EntryseqWritesCardSaid : Prop := Claim7.holds Tryd.pinned (.plain (OpenSpec.ofChange entryseqWritesSpec)) entryseqWritesCard

/-- THE TIED CARD OF 'dasdlaw18.EntryseqKeeps'. -/
def entryseqKeepsCard : Claim7 := { stood := { row := entryseqKeepsRow, standIns := [], harness := (true, "0d0ee2ead5259659eb647f95894ea932ef6fa6b3e661cfd2b8c9afbe8510b2ad"), looks := false }, kinds := [], alts := [], laidByText := true, laidKinds := [.data, .pinned], laidTests := true, laidLooks := .later }
def EntryseqKeepsCardSaid : Prop := Claim7.holds Tryd.pinned (.plain (OpenSpec.ofChange entryseqKeepsSpec)) entryseqKeepsCard

/-- THE TIED CARD OF 'dasdlaw18.EntryseqReplaces'. -/
def entryseqReplacesCard : Claim7 := { stood := { row := entryseqReplacesRow, standIns := [], harness := (true, "0d0ee2ead5259659eb647f95894ea932ef6fa6b3e661cfd2b8c9afbe8510b2ad"), looks := false }, kinds := [], alts := [], laidByText := true, laidKinds := [.data, .pinned], laidTests := true, laidLooks := .later }
def EntryseqReplacesCardSaid : Prop := Claim7.holds Tryd.pinned (.plain (OpenSpec.ofChange entryseqReplacesSpec)) entryseqReplacesCard

/-- THE TIED CARD OF 'dasdlaw18.EntryseqReads'. -/
def entryseqReadsCard : Claim7 := { stood := { row := entryseqReadsRow, standIns := [], harness := (true, "0d0ee2ead5259659eb647f95894ea932ef6fa6b3e661cfd2b8c9afbe8510b2ad"), looks := false }, kinds := [], alts := [], laidByText := true, laidKinds := [.data, .pinned], laidTests := true, laidLooks := .later }
def EntryseqReadsCardSaid : Prop := Claim7.holds Tryd.pinned (.plain (OpenSpec.ofChange entryseqReadsSpec)) entryseqReadsCard

/-- THE TIED CARD OF 'dasdlaw18.EntryseqOrder'. -/
def entryseqOrderCard : Claim7 := { stood := { row := entryseqOrderRow, standIns := [], harness := (true, "0d0ee2ead5259659eb647f95894ea932ef6fa6b3e661cfd2b8c9afbe8510b2ad"), looks := false }, kinds := [], alts := [], laidByText := true, laidKinds := [.data, .pinned], laidTests := true, laidLooks := .later }
def EntryseqOrderCardSaid : Prop := Claim7.holds Tryd.pinned (.plain (OpenSpec.ofChange entryseqOrderSpec)) entryseqOrderCard

/-- THE TIED CARD OF 'dasdlaw19.RelativeReach'. -/
def relativeReachCard : Claim7 := { stood := { row := relativeReachRow, standIns := [], harness := (true, "0d0ee2ead5259659eb647f95894ea932ef6fa6b3e661cfd2b8c9afbe8510b2ad"), looks := false }, kinds := [], alts := [], laidByText := true, laidKinds := [.data, .pinned], laidTests := true, laidLooks := .later }
def RelativeReachCardSaid : Prop := Claim7.holds Tryd.pinned (.plain (OpenSpec.ofChange relativeReachSpec)) relativeReachCard

/-- THE TIED CARD OF 'dasdlaw19.RelativeSteps'. -/
def relativeStepsCard : Claim7 := { stood := { row := relativeStepsRow, standIns := [], harness := (true, "0d0ee2ead5259659eb647f95894ea932ef6fa6b3e661cfd2b8c9afbe8510b2ad"), looks := false }, kinds := [], alts := [], laidByText := true, laidKinds := [.data, .pinned], laidTests := true, laidLooks := .later }
def RelativeStepsCardSaid : Prop := Claim7.holds Tryd.pinned (.plain (OpenSpec.ofChange relativeStepsSpec)) relativeStepsCard

/-- THE TIED CARD OF 'dasdlaw19.RelativeWrites'. -/
def relativeWritesCard : Claim7 := { stood := { row := relativeWritesRow, standIns := [], harness := (true, "0d0ee2ead5259659eb647f95894ea932ef6fa6b3e661cfd2b8c9afbe8510b2ad"), looks := false }, kinds := [], alts := [], laidByText := true, laidKinds := [.data, .pinned], laidTests := true, laidLooks := .later }
def RelativeWritesCardSaid : Prop := Claim7.holds Tryd.pinned (.plain (OpenSpec.ofChange relativeWritesSpec)) relativeWritesCard

/-- THE SECOND FORM's CARD OF 'dasdlaw19.RelativeOthers'. -/
def relativeOthersUptoCard : Claim7 := { stood := { row := relativeOthersUptoRow, standIns := [], harness := (true, "0d0ee2ead5259659eb647f95894ea932ef6fa6b3e661cfd2b8c9afbe8510b2ad"), looks := false }, kinds := [], alts := [], laidByText := true, laidKinds := [.data, .pinned], laidTests := true, laidLooks := .later }
def RelativeOthersUptoCardSaid : Prop := Claim7.holds Tryd.pinned (.plain (OpenSpec.upto relativeOthersSpec)) relativeOthersUptoCard

/-- THE SECOND FORM's CARD OF 'dasdlaw19.RelativeKeeps'. -/
def relativeKeepsUptoCard : Claim7 := { stood := { row := relativeKeepsUptoRow, standIns := [], harness := (true, "0d0ee2ead5259659eb647f95894ea932ef6fa6b3e661cfd2b8c9afbe8510b2ad"), looks := false }, kinds := [], alts := [], laidByText := true, laidKinds := [.data, .pinned], laidTests := true, laidLooks := .later }
def RelativeKeepsUptoCardSaid : Prop := Claim7.holds Tryd.pinned (.plain (OpenSpec.upto relativeKeepsSpec)) relativeKeepsUptoCard

/-- THE SECOND FORM's CARD OF 'dasdlaw17.IntervalDecodes'. -/
def intervalDecodesUptoCard : Claim7 := { stood := { row := intervalDecodesUptoRow, standIns := [], harness := (true, "0d0ee2ead5259659eb647f95894ea932ef6fa6b3e661cfd2b8c9afbe8510b2ad"), looks := false }, kinds := [], alts := [], laidByText := true, laidKinds := [.data, .pinned], laidTests := true, laidLooks := .later }
def IntervalDecodesUptoCardSaid : Prop := Claim7.holds Tryd.pinned (.plain (OpenSpec.upto intervalDecodesSpec)) intervalDecodesUptoCard

/-- THE SECOND FORM's CARD OF 'dasdlaw17.IntervalStrict'. -/
def intervalStrictUptoCard : Claim7 := { stood := { row := intervalStrictUptoRow, standIns := [], harness := (true, "0d0ee2ead5259659eb647f95894ea932ef6fa6b3e661cfd2b8c9afbe8510b2ad"), looks := false }, kinds := [], alts := [], laidByText := true, laidKinds := [.data, .pinned], laidTests := true, laidLooks := .later }
def IntervalStrictUptoCardSaid : Prop := Claim7.holds Tryd.pinned (.plain (OpenSpec.upto intervalStrictSpec)) intervalStrictUptoCard

/-- THE SECOND FORM's CARD OF 'dasdlaw17.IntervalEncodes'. -/
def intervalEncodesUptoCard : Claim7 := { stood := { row := intervalEncodesUptoRow, standIns := [], harness := (true, "0d0ee2ead5259659eb647f95894ea932ef6fa6b3e661cfd2b8c9afbe8510b2ad"), looks := false }, kinds := [], alts := [], laidByText := true, laidKinds := [.data, .pinned], laidTests := true, laidLooks := .later }
def IntervalEncodesUptoCardSaid : Prop := Claim7.holds Tryd.pinned (.plain (OpenSpec.upto intervalEncodesSpec)) intervalEncodesUptoCard

/-- THE SECOND FORM's CARD OF 'dasdlaw17.IntervalInverts'. -/
def intervalInvertsUptoCard : Claim7 := { stood := { row := intervalInvertsUptoRow, standIns := [], harness := (true, "0d0ee2ead5259659eb647f95894ea932ef6fa6b3e661cfd2b8c9afbe8510b2ad"), looks := false }, kinds := [], alts := [], laidByText := true, laidKinds := [.data, .pinned], laidTests := true, laidLooks := .later }
def IntervalInvertsUptoCardSaid : Prop := Claim7.holds Tryd.pinned (.plain (OpenSpec.upto intervalInvertsSpec)) intervalInvertsUptoCard

/-- THE SECOND FORM's CARD OF 'dasdlaw17.IntervalShrinks'. -/
def intervalShrinksUptoCard : Claim7 := { stood := { row := intervalShrinksUptoRow, standIns := [], harness := (true, "0d0ee2ead5259659eb647f95894ea932ef6fa6b3e661cfd2b8c9afbe8510b2ad"), looks := false }, kinds := [], alts := [], laidByText := true, laidKinds := [.data, .pinned], laidTests := true, laidLooks := .later }
def IntervalShrinksUptoCardSaid : Prop := Claim7.holds Tryd.pinned (.plain (OpenSpec.upto intervalShrinksSpec)) intervalShrinksUptoCard

/-- THE SECOND FORM's CARD OF 'dasdlaw17.IntervalSlots'. -/
def intervalSlotsUptoCard : Claim7 := { stood := { row := intervalSlotsUptoRow, standIns := [], harness := (true, "0d0ee2ead5259659eb647f95894ea932ef6fa6b3e661cfd2b8c9afbe8510b2ad"), looks := false }, kinds := [], alts := [], laidByText := true, laidKinds := [.data, .pinned], laidTests := true, laidLooks := .later }
def IntervalSlotsUptoCardSaid : Prop := Claim7.holds Tryd.pinned (.plain (OpenSpec.upto intervalSlotsSpec)) intervalSlotsUptoCard

/-- THE SECOND FORM's CARD OF 'dasdlaw17.IntervalSlotsInvert'. -/
def intervalSlotsInvertUptoCard : Claim7 := { stood := { row := intervalSlotsInvertUptoRow, standIns := [], harness := (true, "0d0ee2ead5259659eb647f95894ea932ef6fa6b3e661cfd2b8c9afbe8510b2ad"), looks := false }, kinds := [], alts := [], laidByText := true, laidKinds := [.data, .pinned], laidTests := true, laidLooks := .later }
def IntervalSlotsInvertUptoCardSaid : Prop := Claim7.holds Tryd.pinned (.plain (OpenSpec.upto intervalSlotsInvertSpec)) intervalSlotsInvertUptoCard

/-- THE SECOND FORM's CARD OF 'dasdlaw18.EntryseqAppends'. -/
def entryseqAppendsUptoCard : Claim7 := { stood := { row := entryseqAppendsUptoRow, standIns := [], harness := (true, "0d0ee2ead5259659eb647f95894ea932ef6fa6b3e661cfd2b8c9afbe8510b2ad"), looks := false }, kinds := [], alts := [], laidByText := true, laidKinds := [.data, .pinned], laidTests := true, laidLooks := .later }
def EntryseqAppendsUptoCardSaid : Prop := Claim7.holds Tryd.pinned (.plain (OpenSpec.upto entryseqAppendsSpec)) entryseqAppendsUptoCard

/-- THE SECOND FORM's CARD OF 'dasdlaw18.EntryseqPlaces'. -/
def entryseqPlacesUptoCard : Claim7 := { stood := { row := entryseqPlacesUptoRow, standIns := [], harness := (true, "0d0ee2ead5259659eb647f95894ea932ef6fa6b3e661cfd2b8c9afbe8510b2ad"), looks := false }, kinds := [], alts := [], laidByText := true, laidKinds := [.data, .pinned], laidTests := true, laidLooks := .later }
def EntryseqPlacesUptoCardSaid : Prop := Claim7.holds Tryd.pinned (.plain (OpenSpec.upto entryseqPlacesSpec)) entryseqPlacesUptoCard

/-- THE SECOND FORM's CARD OF 'dasdlaw18.EntryseqWrites'. -/
def entryseqWritesUptoCard : Claim7 := { stood := { row := entryseqWritesUptoRow, standIns := [], harness := (true, "0d0ee2ead5259659eb647f95894ea932ef6fa6b3e661cfd2b8c9afbe8510b2ad"), looks := false }, kinds := [], alts := [], laidByText := true, laidKinds := [.data, .pinned], laidTests := true, laidLooks := .later }
def EntryseqWritesUptoCardSaid : Prop := Claim7.holds Tryd.pinned (.plain (OpenSpec.upto entryseqWritesSpec)) entryseqWritesUptoCard

/-- THE SECOND FORM's CARD OF 'dasdlaw18.EntryseqKeeps'. -/
def entryseqKeepsUptoCard : Claim7 := { stood := { row := entryseqKeepsUptoRow, standIns := [], harness := (true, "0d0ee2ead5259659eb647f95894ea932ef6fa6b3e661cfd2b8c9afbe8510b2ad"), looks := false }, kinds := [], alts := [], laidByText := true, laidKinds := [.data, .pinned], laidTests := true, laidLooks := .later }
def EntryseqKeepsUptoCardSaid : Prop := Claim7.holds Tryd.pinned (.plain (OpenSpec.upto entryseqKeepsSpec)) entryseqKeepsUptoCard

/-- THE SECOND FORM's CARD OF 'dasdlaw18.EntryseqReplaces'. -/
def entryseqReplacesUptoCard : Claim7 := { stood := { row := entryseqReplacesUptoRow, standIns := [], harness := (true, "0d0ee2ead5259659eb647f95894ea932ef6fa6b3e661cfd2b8c9afbe8510b2ad"), looks := false }, kinds := [], alts := [], laidByText := true, laidKinds := [.data, .pinned], laidTests := true, laidLooks := .later }
def EntryseqReplacesUptoCardSaid : Prop := Claim7.holds Tryd.pinned (.plain (OpenSpec.upto entryseqReplacesSpec)) entryseqReplacesUptoCard

/-- THE SECOND FORM's CARD OF 'dasdlaw18.EntryseqReads'. -/
def entryseqReadsUptoCard : Claim7 := { stood := { row := entryseqReadsUptoRow, standIns := [], harness := (true, "0d0ee2ead5259659eb647f95894ea932ef6fa6b3e661cfd2b8c9afbe8510b2ad"), looks := false }, kinds := [], alts := [], laidByText := true, laidKinds := [.data, .pinned], laidTests := true, laidLooks := .later }
def EntryseqReadsUptoCardSaid : Prop := Claim7.holds Tryd.pinned (.plain (OpenSpec.upto entryseqReadsSpec)) entryseqReadsUptoCard

/-- THE SECOND FORM's CARD OF 'dasdlaw18.EntryseqOrder'. -/
def entryseqOrderUptoCard : Claim7 := { stood := { row := entryseqOrderUptoRow, standIns := [], harness := (true, "0d0ee2ead5259659eb647f95894ea932ef6fa6b3e661cfd2b8c9afbe8510b2ad"), looks := false }, kinds := [], alts := [], laidByText := true, laidKinds := [.data, .pinned], laidTests := true, laidLooks := .later }
def EntryseqOrderUptoCardSaid : Prop := Claim7.holds Tryd.pinned (.plain (OpenSpec.upto entryseqOrderSpec)) entryseqOrderUptoCard

/-- THE SECOND FORM's CARD OF 'dasdlaw19.RelativeReach'. -/
def relativeReachUptoCard : Claim7 := { stood := { row := relativeReachUptoRow, standIns := [], harness := (true, "0d0ee2ead5259659eb647f95894ea932ef6fa6b3e661cfd2b8c9afbe8510b2ad"), looks := false }, kinds := [], alts := [], laidByText := true, laidKinds := [.data, .pinned], laidTests := true, laidLooks := .later }
def RelativeReachUptoCardSaid : Prop := Claim7.holds Tryd.pinned (.plain (OpenSpec.upto relativeReachSpec)) relativeReachUptoCard

/-- THE SECOND FORM's CARD OF 'dasdlaw19.RelativeSteps'. -/
def relativeStepsUptoCard : Claim7 := { stood := { row := relativeStepsUptoRow, standIns := [], harness := (true, "0d0ee2ead5259659eb647f95894ea932ef6fa6b3e661cfd2b8c9afbe8510b2ad"), looks := false }, kinds := [], alts := [], laidByText := true, laidKinds := [.data, .pinned], laidTests := true, laidLooks := .later }
def RelativeStepsUptoCardSaid : Prop := Claim7.holds Tryd.pinned (.plain (OpenSpec.upto relativeStepsSpec)) relativeStepsUptoCard

/-- THE SECOND FORM's CARD OF 'dasdlaw19.RelativeWrites'. -/
def relativeWritesUptoCard : Claim7 := { stood := { row := relativeWritesUptoRow, standIns := [], harness := (true, "0d0ee2ead5259659eb647f95894ea932ef6fa6b3e661cfd2b8c9afbe8510b2ad"), looks := false }, kinds := [], alts := [], laidByText := true, laidKinds := [.data, .pinned], laidTests := true, laidLooks := .later }
def RelativeWritesUptoCardSaid : Prop := Claim7.holds Tryd.pinned (.plain (OpenSpec.upto relativeWritesSpec)) relativeWritesUptoCard
end Rows
end Go.Proofs.YtnkhifgppcnmkaaDoor

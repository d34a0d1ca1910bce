/-
  DERIVED. GIVEN WITH THE SEED: THE CARDS: each row of YtaiigmiiidldcaaGreatDoorRows.lean that lists a variable, with what it lists TIED to the program's text (the seventh form; the later family's looks); each row that meets fmt, with fmt's text TOLD by the authors' own Lean function (tested against real Go, not proved from fmt's source: count such statements apart). THE CARD IS WHAT COUNTS. Prove the row's statement (the work); the ties are given (YtaiigmiiidldcaaGreatDoorTie.lean); close each card by the builder's one call (the guide's Derived/Test/ToyasCard.lean, 'card_holds'). Laid BY PROGRAM, IN A SANDBOX (cutbox-door.mjs). By AI agents, Wed Nov 11 2026. No macro, syntax, notation, axiom, sorry.
-/
import Derived.Test.YtaiigmiiidldcaaGreatDoorRows
import GoSem.ClaimSeven
namespace Go.Proofs.YtaiigmiiidldcaaGreatDoor
namespace Rows

/-- THE TIED CARD OF 'breviarylaw21.VolHoles'. -/
def volHolesCard : Claim7 := { stood := { row := volHolesRow, standIns := [], harness := (true, "45f718f38200bd1fa906a08fe9e27d6509129dd0d46a615f27b1a7d5adea8389"), looks := true }, kinds := [], alts := [], laidByText := true, laidKinds := [.data, .sentinel, .sentinel, .sentinel, .sentinel, .sentinel, .sentinel, .sentinel, .sentinel, .sentinel, .sentinel, .sentinel, .sentinel, .sentinel, .sentinel, .pinned], laidTests := true, laidLooks := .later }
def VolHolesCardSaid : Prop := Claim7.holds Tryz.pinned (.plain (OpenSpec.ofChange volHolesSpec)) volHolesCard

/-- THE TIED CARD OF 'breviarylaw21.VolLost'. -/
def volLostCard : Claim7 := { stood := { row := volLostRow, standIns := [], harness := (true, "45f718f38200bd1fa906a08fe9e27d6509129dd0d46a615f27b1a7d5adea8389"), looks := true }, kinds := [], alts := [], laidByText := true, laidKinds := [.data, .sentinel, .sentinel, .sentinel, .sentinel, .sentinel, .sentinel, .sentinel, .sentinel, .sentinel, .sentinel, .sentinel, .sentinel, .sentinel, .sentinel, .sentinel, .sentinel, .sentinel, .sentinel, .sentinel, .sentinel, .sentinel, .sentinel, .sentinel, .sentinel, .pinned], laidTests := true, laidLooks := .later }
def VolLostCardSaid : Prop := Claim7.holds Tryz.pinned (.plain (OpenSpec.ofChange volLostSpec)) volLostCard

/-- THE TIED CARD OF 'breviarylaw21.VolFull'. -/
def volFullCard : Claim7 := { stood := { row := volFullRow, standIns := [], harness := (true, "45f718f38200bd1fa906a08fe9e27d6509129dd0d46a615f27b1a7d5adea8389"), looks := true }, kinds := [], alts := [], laidByText := true, laidKinds := [.data, .sentinel, .sentinel, .sentinel, .sentinel, .sentinel, .sentinel, .sentinel, .sentinel, .sentinel, .sentinel, .sentinel, .sentinel, .sentinel, .sentinel, .sentinel, .sentinel, .sentinel, .sentinel, .sentinel, .sentinel, .sentinel, .sentinel, .sentinel, .sentinel, .pinned], laidTests := true, laidLooks := .later }
def VolFullCardSaid : Prop := Claim7.holds Tryz.pinned (.plain (OpenSpec.ofChange volFullSpec)) volFullCard

/-- THE TIED CARD OF 'breviarylaw21.VolBytes'. -/
def volBytesCard : Claim7 := { stood := { row := volBytesRow, standIns := [], harness := (true, "45f718f38200bd1fa906a08fe9e27d6509129dd0d46a615f27b1a7d5adea8389"), looks := true }, kinds := [], alts := [], laidByText := true, laidKinds := [.data, .sentinel, .sentinel, .sentinel, .sentinel, .sentinel, .sentinel, .sentinel, .sentinel, .sentinel, .sentinel, .sentinel, .sentinel, .sentinel, .sentinel, .pinned], laidTests := true, laidLooks := .later }
def VolBytesCardSaid : Prop := Claim7.holds Tryz.pinned (.plain (OpenSpec.ofChange volBytesSpec)) volBytesCard

/-- THE TIED CARD OF 'breviarylaw21.VolBig'. -/
def volBigCard : Claim7 := { stood := { row := volBigRow, standIns := [], harness := (true, "45f718f38200bd1fa906a08fe9e27d6509129dd0d46a615f27b1a7d5adea8389"), looks := true }, kinds := [], alts := [], laidByText := true, laidKinds := [.data, .sentinel, .sentinel, .sentinel, .sentinel, .sentinel, .sentinel, .sentinel, .sentinel, .sentinel, .sentinel, .sentinel, .sentinel, .sentinel, .sentinel, .sentinel, .sentinel, .sentinel, .sentinel, .sentinel, .sentinel, .sentinel, .sentinel, .sentinel, .sentinel, .pinned], laidTests := true, laidLooks := .later }
def VolBigCardSaid : Prop := Claim7.holds Tryz.pinned (.plain (OpenSpec.ofChange volBigSpec)) volBigCard

/-- THE TIED CARD OF 'breviarylaw21.VolLinks'. -/
def volLinksCard : Claim7 := { stood := { row := volLinksRow, standIns := [], harness := (true, "45f718f38200bd1fa906a08fe9e27d6509129dd0d46a615f27b1a7d5adea8389"), looks := true }, kinds := [], alts := [], laidByText := true, laidKinds := [.data, .sentinel, .sentinel, .sentinel, .sentinel, .sentinel, .sentinel, .sentinel, .sentinel, .sentinel, .sentinel, .sentinel, .sentinel, .sentinel, .sentinel, .sentinel, .sentinel, .sentinel, .sentinel, .sentinel, .sentinel, .sentinel, .sentinel, .sentinel, .sentinel, .pinned], laidTests := true, laidLooks := .later }
def VolLinksCardSaid : Prop := Claim7.holds Tryz.pinned (.plain (OpenSpec.ofChange volLinksSpec)) volLinksCard

/-- THE TIED CARD OF 'breviarylaw21.VolOpen'. -/
def volOpenCard : Claim7 := { stood := { row := volOpenRow, standIns := [], harness := (true, "45f718f38200bd1fa906a08fe9e27d6509129dd0d46a615f27b1a7d5adea8389"), looks := true }, kinds := [], alts := [], laidByText := true, laidKinds := [.data, .sentinel, .sentinel, .sentinel, .sentinel, .sentinel, .sentinel, .sentinel, .sentinel, .sentinel, .sentinel, .sentinel, .sentinel, .sentinel, .sentinel, .sentinel, .sentinel, .sentinel, .sentinel, .sentinel, .sentinel, .sentinel, .sentinel, .sentinel, .sentinel, .pinned], laidTests := true, laidLooks := .later }
def VolOpenCardSaid : Prop := Claim7.holds Tryz.pinned (.plain (OpenSpec.ofChange volOpenSpec)) volOpenCard

/-- THE TIED CARD OF 'breviarylaw21.VolLists'. -/
def volListsCard : Claim7 := { stood := { row := volListsRow, standIns := [], harness := (true, "45f718f38200bd1fa906a08fe9e27d6509129dd0d46a615f27b1a7d5adea8389"), looks := true }, kinds := [], alts := [], laidByText := true, laidKinds := [.data, .data, .data, .data, .sentinel, .sentinel, .sentinel, .sentinel, .sentinel, .sentinel, .sentinel, .sentinel, .sentinel, .sentinel, .sentinel, .sentinel, .sentinel, .sentinel, .sentinel, .sentinel, .sentinel, .sentinel, .sentinel, .sentinel, .sentinel, .sentinel, .sentinel, .sentinel, .pinned], laidTests := true, laidLooks := .later }
def VolListsCardSaid : Prop := Claim7.holds Tryz.pinned (.plain (OpenSpec.ofChange volListsSpec)) volListsCard

/-- THE TIED CARD OF 'breviarylaw21.VolRefuses'. -/
def volRefusesCard : Claim7 := { stood := { row := volRefusesRow, standIns := [], harness := (true, "45f718f38200bd1fa906a08fe9e27d6509129dd0d46a615f27b1a7d5adea8389"), looks := true }, kinds := [], alts := [], laidByText := true, laidKinds := [.data, .sentinel, .sentinel, .sentinel, .sentinel, .sentinel, .sentinel, .sentinel, .sentinel, .sentinel, .sentinel, .sentinel, .sentinel, .sentinel, .sentinel, .sentinel, .sentinel, .sentinel, .sentinel, .sentinel, .sentinel, .sentinel, .sentinel, .sentinel, .sentinel, .pinned], laidTests := true, laidLooks := .later }
def VolRefusesCardSaid : Prop := Claim7.holds Tryz.pinned (.plain (OpenSpec.ofChange volRefusesSpec)) volRefusesCard

/-- THE TIED CARD OF 'breviarylaw21.VolSame'. -/
def volSameCard : Claim7 := { stood := { row := volSameRow, standIns := [], harness := (true, "45f718f38200bd1fa906a08fe9e27d6509129dd0d46a615f27b1a7d5adea8389"), looks := true }, kinds := [], alts := [], laidByText := true, laidKinds := [.data, .sentinel, .sentinel, .sentinel, .sentinel, .sentinel, .sentinel, .sentinel, .sentinel, .sentinel, .sentinel, .sentinel, .sentinel, .sentinel, .sentinel, .sentinel, .sentinel, .sentinel, .sentinel, .sentinel, .sentinel, .sentinel, .sentinel, .sentinel, .sentinel, .pinned], laidTests := true, laidLooks := .later }
def VolSameCardSaid : Prop := Claim7.holds Tryz.pinned (.plain (OpenSpec.ofChange volSameSpec)) volSameCard

/-- THE SECOND FORM's CARD OF 'breviarylaw21.VolHoles'. -/
def volHolesUptoCard : Claim7 := { stood := { row := volHolesUptoRow, standIns := [], harness := (true, "45f718f38200bd1fa906a08fe9e27d6509129dd0d46a615f27b1a7d5adea8389"), looks := true }, kinds := [], alts := [], laidByText := true, laidKinds := [.data, .sentinel, .sentinel, .sentinel, .sentinel, .sentinel, .sentinel, .sentinel, .sentinel, .sentinel, .sentinel, .sentinel, .sentinel, .sentinel, .sentinel, .pinned], laidTests := true, laidLooks := .later }
def VolHolesUptoCardSaid : Prop := Claim7.holds Tryz.pinned (.plain (OpenSpec.upto volHolesSpec)) volHolesUptoCard

/-- THE SECOND FORM's CARD OF 'breviarylaw21.VolLost'. -/
def volLostUptoCard : Claim7 := { stood := { row := volLostUptoRow, standIns := [], harness := (true, "45f718f38200bd1fa906a08fe9e27d6509129dd0d46a615f27b1a7d5adea8389"), looks := true }, kinds := [], alts := [], laidByText := true, laidKinds := [.data, .sentinel, .sentinel, .sentinel, .sentinel, .sentinel, .sentinel, .sentinel, .sentinel, .sentinel, .sentinel, .sentinel, .sentinel, .sentinel, .sentinel, .sentinel, .sentinel, .sentinel, .sentinel, .sentinel, .sentinel, .sentinel, .sentinel, .sentinel, .sentinel, .pinned], laidTests := true, laidLooks := .later }
def VolLostUptoCardSaid : Prop := Claim7.holds Tryz.pinned (.plain (OpenSpec.upto volLostSpec)) volLostUptoCard

/-- THE SECOND FORM's CARD OF 'breviarylaw21.VolFull'. -/
def volFullUptoCard : Claim7 := { stood := { row := volFullUptoRow, standIns := [], harness := (true, "45f718f38200bd1fa906a08fe9e27d6509129dd0d46a615f27b1a7d5adea8389"), looks := true }, kinds := [], alts := [], laidByText := true, laidKinds := [.data, .sentinel, .sentinel, .sentinel, .sentinel, .sentinel, .sentinel, .sentinel, .sentinel, .sentinel, .sentinel, .sentinel, .sentinel, .sentinel, .sentinel, .sentinel, .sentinel, .sentinel, .sentinel, .sentinel, .sentinel, .sentinel, .sentinel, .sentinel, .sentinel, .pinned], laidTests := true, laidLooks := .later }
def VolFullUptoCardSaid : Prop := Claim7.holds Tryz.pinned (.plain (OpenSpec.upto volFullSpec)) volFullUptoCard

/-- THE SECOND FORM's CARD OF 'breviarylaw21.VolBytes'. -/
def volBytesUptoCard : Claim7 := { stood := { row := volBytesUptoRow, standIns := [], harness := (true, "45f718f38200bd1fa906a08fe9e27d6509129dd0d46a615f27b1a7d5adea8389"), looks := true }, kinds := [], alts := [], laidByText := true, laidKinds := [.data, .sentinel, .sentinel, .sentinel, .sentinel, .sentinel, .sentinel, .sentinel, .sentinel, .sentinel, .sentinel, .sentinel, .sentinel, .sentinel, .sentinel, .pinned], laidTests := true, laidLooks := .later }
def VolBytesUptoCardSaid : Prop := Claim7.holds Tryz.pinned (.plain (OpenSpec.upto volBytesSpec)) volBytesUptoCard

/-- THE SECOND FORM's CARD OF 'breviarylaw21.VolBig'. -/
def volBigUptoCard : Claim7 := { stood := { row := volBigUptoRow, standIns := [], harness := (true, "45f718f38200bd1fa906a08fe9e27d6509129dd0d46a615f27b1a7d5adea8389"), looks := true }, kinds := [], alts := [], laidByText := true, laidKinds := [.data, .sentinel, .sentinel, .sentinel, .sentinel, .sentinel, .sentinel, .sentinel, .sentinel, .sentinel, .sentinel, .sentinel, .sentinel, .sentinel, .sentinel, .sentinel, .sentinel, .sentinel, .sentinel, .sentinel, .sentinel, .sentinel, .sentinel, .sentinel, .sentinel, .pinned], laidTests := true, laidLooks := .later }
def VolBigUptoCardSaid : Prop := Claim7.holds Tryz.pinned (.plain (OpenSpec.upto volBigSpec)) volBigUptoCard

/-- THE SECOND FORM's CARD OF 'breviarylaw21.VolLinks'. -/
def volLinksUptoCard : Claim7 := { stood := { row := volLinksUptoRow, standIns := [], harness := (true, "45f718f38200bd1fa906a08fe9e27d6509129dd0d46a615f27b1a7d5adea8389"), looks := true }, kinds := [], alts := [], laidByText := true, laidKinds := [.data, .sentinel, .sentinel, .sentinel, .sentinel, .sentinel, .sentinel, .sentinel, .sentinel, .sentinel, .sentinel, .sentinel, .sentinel, .sentinel, .sentinel, .sentinel, .sentinel, .sentinel, .sentinel, .sentinel, .sentinel, .sentinel, .sentinel, .sentinel, .sentinel, .pinned], laidTests := true, laidLooks := .later }
def VolLinksUptoCardSaid : Prop := Claim7.holds Tryz.pinned (.plain (OpenSpec.upto volLinksSpec)) volLinksUptoCard

/-- THE SECOND FORM's CARD OF 'breviarylaw21.VolOpen'. -/
def volOpenUptoCard : Claim7 := { stood := { row := volOpenUptoRow, standIns := [], harness := (true, "45f718f38200bd1fa906a08fe9e27d6509129dd0d46a615f27b1a7d5adea8389"), looks := true }, kinds := [], alts := [], laidByText := true, laidKinds := [.data, .sentinel, .sentinel, .sentinel, .sentinel, .sentinel, .sentinel, .sentinel, .sentinel, .sentinel, .sentinel, .sentinel, .sentinel, .sentinel, .sentinel, .sentinel, .sentinel, .sentinel, .sentinel, .sentinel, .sentinel, .sentinel, .sentinel, .sentinel, .sentinel, .pinned], laidTests := true, laidLooks := .later }
def VolOpenUptoCardSaid : Prop := Claim7.holds Tryz.pinned (.plain (OpenSpec.upto volOpenSpec)) volOpenUptoCard

/-- THE SECOND FORM's CARD OF 'breviarylaw21.VolLists'. -/
def volListsUptoCard : Claim7 := { stood := { row := volListsUptoRow, standIns := [], harness := (true, "45f718f38200bd1fa906a08fe9e27d6509129dd0d46a615f27b1a7d5adea8389"), looks := true }, kinds := [], alts := [], laidByText := true, laidKinds := [.data, .data, .data, .data, .sentinel, .sentinel, .sentinel, .sentinel, .sentinel, .sentinel, .sentinel, .sentinel, .sentinel, .sentinel, .sentinel, .sentinel, .sentinel, .sentinel, .sentinel, .sentinel, .sentinel, .sentinel, .sentinel, .sentinel, .sentinel, .sentinel, .sentinel, .sentinel, .pinned], laidTests := true, laidLooks := .later }
def VolListsUptoCardSaid : Prop := Claim7.holds Tryz.pinned (.plain (OpenSpec.upto volListsSpec)) volListsUptoCard

/-- THE SECOND FORM's CARD OF 'breviarylaw21.VolRefuses'. -/
def volRefusesUptoCard : Claim7 := { stood := { row := volRefusesUptoRow, standIns := [], harness := (true, "45f718f38200bd1fa906a08fe9e27d6509129dd0d46a615f27b1a7d5adea8389"), looks := true }, kinds := [], alts := [], laidByText := true, laidKinds := [.data, .sentinel, .sentinel, .sentinel, .sentinel, .sentinel, .sentinel, .sentinel, .sentinel, .sentinel, .sentinel, .sentinel, .sentinel, .sentinel, .sentinel, .sentinel, .sentinel, .sentinel, .sentinel, .sentinel, .sentinel, .sentinel, .sentinel, .sentinel, .sentinel, .pinned], laidTests := true, laidLooks := .later }
def VolRefusesUptoCardSaid : Prop := Claim7.holds Tryz.pinned (.plain (OpenSpec.upto volRefusesSpec)) volRefusesUptoCard

/-- THE SECOND FORM's CARD OF 'breviarylaw21.VolSame'. -/
def volSameUptoCard : Claim7 := { stood := { row := volSameUptoRow, standIns := [], harness := (true, "45f718f38200bd1fa906a08fe9e27d6509129dd0d46a615f27b1a7d5adea8389"), looks := true }, kinds := [], alts := [], laidByText := true, laidKinds := [.data, .sentinel, .sentinel, .sentinel, .sentinel, .sentinel, .sentinel, .sentinel, .sentinel, .sentinel, .sentinel, .sentinel, .sentinel, .sentinel, .sentinel, .sentinel, .sentinel, .sentinel, .sentinel, .sentinel, .sentinel, .sentinel, .sentinel, .sentinel, .sentinel, .pinned], laidTests := true, laidLooks := .later }
def VolSameUptoCardSaid : Prop := Claim7.holds Tryz.pinned (.plain (OpenSpec.upto volSameSpec)) volSameUptoCard
end Rows
end Go.Proofs.YtaiigmiiidldcaaGreatDoor

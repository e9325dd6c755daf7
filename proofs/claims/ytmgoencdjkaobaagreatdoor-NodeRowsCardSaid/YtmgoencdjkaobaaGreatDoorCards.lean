/-
  DERIVED. GIVEN WITH THE SEED: THE CARDS: each row of YtmgoencdjkaobaaGreatDoorRows.lean that lists a variable, with what it lists TIED to the program's text (the seventh form; the later family's looks); each row that meets fmt, with fmt's text TOLD by the authors' own Lean function (tested against real Go, not proved from fmt's source: count such statements apart). THE CARD IS WHAT COUNTS. Prove the row's statement (the work); the ties are given (YtmgoencdjkaobaaGreatDoorTie.lean); close each card by the builder's one call (the guide's Derived/Test/ToyasCard.lean, 'card_holds'). Laid BY PROGRAM, IN A SANDBOX (cutbox-door.mjs). By AI agents, Wed Nov 11 2026. No macro, syntax, notation, axiom, sorry.
-/
import Derived.Test.YtmgoencdjkaobaaGreatDoorRows
import GoSem.ClaimSeven
namespace Go.Proofs.YtmgoencdjkaobaaGreatDoor
namespace Rows

/-- THE TIED CARD OF 'ballastlaw6.NodeRows'. -/
def nodeRowsCard : Claim7 := { stood := { row := nodeRowsRow, standIns := [], harness := (true, "a11d410cdb63183ea1bc13fa0eeb16c9fe05aed389d6af5a5661934acc749373"), looks := true }, kinds := [], alts := [], laidByText := true, laidKinds := [.data, .data, .data, .data, .sentinel, .sentinel, .pinned], laidTests := true, laidLooks := .later }
def NodeRowsCardSaid : Prop := Claim7.holds Tryz.pinned (.plain (OpenSpec.ofChange nodeRowsSpec)) nodeRowsCard

/-- THE TIED CARD OF 'ballastlaw6.NodeLimits'. -/
def nodeLimitsCard : Claim7 := { stood := { row := nodeLimitsRow, standIns := [], harness := (true, "a11d410cdb63183ea1bc13fa0eeb16c9fe05aed389d6af5a5661934acc749373"), looks := true }, kinds := [], alts := [], laidByText := true, laidKinds := [.data, .data, .data, .data, .sentinel, .sentinel, .pinned], laidTests := true, laidLooks := .later }
def NodeLimitsCardSaid : Prop := Claim7.holds Tryz.pinned (.plain (OpenSpec.ofChange nodeLimitsSpec)) nodeLimitsCard

/-- THE TIED CARD OF 'ballastlaw7.PodRows'. -/
def podRowsCard : Claim7 := { stood := { row := podRowsRow, standIns := [], harness := (true, "a11d410cdb63183ea1bc13fa0eeb16c9fe05aed389d6af5a5661934acc749373"), looks := true }, kinds := [], alts := [], laidByText := true, laidKinds := [.data, .data, .data, .data, .sentinel, .sentinel, .pinned], laidTests := true, laidLooks := .later }
def PodRowsCardSaid : Prop := Claim7.holds Tryz.pinned (.plain (OpenSpec.ofChange podRowsSpec)) podRowsCard

/-- THE TIED CARD OF 'ballastlaw7.PodTells'. -/
def podTellsCard : Claim7 := { stood := { row := podTellsRow, standIns := [], harness := (true, "a11d410cdb63183ea1bc13fa0eeb16c9fe05aed389d6af5a5661934acc749373"), looks := true }, kinds := [], alts := [], laidByText := true, laidKinds := [.data, .data, .data, .data, .sentinel, .sentinel, .pinned], laidTests := true, laidLooks := .later }
def PodTellsCardSaid : Prop := Claim7.holds Tryz.pinned (.plain (OpenSpec.ofChange podTellsSpec)) podTellsCard

/-- THE SECOND FORM's CARD OF 'ballastlaw6.NodeRows'. -/
def nodeRowsUptoCard : Claim7 := { stood := { row := nodeRowsUptoRow, standIns := [], harness := (true, "a11d410cdb63183ea1bc13fa0eeb16c9fe05aed389d6af5a5661934acc749373"), looks := true }, kinds := [], alts := [], laidByText := true, laidKinds := [.data, .data, .data, .data, .sentinel, .sentinel, .pinned], laidTests := true, laidLooks := .later }
def NodeRowsUptoCardSaid : Prop := Claim7.holds Tryz.pinned (.plain (OpenSpec.upto nodeRowsSpec)) nodeRowsUptoCard

/-- THE SECOND FORM's CARD OF 'ballastlaw6.NodeLimits'. -/
def nodeLimitsUptoCard : Claim7 := { stood := { row := nodeLimitsUptoRow, standIns := [], harness := (true, "a11d410cdb63183ea1bc13fa0eeb16c9fe05aed389d6af5a5661934acc749373"), looks := true }, kinds := [], alts := [], laidByText := true, laidKinds := [.data, .data, .data, .data, .sentinel, .sentinel, .pinned], laidTests := true, laidLooks := .later }
def NodeLimitsUptoCardSaid : Prop := Claim7.holds Tryz.pinned (.plain (OpenSpec.upto nodeLimitsSpec)) nodeLimitsUptoCard

/-- THE SECOND FORM's CARD OF 'ballastlaw7.PodRows'. -/
def podRowsUptoCard : Claim7 := { stood := { row := podRowsUptoRow, standIns := [], harness := (true, "a11d410cdb63183ea1bc13fa0eeb16c9fe05aed389d6af5a5661934acc749373"), looks := true }, kinds := [], alts := [], laidByText := true, laidKinds := [.data, .data, .data, .data, .sentinel, .sentinel, .pinned], laidTests := true, laidLooks := .later }
def PodRowsUptoCardSaid : Prop := Claim7.holds Tryz.pinned (.plain (OpenSpec.upto podRowsSpec)) podRowsUptoCard

/-- THE SECOND FORM's CARD OF 'ballastlaw7.PodTells'. -/
def podTellsUptoCard : Claim7 := { stood := { row := podTellsUptoRow, standIns := [], harness := (true, "a11d410cdb63183ea1bc13fa0eeb16c9fe05aed389d6af5a5661934acc749373"), looks := true }, kinds := [], alts := [], laidByText := true, laidKinds := [.data, .data, .data, .data, .sentinel, .sentinel, .pinned], laidTests := true, laidLooks := .later }
def PodTellsUptoCardSaid : Prop := Claim7.holds Tryz.pinned (.plain (OpenSpec.upto podTellsSpec)) podTellsUptoCard
end Rows
end Go.Proofs.YtmgoencdjkaobaaGreatDoor

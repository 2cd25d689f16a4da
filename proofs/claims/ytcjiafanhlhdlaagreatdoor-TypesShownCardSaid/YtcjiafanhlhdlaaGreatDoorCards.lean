/-
  DERIVED. GIVEN WITH THE SEED: THE CARDS: each row of YtcjiafanhlhdlaaGreatDoorRows.lean that lists a variable, with what it lists TIED to the program's text (the seventh form; the later family's looks); each row that meets fmt, with fmt's text TOLD by the authors' own Lean function (tested against real Go, not proved from fmt's source: count such statements apart). THE CARD IS WHAT COUNTS. Prove the row's statement (the work); the ties are given (YtcjiafanhlhdlaaGreatDoorTie.lean); close each card by the builder's one call (the guide's Derived/Test/ToyasCard.lean, 'card_holds'). Laid BY PROGRAM, IN A SANDBOX (cutbox-door.mjs). By AI agents, Wed Nov 11 2026. No macro, syntax, notation, axiom, sorry.
-/
import Derived.Test.YtcjiafanhlhdlaaGreatDoorRows
import GoSem.ClaimSeven
namespace Go.Proofs.YtcjiafanhlhdlaaGreatDoor
namespace Rows

/-- THE TIED CARD OF 'teasellaw03.TypesShown'. -/
def typesShownCard : Claim7 := { stood := { row := typesShownRow, standIns := [], harness := (true, "972f8cf9462e3e9cab5f522b1c7f0bf4f38495690225f707ced868352cd2af5c"), looks := true }, kinds := [], alts := [], laidByText := true, laidKinds := [.data, .data, .data, .sentinel, .sentinel, .listed, .data], laidTests := true, laidLooks := .later }
def TypesShownCardSaid : Prop := Claim7.holds Tryz.pinned (.plain (OpenSpec.ofChange typesShownSpec)) typesShownCard

/-- THE TIED CARD OF 'teasellaw03.TypesChecks'. -/
def typesChecksCard : Claim7 := { stood := { row := typesChecksRow, standIns := [], harness := (true, "972f8cf9462e3e9cab5f522b1c7f0bf4f38495690225f707ced868352cd2af5c"), looks := true }, kinds := [], alts := [], laidByText := true, laidKinds := [.data, .data, .data, .sentinel, .sentinel, .listed, .data], laidTests := true, laidLooks := .later }
def TypesChecksCardSaid : Prop := Claim7.holds Tryz.pinned (.plain (OpenSpec.ofChange typesChecksSpec)) typesChecksCard

/-- THE TIED CARD OF 'teasellaw03.TypesPoints'. -/
def typesPointsCard : Claim7 := { stood := { row := typesPointsRow, standIns := [], harness := (true, "972f8cf9462e3e9cab5f522b1c7f0bf4f38495690225f707ced868352cd2af5c"), looks := true }, kinds := [], alts := [], laidByText := true, laidKinds := [.data, .data, .data, .sentinel, .sentinel, .listed, .data], laidTests := true, laidLooks := .later }
def TypesPointsCardSaid : Prop := Claim7.holds Tryz.pinned (.plain (OpenSpec.ofChange typesPointsSpec)) typesPointsCard

/-- THE TIED CARD OF 'teasellaw03.TypesLimits'. -/
def typesLimitsCard : Claim7 := { stood := { row := typesLimitsRow, standIns := [], harness := (true, "972f8cf9462e3e9cab5f522b1c7f0bf4f38495690225f707ced868352cd2af5c"), looks := true }, kinds := [], alts := [], laidByText := true, laidKinds := [.data, .data, .data, .sentinel, .sentinel, .listed, .data], laidTests := true, laidLooks := .later }
def TypesLimitsCardSaid : Prop := Claim7.holds Tryz.pinned (.plain (OpenSpec.ofChange typesLimitsSpec)) typesLimitsCard

/-- THE TIED CARD OF 'teasellaw03.TypesMore'. -/
def typesMoreCard : Claim7 := { stood := { row := typesMoreRow, standIns := [], harness := (true, "972f8cf9462e3e9cab5f522b1c7f0bf4f38495690225f707ced868352cd2af5c"), looks := true }, kinds := [], alts := [], laidByText := true, laidKinds := [.data, .data, .data, .sentinel, .sentinel, .listed, .data], laidTests := true, laidLooks := .later }
def TypesMoreCardSaid : Prop := Claim7.holds Tryz.pinned (.plain (OpenSpec.ofChange typesMoreSpec)) typesMoreCard

/-- THE SECOND FORM's CARD OF 'teasellaw03.TypesShown'. -/
def typesShownUptoCard : Claim7 := { stood := { row := typesShownUptoRow, standIns := [], harness := (true, "972f8cf9462e3e9cab5f522b1c7f0bf4f38495690225f707ced868352cd2af5c"), looks := true }, kinds := [], alts := [], laidByText := true, laidKinds := [.data, .data, .data, .sentinel, .sentinel, .listed, .data], laidTests := true, laidLooks := .later }
def TypesShownUptoCardSaid : Prop := Claim7.holds Tryz.pinned (.plain (OpenSpec.upto typesShownSpec)) typesShownUptoCard

/-- THE SECOND FORM's CARD OF 'teasellaw03.TypesChecks'. -/
def typesChecksUptoCard : Claim7 := { stood := { row := typesChecksUptoRow, standIns := [], harness := (true, "972f8cf9462e3e9cab5f522b1c7f0bf4f38495690225f707ced868352cd2af5c"), looks := true }, kinds := [], alts := [], laidByText := true, laidKinds := [.data, .data, .data, .sentinel, .sentinel, .listed, .data], laidTests := true, laidLooks := .later }
def TypesChecksUptoCardSaid : Prop := Claim7.holds Tryz.pinned (.plain (OpenSpec.upto typesChecksSpec)) typesChecksUptoCard

/-- THE SECOND FORM's CARD OF 'teasellaw03.TypesPoints'. -/
def typesPointsUptoCard : Claim7 := { stood := { row := typesPointsUptoRow, standIns := [], harness := (true, "972f8cf9462e3e9cab5f522b1c7f0bf4f38495690225f707ced868352cd2af5c"), looks := true }, kinds := [], alts := [], laidByText := true, laidKinds := [.data, .data, .data, .sentinel, .sentinel, .listed, .data], laidTests := true, laidLooks := .later }
def TypesPointsUptoCardSaid : Prop := Claim7.holds Tryz.pinned (.plain (OpenSpec.upto typesPointsSpec)) typesPointsUptoCard

/-- THE SECOND FORM's CARD OF 'teasellaw03.TypesLimits'. -/
def typesLimitsUptoCard : Claim7 := { stood := { row := typesLimitsUptoRow, standIns := [], harness := (true, "972f8cf9462e3e9cab5f522b1c7f0bf4f38495690225f707ced868352cd2af5c"), looks := true }, kinds := [], alts := [], laidByText := true, laidKinds := [.data, .data, .data, .sentinel, .sentinel, .listed, .data], laidTests := true, laidLooks := .later }
def TypesLimitsUptoCardSaid : Prop := Claim7.holds Tryz.pinned (.plain (OpenSpec.upto typesLimitsSpec)) typesLimitsUptoCard

/-- THE SECOND FORM's CARD OF 'teasellaw03.TypesMore'. -/
def typesMoreUptoCard : Claim7 := { stood := { row := typesMoreUptoRow, standIns := [], harness := (true, "972f8cf9462e3e9cab5f522b1c7f0bf4f38495690225f707ced868352cd2af5c"), looks := true }, kinds := [], alts := [], laidByText := true, laidKinds := [.data, .data, .data, .sentinel, .sentinel, .listed, .data], laidTests := true, laidLooks := .later }
def TypesMoreUptoCardSaid : Prop := Claim7.holds Tryz.pinned (.plain (OpenSpec.upto typesMoreSpec)) typesMoreUptoCard
end Rows
end Go.Proofs.YtcjiafanhlhdlaaGreatDoor

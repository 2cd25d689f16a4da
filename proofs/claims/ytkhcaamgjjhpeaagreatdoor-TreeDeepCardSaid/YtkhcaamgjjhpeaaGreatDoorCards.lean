/-
  DERIVED. GIVEN WITH THE SEED: THE CARDS: each row of YtkhcaamgjjhpeaaGreatDoorRows.lean that lists a variable, with what it lists TIED to the program's text (the seventh form; the later family's looks); each row that meets fmt, with fmt's text TOLD by the authors' own Lean function (tested against real Go, not proved from fmt's source: count such statements apart). THE CARD IS WHAT COUNTS. Prove the row's statement (the work); the ties are given (YtkhcaamgjjhpeaaGreatDoorTie.lean); close each card by the builder's one call (the guide's Derived/Test/ToyasCard.lean, 'card_holds'). Laid BY PROGRAM, IN A SANDBOX (cutbox-door.mjs). By AI agents, Wed Nov 11 2026. No macro, syntax, notation, axiom, sorry.
-/
import Derived.Test.YtkhcaamgjjhpeaaGreatDoorRows
import GoSem.ClaimSeven
namespace Go.Proofs.YtkhcaamgjjhpeaaGreatDoor
namespace Rows

/-- THE TIED CARD OF 'teasellaw02.TreeParses'. -/
def treeParsesCard : Claim7 := { stood := { row := treeParsesRow, standIns := [], harness := (true, "90a16f3b691d4001ff626d6ad5e7a9b23d3cd22213b708d70a19a633ff8c6055"), looks := true }, kinds := [], alts := [], laidByText := true, laidKinds := [.data, .data, .data, .sentinel, .sentinel, .listed, .data], laidTests := true, laidLooks := .later }
def TreeParsesCardSaid : Prop := Claim7.holds Tryz.pinned (.plain (OpenSpec.ofChange treeParsesSpec)) treeParsesCard

/-- THE TIED CARD OF 'teasellaw02.TreeDeep'. -/
def treeDeepCard : Claim7 := { stood := { row := treeDeepRow, standIns := [], harness := (true, "90a16f3b691d4001ff626d6ad5e7a9b23d3cd22213b708d70a19a633ff8c6055"), looks := true }, kinds := [], alts := [], laidByText := true, laidKinds := [.data, .data, .data, .sentinel, .sentinel, .listed, .data], laidTests := true, laidLooks := .later }
def TreeDeepCardSaid : Prop := Claim7.holds Tryz.pinned (.plain (OpenSpec.ofChange treeDeepSpec)) treeDeepCard

/-- THE TIED CARD OF 'teasellaw02.TreeSigns'. -/
def treeSignsCard : Claim7 := { stood := { row := treeSignsRow, standIns := [], harness := (true, "90a16f3b691d4001ff626d6ad5e7a9b23d3cd22213b708d70a19a633ff8c6055"), looks := true }, kinds := [], alts := [], laidByText := true, laidKinds := [.data, .data, .data, .sentinel, .sentinel, .listed, .data], laidTests := true, laidLooks := .later }
def TreeSignsCardSaid : Prop := Claim7.holds Tryz.pinned (.plain (OpenSpec.ofChange treeSignsSpec)) treeSignsCard

/-- THE TIED CARD OF 'teasellaw02.TreeNumbers'. -/
def treeNumbersCard : Claim7 := { stood := { row := treeNumbersRow, standIns := [], harness := (true, "90a16f3b691d4001ff626d6ad5e7a9b23d3cd22213b708d70a19a633ff8c6055"), looks := true }, kinds := [], alts := [], laidByText := true, laidKinds := [.data, .data, .data, .sentinel, .sentinel, .listed, .data], laidTests := true, laidLooks := .later }
def TreeNumbersCardSaid : Prop := Claim7.holds Tryz.pinned (.plain (OpenSpec.ofChange treeNumbersSpec)) treeNumbersCard

/-- THE TIED CARD OF 'teasellaw02.TreeBlanks'. -/
def treeBlanksCard : Claim7 := { stood := { row := treeBlanksRow, standIns := [], harness := (true, "90a16f3b691d4001ff626d6ad5e7a9b23d3cd22213b708d70a19a633ff8c6055"), looks := true }, kinds := [], alts := [], laidByText := true, laidKinds := [.data, .data, .data, .sentinel, .sentinel, .listed, .data], laidTests := true, laidLooks := .later }
def TreeBlanksCardSaid : Prop := Claim7.holds Tryz.pinned (.plain (OpenSpec.ofChange treeBlanksSpec)) treeBlanksCard

/-- THE TIED CARD OF 'teasellaw02.TreeCut'. -/
def treeCutCard : Claim7 := { stood := { row := treeCutRow, standIns := [], harness := (true, "90a16f3b691d4001ff626d6ad5e7a9b23d3cd22213b708d70a19a633ff8c6055"), looks := true }, kinds := [], alts := [], laidByText := true, laidKinds := [.data, .data, .data, .sentinel, .sentinel, .listed, .data], laidTests := true, laidLooks := .later }
def TreeCutCardSaid : Prop := Claim7.holds Tryz.pinned (.plain (OpenSpec.ofChange treeCutSpec)) treeCutCard

/-- THE SECOND FORM's CARD OF 'teasellaw02.TreeParses'. -/
def treeParsesUptoCard : Claim7 := { stood := { row := treeParsesUptoRow, standIns := [], harness := (true, "90a16f3b691d4001ff626d6ad5e7a9b23d3cd22213b708d70a19a633ff8c6055"), looks := true }, kinds := [], alts := [], laidByText := true, laidKinds := [.data, .data, .data, .sentinel, .sentinel, .listed, .data], laidTests := true, laidLooks := .later }
def TreeParsesUptoCardSaid : Prop := Claim7.holds Tryz.pinned (.plain (OpenSpec.upto treeParsesSpec)) treeParsesUptoCard

/-- THE SECOND FORM's CARD OF 'teasellaw02.TreeDeep'. -/
def treeDeepUptoCard : Claim7 := { stood := { row := treeDeepUptoRow, standIns := [], harness := (true, "90a16f3b691d4001ff626d6ad5e7a9b23d3cd22213b708d70a19a633ff8c6055"), looks := true }, kinds := [], alts := [], laidByText := true, laidKinds := [.data, .data, .data, .sentinel, .sentinel, .listed, .data], laidTests := true, laidLooks := .later }
def TreeDeepUptoCardSaid : Prop := Claim7.holds Tryz.pinned (.plain (OpenSpec.upto treeDeepSpec)) treeDeepUptoCard

/-- THE SECOND FORM's CARD OF 'teasellaw02.TreeSigns'. -/
def treeSignsUptoCard : Claim7 := { stood := { row := treeSignsUptoRow, standIns := [], harness := (true, "90a16f3b691d4001ff626d6ad5e7a9b23d3cd22213b708d70a19a633ff8c6055"), looks := true }, kinds := [], alts := [], laidByText := true, laidKinds := [.data, .data, .data, .sentinel, .sentinel, .listed, .data], laidTests := true, laidLooks := .later }
def TreeSignsUptoCardSaid : Prop := Claim7.holds Tryz.pinned (.plain (OpenSpec.upto treeSignsSpec)) treeSignsUptoCard

/-- THE SECOND FORM's CARD OF 'teasellaw02.TreeNumbers'. -/
def treeNumbersUptoCard : Claim7 := { stood := { row := treeNumbersUptoRow, standIns := [], harness := (true, "90a16f3b691d4001ff626d6ad5e7a9b23d3cd22213b708d70a19a633ff8c6055"), looks := true }, kinds := [], alts := [], laidByText := true, laidKinds := [.data, .data, .data, .sentinel, .sentinel, .listed, .data], laidTests := true, laidLooks := .later }
def TreeNumbersUptoCardSaid : Prop := Claim7.holds Tryz.pinned (.plain (OpenSpec.upto treeNumbersSpec)) treeNumbersUptoCard

/-- THE SECOND FORM's CARD OF 'teasellaw02.TreeBlanks'. -/
def treeBlanksUptoCard : Claim7 := { stood := { row := treeBlanksUptoRow, standIns := [], harness := (true, "90a16f3b691d4001ff626d6ad5e7a9b23d3cd22213b708d70a19a633ff8c6055"), looks := true }, kinds := [], alts := [], laidByText := true, laidKinds := [.data, .data, .data, .sentinel, .sentinel, .listed, .data], laidTests := true, laidLooks := .later }
def TreeBlanksUptoCardSaid : Prop := Claim7.holds Tryz.pinned (.plain (OpenSpec.upto treeBlanksSpec)) treeBlanksUptoCard

/-- THE SECOND FORM's CARD OF 'teasellaw02.TreeCut'. -/
def treeCutUptoCard : Claim7 := { stood := { row := treeCutUptoRow, standIns := [], harness := (true, "90a16f3b691d4001ff626d6ad5e7a9b23d3cd22213b708d70a19a633ff8c6055"), looks := true }, kinds := [], alts := [], laidByText := true, laidKinds := [.data, .data, .data, .sentinel, .sentinel, .listed, .data], laidTests := true, laidLooks := .later }
def TreeCutUptoCardSaid : Prop := Claim7.holds Tryz.pinned (.plain (OpenSpec.upto treeCutSpec)) treeCutUptoCard
end Rows
end Go.Proofs.YtkhcaamgjjhpeaaGreatDoor

/-
  DERIVED. GIVEN WITH THE SEED: THE CARDS: each row of YtnloffjjlhhanaaDoorRows.lean that lists a variable, with what it lists TIED to the program's text (the seventh form; the later family's looks); each row that meets fmt, with fmt's text TOLD by the authors' own Lean function (tested against real Go, not proved from fmt's source: count such statements apart). THE CARD IS WHAT COUNTS. Prove the row's statement (the work); the ties are given (YtnloffjjlhhanaaDoorTie.lean); close each card by the builder's one call (the guide's Derived/Test/ToyasCard.lean, 'card_holds'). Laid BY PROGRAM, IN A SANDBOX (cutbox-door.mjs). By AI agents, Wed Nov 11 2026. No macro, syntax, notation, axiom, sorry.
-/
import Derived.Test.YtnloffjjlhhanaaDoorRows
import GoSem.ClaimSeven
namespace Go.Proofs.YtnloffjjlhhanaaDoor
namespace Rows

/-- THE TIED CARD OF 'virgatelaw17.ProfileTexts'. -/
def profileTextsCard : Claim7 := { stood := { row := profileTextsRow, standIns := [], harness := (true, "58614948b518f7a0c7d7117646eb2fcb1eb9016daf09c9e287ff060ba1d363d3"), looks := false }, kinds := [], alts := [], laidByText := true, laidKinds := [.data, .data, .data], laidTests := true, laidLooks := .later }
def ProfileTextsCardSaid : Prop := Claim7.holds Tryd.pinned (.plain (OpenSpec.ofChange profileTextsSpec)) profileTextsCard

/-- THE TIED CARD OF 'virgatelaw17.ProfileArea'. -/
def profileAreaCard : Claim7 := { stood := { row := profileAreaRow, standIns := [], harness := (true, "58614948b518f7a0c7d7117646eb2fcb1eb9016daf09c9e287ff060ba1d363d3"), looks := false }, kinds := [], alts := [], laidByText := true, laidKinds := [.data, .data, .data, .data, .pinned], laidTests := true, laidLooks := .later }
def ProfileAreaCardSaid : Prop := Claim7.holds Tryd.pinned (.plain (OpenSpec.ofChange profileAreaSpec)) profileAreaCard

/-- THE SECOND FORM's CARD OF 'virgatelaw17.ProfileTexts'. -/
def profileTextsUptoCard : Claim7 := { stood := { row := profileTextsUptoRow, standIns := [], harness := (true, "58614948b518f7a0c7d7117646eb2fcb1eb9016daf09c9e287ff060ba1d363d3"), looks := false }, kinds := [], alts := [], laidByText := true, laidKinds := [.data, .data, .data], laidTests := true, laidLooks := .later }
def ProfileTextsUptoCardSaid : Prop := Claim7.holds Tryd.pinned (.plain (OpenSpec.upto profileTextsSpec)) profileTextsUptoCard

/-- THE SECOND FORM's CARD OF 'virgatelaw17.ProfileArea'. -/
def profileAreaUptoCard : Claim7 := { stood := { row := profileAreaUptoRow, standIns := [], harness := (true, "58614948b518f7a0c7d7117646eb2fcb1eb9016daf09c9e287ff060ba1d363d3"), looks := false }, kinds := [], alts := [], laidByText := true, laidKinds := [.data, .data, .data, .data, .pinned], laidTests := true, laidLooks := .later }
def ProfileAreaUptoCardSaid : Prop := Claim7.holds Tryd.pinned (.plain (OpenSpec.upto profileAreaSpec)) profileAreaUptoCard
end Rows
end Go.Proofs.YtnloffjjlhhanaaDoor

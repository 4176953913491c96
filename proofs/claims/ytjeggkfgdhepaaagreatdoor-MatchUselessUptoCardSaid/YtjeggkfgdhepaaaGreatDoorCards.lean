/-
  DERIVED. GIVEN WITH THE SEED: THE CARDS: each row of YtjeggkfgdhepaaaGreatDoorRows.lean that lists a variable, with what it lists TIED to the program's text (the seventh form; the later family's looks); each row that meets fmt, with fmt's text TOLD by the authors' own Lean function (tested against real Go, not proved from fmt's source: count such statements apart). THE CARD IS WHAT COUNTS. Prove the row's statement (the work); the ties are given (YtjeggkfgdhepaaaGreatDoorTie.lean); close each card by the builder's one call (the guide's Derived/Test/ToyasCard.lean, 'card_holds'). Laid BY PROGRAM, IN A SANDBOX (cutbox-door.mjs). By AI agents, Wed Nov 11 2026. No macro, syntax, notation, axiom, sorry.
-/
import Derived.Test.YtjeggkfgdhepaaaGreatDoorRows
import GoSem.ClaimSeven
namespace Go.Proofs.YtjeggkfgdhepaaaGreatDoor
namespace Rows

/-- THE TIED CARD OF 'virgatelaw08.MatchFits'. -/
def matchFitsCard : Claim7 := { stood := { row := matchFitsRow, standIns := [], harness := (true, "6f2447d5e1c20c43449f5acbce7391d129355da018e3494c4b6014b530f5172f"), looks := true }, kinds := [], alts := [], laidByText := true, laidKinds := [.data, .data, .data, .data, .sentinel, .sentinel, .listed, .data, .pinned], laidTests := true, laidLooks := .later }
def MatchFitsCardSaid : Prop := Claim7.holds Tryz.pinned (.plain (OpenSpec.ofChange matchFitsSpec)) matchFitsCard

/-- THE TIED CARD OF 'virgatelaw08.MatchMissing'. -/
def matchMissingCard : Claim7 := { stood := { row := matchMissingRow, standIns := [], harness := (true, "6f2447d5e1c20c43449f5acbce7391d129355da018e3494c4b6014b530f5172f"), looks := true }, kinds := [], alts := [], laidByText := true, laidKinds := [.data, .data, .data, .data, .sentinel, .sentinel, .listed, .data, .pinned], laidTests := true, laidLooks := .later }
def MatchMissingCardSaid : Prop := Claim7.holds Tryz.pinned (.plain (OpenSpec.ofChange matchMissingSpec)) matchMissingCard

/-- THE TIED CARD OF 'virgatelaw08.MatchLess'. -/
def matchLessCard : Claim7 := { stood := { row := matchLessRow, standIns := [], harness := (true, "6f2447d5e1c20c43449f5acbce7391d129355da018e3494c4b6014b530f5172f"), looks := true }, kinds := [], alts := [], laidByText := true, laidKinds := [.data, .data, .data, .data, .sentinel, .sentinel, .listed, .data, .pinned], laidTests := true, laidLooks := .later }
def MatchLessCardSaid : Prop := Claim7.holds Tryz.pinned (.plain (OpenSpec.ofChange matchLessSpec)) matchLessCard

/-- THE TIED CARD OF 'virgatelaw08.MatchMatches'. -/
def matchMatchesCard : Claim7 := { stood := { row := matchMatchesRow, standIns := [], harness := (true, "6f2447d5e1c20c43449f5acbce7391d129355da018e3494c4b6014b530f5172f"), looks := true }, kinds := [], alts := [], laidByText := true, laidKinds := [.data, .data, .data, .data, .sentinel, .sentinel, .listed, .data, .pinned], laidTests := true, laidLooks := .later }
def MatchMatchesCardSaid : Prop := Claim7.holds Tryz.pinned (.plain (OpenSpec.ofChange matchMatchesSpec)) matchMatchesCard

/-- THE TIED CARD OF 'virgatelaw08.MatchUseless'. -/
def matchUselessCard : Claim7 := { stood := { row := matchUselessRow, standIns := [], harness := (true, "6f2447d5e1c20c43449f5acbce7391d129355da018e3494c4b6014b530f5172f"), looks := true }, kinds := [], alts := [], laidByText := true, laidKinds := [.data, .data, .data, .data, .sentinel, .sentinel, .listed, .data, .pinned], laidTests := true, laidLooks := .later }
def MatchUselessCardSaid : Prop := Claim7.holds Tryz.pinned (.plain (OpenSpec.ofChange matchUselessSpec)) matchUselessCard

/-- THE TIED CARD OF 'virgatelaw08.MatchFirst'. -/
def matchFirstCard : Claim7 := { stood := { row := matchFirstRow, standIns := [], harness := (true, "6f2447d5e1c20c43449f5acbce7391d129355da018e3494c4b6014b530f5172f"), looks := true }, kinds := [], alts := [], laidByText := true, laidKinds := [.data, .data, .data, .data, .sentinel, .sentinel, .listed, .data, .pinned], laidTests := true, laidLooks := .later }
def MatchFirstCardSaid : Prop := Claim7.holds Tryz.pinned (.plain (OpenSpec.ofChange matchFirstSpec)) matchFirstCard

/-- THE SECOND FORM's CARD OF 'virgatelaw08.MatchFits'. -/
def matchFitsUptoCard : Claim7 := { stood := { row := matchFitsUptoRow, standIns := [], harness := (true, "6f2447d5e1c20c43449f5acbce7391d129355da018e3494c4b6014b530f5172f"), looks := true }, kinds := [], alts := [], laidByText := true, laidKinds := [.data, .data, .data, .data, .sentinel, .sentinel, .listed, .data, .pinned], laidTests := true, laidLooks := .later }
def MatchFitsUptoCardSaid : Prop := Claim7.holds Tryz.pinned (.plain (OpenSpec.upto matchFitsSpec)) matchFitsUptoCard

/-- THE SECOND FORM's CARD OF 'virgatelaw08.MatchMissing'. -/
def matchMissingUptoCard : Claim7 := { stood := { row := matchMissingUptoRow, standIns := [], harness := (true, "6f2447d5e1c20c43449f5acbce7391d129355da018e3494c4b6014b530f5172f"), looks := true }, kinds := [], alts := [], laidByText := true, laidKinds := [.data, .data, .data, .data, .sentinel, .sentinel, .listed, .data, .pinned], laidTests := true, laidLooks := .later }
def MatchMissingUptoCardSaid : Prop := Claim7.holds Tryz.pinned (.plain (OpenSpec.upto matchMissingSpec)) matchMissingUptoCard

/-- THE SECOND FORM's CARD OF 'virgatelaw08.MatchLess'. -/
def matchLessUptoCard : Claim7 := { stood := { row := matchLessUptoRow, standIns := [], harness := (true, "6f2447d5e1c20c43449f5acbce7391d129355da018e3494c4b6014b530f5172f"), looks := true }, kinds := [], alts := [], laidByText := true, laidKinds := [.data, .data, .data, .data, .sentinel, .sentinel, .listed, .data, .pinned], laidTests := true, laidLooks := .later }
def MatchLessUptoCardSaid : Prop := Claim7.holds Tryz.pinned (.plain (OpenSpec.upto matchLessSpec)) matchLessUptoCard

/-- THE SECOND FORM's CARD OF 'virgatelaw08.MatchMatches'. -/
def matchMatchesUptoCard : Claim7 := { stood := { row := matchMatchesUptoRow, standIns := [], harness := (true, "6f2447d5e1c20c43449f5acbce7391d129355da018e3494c4b6014b530f5172f"), looks := true }, kinds := [], alts := [], laidByText := true, laidKinds := [.data, .data, .data, .data, .sentinel, .sentinel, .listed, .data, .pinned], laidTests := true, laidLooks := .later }
def MatchMatchesUptoCardSaid : Prop := Claim7.holds Tryz.pinned (.plain (OpenSpec.upto matchMatchesSpec)) matchMatchesUptoCard

/-- THE SECOND FORM's CARD OF 'virgatelaw08.MatchUseless'. -/
def matchUselessUptoCard : Claim7 := { stood := { row := matchUselessUptoRow, standIns := [], harness := (true, "6f2447d5e1c20c43449f5acbce7391d129355da018e3494c4b6014b530f5172f"), looks := true }, kinds := [], alts := [], laidByText := true, laidKinds := [.data, .data, .data, .data, .sentinel, .sentinel, .listed, .data, .pinned], laidTests := true, laidLooks := .later }
def MatchUselessUptoCardSaid : Prop := Claim7.holds Tryz.pinned (.plain (OpenSpec.upto matchUselessSpec)) matchUselessUptoCard

/-- THE SECOND FORM's CARD OF 'virgatelaw08.MatchFirst'. -/
def matchFirstUptoCard : Claim7 := { stood := { row := matchFirstUptoRow, standIns := [], harness := (true, "6f2447d5e1c20c43449f5acbce7391d129355da018e3494c4b6014b530f5172f"), looks := true }, kinds := [], alts := [], laidByText := true, laidKinds := [.data, .data, .data, .data, .sentinel, .sentinel, .listed, .data, .pinned], laidTests := true, laidLooks := .later }
def MatchFirstUptoCardSaid : Prop := Claim7.holds Tryz.pinned (.plain (OpenSpec.upto matchFirstSpec)) matchFirstUptoCard
end Rows
end Go.Proofs.YtjeggkfgdhepaaaGreatDoor

/-
  DERIVED. GIVEN WITH THE SEED: THE CARDS: each row of YthffhhbbhjcdeaaGreatDoorRows.lean that lists a variable, with what it lists TIED to the program's text (the seventh form; the later family's looks); each row that meets fmt, with fmt's text TOLD by the authors' own Lean function (tested against real Go, not proved from fmt's source: count such statements apart). THE CARD IS WHAT COUNTS. Prove the row's statement (the work); the ties are given (YthffhhbbhjcdeaaGreatDoorTie.lean); close each card by the builder's one call (the guide's Derived/Test/ToyasCard.lean, 'card_holds'). Laid BY PROGRAM, IN A SANDBOX (cutbox-door.mjs). By AI agents, Wed Nov 11 2026. No macro, syntax, notation, axiom, sorry.
-/
import Derived.Test.YthffhhbbhjcdeaaGreatDoorRows
import GoSem.ClaimSeven
namespace Go.Proofs.YthffhhbbhjcdeaaGreatDoor
namespace Rows

/-- THE TIED CARD OF 'gameroomlaw.NotationWords'. -/
def notationWordsCard : Claim7 := { stood := { row := notationWordsRow, standIns := [], harness := (true, "6dfabe517853baa17903532d75afb36b7e56fe756d5204b289821b4fb7f2bb3f"), looks := false }, kinds := [], alts := [], laidByText := true, laidKinds := [.data, .pinned], laidTests := true, laidLooks := .later }
def NotationWordsCardSaid : Prop := Claim7.holds Tryz.pinned (.plain (OpenSpec.ofChange notationWordsSpec)) notationWordsCard

/-- THE TIED CARD OF 'gameroomlaw.NotationGames'. -/
def notationGamesCard : Claim7 := { stood := { row := notationGamesRow, standIns := [], harness := (true, "6dfabe517853baa17903532d75afb36b7e56fe756d5204b289821b4fb7f2bb3f"), looks := false }, kinds := [], alts := [], laidByText := true, laidKinds := [.data, .data, .data, .data, .pinned], laidTests := true, laidLooks := .later }
def NotationGamesCardSaid : Prop := Claim7.holds Tryz.pinned (.plain (OpenSpec.ofChange notationGamesSpec)) notationGamesCard

/-- THE SECOND FORM's CARD OF 'gameroomlaw.NotationWords'. -/
def notationWordsUptoCard : Claim7 := { stood := { row := notationWordsUptoRow, standIns := [], harness := (true, "6dfabe517853baa17903532d75afb36b7e56fe756d5204b289821b4fb7f2bb3f"), looks := false }, kinds := [], alts := [], laidByText := true, laidKinds := [.data, .pinned], laidTests := true, laidLooks := .later }
def NotationWordsUptoCardSaid : Prop := Claim7.holds Tryz.pinned (.plain (OpenSpec.upto notationWordsSpec)) notationWordsUptoCard

/-- THE SECOND FORM's CARD OF 'gameroomlaw.NotationGames'. -/
def notationGamesUptoCard : Claim7 := { stood := { row := notationGamesUptoRow, standIns := [], harness := (true, "6dfabe517853baa17903532d75afb36b7e56fe756d5204b289821b4fb7f2bb3f"), looks := false }, kinds := [], alts := [], laidByText := true, laidKinds := [.data, .data, .data, .data, .pinned], laidTests := true, laidLooks := .later }
def NotationGamesUptoCardSaid : Prop := Claim7.holds Tryz.pinned (.plain (OpenSpec.upto notationGamesSpec)) notationGamesUptoCard
end Rows
end Go.Proofs.YthffhhbbhjcdeaaGreatDoor

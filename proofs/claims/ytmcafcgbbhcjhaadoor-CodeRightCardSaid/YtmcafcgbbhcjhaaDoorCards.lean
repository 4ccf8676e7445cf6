/-
  DERIVED. GIVEN WITH THE SEED: THE CARDS: each row of YtmcafcgbbhcjhaaDoorRows.lean that lists a variable, with what it lists TIED to the program's text (the seventh form; the later family's looks); each row that meets fmt, with fmt's text TOLD by the authors' own Lean function (tested against real Go, not proved from fmt's source: count such statements apart). THE CARD IS WHAT COUNTS. Prove the row's statement (the work); the ties are given (YtmcafcgbbhcjhaaDoorTie.lean); close each card by the builder's one call (the guide's Derived/Test/ToyasCard.lean, 'card_holds'). Laid BY PROGRAM, IN A SANDBOX (cutbox-door.mjs). By AI agents, Wed Nov 11 2026. No macro, syntax, notation, axiom, sorry.
-/
import Derived.Test.YtmcafcgbbhcjhaaDoorRows
import GoSem.ClaimSeven
namespace Go.Proofs.YtmcafcgbbhcjhaaDoor
namespace Rows

/-- THE TIED CARD OF 'reticentlaw08.CodeRight'. -/
def codeRightCard : Claim7 := { stood := { row := codeRightRow, standIns := [], harness := (true, "7d812b84698cb5cf83cfda95cb16c8b750c29074cfb338616d1d80cff8b69850"), looks := false }, kinds := [], alts := [], laidByText := true, laidKinds := [.data, .data, .data, .widerDeep], laidTests := true, laidLooks := .later }
def CodeRightCardSaid : Prop := Claim7.holds Tryd.pinned (.plain (OpenSpec.ofChange codeRightSpec)) codeRightCard

/-- THE TIED CARD OF 'reticentlaw06.TableTurns'. -/
def tableTurnsCard : Claim7 := { stood := { row := tableTurnsRow, standIns := [], harness := (true, "7d812b84698cb5cf83cfda95cb16c8b750c29074cfb338616d1d80cff8b69850"), looks := false }, kinds := [], alts := [], laidByText := true, laidKinds := [.data, .widerDeep, .data, .pinned], laidTests := true, laidLooks := .later }
def TableTurnsCardSaid : Prop := Claim7.holds Tryd.pinned (.plain (OpenSpec.ofChange tableTurnsSpec)) tableTurnsCard

/-- THE SECOND FORM's CARD OF 'reticentlaw08.CodeRight'. -/
def codeRightUptoCard : Claim7 := { stood := { row := codeRightUptoRow, standIns := [], harness := (true, "7d812b84698cb5cf83cfda95cb16c8b750c29074cfb338616d1d80cff8b69850"), looks := false }, kinds := [], alts := [], laidByText := true, laidKinds := [.data, .data, .data, .widerDeep], laidTests := true, laidLooks := .later }
def CodeRightUptoCardSaid : Prop := Claim7.holds Tryd.pinned (.plain (OpenSpec.upto codeRightSpec)) codeRightUptoCard

/-- THE SECOND FORM's CARD OF 'reticentlaw06.TableTurns'. -/
def tableTurnsUptoCard : Claim7 := { stood := { row := tableTurnsUptoRow, standIns := [], harness := (true, "7d812b84698cb5cf83cfda95cb16c8b750c29074cfb338616d1d80cff8b69850"), looks := false }, kinds := [], alts := [], laidByText := true, laidKinds := [.data, .widerDeep, .data, .pinned], laidTests := true, laidLooks := .later }
def TableTurnsUptoCardSaid : Prop := Claim7.holds Tryd.pinned (.plain (OpenSpec.upto tableTurnsSpec)) tableTurnsUptoCard
end Rows
end Go.Proofs.YtmcafcgbbhcjhaaDoor

/-
  DERIVED. GIVEN WITH THE SEED: THE CARDS: each row of YtmkaaplbidlmcaaDoorRows.lean that lists a variable, with what it lists TIED to the program's text (the seventh form; the later family's looks); each row that meets fmt, with fmt's text TOLD by the authors' own Lean function (tested against real Go, not proved from fmt's source: count such statements apart). THE CARD IS WHAT COUNTS. Prove the row's statement (the work); the ties are given (YtmkaaplbidlmcaaDoorTie.lean); close each card by the builder's one call (the guide's Derived/Test/ToyasCard.lean, 'card_holds'). Laid BY PROGRAM, IN A SANDBOX (cutbox-door.mjs). By AI agents, Wed Nov 11 2026. No macro, syntax, notation, axiom, sorry.
-/
import Derived.Test.YtmkaaplbidlmcaaDoorRows
import GoSem.ClaimSeven
namespace Go.Proofs.YtmkaaplbidlmcaaDoor
namespace Rows

/-- THE TIED CARD OF 'sledgelaw3.IsaTable'. -/
def isaTableCard : Claim7 := { stood := { row := isaTableRow, standIns := [], harness := (true, "34274055f048b49e3b6e67ab61e2ba722e5ec34671bbd733339c107761c50050"), looks := false }, kinds := [], alts := [], laidByText := true, laidKinds := [.data, .data, .data, .listed, .data], laidTests := true, laidLooks := .later }
def IsaTableCardSaid : Prop := Claim7.holds Tryd.pinned (.plain (OpenSpec.ofChange isaTableSpec)) isaTableCard

/-- THE SECOND FORM's CARD OF 'sledgelaw3.IsaTable'. -/
def isaTableUptoCard : Claim7 := { stood := { row := isaTableUptoRow, standIns := [], harness := (true, "34274055f048b49e3b6e67ab61e2ba722e5ec34671bbd733339c107761c50050"), looks := false }, kinds := [], alts := [], laidByText := true, laidKinds := [.data, .data, .data, .listed, .data], laidTests := true, laidLooks := .later }
def IsaTableUptoCardSaid : Prop := Claim7.holds Tryd.pinned (.plain (OpenSpec.upto isaTableSpec)) isaTableUptoCard
end Rows
end Go.Proofs.YtmkaaplbidlmcaaDoor

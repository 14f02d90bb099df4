/-
  DERIVED. GIVEN WITH THE SEED: THE CARDS: each row of YteaopgkajbfkeaaGreatDoorRows.lean that lists a variable, with what it lists TIED to the program's text (the seventh form; the later family's looks); each row that meets fmt, with fmt's text TOLD by the authors' own Lean function (tested against real Go, not proved from fmt's source: count such statements apart). THE CARD IS WHAT COUNTS. Prove the row's statement (the work); the ties are given (YteaopgkajbfkeaaGreatDoorTie.lean); close each card by the builder's one call (the guide's Derived/Test/ToyasCard.lean, 'card_holds'). Laid BY PROGRAM, IN A SANDBOX (cutbox-door.mjs). By AI agents, Wed Nov 11 2026. No macro, syntax, notation, axiom, sorry.
-/
import Derived.Test.YteaopgkajbfkeaaGreatDoorRows
import GoSem.ClaimSeven
namespace Go.Proofs.YteaopgkajbfkeaaGreatDoor
namespace Rows

/-- THE TIED CARD OF 'culetlaw16.TierPrefix'. -/
def tierPrefixCard : Claim7 := { stood := { row := tierPrefixRow, standIns := [], harness := (true, "8b20a509076c287fbb11ac9bc650a8c83eb4479f34da7153ed131181c74b69b3"), looks := true }, kinds := [], alts := [], laidByText := true, laidKinds := [.data, .data, .data, .data, .sentinel, .sentinel, .pinned], laidTests := true, laidLooks := .later }
def TierPrefixCardSaid : Prop := Claim7.holds Tryz.pinned (.plain (OpenSpec.ofChange tierPrefixSpec)) tierPrefixCard

/-- THE SECOND FORM's CARD OF 'culetlaw16.TierPrefix'. -/
def tierPrefixUptoCard : Claim7 := { stood := { row := tierPrefixUptoRow, standIns := [], harness := (true, "8b20a509076c287fbb11ac9bc650a8c83eb4479f34da7153ed131181c74b69b3"), looks := true }, kinds := [], alts := [], laidByText := true, laidKinds := [.data, .data, .data, .data, .sentinel, .sentinel, .pinned], laidTests := true, laidLooks := .later }
def TierPrefixUptoCardSaid : Prop := Claim7.holds Tryz.pinned (.plain (OpenSpec.upto tierPrefixSpec)) tierPrefixUptoCard
end Rows
end Go.Proofs.YteaopgkajbfkeaaGreatDoor

/-
  DERIVED. GIVEN WITH THE SEED: THE CARDS: each row of YtbapejgbjpcadaaGreatDoorRows.lean that lists a variable, with what it lists TIED to the program's text (the seventh form; the later family's looks); each row that meets fmt, with fmt's text TOLD by the authors' own Lean function (tested against real Go, not proved from fmt's source: count such statements apart). THE CARD IS WHAT COUNTS. Prove the row's statement (the work); the ties are given (YtbapejgbjpcadaaGreatDoorTie.lean); close each card by the builder's one call (the guide's Derived/Test/ToyasCard.lean, 'card_holds'). Laid BY PROGRAM, IN A SANDBOX (cutbox-door.mjs). By AI agents, Wed Nov 11 2026. No macro, syntax, notation, axiom, sorry.
-/
import Derived.Test.YtbapejgbjpcadaaGreatDoorRows
import GoSem.ClaimSeven
namespace Go.Proofs.YtbapejgbjpcadaaGreatDoor
namespace Rows

/-- THE TIED CARD OF 'marquetrylaw23.TierJoins'. -/
def tierJoinsCard : Claim7 := { stood := { row := tierJoinsRow, standIns := [], harness := (true, "e64ccb9a9279679718619022d745ec806dde7f484be6e4f576e3086f7b8d201f"), looks := false }, kinds := [], alts := [], laidByText := true, laidKinds := [.data, .data, .data], laidTests := true, laidLooks := .later }
def TierJoinsCardSaid : Prop := Claim7.holds Tryz.pinned (.plain (OpenSpec.ofChange tierJoinsSpec)) tierJoinsCard

/-- THE TIED CARD OF 'marquetrylaw23.TierSame'. -/
def tierSameCard : Claim7 := { stood := { row := tierSameRow, standIns := [], harness := (true, "e64ccb9a9279679718619022d745ec806dde7f484be6e4f576e3086f7b8d201f"), looks := false }, kinds := [], alts := [], laidByText := true, laidKinds := [.data, .data, .data], laidTests := true, laidLooks := .later }
def TierSameCardSaid : Prop := Claim7.holds Tryz.pinned (.plain (OpenSpec.ofChange tierSameSpec)) tierSameCard

/-- THE SECOND FORM's CARD OF 'marquetrylaw23.TierJoins'. -/
def tierJoinsUptoCard : Claim7 := { stood := { row := tierJoinsUptoRow, standIns := [], harness := (true, "e64ccb9a9279679718619022d745ec806dde7f484be6e4f576e3086f7b8d201f"), looks := false }, kinds := [], alts := [], laidByText := true, laidKinds := [.data, .data, .data], laidTests := true, laidLooks := .later }
def TierJoinsUptoCardSaid : Prop := Claim7.holds Tryz.pinned (.plain (OpenSpec.upto tierJoinsSpec)) tierJoinsUptoCard

/-- THE SECOND FORM's CARD OF 'marquetrylaw23.TierSame'. -/
def tierSameUptoCard : Claim7 := { stood := { row := tierSameUptoRow, standIns := [], harness := (true, "e64ccb9a9279679718619022d745ec806dde7f484be6e4f576e3086f7b8d201f"), looks := false }, kinds := [], alts := [], laidByText := true, laidKinds := [.data, .data, .data], laidTests := true, laidLooks := .later }
def TierSameUptoCardSaid : Prop := Claim7.holds Tryz.pinned (.plain (OpenSpec.upto tierSameSpec)) tierSameUptoCard
end Rows
end Go.Proofs.YtbapejgbjpcadaaGreatDoor

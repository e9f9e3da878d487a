/-
  No cell of these rows narrows 'for every input' (looked for: loops, veiled, ifaces, maps, wideKeys, modest, calm, conditions, laid).
  DERIVED. THE GIVEN ROWS OF THIS SEAT. 5 by the template 'for every input the law returns true; each argument reads behind the call as it read before'; 0 by the template 'total and deterministic' (their statements: YtjfanjcoppeeaaaTotals.lean).
  GIVEN WITH THE SEED: the statements are not yours to turn. If you find one false, say at which input.
  Laid BY PROGRAM, IN A SANDBOX (cutbox-rows.mjs): the forced cells as the released guide's own fill.sh prints them over the translation 40d772e600d6fdc7… (all of the seat's roots in one cut). By AI agents, Wed Nov 11 2026. No macro, syntax, notation, axiom, sorry.
-/
import Derived.Test.YtjfanjcoppeeaaaChecked
import GoSem.Claim
import GoSem.ClaimJoined
import GoSem.ClaimMapViews
import Derived.JoinedTies
import Derived.KernelRfl
namespace Go.Proofs.Ytjfanjcoppeeaaa
/- THE CELL 'sum', in the pinned program and in every row, IS THE sha256 OF THE DUMP (.gsa) THAT YtjfanjcoppeeaaaProg.lean LOADS. Nothing in Lean hashes anything: it is a label: what it is worth is what the hold of that sum in a sandbox is worth. -/
noncomputable def Try.pinned : Pinned := { name := "ytjfanjcoppeeaaa", sum := "40d772e600d6fdc73f7f2b0e33875bbc1f2d29bb2a85b3ac785a3d8929899e21", checked := Try.checked }
namespace Rows
def none {H : Type} : Left H := { results := [], args := [] }

/-- 'marquetrylaw19.AllocRight': WHATEVER THE INPUT: true; the input reads as it did. -/
def allocRightSpec : ChangeSpec := { name := "allocRight", fn := fun _ => fun
  | [d1, d2, d3] => { results := [.lit (.bool true)], args := [d1, d2, d3] }
  | _ => none }
def allocRightRow : OpenClaim := { program := "ytjfanjcoppeeaaa", sum := "40d772e600d6fdc73f7f2b0e33875bbc1f2d29bb2a85b3ac785a3d8929899e21", func := "marquetry/marquetrylaw19.AllocRight", spec := "allocRight", unfollowed := true, recurses := true, apart := false }
def AllocRightSaid : Prop := allocRightRow.holds Try.pinned (OpenSpec.ofChange allocRightSpec)

/-- ITS FALSE NEIGHBOUR: 'it returns false'. Refute it at one input. -/
def allocRightWrong : ChangeSpec := { name := "allocRight", fn := fun _ => fun
  | [d1, d2, d3] => { results := [.lit (.bool false)], args := [d1, d2, d3] }
  | _ => none }
def AllocRightWrongFalsely : Prop := allocRightRow.holds Try.pinned (OpenSpec.ofChange allocRightWrong)

/-- 'marquetrylaw19.AllocColours': WHATEVER THE INPUT: true; the input reads as it did. -/
def allocColoursSpec : ChangeSpec := { name := "allocColours", fn := fun _ => fun
  | [d1, d2, d3] => { results := [.lit (.bool true)], args := [d1, d2, d3] }
  | _ => none }
def allocColoursRow : OpenClaim := { program := "ytjfanjcoppeeaaa", sum := "40d772e600d6fdc73f7f2b0e33875bbc1f2d29bb2a85b3ac785a3d8929899e21", func := "marquetry/marquetrylaw19.AllocColours", spec := "allocColours", unfollowed := true, recurses := true, apart := false }
def AllocColoursSaid : Prop := allocColoursRow.holds Try.pinned (OpenSpec.ofChange allocColoursSpec)

/-- ITS FALSE NEIGHBOUR: 'it returns false'. Refute it at one input. -/
def allocColoursWrong : ChangeSpec := { name := "allocColours", fn := fun _ => fun
  | [d1, d2, d3] => { results := [.lit (.bool false)], args := [d1, d2, d3] }
  | _ => none }
def AllocColoursWrongFalsely : Prop := allocColoursRow.holds Try.pinned (OpenSpec.ofChange allocColoursWrong)

/-- 'marquetrylaw19.AllocNeeds': WHATEVER THE INPUT: true; the input reads as it did. -/
def allocNeedsSpec : ChangeSpec := { name := "allocNeeds", fn := fun _ => fun
  | [d1, d2] => { results := [.lit (.bool true)], args := [d1, d2] }
  | _ => none }
def allocNeedsRow : OpenClaim := { program := "ytjfanjcoppeeaaa", sum := "40d772e600d6fdc73f7f2b0e33875bbc1f2d29bb2a85b3ac785a3d8929899e21", func := "marquetry/marquetrylaw19.AllocNeeds", spec := "allocNeeds", unfollowed := true, recurses := true, apart := false }
def AllocNeedsSaid : Prop := allocNeedsRow.holds Try.pinned (OpenSpec.ofChange allocNeedsSpec)

/-- ITS FALSE NEIGHBOUR: 'it returns false'. Refute it at one input. -/
def allocNeedsWrong : ChangeSpec := { name := "allocNeeds", fn := fun _ => fun
  | [d1, d2] => { results := [.lit (.bool false)], args := [d1, d2] }
  | _ => none }
def AllocNeedsWrongFalsely : Prop := allocNeedsRow.holds Try.pinned (OpenSpec.ofChange allocNeedsWrong)

/-- 'marquetrylaw19.AllocUnlike': WHATEVER THE INPUT: true; the input reads as it did. -/
def allocUnlikeSpec : ChangeSpec := { name := "allocUnlike", fn := fun _ => fun
  | [d1, d2] => { results := [.lit (.bool true)], args := [d1, d2] }
  | _ => none }
def allocUnlikeRow : OpenClaim := { program := "ytjfanjcoppeeaaa", sum := "40d772e600d6fdc73f7f2b0e33875bbc1f2d29bb2a85b3ac785a3d8929899e21", func := "marquetry/marquetrylaw19.AllocUnlike", spec := "allocUnlike", unfollowed := true, recurses := true, apart := false }
def AllocUnlikeSaid : Prop := allocUnlikeRow.holds Try.pinned (OpenSpec.ofChange allocUnlikeSpec)

/-- ITS FALSE NEIGHBOUR: 'it returns false'. Refute it at one input. -/
def allocUnlikeWrong : ChangeSpec := { name := "allocUnlike", fn := fun _ => fun
  | [d1, d2] => { results := [.lit (.bool false)], args := [d1, d2] }
  | _ => none }
def AllocUnlikeWrongFalsely : Prop := allocUnlikeRow.holds Try.pinned (OpenSpec.ofChange allocUnlikeWrong)

/-- 'marquetrylaw19.AllocMore': WHATEVER THE INPUT: true; the input reads as it did. -/
def allocMoreSpec : ChangeSpec := { name := "allocMore", fn := fun _ => fun
  | [d1, d2, d3, d4] => { results := [.lit (.bool true)], args := [d1, d2, d3, d4] }
  | _ => none }
def allocMoreRow : OpenClaim := { program := "ytjfanjcoppeeaaa", sum := "40d772e600d6fdc73f7f2b0e33875bbc1f2d29bb2a85b3ac785a3d8929899e21", func := "marquetry/marquetrylaw19.AllocMore", spec := "allocMore", unfollowed := true, recurses := true, apart := false }
def AllocMoreSaid : Prop := allocMoreRow.holds Try.pinned (OpenSpec.ofChange allocMoreSpec)

/-- ITS FALSE NEIGHBOUR: 'it returns false'. Refute it at one input. -/
def allocMoreWrong : ChangeSpec := { name := "allocMore", fn := fun _ => fun
  | [d1, d2, d3, d4] => { results := [.lit (.bool false)], args := [d1, d2, d3, d4] }
  | _ => none }
def AllocMoreWrongFalsely : Prop := allocMoreRow.holds Try.pinned (OpenSpec.ofChange allocMoreWrong)

/- THE SECOND FORM. 'bulk': how many values and letters a reading holds, each counted each time it is reached (what is shared counts as often as it is met; a slice's spare places count too). A statement '..UptoSaid' is the law's where the arguments, and the package variables that the reading takes, are together of bulk at most 1048576: NARROWER than '..Said'. Prove '..Said' where nothing that the law and all that it calls make is longer than what came in: it says more and counts as full. Else prove '..UptoSaid'. A law counts once. -/
mutual
def uptoBulk {H : Type} : DataW H → Nat
  | .lit (.string bytes) => bytes.length + 1
  | .lit _ => 1
  | .nil => 1
  | .ptr d => uptoBulk d + 1
  | .slice elems spare => uptoBulkAll elems + uptoBulkAll spare + 1
  | .agg parts => uptoBulkAll parts + 1
  | .iface _ d => uptoBulk d + 1
  | .map entries => uptoBulkEntries entries + 1
  | .held _ => 1
def uptoBulkAll {H : Type} : List (DataW H) → Nat
  | [] => 0
  | d :: r => uptoBulk d + uptoBulkAll r
def uptoBulkEntries {H : Type} : List (Lit × DataW H) → Nat
  | [] => 0
  | x :: r => uptoBulkEntry x + uptoBulkEntries r
def uptoBulkEntry {H : Type} : Lit × DataW H → Nat
  | (.string bytes, d) => bytes.length + uptoBulk d + 1
  | (_, d) => uptoBulk d + 1
 end
def uptoSmall : (H : Type) → List (DataW H) → Bool := fun _ ds => decide (uptoBulkAll ds ≤ 1048576)
def OpenSpec.upto (s : _root_.Go.ChangeSpec) : _root_.Go.OpenSpec := { _root_.Go.OpenSpec.ofChange s with cond := some uptoSmall }

/-- 'marquetrylaw19.AllocRight', WHERE WHAT IT READS IS OF BULK AT MOST 1048576: true; the input reads as it did. -/
def allocRightUptoRow : OpenClaim := { program := "ytjfanjcoppeeaaa", sum := "40d772e600d6fdc73f7f2b0e33875bbc1f2d29bb2a85b3ac785a3d8929899e21", func := "marquetry/marquetrylaw19.AllocRight", spec := "allocRight", unfollowed := true, recurses := true, apart := false, narrowed := true }
def AllocRightUptoSaid : Prop := allocRightUptoRow.holds Try.pinned (OpenSpec.upto allocRightSpec)

/-- 'marquetrylaw19.AllocColours', WHERE WHAT IT READS IS OF BULK AT MOST 1048576: true; the input reads as it did. -/
def allocColoursUptoRow : OpenClaim := { program := "ytjfanjcoppeeaaa", sum := "40d772e600d6fdc73f7f2b0e33875bbc1f2d29bb2a85b3ac785a3d8929899e21", func := "marquetry/marquetrylaw19.AllocColours", spec := "allocColours", unfollowed := true, recurses := true, apart := false, narrowed := true }
def AllocColoursUptoSaid : Prop := allocColoursUptoRow.holds Try.pinned (OpenSpec.upto allocColoursSpec)

/-- 'marquetrylaw19.AllocNeeds', WHERE WHAT IT READS IS OF BULK AT MOST 1048576: true; the input reads as it did. -/
def allocNeedsUptoRow : OpenClaim := { program := "ytjfanjcoppeeaaa", sum := "40d772e600d6fdc73f7f2b0e33875bbc1f2d29bb2a85b3ac785a3d8929899e21", func := "marquetry/marquetrylaw19.AllocNeeds", spec := "allocNeeds", unfollowed := true, recurses := true, apart := false, narrowed := true }
def AllocNeedsUptoSaid : Prop := allocNeedsUptoRow.holds Try.pinned (OpenSpec.upto allocNeedsSpec)

/-- 'marquetrylaw19.AllocUnlike', WHERE WHAT IT READS IS OF BULK AT MOST 1048576: true; the input reads as it did. -/
def allocUnlikeUptoRow : OpenClaim := { program := "ytjfanjcoppeeaaa", sum := "40d772e600d6fdc73f7f2b0e33875bbc1f2d29bb2a85b3ac785a3d8929899e21", func := "marquetry/marquetrylaw19.AllocUnlike", spec := "allocUnlike", unfollowed := true, recurses := true, apart := false, narrowed := true }
def AllocUnlikeUptoSaid : Prop := allocUnlikeUptoRow.holds Try.pinned (OpenSpec.upto allocUnlikeSpec)

/-- 'marquetrylaw19.AllocMore', WHERE WHAT IT READS IS OF BULK AT MOST 1048576: true; the input reads as it did. -/
def allocMoreUptoRow : OpenClaim := { program := "ytjfanjcoppeeaaa", sum := "40d772e600d6fdc73f7f2b0e33875bbc1f2d29bb2a85b3ac785a3d8929899e21", func := "marquetry/marquetrylaw19.AllocMore", spec := "allocMore", unfollowed := true, recurses := true, apart := false, narrowed := true }
def AllocMoreUptoSaid : Prop := allocMoreUptoRow.holds Try.pinned (OpenSpec.upto allocMoreSpec)

end Rows
end Go.Proofs.Ytjfanjcoppeeaaa

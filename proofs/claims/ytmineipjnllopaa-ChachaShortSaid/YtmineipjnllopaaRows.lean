/-
  No cell of these rows narrows 'for every input' (looked for: loops, veiled, ifaces, maps, wideKeys, modest, calm, conditions, laid).
  DERIVED. THE GIVEN ROWS OF THIS SEAT. 5 by the template 'for every input the law returns true; each argument reads behind the call as it read before'; 0 by the template 'total and deterministic' (their statements: YtmineipjnllopaaTotals.lean).
  GIVEN WITH THE SEED: the statements are not yours to turn. If you find one false, say at which input.
  Laid BY PROGRAM, IN A SANDBOX (cutbox-rows.mjs): the forced cells as the released guide's own fill.sh prints them over the translation ec16ea1ef8c9b3bf… (all of the seat's roots in one cut). By AI agents, Wed Nov 11 2026. No macro, syntax, notation, axiom, sorry.
-/
import Derived.Test.YtmineipjnllopaaChecked
import GoSem.Claim
import GoSem.ClaimJoined
import GoSem.ClaimMapViews
import Derived.JoinedTies
import Derived.KernelRfl
namespace Go.Proofs.Ytmineipjnllopaa
/- THE CELL 'sum', in the pinned program and in every row, IS THE sha256 OF THE DUMP (.gsa) THAT YtmineipjnllopaaProg.lean LOADS. Nothing in Lean hashes anything: it is a label: what it is worth is what the hold of that sum in a sandbox is worth. -/
noncomputable def Try.pinned : Pinned := { name := "ytmineipjnllopaa", sum := "ec16ea1ef8c9b3bf66f01e45221958fb70171cce7b05cec1859452380b6b3aa3", checked := Try.checked }
namespace Rows
def none {H : Type} : Left H := { results := [], args := [] }

/-- 'jalousielaw02.ChachaGoes': WHATEVER THE INPUT: true; the input reads as it did. -/
def chachaGoesSpec : ChangeSpec := { name := "chachaGoes", fn := fun _ => fun
  | [d1, d2, d3] => { results := [.lit (.bool true)], args := [d1, d2, d3] }
  | _ => none }
def chachaGoesRow : OpenClaim := { program := "ytmineipjnllopaa", sum := "ec16ea1ef8c9b3bf66f01e45221958fb70171cce7b05cec1859452380b6b3aa3", func := "jalousie/jalousielaw02.ChachaGoes", spec := "chachaGoes", unfollowed := true, recurses := true, apart := false }
def ChachaGoesSaid : Prop := chachaGoesRow.holds Try.pinned (OpenSpec.ofChange chachaGoesSpec)

/-- ITS FALSE NEIGHBOUR: 'it returns false'. Refute it at one input. -/
def chachaGoesWrong : ChangeSpec := { name := "chachaGoes", fn := fun _ => fun
  | [d1, d2, d3] => { results := [.lit (.bool false)], args := [d1, d2, d3] }
  | _ => none }
def ChachaGoesWrongFalsely : Prop := chachaGoesRow.holds Try.pinned (OpenSpec.ofChange chachaGoesWrong)

/-- 'jalousielaw02.ChachaBlocks': WHATEVER THE INPUT: true; the input reads as it did. -/
def chachaBlocksSpec : ChangeSpec := { name := "chachaBlocks", fn := fun _ => fun
  | [d1, d2, d3] => { results := [.lit (.bool true)], args := [d1, d2, d3] }
  | _ => none }
def chachaBlocksRow : OpenClaim := { program := "ytmineipjnllopaa", sum := "ec16ea1ef8c9b3bf66f01e45221958fb70171cce7b05cec1859452380b6b3aa3", func := "jalousie/jalousielaw02.ChachaBlocks", spec := "chachaBlocks", apart := false }
def ChachaBlocksSaid : Prop := chachaBlocksRow.holds Try.pinned (OpenSpec.ofChange chachaBlocksSpec)

/-- ITS FALSE NEIGHBOUR: 'it returns false'. Refute it at one input. -/
def chachaBlocksWrong : ChangeSpec := { name := "chachaBlocks", fn := fun _ => fun
  | [d1, d2, d3] => { results := [.lit (.bool false)], args := [d1, d2, d3] }
  | _ => none }
def ChachaBlocksWrongFalsely : Prop := chachaBlocksRow.holds Try.pinned (OpenSpec.ofChange chachaBlocksWrong)

/-- 'jalousielaw02.ChachaXors': WHATEVER THE INPUT: true; the input reads as it did. -/
def chachaXorsSpec : ChangeSpec := { name := "chachaXors", fn := fun _ => fun
  | [d1, d2, d3] => { results := [.lit (.bool true)], args := [d1, d2, d3] }
  | _ => none }
def chachaXorsRow : OpenClaim := { program := "ytmineipjnllopaa", sum := "ec16ea1ef8c9b3bf66f01e45221958fb70171cce7b05cec1859452380b6b3aa3", func := "jalousie/jalousielaw02.ChachaXors", spec := "chachaXors", unfollowed := true, recurses := true, apart := false }
def ChachaXorsSaid : Prop := chachaXorsRow.holds Try.pinned (OpenSpec.ofChange chachaXorsSpec)

/-- ITS FALSE NEIGHBOUR: 'it returns false'. Refute it at one input. -/
def chachaXorsWrong : ChangeSpec := { name := "chachaXors", fn := fun _ => fun
  | [d1, d2, d3] => { results := [.lit (.bool false)], args := [d1, d2, d3] }
  | _ => none }
def ChachaXorsWrongFalsely : Prop := chachaXorsRow.holds Try.pinned (OpenSpec.ofChange chachaXorsWrong)

/-- 'jalousielaw02.ChachaShort': WHATEVER THE INPUT: true; the input reads as it did. -/
def chachaShortSpec : ChangeSpec := { name := "chachaShort", fn := fun _ => fun
  | [d1, d2, d3] => { results := [.lit (.bool true)], args := [d1, d2, d3] }
  | _ => none }
def chachaShortRow : OpenClaim := { program := "ytmineipjnllopaa", sum := "ec16ea1ef8c9b3bf66f01e45221958fb70171cce7b05cec1859452380b6b3aa3", func := "jalousie/jalousielaw02.ChachaShort", spec := "chachaShort", unfollowed := true, recurses := true, apart := false }
def ChachaShortSaid : Prop := chachaShortRow.holds Try.pinned (OpenSpec.ofChange chachaShortSpec)

/-- ITS FALSE NEIGHBOUR: 'it returns false'. Refute it at one input. -/
def chachaShortWrong : ChangeSpec := { name := "chachaShort", fn := fun _ => fun
  | [d1, d2, d3] => { results := [.lit (.bool false)], args := [d1, d2, d3] }
  | _ => none }
def ChachaShortWrongFalsely : Prop := chachaShortRow.holds Try.pinned (OpenSpec.ofChange chachaShortWrong)

/-- 'jalousielaw02.ChachaStreams': WHATEVER THE INPUT: true; the input reads as it did. -/
def chachaStreamsSpec : ChangeSpec := { name := "chachaStreams", fn := fun _ => fun
  | [d1, d2, d3] => { results := [.lit (.bool true)], args := [d1, d2, d3] }
  | _ => none }
def chachaStreamsRow : OpenClaim := { program := "ytmineipjnllopaa", sum := "ec16ea1ef8c9b3bf66f01e45221958fb70171cce7b05cec1859452380b6b3aa3", func := "jalousie/jalousielaw02.ChachaStreams", spec := "chachaStreams", unfollowed := true, recurses := true, apart := false }
def ChachaStreamsSaid : Prop := chachaStreamsRow.holds Try.pinned (OpenSpec.ofChange chachaStreamsSpec)

/-- ITS FALSE NEIGHBOUR: 'it returns false'. Refute it at one input. -/
def chachaStreamsWrong : ChangeSpec := { name := "chachaStreams", fn := fun _ => fun
  | [d1, d2, d3] => { results := [.lit (.bool false)], args := [d1, d2, d3] }
  | _ => none }
def ChachaStreamsWrongFalsely : Prop := chachaStreamsRow.holds Try.pinned (OpenSpec.ofChange chachaStreamsWrong)

/- THE SECOND FORM. 'bulk': how many values and letters a reading holds, each counted each time it is reached (what is shared counts as often as it is met; a slice's spare places count too). A statement '..UptoSaid' is the law's where the arguments, and the package variables that the reading takes, are together of bulk at most 1048576: NARROWER than '..Said'. Prove '..Said' where nothing that the law and all that it calls make is longer than what came in: it says more and counts as full. Else prove '..UptoSaid'. A law counts once. -/
mutual
def uptoBulk {H : Type} : DataW H → Nat
  | .lit (.string bytes) => bytes.length + 1
  | .lit _ => 1
  | .nil => 1
  | .ptr d => uptoBulk d + 1
  | .slice elems spare => uptoBulkAll elems + uptoBulkAll spare + 1
  | .agg parts => uptoBulkAll parts + 1
  | .iface _ d => uptoBulk d + 1
  | .map entries => uptoBulkEntries entries + 1
  | .held _ => 1
def uptoBulkAll {H : Type} : List (DataW H) → Nat
  | [] => 0
  | d :: r => uptoBulk d + uptoBulkAll r
def uptoBulkEntries {H : Type} : List (Lit × DataW H) → Nat
  | [] => 0
  | x :: r => uptoBulkEntry x + uptoBulkEntries r
def uptoBulkEntry {H : Type} : Lit × DataW H → Nat
  | (.string bytes, d) => bytes.length + uptoBulk d + 1
  | (_, d) => uptoBulk d + 1
 end
def uptoSmall : (H : Type) → List (DataW H) → Bool := fun _ ds => decide (uptoBulkAll ds ≤ 1048576)
def OpenSpec.upto (s : _root_.Go.ChangeSpec) : _root_.Go.OpenSpec := { _root_.Go.OpenSpec.ofChange s with cond := some uptoSmall }

/-- 'jalousielaw02.ChachaGoes', WHERE WHAT IT READS IS OF BULK AT MOST 1048576: true; the input reads as it did. -/
def chachaGoesUptoRow : OpenClaim := { program := "ytmineipjnllopaa", sum := "ec16ea1ef8c9b3bf66f01e45221958fb70171cce7b05cec1859452380b6b3aa3", func := "jalousie/jalousielaw02.ChachaGoes", spec := "chachaGoes", unfollowed := true, recurses := true, apart := false, narrowed := true }
def ChachaGoesUptoSaid : Prop := chachaGoesUptoRow.holds Try.pinned (OpenSpec.upto chachaGoesSpec)

/-- 'jalousielaw02.ChachaBlocks', WHERE WHAT IT READS IS OF BULK AT MOST 1048576: true; the input reads as it did. -/
def chachaBlocksUptoRow : OpenClaim := { program := "ytmineipjnllopaa", sum := "ec16ea1ef8c9b3bf66f01e45221958fb70171cce7b05cec1859452380b6b3aa3", func := "jalousie/jalousielaw02.ChachaBlocks", spec := "chachaBlocks", apart := false, narrowed := true }
def ChachaBlocksUptoSaid : Prop := chachaBlocksUptoRow.holds Try.pinned (OpenSpec.upto chachaBlocksSpec)

/-- 'jalousielaw02.ChachaXors', WHERE WHAT IT READS IS OF BULK AT MOST 1048576: true; the input reads as it did. -/
def chachaXorsUptoRow : OpenClaim := { program := "ytmineipjnllopaa", sum := "ec16ea1ef8c9b3bf66f01e45221958fb70171cce7b05cec1859452380b6b3aa3", func := "jalousie/jalousielaw02.ChachaXors", spec := "chachaXors", unfollowed := true, recurses := true, apart := false, narrowed := true }
def ChachaXorsUptoSaid : Prop := chachaXorsUptoRow.holds Try.pinned (OpenSpec.upto chachaXorsSpec)

/-- 'jalousielaw02.ChachaShort', WHERE WHAT IT READS IS OF BULK AT MOST 1048576: true; the input reads as it did. -/
def chachaShortUptoRow : OpenClaim := { program := "ytmineipjnllopaa", sum := "ec16ea1ef8c9b3bf66f01e45221958fb70171cce7b05cec1859452380b6b3aa3", func := "jalousie/jalousielaw02.ChachaShort", spec := "chachaShort", unfollowed := true, recurses := true, apart := false, narrowed := true }
def ChachaShortUptoSaid : Prop := chachaShortUptoRow.holds Try.pinned (OpenSpec.upto chachaShortSpec)

/-- 'jalousielaw02.ChachaStreams', WHERE WHAT IT READS IS OF BULK AT MOST 1048576: true; the input reads as it did. -/
def chachaStreamsUptoRow : OpenClaim := { program := "ytmineipjnllopaa", sum := "ec16ea1ef8c9b3bf66f01e45221958fb70171cce7b05cec1859452380b6b3aa3", func := "jalousie/jalousielaw02.ChachaStreams", spec := "chachaStreams", unfollowed := true, recurses := true, apart := false, narrowed := true }
def ChachaStreamsUptoSaid : Prop := chachaStreamsUptoRow.holds Try.pinned (OpenSpec.upto chachaStreamsSpec)

end Rows
end Go.Proofs.Ytmineipjnllopaa

/-
  No cell of these rows narrows 'for every input' (looked for: loops, veiled, ifaces, maps, wideKeys, modest, calm, conditions, laid).
  DERIVED. THE GIVEN ROWS OF THIS SEAT. 7 by the template 'for every input the law returns true; each argument reads behind the call as it read before'; 0 by the template 'total and deterministic' (their statements: YtbfffjppdmpbhaaTotals.lean).
  GIVEN WITH THE SEED: the statements are not yours to turn. If you find one false, say at which input.
  Laid BY PROGRAM, IN A SANDBOX (cutbox-rows.mjs): the forced cells as the released guide's own fill.sh prints them over the translation 738a06f735699210… (all of the seat's roots in one cut). By AI agents, Wed Nov 11 2026. No macro, syntax, notation, axiom, sorry.
-/
import Derived.Test.YtbfffjppdmpbhaaChecked
import GoSem.Claim
import GoSem.ClaimJoined
import GoSem.ClaimMapViews
import Derived.JoinedTies
import Derived.KernelRfl
namespace Go.Proofs.Ytbfffjppdmpbhaa
/- THE CELL 'sum', in the pinned program and in every row, IS THE sha256 OF THE DUMP (.gsa) THAT YtbfffjppdmpbhaaProg.lean LOADS. Nothing in Lean hashes anything: it is a label: what it is worth is what the hold of that sum in a sandbox is worth. -/
noncomputable def Try.pinned : Pinned := { name := "ytbfffjppdmpbhaa", sum := "738a06f7356992101a98ae28cc5f0ca4b751cf03440958b6e81fe89e08ccf89a", checked := Try.checked }
namespace Rows
def none {H : Type} : Left H := { results := [], args := [] }

/-- 'paliolaw14.LfuSteps': WHATEVER THE INPUT: true; the input reads as it did. -/
def lfuStepsSpec : ChangeSpec := { name := "lfuSteps", fn := fun _ => fun
  | [d1, d2, d3] => { results := [.lit (.bool true)], args := [d1, d2, d3] }
  | _ => none }
def lfuStepsRow : OpenClaim := { program := "ytbfffjppdmpbhaa", sum := "738a06f7356992101a98ae28cc5f0ca4b751cf03440958b6e81fe89e08ccf89a", func := "palio/paliolaw14.LfuSteps", spec := "lfuSteps", apart := false }
def LfuStepsSaid : Prop := lfuStepsRow.holds Try.pinned (OpenSpec.ofChange lfuStepsSpec)

/-- ITS FALSE NEIGHBOUR: 'it returns false'. Refute it at one input. -/
def lfuStepsWrong : ChangeSpec := { name := "lfuSteps", fn := fun _ => fun
  | [d1, d2, d3] => { results := [.lit (.bool false)], args := [d1, d2, d3] }
  | _ => none }
def LfuStepsWrongFalsely : Prop := lfuStepsRow.holds Try.pinned (OpenSpec.ofChange lfuStepsWrong)

/-- 'paliolaw14.LfuTimes': WHATEVER THE INPUT: true; the input reads as it did. -/
def lfuTimesSpec : ChangeSpec := { name := "lfuTimes", fn := fun _ => fun
  | [d1, d2, d3] => { results := [.lit (.bool true)], args := [d1, d2, d3] }
  | _ => none }
def lfuTimesRow : OpenClaim := { program := "ytbfffjppdmpbhaa", sum := "738a06f7356992101a98ae28cc5f0ca4b751cf03440958b6e81fe89e08ccf89a", func := "palio/paliolaw14.LfuTimes", spec := "lfuTimes", apart := false }
def LfuTimesSaid : Prop := lfuTimesRow.holds Try.pinned (OpenSpec.ofChange lfuTimesSpec)

/-- ITS FALSE NEIGHBOUR: 'it returns false'. Refute it at one input. -/
def lfuTimesWrong : ChangeSpec := { name := "lfuTimes", fn := fun _ => fun
  | [d1, d2, d3] => { results := [.lit (.bool false)], args := [d1, d2, d3] }
  | _ => none }
def LfuTimesWrongFalsely : Prop := lfuTimesRow.holds Try.pinned (OpenSpec.ofChange lfuTimesWrong)

/-- 'paliolaw14.LfuDraws': WHATEVER THE INPUT: true; the input reads as it did. -/
def lfuDrawsSpec : ChangeSpec := { name := "lfuDraws", fn := fun _ => fun
  | [d1, d2] => { results := [.lit (.bool true)], args := [d1, d2] }
  | _ => none }
def lfuDrawsRow : OpenClaim := { program := "ytbfffjppdmpbhaa", sum := "738a06f7356992101a98ae28cc5f0ca4b751cf03440958b6e81fe89e08ccf89a", func := "palio/paliolaw14.LfuDraws", spec := "lfuDraws", apart := false }
def LfuDrawsSaid : Prop := lfuDrawsRow.holds Try.pinned (OpenSpec.ofChange lfuDrawsSpec)

/-- ITS FALSE NEIGHBOUR: 'it returns false'. Refute it at one input. -/
def lfuDrawsWrong : ChangeSpec := { name := "lfuDraws", fn := fun _ => fun
  | [d1, d2] => { results := [.lit (.bool false)], args := [d1, d2] }
  | _ => none }
def LfuDrawsWrongFalsely : Prop := lfuDrawsRow.holds Try.pinned (OpenSpec.ofChange lfuDrawsWrong)

/-- 'paliolaw14.LfuLong': WHATEVER THE INPUT: true; the input reads as it did. -/
def lfuLongSpec : ChangeSpec := { name := "lfuLong", fn := fun _ => fun
  | [d1, d2] => { results := [.lit (.bool true)], args := [d1, d2] }
  | _ => none }
def lfuLongRow : OpenClaim := { program := "ytbfffjppdmpbhaa", sum := "738a06f7356992101a98ae28cc5f0ca4b751cf03440958b6e81fe89e08ccf89a", func := "palio/paliolaw14.LfuLong", spec := "lfuLong", apart := false }
def LfuLongSaid : Prop := lfuLongRow.holds Try.pinned (OpenSpec.ofChange lfuLongSpec)

/-- ITS FALSE NEIGHBOUR: 'it returns false'. Refute it at one input. -/
def lfuLongWrong : ChangeSpec := { name := "lfuLong", fn := fun _ => fun
  | [d1, d2] => { results := [.lit (.bool false)], args := [d1, d2] }
  | _ => none }
def LfuLongWrongFalsely : Prop := lfuLongRow.holds Try.pinned (OpenSpec.ofChange lfuLongWrong)

/-- 'paliolaw14.LfuDoes': WHATEVER THE INPUT: true; the input reads as it did. -/
def lfuDoesSpec : ChangeSpec := { name := "lfuDoes", fn := fun _ => fun
  | [d1, d2, d3] => { results := [.lit (.bool true)], args := [d1, d2, d3] }
  | _ => none }
def lfuDoesRow : OpenClaim := { program := "ytbfffjppdmpbhaa", sum := "738a06f7356992101a98ae28cc5f0ca4b751cf03440958b6e81fe89e08ccf89a", func := "palio/paliolaw14.LfuDoes", spec := "lfuDoes", apart := false }
def LfuDoesSaid : Prop := lfuDoesRow.holds Try.pinned (OpenSpec.ofChange lfuDoesSpec)

/-- ITS FALSE NEIGHBOUR: 'it returns false'. Refute it at one input. -/
def lfuDoesWrong : ChangeSpec := { name := "lfuDoes", fn := fun _ => fun
  | [d1, d2, d3] => { results := [.lit (.bool false)], args := [d1, d2, d3] }
  | _ => none }
def LfuDoesWrongFalsely : Prop := lfuDoesRow.holds Try.pinned (OpenSpec.ofChange lfuDoesWrong)

/-- 'paliolaw14.LfuLeast': WHATEVER THE INPUT: true; the input reads as it did. -/
def lfuLeastSpec : ChangeSpec := { name := "lfuLeast", fn := fun _ => fun
  | [d1, d2] => { results := [.lit (.bool true)], args := [d1, d2] }
  | _ => none }
def lfuLeastRow : OpenClaim := { program := "ytbfffjppdmpbhaa", sum := "738a06f7356992101a98ae28cc5f0ca4b751cf03440958b6e81fe89e08ccf89a", func := "palio/paliolaw14.LfuLeast", spec := "lfuLeast", unfollowed := true, recurses := true, apart := false }
def LfuLeastSaid : Prop := lfuLeastRow.holds Try.pinned (OpenSpec.ofChange lfuLeastSpec)

/-- ITS FALSE NEIGHBOUR: 'it returns false'. Refute it at one input. -/
def lfuLeastWrong : ChangeSpec := { name := "lfuLeast", fn := fun _ => fun
  | [d1, d2] => { results := [.lit (.bool false)], args := [d1, d2] }
  | _ => none }
def LfuLeastWrongFalsely : Prop := lfuLeastRow.holds Try.pinned (OpenSpec.ofChange lfuLeastWrong)

/-- 'paliolaw14.LfuFirst': WHATEVER THE INPUT: true; the input reads as it did. -/
def lfuFirstSpec : ChangeSpec := { name := "lfuFirst", fn := fun _ => fun
  | [d1, d2] => { results := [.lit (.bool true)], args := [d1, d2] }
  | _ => none }
def lfuFirstRow : OpenClaim := { program := "ytbfffjppdmpbhaa", sum := "738a06f7356992101a98ae28cc5f0ca4b751cf03440958b6e81fe89e08ccf89a", func := "palio/paliolaw14.LfuFirst", spec := "lfuFirst", unfollowed := true, recurses := true, apart := false }
def LfuFirstSaid : Prop := lfuFirstRow.holds Try.pinned (OpenSpec.ofChange lfuFirstSpec)

/-- ITS FALSE NEIGHBOUR: 'it returns false'. Refute it at one input. -/
def lfuFirstWrong : ChangeSpec := { name := "lfuFirst", fn := fun _ => fun
  | [d1, d2] => { results := [.lit (.bool false)], args := [d1, d2] }
  | _ => none }
def LfuFirstWrongFalsely : Prop := lfuFirstRow.holds Try.pinned (OpenSpec.ofChange lfuFirstWrong)

/- THE SECOND FORM. 'bulk': how many values and letters a reading holds, each counted each time it is reached (what is shared counts as often as it is met; a slice's spare places count too). A statement '..UptoSaid' is the law's where the arguments, and the package variables that the reading takes, are together of bulk at most 1048576: NARROWER than '..Said'. Prove '..Said' where nothing that the law and all that it calls make is longer than what came in: it says more and counts as full. Else prove '..UptoSaid'. A law counts once. -/
mutual
def uptoBulk {H : Type} : DataW H → Nat
  | .lit (.string bytes) => bytes.length + 1
  | .lit _ => 1
  | .nil => 1
  | .ptr d => uptoBulk d + 1
  | .slice elems spare => uptoBulkAll elems + uptoBulkAll spare + 1
  | .agg parts => uptoBulkAll parts + 1
  | .iface _ d => uptoBulk d + 1
  | .map entries => uptoBulkEntries entries + 1
  | .held _ => 1
def uptoBulkAll {H : Type} : List (DataW H) → Nat
  | [] => 0
  | d :: r => uptoBulk d + uptoBulkAll r
def uptoBulkEntries {H : Type} : List (Lit × DataW H) → Nat
  | [] => 0
  | x :: r => uptoBulkEntry x + uptoBulkEntries r
def uptoBulkEntry {H : Type} : Lit × DataW H → Nat
  | (.string bytes, d) => bytes.length + uptoBulk d + 1
  | (_, d) => uptoBulk d + 1
 end
def uptoSmall : (H : Type) → List (DataW H) → Bool := fun _ ds => decide (uptoBulkAll ds ≤ 1048576)
def OpenSpec.upto (s : _root_.Go.ChangeSpec) : _root_.Go.OpenSpec := { _root_.Go.OpenSpec.ofChange s with cond := some uptoSmall }

/-- 'paliolaw14.LfuSteps', WHERE WHAT IT READS IS OF BULK AT MOST 1048576: true; the input reads as it did. -/
def lfuStepsUptoRow : OpenClaim := { program := "ytbfffjppdmpbhaa", sum := "738a06f7356992101a98ae28cc5f0ca4b751cf03440958b6e81fe89e08ccf89a", func := "palio/paliolaw14.LfuSteps", spec := "lfuSteps", apart := false, narrowed := true }
def LfuStepsUptoSaid : Prop := lfuStepsUptoRow.holds Try.pinned (OpenSpec.upto lfuStepsSpec)

/-- 'paliolaw14.LfuTimes', WHERE WHAT IT READS IS OF BULK AT MOST 1048576: true; the input reads as it did. -/
def lfuTimesUptoRow : OpenClaim := { program := "ytbfffjppdmpbhaa", sum := "738a06f7356992101a98ae28cc5f0ca4b751cf03440958b6e81fe89e08ccf89a", func := "palio/paliolaw14.LfuTimes", spec := "lfuTimes", apart := false, narrowed := true }
def LfuTimesUptoSaid : Prop := lfuTimesUptoRow.holds Try.pinned (OpenSpec.upto lfuTimesSpec)

/-- 'paliolaw14.LfuDraws', WHERE WHAT IT READS IS OF BULK AT MOST 1048576: true; the input reads as it did. -/
def lfuDrawsUptoRow : OpenClaim := { program := "ytbfffjppdmpbhaa", sum := "738a06f7356992101a98ae28cc5f0ca4b751cf03440958b6e81fe89e08ccf89a", func := "palio/paliolaw14.LfuDraws", spec := "lfuDraws", apart := false, narrowed := true }
def LfuDrawsUptoSaid : Prop := lfuDrawsUptoRow.holds Try.pinned (OpenSpec.upto lfuDrawsSpec)

/-- 'paliolaw14.LfuLong', WHERE WHAT IT READS IS OF BULK AT MOST 1048576: true; the input reads as it did. -/
def lfuLongUptoRow : OpenClaim := { program := "ytbfffjppdmpbhaa", sum := "738a06f7356992101a98ae28cc5f0ca4b751cf03440958b6e81fe89e08ccf89a", func := "palio/paliolaw14.LfuLong", spec := "lfuLong", apart := false, narrowed := true }
def LfuLongUptoSaid : Prop := lfuLongUptoRow.holds Try.pinned (OpenSpec.upto lfuLongSpec)

/-- 'paliolaw14.LfuDoes', WHERE WHAT IT READS IS OF BULK AT MOST 1048576: true; the input reads as it did. -/
def lfuDoesUptoRow : OpenClaim := { program := "ytbfffjppdmpbhaa", sum := "738a06f7356992101a98ae28cc5f0ca4b751cf03440958b6e81fe89e08ccf89a", func := "palio/paliolaw14.LfuDoes", spec := "lfuDoes", apart := false, narrowed := true }
def LfuDoesUptoSaid : Prop := lfuDoesUptoRow.holds Try.pinned (OpenSpec.upto lfuDoesSpec)

/-- 'paliolaw14.LfuLeast', WHERE WHAT IT READS IS OF BULK AT MOST 1048576: true; the input reads as it did. -/
def lfuLeastUptoRow : OpenClaim := { program := "ytbfffjppdmpbhaa", sum := "738a06f7356992101a98ae28cc5f0ca4b751cf03440958b6e81fe89e08ccf89a", func := "palio/paliolaw14.LfuLeast", spec := "lfuLeast", unfollowed := true, recurses := true, apart := false, narrowed := true }
def LfuLeastUptoSaid : Prop := lfuLeastUptoRow.holds Try.pinned (OpenSpec.upto lfuLeastSpec)

/-- 'paliolaw14.LfuFirst', WHERE WHAT IT READS IS OF BULK AT MOST 1048576: true; the input reads as it did. -/
def lfuFirstUptoRow : OpenClaim := { program := "ytbfffjppdmpbhaa", sum := "738a06f7356992101a98ae28cc5f0ca4b751cf03440958b6e81fe89e08ccf89a", func := "palio/paliolaw14.LfuFirst", spec := "lfuFirst", unfollowed := true, recurses := true, apart := false, narrowed := true }
def LfuFirstUptoSaid : Prop := lfuFirstUptoRow.holds Try.pinned (OpenSpec.upto lfuFirstSpec)

end Rows
end Go.Proofs.Ytbfffjppdmpbhaa

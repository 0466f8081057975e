/-
  No cell of these rows narrows 'for every input' (looked for: loops, veiled, ifaces, maps, wideKeys, modest, calm, conditions, laid).
  DERIVED. THE GIVEN ROWS OF THIS SEAT. 7 by the template 'for every input the law returns true; each argument reads behind the call as it read before'; 0 by the template 'total and deterministic' (their statements: YtcjjeookfnmjcaaTotals.lean).
  GIVEN WITH THE SEED: the statements are not yours to turn. If you find one false, say at which input.
  Laid BY PROGRAM, IN A SANDBOX (cutbox-rows.mjs): the forced cells as the released guide's own fill.sh prints them over the translation 635d742153abdf27… (all of the seat's roots in one cut). By AI agents, Wed Nov 11 2026. No macro, syntax, notation, axiom, sorry.
-/
import Derived.Test.YtcjjeookfnmjcaaChecked
import GoSem.Claim
import GoSem.ClaimJoined
import GoSem.ClaimMapViews
import Derived.JoinedTies
import Derived.KernelRfl
namespace Go.Proofs.Ytcjjeookfnmjcaa
/- THE CELL 'sum', in the pinned program and in every row, IS THE sha256 OF THE DUMP (.gsa) THAT YtcjjeookfnmjcaaProg.lean LOADS. Nothing in Lean hashes anything: it is a label: what it is worth is what the hold of that sum in a sandbox is worth. -/
noncomputable def Try.pinned : Pinned := { name := "ytcjjeookfnmjcaa", sum := "635d742153abdf272e0623312f5c86180ed28c20620057ce83689a762480b920", checked := Try.checked }
namespace Rows
def none {H : Type} : Left H := { results := [], args := [] }

/-- 'paliolaw05.PackMakes': WHATEVER THE INPUT: true; the input reads as it did. -/
def packMakesSpec : ChangeSpec := { name := "packMakes", fn := fun _ => fun
  | [d1, d2] => { results := [.lit (.bool true)], args := [d1, d2] }
  | _ => none }
def packMakesRow : OpenClaim := { program := "ytcjjeookfnmjcaa", sum := "635d742153abdf272e0623312f5c86180ed28c20620057ce83689a762480b920", func := "palio/paliolaw05.PackMakes", spec := "packMakes", unfollowed := true, recurses := true, apart := false }
def PackMakesSaid : Prop := packMakesRow.holds Try.pinned (OpenSpec.ofChange packMakesSpec)

/-- ITS FALSE NEIGHBOUR: 'it returns false'. Refute it at one input. -/
def packMakesWrong : ChangeSpec := { name := "packMakes", fn := fun _ => fun
  | [d1, d2] => { results := [.lit (.bool false)], args := [d1, d2] }
  | _ => none }
def PackMakesWrongFalsely : Prop := packMakesRow.holds Try.pinned (OpenSpec.ofChange packMakesWrong)

/-- 'paliolaw05.PackBack': WHATEVER THE INPUT: true; the input reads as it did. -/
def packBackSpec : ChangeSpec := { name := "packBack", fn := fun _ => fun
  | [d1, d2] => { results := [.lit (.bool true)], args := [d1, d2] }
  | _ => none }
def packBackRow : OpenClaim := { program := "ytcjjeookfnmjcaa", sum := "635d742153abdf272e0623312f5c86180ed28c20620057ce83689a762480b920", func := "palio/paliolaw05.PackBack", spec := "packBack", unfollowed := true, recurses := true, apart := false }
def PackBackSaid : Prop := packBackRow.holds Try.pinned (OpenSpec.ofChange packBackSpec)

/-- ITS FALSE NEIGHBOUR: 'it returns false'. Refute it at one input. -/
def packBackWrong : ChangeSpec := { name := "packBack", fn := fun _ => fun
  | [d1, d2] => { results := [.lit (.bool false)], args := [d1, d2] }
  | _ => none }
def PackBackWrongFalsely : Prop := packBackRow.holds Try.pinned (OpenSpec.ofChange packBackWrong)

/-- 'paliolaw05.PackFinds': WHATEVER THE INPUT: true; the input reads as it did. -/
def packFindsSpec : ChangeSpec := { name := "packFinds", fn := fun _ => fun
  | [d1, d2] => { results := [.lit (.bool true)], args := [d1, d2] }
  | _ => none }
def packFindsRow : OpenClaim := { program := "ytcjjeookfnmjcaa", sum := "635d742153abdf272e0623312f5c86180ed28c20620057ce83689a762480b920", func := "palio/paliolaw05.PackFinds", spec := "packFinds", unfollowed := true, recurses := true, apart := false }
def PackFindsSaid : Prop := packFindsRow.holds Try.pinned (OpenSpec.ofChange packFindsSpec)

/-- ITS FALSE NEIGHBOUR: 'it returns false'. Refute it at one input. -/
def packFindsWrong : ChangeSpec := { name := "packFinds", fn := fun _ => fun
  | [d1, d2] => { results := [.lit (.bool false)], args := [d1, d2] }
  | _ => none }
def PackFindsWrongFalsely : Prop := packFindsRow.holds Try.pinned (OpenSpec.ofChange packFindsWrong)

/-- 'paliolaw05.PackGrows': WHATEVER THE INPUT: true; the input reads as it did. -/
def packGrowsSpec : ChangeSpec := { name := "packGrows", fn := fun _ => fun
  | [d] => { results := [.lit (.bool true)], args := [d] }
  | _ => none }
def packGrowsRow : OpenClaim := { program := "ytcjjeookfnmjcaa", sum := "635d742153abdf272e0623312f5c86180ed28c20620057ce83689a762480b920", func := "palio/paliolaw05.PackGrows", spec := "packGrows", unfollowed := true, recurses := true, apart := false }
def PackGrowsSaid : Prop := packGrowsRow.holds Try.pinned (OpenSpec.ofChange packGrowsSpec)

/-- ITS FALSE NEIGHBOUR: 'it returns false'. Refute it at one input. -/
def packGrowsWrong : ChangeSpec := { name := "packGrows", fn := fun _ => fun
  | [d] => { results := [.lit (.bool false)], args := [d] }
  | _ => none }
def PackGrowsWrongFalsely : Prop := packGrowsRow.holds Try.pinned (OpenSpec.ofChange packGrowsWrong)

/-- 'paliolaw05.PackChanges': WHATEVER THE INPUT: true; the input reads as it did. -/
def packChangesSpec : ChangeSpec := { name := "packChanges", fn := fun _ => fun
  | [d1, d2, d3] => { results := [.lit (.bool true)], args := [d1, d2, d3] }
  | _ => none }
def packChangesRow : OpenClaim := { program := "ytcjjeookfnmjcaa", sum := "635d742153abdf272e0623312f5c86180ed28c20620057ce83689a762480b920", func := "palio/paliolaw05.PackChanges", spec := "packChanges", unfollowed := true, recurses := true, apart := false }
def PackChangesSaid : Prop := packChangesRow.holds Try.pinned (OpenSpec.ofChange packChangesSpec)

/-- ITS FALSE NEIGHBOUR: 'it returns false'. Refute it at one input. -/
def packChangesWrong : ChangeSpec := { name := "packChanges", fn := fun _ => fun
  | [d1, d2, d3] => { results := [.lit (.bool false)], args := [d1, d2, d3] }
  | _ => none }
def PackChangesWrongFalsely : Prop := packChangesRow.holds Try.pinned (OpenSpec.ofChange packChangesWrong)

/-- 'paliolaw05.PackTurns': WHATEVER THE INPUT: true; the input reads as it did. -/
def packTurnsSpec : ChangeSpec := { name := "packTurns", fn := fun _ => fun
  | [d1, d2, d3] => { results := [.lit (.bool true)], args := [d1, d2, d3] }
  | _ => none }
def packTurnsRow : OpenClaim := { program := "ytcjjeookfnmjcaa", sum := "635d742153abdf272e0623312f5c86180ed28c20620057ce83689a762480b920", func := "palio/paliolaw05.PackTurns", spec := "packTurns", unfollowed := true, recurses := true, apart := false }
def PackTurnsSaid : Prop := packTurnsRow.holds Try.pinned (OpenSpec.ofChange packTurnsSpec)

/-- ITS FALSE NEIGHBOUR: 'it returns false'. Refute it at one input. -/
def packTurnsWrong : ChangeSpec := { name := "packTurns", fn := fun _ => fun
  | [d1, d2, d3] => { results := [.lit (.bool false)], args := [d1, d2, d3] }
  | _ => none }
def PackTurnsWrongFalsely : Prop := packTurnsRow.holds Try.pinned (OpenSpec.ofChange packTurnsWrong)

/-- 'paliolaw05.PackWrong': WHATEVER THE INPUT: true; the input reads as it did. -/
def packWrongSpec : ChangeSpec := { name := "packWrong", fn := fun _ => fun
  | [d1, d2, d3] => { results := [.lit (.bool true)], args := [d1, d2, d3] }
  | _ => none }
def packWrongRow : OpenClaim := { program := "ytcjjeookfnmjcaa", sum := "635d742153abdf272e0623312f5c86180ed28c20620057ce83689a762480b920", func := "palio/paliolaw05.PackWrong", spec := "packWrong", unfollowed := true, recurses := true, apart := false }
def PackWrongSaid : Prop := packWrongRow.holds Try.pinned (OpenSpec.ofChange packWrongSpec)

/-- ITS FALSE NEIGHBOUR: 'it returns false'. Refute it at one input. -/
def packWrongWrong : ChangeSpec := { name := "packWrong", fn := fun _ => fun
  | [d1, d2, d3] => { results := [.lit (.bool false)], args := [d1, d2, d3] }
  | _ => none }
def PackWrongWrongFalsely : Prop := packWrongRow.holds Try.pinned (OpenSpec.ofChange packWrongWrong)

/- THE SECOND FORM. 'bulk': how many values and letters a reading holds, each counted each time it is reached (what is shared counts as often as it is met; a slice's spare places count too). A statement '..UptoSaid' is the law's where the arguments, and the package variables that the reading takes, are together of bulk at most 1048576: NARROWER than '..Said'. Prove '..Said' where nothing that the law and all that it calls make is longer than what came in: it says more and counts as full. Else prove '..UptoSaid'. A law counts once. -/
mutual
def uptoBulk {H : Type} : DataW H → Nat
  | .lit (.string bytes) => bytes.length + 1
  | .lit _ => 1
  | .nil => 1
  | .ptr d => uptoBulk d + 1
  | .slice elems spare => uptoBulkAll elems + uptoBulkAll spare + 1
  | .agg parts => uptoBulkAll parts + 1
  | .iface _ d => uptoBulk d + 1
  | .map entries => uptoBulkEntries entries + 1
  | .held _ => 1
def uptoBulkAll {H : Type} : List (DataW H) → Nat
  | [] => 0
  | d :: r => uptoBulk d + uptoBulkAll r
def uptoBulkEntries {H : Type} : List (Lit × DataW H) → Nat
  | [] => 0
  | x :: r => uptoBulkEntry x + uptoBulkEntries r
def uptoBulkEntry {H : Type} : Lit × DataW H → Nat
  | (.string bytes, d) => bytes.length + uptoBulk d + 1
  | (_, d) => uptoBulk d + 1
 end
def uptoSmall : (H : Type) → List (DataW H) → Bool := fun _ ds => decide (uptoBulkAll ds ≤ 1048576)
def OpenSpec.upto (s : _root_.Go.ChangeSpec) : _root_.Go.OpenSpec := { _root_.Go.OpenSpec.ofChange s with cond := some uptoSmall }

/-- 'paliolaw05.PackMakes', WHERE WHAT IT READS IS OF BULK AT MOST 1048576: true; the input reads as it did. -/
def packMakesUptoRow : OpenClaim := { program := "ytcjjeookfnmjcaa", sum := "635d742153abdf272e0623312f5c86180ed28c20620057ce83689a762480b920", func := "palio/paliolaw05.PackMakes", spec := "packMakes", unfollowed := true, recurses := true, apart := false, narrowed := true }
def PackMakesUptoSaid : Prop := packMakesUptoRow.holds Try.pinned (OpenSpec.upto packMakesSpec)

/-- 'paliolaw05.PackBack', WHERE WHAT IT READS IS OF BULK AT MOST 1048576: true; the input reads as it did. -/
def packBackUptoRow : OpenClaim := { program := "ytcjjeookfnmjcaa", sum := "635d742153abdf272e0623312f5c86180ed28c20620057ce83689a762480b920", func := "palio/paliolaw05.PackBack", spec := "packBack", unfollowed := true, recurses := true, apart := false, narrowed := true }
def PackBackUptoSaid : Prop := packBackUptoRow.holds Try.pinned (OpenSpec.upto packBackSpec)

/-- 'paliolaw05.PackFinds', WHERE WHAT IT READS IS OF BULK AT MOST 1048576: true; the input reads as it did. -/
def packFindsUptoRow : OpenClaim := { program := "ytcjjeookfnmjcaa", sum := "635d742153abdf272e0623312f5c86180ed28c20620057ce83689a762480b920", func := "palio/paliolaw05.PackFinds", spec := "packFinds", unfollowed := true, recurses := true, apart := false, narrowed := true }
def PackFindsUptoSaid : Prop := packFindsUptoRow.holds Try.pinned (OpenSpec.upto packFindsSpec)

/-- 'paliolaw05.PackGrows', WHERE WHAT IT READS IS OF BULK AT MOST 1048576: true; the input reads as it did. -/
def packGrowsUptoRow : OpenClaim := { program := "ytcjjeookfnmjcaa", sum := "635d742153abdf272e0623312f5c86180ed28c20620057ce83689a762480b920", func := "palio/paliolaw05.PackGrows", spec := "packGrows", unfollowed := true, recurses := true, apart := false, narrowed := true }
def PackGrowsUptoSaid : Prop := packGrowsUptoRow.holds Try.pinned (OpenSpec.upto packGrowsSpec)

/-- 'paliolaw05.PackChanges', WHERE WHAT IT READS IS OF BULK AT MOST 1048576: true; the input reads as it did. -/
def packChangesUptoRow : OpenClaim := { program := "ytcjjeookfnmjcaa", sum := "635d742153abdf272e0623312f5c86180ed28c20620057ce83689a762480b920", func := "palio/paliolaw05.PackChanges", spec := "packChanges", unfollowed := true, recurses := true, apart := false, narrowed := true }
def PackChangesUptoSaid : Prop := packChangesUptoRow.holds Try.pinned (OpenSpec.upto packChangesSpec)

/-- 'paliolaw05.PackTurns', WHERE WHAT IT READS IS OF BULK AT MOST 1048576: true; the input reads as it did. -/
def packTurnsUptoRow : OpenClaim := { program := "ytcjjeookfnmjcaa", sum := "635d742153abdf272e0623312f5c86180ed28c20620057ce83689a762480b920", func := "palio/paliolaw05.PackTurns", spec := "packTurns", unfollowed := true, recurses := true, apart := false, narrowed := true }
def PackTurnsUptoSaid : Prop := packTurnsUptoRow.holds Try.pinned (OpenSpec.upto packTurnsSpec)

/-- 'paliolaw05.PackWrong', WHERE WHAT IT READS IS OF BULK AT MOST 1048576: true; the input reads as it did. -/
def packWrongUptoRow : OpenClaim := { program := "ytcjjeookfnmjcaa", sum := "635d742153abdf272e0623312f5c86180ed28c20620057ce83689a762480b920", func := "palio/paliolaw05.PackWrong", spec := "packWrong", unfollowed := true, recurses := true, apart := false, narrowed := true }
def PackWrongUptoSaid : Prop := packWrongUptoRow.holds Try.pinned (OpenSpec.upto packWrongSpec)

end Rows
end Go.Proofs.Ytcjjeookfnmjcaa

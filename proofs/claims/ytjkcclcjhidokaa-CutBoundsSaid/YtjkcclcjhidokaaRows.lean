/-
  No cell of these rows narrows 'for every input' (looked for: loops, veiled, ifaces, maps, wideKeys, modest, calm, conditions, laid).
  DERIVED. THE GIVEN ROWS OF THIS SEAT. 17 by the template 'for every input the law returns true; each argument reads behind the call as it read before'; 0 by the template 'total and deterministic' (their statements: YtjkcclcjhidokaaTotals.lean).
  GIVEN WITH THE SEED: the statements are not yours to turn. If you find one false, say at which input.
  Laid BY PROGRAM, IN A SANDBOX (cutbox-rows.mjs): the forced cells as the released guide's own fill.sh prints them over the translation e687758b8ed5c16d… (all of the seat's roots in one cut). By AI agents, Wed Nov 11 2026. No macro, syntax, notation, axiom, sorry.
-/
import Derived.Test.YtjkcclcjhidokaaChecked
import GoSem.Claim
import GoSem.ClaimJoined
import GoSem.ClaimMapViews
import Derived.JoinedTies
import Derived.KernelRfl
namespace Go.Proofs.Ytjkcclcjhidokaa
/- THE CELL 'sum', in the pinned program and in every row, IS THE sha256 OF THE DUMP (.gsa) THAT YtjkcclcjhidokaaProg.lean LOADS. Nothing in Lean hashes anything: it is a label: what it is worth is what the hold of that sum in a sandbox is worth. -/
noncomputable def Try.pinned : Pinned := { name := "ytjkcclcjhidokaa", sum := "e687758b8ed5c16dcbc8d63008aef28ed7cce59a2c531bec227f12dd881886e2", checked := Try.checked }
namespace Rows
def none {H : Type} : Left H := { results := [], args := [] }

/-- 'sandtablelaw11.CoarseLevels': WHATEVER THE INPUT: true; the input reads as it did. -/
def coarseLevelsSpec : ChangeSpec := { name := "coarseLevels", fn := fun _ => fun
  | [d1, d2, d3, d4] => { results := [.lit (.bool true)], args := [d1, d2, d3, d4] }
  | _ => none }
def coarseLevelsRow : OpenClaim := { program := "ytjkcclcjhidokaa", sum := "e687758b8ed5c16dcbc8d63008aef28ed7cce59a2c531bec227f12dd881886e2", func := "sandtable/sandtablelaw11.CoarseLevels", spec := "coarseLevels", inPlace := ["slices.overlaps[sandtable/ranked.entry[int, int64]]"], unfollowed := true, recurses := true, apart := false }
def CoarseLevelsSaid : Prop := coarseLevelsRow.holds Try.pinned (OpenSpec.ofChange coarseLevelsSpec)

/-- ITS FALSE NEIGHBOUR: 'it returns false'. Refute it at one input. -/
def coarseLevelsWrong : ChangeSpec := { name := "coarseLevels", fn := fun _ => fun
  | [d1, d2, d3, d4] => { results := [.lit (.bool false)], args := [d1, d2, d3, d4] }
  | _ => none }
def CoarseLevelsWrongFalsely : Prop := coarseLevelsRow.holds Try.pinned (OpenSpec.ofChange coarseLevelsWrong)

/-- 'sandtablelaw13.RefineMoves': WHATEVER THE INPUT: true; the input reads as it did. -/
def refineMovesSpec : ChangeSpec := { name := "refineMoves", fn := fun _ => fun
  | [d1, d2, d3, d4, d5] => { results := [.lit (.bool true)], args := [d1, d2, d3, d4, d5] }
  | _ => none }
def refineMovesRow : OpenClaim := { program := "ytjkcclcjhidokaa", sum := "e687758b8ed5c16dcbc8d63008aef28ed7cce59a2c531bec227f12dd881886e2", func := "sandtable/sandtablelaw13.RefineMoves", spec := "refineMoves", inPlace := ["slices.overlaps[sandtable/ranked.entry[int, int64]]"], unfollowed := true, recurses := true, apart := false }
def RefineMovesSaid : Prop := refineMovesRow.holds Try.pinned (OpenSpec.ofChange refineMovesSpec)

/-- ITS FALSE NEIGHBOUR: 'it returns false'. Refute it at one input. -/
def refineMovesWrong : ChangeSpec := { name := "refineMoves", fn := fun _ => fun
  | [d1, d2, d3, d4, d5] => { results := [.lit (.bool false)], args := [d1, d2, d3, d4, d5] }
  | _ => none }
def RefineMovesWrongFalsely : Prop := refineMovesRow.holds Try.pinned (OpenSpec.ofChange refineMovesWrong)

/-- 'sandtablelaw13.RefineEnds': WHATEVER THE INPUT: true; the input reads as it did. -/
def refineEndsSpec : ChangeSpec := { name := "refineEnds", fn := fun _ => fun
  | [d1, d2, d3, d4] => { results := [.lit (.bool true)], args := [d1, d2, d3, d4] }
  | _ => none }
def refineEndsRow : OpenClaim := { program := "ytjkcclcjhidokaa", sum := "e687758b8ed5c16dcbc8d63008aef28ed7cce59a2c531bec227f12dd881886e2", func := "sandtable/sandtablelaw13.RefineEnds", spec := "refineEnds", inPlace := ["slices.overlaps[sandtable/ranked.entry[int, int64]]"], unfollowed := true, recurses := true, apart := false }
def RefineEndsSaid : Prop := refineEndsRow.holds Try.pinned (OpenSpec.ofChange refineEndsSpec)

/-- ITS FALSE NEIGHBOUR: 'it returns false'. Refute it at one input. -/
def refineEndsWrong : ChangeSpec := { name := "refineEnds", fn := fun _ => fun
  | [d1, d2, d3, d4] => { results := [.lit (.bool false)], args := [d1, d2, d3, d4] }
  | _ => none }
def RefineEndsWrongFalsely : Prop := refineEndsRow.holds Try.pinned (OpenSpec.ofChange refineEndsWrong)

/-- 'sandtablelaw13.RefineTwice': WHATEVER THE INPUT: true; the input reads as it did. -/
def refineTwiceSpec : ChangeSpec := { name := "refineTwice", fn := fun _ => fun
  | [d1, d2, d3, d4, d5] => { results := [.lit (.bool true)], args := [d1, d2, d3, d4, d5] }
  | _ => none }
def refineTwiceRow : OpenClaim := { program := "ytjkcclcjhidokaa", sum := "e687758b8ed5c16dcbc8d63008aef28ed7cce59a2c531bec227f12dd881886e2", func := "sandtable/sandtablelaw13.RefineTwice", spec := "refineTwice", inPlace := ["slices.overlaps[sandtable/ranked.entry[int, int64]]"], unfollowed := true, recurses := true, apart := false }
def RefineTwiceSaid : Prop := refineTwiceRow.holds Try.pinned (OpenSpec.ofChange refineTwiceSpec)

/-- ITS FALSE NEIGHBOUR: 'it returns false'. Refute it at one input. -/
def refineTwiceWrong : ChangeSpec := { name := "refineTwice", fn := fun _ => fun
  | [d1, d2, d3, d4, d5] => { results := [.lit (.bool false)], args := [d1, d2, d3, d4, d5] }
  | _ => none }
def RefineTwiceWrongFalsely : Prop := refineTwiceRow.holds Try.pinned (OpenSpec.ofChange refineTwiceWrong)

/-- 'sandtablelaw11.CoarseAlone': WHATEVER THE INPUT: true; the input reads as it did. -/
def coarseAloneSpec : ChangeSpec := { name := "coarseAlone", fn := fun _ => fun
  | [d1, d2, d3] => { results := [.lit (.bool true)], args := [d1, d2, d3] }
  | _ => none }
def coarseAloneRow : OpenClaim := { program := "ytjkcclcjhidokaa", sum := "e687758b8ed5c16dcbc8d63008aef28ed7cce59a2c531bec227f12dd881886e2", func := "sandtable/sandtablelaw11.CoarseAlone", spec := "coarseAlone", inPlace := ["slices.overlaps[sandtable/ranked.entry[int, int64]]"], unfollowed := true, recurses := true, apart := false }
def CoarseAloneSaid : Prop := coarseAloneRow.holds Try.pinned (OpenSpec.ofChange coarseAloneSpec)

/-- ITS FALSE NEIGHBOUR: 'it returns false'. Refute it at one input. -/
def coarseAloneWrong : ChangeSpec := { name := "coarseAlone", fn := fun _ => fun
  | [d1, d2, d3] => { results := [.lit (.bool false)], args := [d1, d2, d3] }
  | _ => none }
def CoarseAloneWrongFalsely : Prop := coarseAloneRow.holds Try.pinned (OpenSpec.ofChange coarseAloneWrong)

/-- 'sandtablelaw09.CutParts': WHATEVER THE INPUT: true; the input reads as it did. -/
def cutPartsSpec : ChangeSpec := { name := "cutParts", fn := fun _ => fun
  | [d1, d2, d3, d4, d5, d6, d7] => { results := [.lit (.bool true)], args := [d1, d2, d3, d4, d5, d6, d7] }
  | _ => none }
def cutPartsRow : OpenClaim := { program := "ytjkcclcjhidokaa", sum := "e687758b8ed5c16dcbc8d63008aef28ed7cce59a2c531bec227f12dd881886e2", func := "sandtable/sandtablelaw09.CutParts", spec := "cutParts", inPlace := ["slices.overlaps[sandtable/ranked.entry[int, int64]]"], unfollowed := true, recurses := true, apart := false }
def CutPartsSaid : Prop := cutPartsRow.holds Try.pinned (OpenSpec.ofChange cutPartsSpec)

/-- ITS FALSE NEIGHBOUR: 'it returns false'. Refute it at one input. -/
def cutPartsWrong : ChangeSpec := { name := "cutParts", fn := fun _ => fun
  | [d1, d2, d3, d4, d5, d6, d7] => { results := [.lit (.bool false)], args := [d1, d2, d3, d4, d5, d6, d7] }
  | _ => none }
def CutPartsWrongFalsely : Prop := cutPartsRow.holds Try.pinned (OpenSpec.ofChange cutPartsWrong)

/-- 'sandtablelaw09.CutGains': WHATEVER THE INPUT: true; the input reads as it did. -/
def cutGainsSpec : ChangeSpec := { name := "cutGains", fn := fun _ => fun
  | [d1, d2, d3, d4, d5, d6] => { results := [.lit (.bool true)], args := [d1, d2, d3, d4, d5, d6] }
  | _ => none }
def cutGainsRow : OpenClaim := { program := "ytjkcclcjhidokaa", sum := "e687758b8ed5c16dcbc8d63008aef28ed7cce59a2c531bec227f12dd881886e2", func := "sandtable/sandtablelaw09.CutGains", spec := "cutGains", inPlace := ["slices.overlaps[sandtable/ranked.entry[int, int64]]"], unfollowed := true, recurses := true, apart := false }
def CutGainsSaid : Prop := cutGainsRow.holds Try.pinned (OpenSpec.ofChange cutGainsSpec)

/-- ITS FALSE NEIGHBOUR: 'it returns false'. Refute it at one input. -/
def cutGainsWrong : ChangeSpec := { name := "cutGains", fn := fun _ => fun
  | [d1, d2, d3, d4, d5, d6] => { results := [.lit (.bool false)], args := [d1, d2, d3, d4, d5, d6] }
  | _ => none }
def CutGainsWrongFalsely : Prop := cutGainsRow.holds Try.pinned (OpenSpec.ofChange cutGainsWrong)

/-- 'sandtablelaw09.CutNames': WHATEVER THE INPUT: true; the input reads as it did. -/
def cutNamesSpec : ChangeSpec := { name := "cutNames", fn := fun _ => fun
  | [d1, d2, d3, d4] => { results := [.lit (.bool true)], args := [d1, d2, d3, d4] }
  | _ => none }
def cutNamesRow : OpenClaim := { program := "ytjkcclcjhidokaa", sum := "e687758b8ed5c16dcbc8d63008aef28ed7cce59a2c531bec227f12dd881886e2", func := "sandtable/sandtablelaw09.CutNames", spec := "cutNames", inPlace := ["slices.overlaps[sandtable/ranked.entry[int, int64]]"], unfollowed := true, recurses := true, apart := false }
def CutNamesSaid : Prop := cutNamesRow.holds Try.pinned (OpenSpec.ofChange cutNamesSpec)

/-- ITS FALSE NEIGHBOUR: 'it returns false'. Refute it at one input. -/
def cutNamesWrong : ChangeSpec := { name := "cutNames", fn := fun _ => fun
  | [d1, d2, d3, d4] => { results := [.lit (.bool false)], args := [d1, d2, d3, d4] }
  | _ => none }
def CutNamesWrongFalsely : Prop := cutNamesRow.holds Try.pinned (OpenSpec.ofChange cutNamesWrong)

/-- 'sandtablelaw09.CutBounds': WHATEVER THE INPUT: true; the input reads as it did. -/
def cutBoundsSpec : ChangeSpec := { name := "cutBounds", fn := fun _ => fun
  | [d1, d2, d3, d4] => { results := [.lit (.bool true)], args := [d1, d2, d3, d4] }
  | _ => none }
def cutBoundsRow : OpenClaim := { program := "ytjkcclcjhidokaa", sum := "e687758b8ed5c16dcbc8d63008aef28ed7cce59a2c531bec227f12dd881886e2", func := "sandtable/sandtablelaw09.CutBounds", spec := "cutBounds", inPlace := ["slices.overlaps[sandtable/ranked.entry[int, int64]]"], unfollowed := true, recurses := true, apart := false }
def CutBoundsSaid : Prop := cutBoundsRow.holds Try.pinned (OpenSpec.ofChange cutBoundsSpec)

/-- ITS FALSE NEIGHBOUR: 'it returns false'. Refute it at one input. -/
def cutBoundsWrong : ChangeSpec := { name := "cutBounds", fn := fun _ => fun
  | [d1, d2, d3, d4] => { results := [.lit (.bool false)], args := [d1, d2, d3, d4] }
  | _ => none }
def CutBoundsWrongFalsely : Prop := cutBoundsRow.holds Try.pinned (OpenSpec.ofChange cutBoundsWrong)

/-- 'sandtablelaw13.RefineFalls': WHATEVER THE INPUT: true; the input reads as it did. -/
def refineFallsSpec : ChangeSpec := { name := "refineFalls", fn := fun _ => fun
  | [d1, d2, d3, d4] => { results := [.lit (.bool true)], args := [d1, d2, d3, d4] }
  | _ => none }
def refineFallsRow : OpenClaim := { program := "ytjkcclcjhidokaa", sum := "e687758b8ed5c16dcbc8d63008aef28ed7cce59a2c531bec227f12dd881886e2", func := "sandtable/sandtablelaw13.RefineFalls", spec := "refineFalls", inPlace := ["slices.overlaps[sandtable/ranked.entry[int, int64]]"], unfollowed := true, recurses := true, apart := false }
def RefineFallsSaid : Prop := refineFallsRow.holds Try.pinned (OpenSpec.ofChange refineFallsSpec)

/-- ITS FALSE NEIGHBOUR: 'it returns false'. Refute it at one input. -/
def refineFallsWrong : ChangeSpec := { name := "refineFalls", fn := fun _ => fun
  | [d1, d2, d3, d4] => { results := [.lit (.bool false)], args := [d1, d2, d3, d4] }
  | _ => none }
def RefineFallsWrongFalsely : Prop := refineFallsRow.holds Try.pinned (OpenSpec.ofChange refineFallsWrong)

/-- 'sandtablelaw13.RefineBounds': WHATEVER THE INPUT: true; the input reads as it did. -/
def refineBoundsSpec : ChangeSpec := { name := "refineBounds", fn := fun _ => fun
  | [d1, d2, d3, d4] => { results := [.lit (.bool true)], args := [d1, d2, d3, d4] }
  | _ => none }
def refineBoundsRow : OpenClaim := { program := "ytjkcclcjhidokaa", sum := "e687758b8ed5c16dcbc8d63008aef28ed7cce59a2c531bec227f12dd881886e2", func := "sandtable/sandtablelaw13.RefineBounds", spec := "refineBounds", inPlace := ["slices.overlaps[sandtable/ranked.entry[int, int64]]"], unfollowed := true, recurses := true, apart := false }
def RefineBoundsSaid : Prop := refineBoundsRow.holds Try.pinned (OpenSpec.ofChange refineBoundsSpec)

/-- ITS FALSE NEIGHBOUR: 'it returns false'. Refute it at one input. -/
def refineBoundsWrong : ChangeSpec := { name := "refineBounds", fn := fun _ => fun
  | [d1, d2, d3, d4] => { results := [.lit (.bool false)], args := [d1, d2, d3, d4] }
  | _ => none }
def RefineBoundsWrongFalsely : Prop := refineBoundsRow.holds Try.pinned (OpenSpec.ofChange refineBoundsWrong)

/-- 'sandtablelaw11.CoarseCuts': WHATEVER THE INPUT: true; the input reads as it did. -/
def coarseCutsSpec : ChangeSpec := { name := "coarseCuts", fn := fun _ => fun
  | [d1, d2, d3, d4] => { results := [.lit (.bool true)], args := [d1, d2, d3, d4] }
  | _ => none }
def coarseCutsRow : OpenClaim := { program := "ytjkcclcjhidokaa", sum := "e687758b8ed5c16dcbc8d63008aef28ed7cce59a2c531bec227f12dd881886e2", func := "sandtable/sandtablelaw11.CoarseCuts", spec := "coarseCuts", inPlace := ["slices.overlaps[sandtable/ranked.entry[int, int64]]"], unfollowed := true, recurses := true, apart := false }
def CoarseCutsSaid : Prop := coarseCutsRow.holds Try.pinned (OpenSpec.ofChange coarseCutsSpec)

/-- ITS FALSE NEIGHBOUR: 'it returns false'. Refute it at one input. -/
def coarseCutsWrong : ChangeSpec := { name := "coarseCuts", fn := fun _ => fun
  | [d1, d2, d3, d4] => { results := [.lit (.bool false)], args := [d1, d2, d3, d4] }
  | _ => none }
def CoarseCutsWrongFalsely : Prop := coarseCutsRow.holds Try.pinned (OpenSpec.ofChange coarseCutsWrong)

/-- 'sandtablelaw14.PartsFit': WHATEVER THE INPUT: true; the input reads as it did. -/
def partsFitSpec : ChangeSpec := { name := "partsFit", fn := fun _ => fun
  | [d1, d2, d3, d4] => { results := [.lit (.bool true)], args := [d1, d2, d3, d4] }
  | _ => none }
def partsFitRow : OpenClaim := { program := "ytjkcclcjhidokaa", sum := "e687758b8ed5c16dcbc8d63008aef28ed7cce59a2c531bec227f12dd881886e2", func := "sandtable/sandtablelaw14.PartsFit", spec := "partsFit", inPlace := ["slices.overlaps[sandtable/ranked.entry[int, int64]]"], unfollowed := true, recurses := true, apart := false }
def PartsFitSaid : Prop := partsFitRow.holds Try.pinned (OpenSpec.ofChange partsFitSpec)

/-- ITS FALSE NEIGHBOUR: 'it returns false'. Refute it at one input. -/
def partsFitWrong : ChangeSpec := { name := "partsFit", fn := fun _ => fun
  | [d1, d2, d3, d4] => { results := [.lit (.bool false)], args := [d1, d2, d3, d4] }
  | _ => none }
def PartsFitWrongFalsely : Prop := partsFitRow.holds Try.pinned (OpenSpec.ofChange partsFitWrong)

/-- 'sandtablelaw14.PartsGroups': WHATEVER THE INPUT: true; the input reads as it did. -/
def partsGroupsSpec : ChangeSpec := { name := "partsGroups", fn := fun _ => fun
  | [d1, d2, d3] => { results := [.lit (.bool true)], args := [d1, d2, d3] }
  | _ => none }
def partsGroupsRow : OpenClaim := { program := "ytjkcclcjhidokaa", sum := "e687758b8ed5c16dcbc8d63008aef28ed7cce59a2c531bec227f12dd881886e2", func := "sandtable/sandtablelaw14.PartsGroups", spec := "partsGroups", inPlace := ["slices.overlaps[sandtable/ranked.entry[int, int64]]"], unfollowed := true, recurses := true, apart := false }
def PartsGroupsSaid : Prop := partsGroupsRow.holds Try.pinned (OpenSpec.ofChange partsGroupsSpec)

/-- ITS FALSE NEIGHBOUR: 'it returns false'. Refute it at one input. -/
def partsGroupsWrong : ChangeSpec := { name := "partsGroups", fn := fun _ => fun
  | [d1, d2, d3] => { results := [.lit (.bool false)], args := [d1, d2, d3] }
  | _ => none }
def PartsGroupsWrongFalsely : Prop := partsGroupsRow.holds Try.pinned (OpenSpec.ofChange partsGroupsWrong)

/-- 'sandtablelaw14.PartsEach': WHATEVER THE INPUT: true; the input reads as it did. -/
def partsEachSpec : ChangeSpec := { name := "partsEach", fn := fun _ => fun
  | [d1, d2] => { results := [.lit (.bool true)], args := [d1, d2] }
  | _ => none }
def partsEachRow : OpenClaim := { program := "ytjkcclcjhidokaa", sum := "e687758b8ed5c16dcbc8d63008aef28ed7cce59a2c531bec227f12dd881886e2", func := "sandtable/sandtablelaw14.PartsEach", spec := "partsEach", inPlace := ["slices.overlaps[sandtable/ranked.entry[int, int64]]"], unfollowed := true, recurses := true, apart := false }
def PartsEachSaid : Prop := partsEachRow.holds Try.pinned (OpenSpec.ofChange partsEachSpec)

/-- ITS FALSE NEIGHBOUR: 'it returns false'. Refute it at one input. -/
def partsEachWrong : ChangeSpec := { name := "partsEach", fn := fun _ => fun
  | [d1, d2] => { results := [.lit (.bool false)], args := [d1, d2] }
  | _ => none }
def PartsEachWrongFalsely : Prop := partsEachRow.holds Try.pinned (OpenSpec.ofChange partsEachWrong)

/-- 'sandtablelaw14.PartsAgain': WHATEVER THE INPUT: true; the input reads as it did. -/
def partsAgainSpec : ChangeSpec := { name := "partsAgain", fn := fun _ => fun
  | [d1, d2, d3] => { results := [.lit (.bool true)], args := [d1, d2, d3] }
  | _ => none }
def partsAgainRow : OpenClaim := { program := "ytjkcclcjhidokaa", sum := "e687758b8ed5c16dcbc8d63008aef28ed7cce59a2c531bec227f12dd881886e2", func := "sandtable/sandtablelaw14.PartsAgain", spec := "partsAgain", inPlace := ["slices.overlaps[sandtable/ranked.entry[int, int64]]"], unfollowed := true, recurses := true, apart := false }
def PartsAgainSaid : Prop := partsAgainRow.holds Try.pinned (OpenSpec.ofChange partsAgainSpec)

/-- ITS FALSE NEIGHBOUR: 'it returns false'. Refute it at one input. -/
def partsAgainWrong : ChangeSpec := { name := "partsAgain", fn := fun _ => fun
  | [d1, d2, d3] => { results := [.lit (.bool false)], args := [d1, d2, d3] }
  | _ => none }
def PartsAgainWrongFalsely : Prop := partsAgainRow.holds Try.pinned (OpenSpec.ofChange partsAgainWrong)

/-- 'sandtablelaw14.PartsMends': WHATEVER THE INPUT: true; the input reads as it did. -/
def partsMendsSpec : ChangeSpec := { name := "partsMends", fn := fun _ => fun
  | [d1, d2, d3, d4] => { results := [.lit (.bool true)], args := [d1, d2, d3, d4] }
  | _ => none }
def partsMendsRow : OpenClaim := { program := "ytjkcclcjhidokaa", sum := "e687758b8ed5c16dcbc8d63008aef28ed7cce59a2c531bec227f12dd881886e2", func := "sandtable/sandtablelaw14.PartsMends", spec := "partsMends", inPlace := ["slices.overlaps[sandtable/ranked.entry[int, int64]]"], unfollowed := true, recurses := true, apart := false }
def PartsMendsSaid : Prop := partsMendsRow.holds Try.pinned (OpenSpec.ofChange partsMendsSpec)

/-- ITS FALSE NEIGHBOUR: 'it returns false'. Refute it at one input. -/
def partsMendsWrong : ChangeSpec := { name := "partsMends", fn := fun _ => fun
  | [d1, d2, d3, d4] => { results := [.lit (.bool false)], args := [d1, d2, d3, d4] }
  | _ => none }
def PartsMendsWrongFalsely : Prop := partsMendsRow.holds Try.pinned (OpenSpec.ofChange partsMendsWrong)

/- THE SECOND FORM. 'bulk': how many values and letters a reading holds, each counted each time it is reached (what is shared counts as often as it is met; a slice's spare places count too). A statement '..UptoSaid' is the law's where the arguments, and the package variables that the reading takes, are together of bulk at most 1048576: NARROWER than '..Said'. Prove '..Said' where nothing that the law and all that it calls make is longer than what came in: it says more and counts as full. Else prove '..UptoSaid'. A law counts once. -/
mutual
def uptoBulk {H : Type} : DataW H → Nat
  | .lit (.string bytes) => bytes.length + 1
  | .lit _ => 1
  | .nil => 1
  | .ptr d => uptoBulk d + 1
  | .slice elems spare => uptoBulkAll elems + uptoBulkAll spare + 1
  | .agg parts => uptoBulkAll parts + 1
  | .iface _ d => uptoBulk d + 1
  | .map entries => uptoBulkEntries entries + 1
  | .held _ => 1
def uptoBulkAll {H : Type} : List (DataW H) → Nat
  | [] => 0
  | d :: r => uptoBulk d + uptoBulkAll r
def uptoBulkEntries {H : Type} : List (Lit × DataW H) → Nat
  | [] => 0
  | x :: r => uptoBulkEntry x + uptoBulkEntries r
def uptoBulkEntry {H : Type} : Lit × DataW H → Nat
  | (.string bytes, d) => bytes.length + uptoBulk d + 1
  | (_, d) => uptoBulk d + 1
 end
def uptoSmall : (H : Type) → List (DataW H) → Bool := fun _ ds => decide (uptoBulkAll ds ≤ 1048576)
def OpenSpec.upto (s : _root_.Go.ChangeSpec) : _root_.Go.OpenSpec := { _root_.Go.OpenSpec.ofChange s with cond := some uptoSmall }

/-- 'sandtablelaw11.CoarseLevels', WHERE WHAT IT READS IS OF BULK AT MOST 1048576: true; the input reads as it did. -/
def coarseLevelsUptoRow : OpenClaim := { program := "ytjkcclcjhidokaa", sum := "e687758b8ed5c16dcbc8d63008aef28ed7cce59a2c531bec227f12dd881886e2", func := "sandtable/sandtablelaw11.CoarseLevels", spec := "coarseLevels", inPlace := ["slices.overlaps[sandtable/ranked.entry[int, int64]]"], unfollowed := true, recurses := true, apart := false, narrowed := true }
def CoarseLevelsUptoSaid : Prop := coarseLevelsUptoRow.holds Try.pinned (OpenSpec.upto coarseLevelsSpec)

/-- 'sandtablelaw13.RefineMoves', WHERE WHAT IT READS IS OF BULK AT MOST 1048576: true; the input reads as it did. -/
def refineMovesUptoRow : OpenClaim := { program := "ytjkcclcjhidokaa", sum := "e687758b8ed5c16dcbc8d63008aef28ed7cce59a2c531bec227f12dd881886e2", func := "sandtable/sandtablelaw13.RefineMoves", spec := "refineMoves", inPlace := ["slices.overlaps[sandtable/ranked.entry[int, int64]]"], unfollowed := true, recurses := true, apart := false, narrowed := true }
def RefineMovesUptoSaid : Prop := refineMovesUptoRow.holds Try.pinned (OpenSpec.upto refineMovesSpec)

/-- 'sandtablelaw13.RefineEnds', WHERE WHAT IT READS IS OF BULK AT MOST 1048576: true; the input reads as it did. -/
def refineEndsUptoRow : OpenClaim := { program := "ytjkcclcjhidokaa", sum := "e687758b8ed5c16dcbc8d63008aef28ed7cce59a2c531bec227f12dd881886e2", func := "sandtable/sandtablelaw13.RefineEnds", spec := "refineEnds", inPlace := ["slices.overlaps[sandtable/ranked.entry[int, int64]]"], unfollowed := true, recurses := true, apart := false, narrowed := true }
def RefineEndsUptoSaid : Prop := refineEndsUptoRow.holds Try.pinned (OpenSpec.upto refineEndsSpec)

/-- 'sandtablelaw13.RefineTwice', WHERE WHAT IT READS IS OF BULK AT MOST 1048576: true; the input reads as it did. -/
def refineTwiceUptoRow : OpenClaim := { program := "ytjkcclcjhidokaa", sum := "e687758b8ed5c16dcbc8d63008aef28ed7cce59a2c531bec227f12dd881886e2", func := "sandtable/sandtablelaw13.RefineTwice", spec := "refineTwice", inPlace := ["slices.overlaps[sandtable/ranked.entry[int, int64]]"], unfollowed := true, recurses := true, apart := false, narrowed := true }
def RefineTwiceUptoSaid : Prop := refineTwiceUptoRow.holds Try.pinned (OpenSpec.upto refineTwiceSpec)

/-- 'sandtablelaw11.CoarseAlone', WHERE WHAT IT READS IS OF BULK AT MOST 1048576: true; the input reads as it did. -/
def coarseAloneUptoRow : OpenClaim := { program := "ytjkcclcjhidokaa", sum := "e687758b8ed5c16dcbc8d63008aef28ed7cce59a2c531bec227f12dd881886e2", func := "sandtable/sandtablelaw11.CoarseAlone", spec := "coarseAlone", inPlace := ["slices.overlaps[sandtable/ranked.entry[int, int64]]"], unfollowed := true, recurses := true, apart := false, narrowed := true }
def CoarseAloneUptoSaid : Prop := coarseAloneUptoRow.holds Try.pinned (OpenSpec.upto coarseAloneSpec)

/-- 'sandtablelaw09.CutParts', WHERE WHAT IT READS IS OF BULK AT MOST 1048576: true; the input reads as it did. -/
def cutPartsUptoRow : OpenClaim := { program := "ytjkcclcjhidokaa", sum := "e687758b8ed5c16dcbc8d63008aef28ed7cce59a2c531bec227f12dd881886e2", func := "sandtable/sandtablelaw09.CutParts", spec := "cutParts", inPlace := ["slices.overlaps[sandtable/ranked.entry[int, int64]]"], unfollowed := true, recurses := true, apart := false, narrowed := true }
def CutPartsUptoSaid : Prop := cutPartsUptoRow.holds Try.pinned (OpenSpec.upto cutPartsSpec)

/-- 'sandtablelaw09.CutGains', WHERE WHAT IT READS IS OF BULK AT MOST 1048576: true; the input reads as it did. -/
def cutGainsUptoRow : OpenClaim := { program := "ytjkcclcjhidokaa", sum := "e687758b8ed5c16dcbc8d63008aef28ed7cce59a2c531bec227f12dd881886e2", func := "sandtable/sandtablelaw09.CutGains", spec := "cutGains", inPlace := ["slices.overlaps[sandtable/ranked.entry[int, int64]]"], unfollowed := true, recurses := true, apart := false, narrowed := true }
def CutGainsUptoSaid : Prop := cutGainsUptoRow.holds Try.pinned (OpenSpec.upto cutGainsSpec)

/-- 'sandtablelaw09.CutNames', WHERE WHAT IT READS IS OF BULK AT MOST 1048576: true; the input reads as it did. -/
def cutNamesUptoRow : OpenClaim := { program := "ytjkcclcjhidokaa", sum := "e687758b8ed5c16dcbc8d63008aef28ed7cce59a2c531bec227f12dd881886e2", func := "sandtable/sandtablelaw09.CutNames", spec := "cutNames", inPlace := ["slices.overlaps[sandtable/ranked.entry[int, int64]]"], unfollowed := true, recurses := true, apart := false, narrowed := true }
def CutNamesUptoSaid : Prop := cutNamesUptoRow.holds Try.pinned (OpenSpec.upto cutNamesSpec)

/-- 'sandtablelaw09.CutBounds', WHERE WHAT IT READS IS OF BULK AT MOST 1048576: true; the input reads as it did. -/
def cutBoundsUptoRow : OpenClaim := { program := "ytjkcclcjhidokaa", sum := "e687758b8ed5c16dcbc8d63008aef28ed7cce59a2c531bec227f12dd881886e2", func := "sandtable/sandtablelaw09.CutBounds", spec := "cutBounds", inPlace := ["slices.overlaps[sandtable/ranked.entry[int, int64]]"], unfollowed := true, recurses := true, apart := false, narrowed := true }
def CutBoundsUptoSaid : Prop := cutBoundsUptoRow.holds Try.pinned (OpenSpec.upto cutBoundsSpec)

/-- 'sandtablelaw13.RefineFalls', WHERE WHAT IT READS IS OF BULK AT MOST 1048576: true; the input reads as it did. -/
def refineFallsUptoRow : OpenClaim := { program := "ytjkcclcjhidokaa", sum := "e687758b8ed5c16dcbc8d63008aef28ed7cce59a2c531bec227f12dd881886e2", func := "sandtable/sandtablelaw13.RefineFalls", spec := "refineFalls", inPlace := ["slices.overlaps[sandtable/ranked.entry[int, int64]]"], unfollowed := true, recurses := true, apart := false, narrowed := true }
def RefineFallsUptoSaid : Prop := refineFallsUptoRow.holds Try.pinned (OpenSpec.upto refineFallsSpec)

/-- 'sandtablelaw13.RefineBounds', WHERE WHAT IT READS IS OF BULK AT MOST 1048576: true; the input reads as it did. -/
def refineBoundsUptoRow : OpenClaim := { program := "ytjkcclcjhidokaa", sum := "e687758b8ed5c16dcbc8d63008aef28ed7cce59a2c531bec227f12dd881886e2", func := "sandtable/sandtablelaw13.RefineBounds", spec := "refineBounds", inPlace := ["slices.overlaps[sandtable/ranked.entry[int, int64]]"], unfollowed := true, recurses := true, apart := false, narrowed := true }
def RefineBoundsUptoSaid : Prop := refineBoundsUptoRow.holds Try.pinned (OpenSpec.upto refineBoundsSpec)

/-- 'sandtablelaw11.CoarseCuts', WHERE WHAT IT READS IS OF BULK AT MOST 1048576: true; the input reads as it did. -/
def coarseCutsUptoRow : OpenClaim := { program := "ytjkcclcjhidokaa", sum := "e687758b8ed5c16dcbc8d63008aef28ed7cce59a2c531bec227f12dd881886e2", func := "sandtable/sandtablelaw11.CoarseCuts", spec := "coarseCuts", inPlace := ["slices.overlaps[sandtable/ranked.entry[int, int64]]"], unfollowed := true, recurses := true, apart := false, narrowed := true }
def CoarseCutsUptoSaid : Prop := coarseCutsUptoRow.holds Try.pinned (OpenSpec.upto coarseCutsSpec)

/-- 'sandtablelaw14.PartsFit', WHERE WHAT IT READS IS OF BULK AT MOST 1048576: true; the input reads as it did. -/
def partsFitUptoRow : OpenClaim := { program := "ytjkcclcjhidokaa", sum := "e687758b8ed5c16dcbc8d63008aef28ed7cce59a2c531bec227f12dd881886e2", func := "sandtable/sandtablelaw14.PartsFit", spec := "partsFit", inPlace := ["slices.overlaps[sandtable/ranked.entry[int, int64]]"], unfollowed := true, recurses := true, apart := false, narrowed := true }
def PartsFitUptoSaid : Prop := partsFitUptoRow.holds Try.pinned (OpenSpec.upto partsFitSpec)

/-- 'sandtablelaw14.PartsGroups', WHERE WHAT IT READS IS OF BULK AT MOST 1048576: true; the input reads as it did. -/
def partsGroupsUptoRow : OpenClaim := { program := "ytjkcclcjhidokaa", sum := "e687758b8ed5c16dcbc8d63008aef28ed7cce59a2c531bec227f12dd881886e2", func := "sandtable/sandtablelaw14.PartsGroups", spec := "partsGroups", inPlace := ["slices.overlaps[sandtable/ranked.entry[int, int64]]"], unfollowed := true, recurses := true, apart := false, narrowed := true }
def PartsGroupsUptoSaid : Prop := partsGroupsUptoRow.holds Try.pinned (OpenSpec.upto partsGroupsSpec)

/-- 'sandtablelaw14.PartsEach', WHERE WHAT IT READS IS OF BULK AT MOST 1048576: true; the input reads as it did. -/
def partsEachUptoRow : OpenClaim := { program := "ytjkcclcjhidokaa", sum := "e687758b8ed5c16dcbc8d63008aef28ed7cce59a2c531bec227f12dd881886e2", func := "sandtable/sandtablelaw14.PartsEach", spec := "partsEach", inPlace := ["slices.overlaps[sandtable/ranked.entry[int, int64]]"], unfollowed := true, recurses := true, apart := false, narrowed := true }
def PartsEachUptoSaid : Prop := partsEachUptoRow.holds Try.pinned (OpenSpec.upto partsEachSpec)

/-- 'sandtablelaw14.PartsAgain', WHERE WHAT IT READS IS OF BULK AT MOST 1048576: true; the input reads as it did. -/
def partsAgainUptoRow : OpenClaim := { program := "ytjkcclcjhidokaa", sum := "e687758b8ed5c16dcbc8d63008aef28ed7cce59a2c531bec227f12dd881886e2", func := "sandtable/sandtablelaw14.PartsAgain", spec := "partsAgain", inPlace := ["slices.overlaps[sandtable/ranked.entry[int, int64]]"], unfollowed := true, recurses := true, apart := false, narrowed := true }
def PartsAgainUptoSaid : Prop := partsAgainUptoRow.holds Try.pinned (OpenSpec.upto partsAgainSpec)

/-- 'sandtablelaw14.PartsMends', WHERE WHAT IT READS IS OF BULK AT MOST 1048576: true; the input reads as it did. -/
def partsMendsUptoRow : OpenClaim := { program := "ytjkcclcjhidokaa", sum := "e687758b8ed5c16dcbc8d63008aef28ed7cce59a2c531bec227f12dd881886e2", func := "sandtable/sandtablelaw14.PartsMends", spec := "partsMends", inPlace := ["slices.overlaps[sandtable/ranked.entry[int, int64]]"], unfollowed := true, recurses := true, apart := false, narrowed := true }
def PartsMendsUptoSaid : Prop := partsMendsUptoRow.holds Try.pinned (OpenSpec.upto partsMendsSpec)

end Rows
end Go.Proofs.Ytjkcclcjhidokaa

/-
  No cell of these rows narrows 'for every input' (looked for: loops, veiled, ifaces, maps, wideKeys, modest, calm, conditions, laid).
  DERIVED. THE GIVEN ROWS OF THIS SEAT. 15 by the template 'for every input the law returns true; each argument reads behind the call as it read before'; 0 by the template 'total and deterministic' (their statements: YtoknhjmcoleejaaTotals.lean).
  GIVEN WITH THE SEED: the statements are not yours to turn. If you find one false, say at which input.
  Laid BY PROGRAM, IN A SANDBOX (cutbox-rows.mjs): the forced cells as the released guide's own fill.sh prints them over the translation 28c13b86e7da40a3… (all of the seat's roots in one cut). By AI agents, Wed Nov 11 2026. No macro, syntax, notation, axiom, sorry.
-/
import Derived.Test.YtoknhjmcoleejaaChecked
import GoSem.Claim
import GoSem.ClaimJoined
import GoSem.ClaimMapViews
import Derived.JoinedTies
import Derived.KernelRfl
namespace Go.Proofs.Ytoknhjmcoleejaa
/- THE CELL 'sum', in the pinned program and in every row, IS THE sha256 OF THE DUMP (.gsa) THAT YtoknhjmcoleejaaProg.lean LOADS. Nothing in Lean hashes anything: it is a label: what it is worth is what the hold of that sum in a sandbox is worth. -/
noncomputable def Try.pinned : Pinned := { name := "ytoknhjmcoleejaa", sum := "28c13b86e7da40a3f9cd20a2a6e2f5a7ca824eeefb9b8e4784a141aebe09c576", checked := Try.checked }
namespace Rows
def none {H : Type} : Left H := { results := [], args := [] }

/-- 'plenumlaw18.SpfParents': WHATEVER THE INPUT: true; the input reads as it did. -/
def spfParentsSpec : ChangeSpec := { name := "spfParents", fn := fun _ => fun
  | [d1, d2, d3, d4, d5] => { results := [.lit (.bool true)], args := [d1, d2, d3, d4, d5] }
  | _ => none }
def spfParentsRow : OpenClaim := { program := "ytoknhjmcoleejaa", sum := "28c13b86e7da40a3f9cd20a2a6e2f5a7ca824eeefb9b8e4784a141aebe09c576", func := "plenum/plenumlaw18.SpfParents", spec := "spfParents", plainKeys := false, apart := false }
def SpfParentsSaid : Prop := spfParentsRow.holds Try.pinned (OpenSpec.ofChange spfParentsSpec)

/-- ITS FALSE NEIGHBOUR: 'it returns false'. Refute it at one input. -/
def spfParentsWrong : ChangeSpec := { name := "spfParents", fn := fun _ => fun
  | [d1, d2, d3, d4, d5] => { results := [.lit (.bool false)], args := [d1, d2, d3, d4, d5] }
  | _ => none }
def SpfParentsWrongFalsely : Prop := spfParentsRow.holds Try.pinned (OpenSpec.ofChange spfParentsWrong)

/-- 'plenumlaw18.SpfRows': WHATEVER THE INPUT: true; the input reads as it did. -/
def spfRowsSpec : ChangeSpec := { name := "spfRows", fn := fun _ => fun
  | [d1, d2] => { results := [.lit (.bool true)], args := [d1, d2] }
  | _ => none }
def spfRowsRow : OpenClaim := { program := "ytoknhjmcoleejaa", sum := "28c13b86e7da40a3f9cd20a2a6e2f5a7ca824eeefb9b8e4784a141aebe09c576", func := "plenum/plenumlaw18.SpfRows", spec := "spfRows", plainKeys := false, apart := false }
def SpfRowsSaid : Prop := spfRowsRow.holds Try.pinned (OpenSpec.ofChange spfRowsSpec)

/-- ITS FALSE NEIGHBOUR: 'it returns false'. Refute it at one input. -/
def spfRowsWrong : ChangeSpec := { name := "spfRows", fn := fun _ => fun
  | [d1, d2] => { results := [.lit (.bool false)], args := [d1, d2] }
  | _ => none }
def SpfRowsWrongFalsely : Prop := spfRowsRow.holds Try.pinned (OpenSpec.ofChange spfRowsWrong)

/-- 'plenumlaw18.SpfTies': WHATEVER THE INPUT: true; the input reads as it did. -/
def spfTiesSpec : ChangeSpec := { name := "spfTies", fn := fun _ => fun
  | [d1, d2, d3] => { results := [.lit (.bool true)], args := [d1, d2, d3] }
  | _ => none }
def spfTiesRow : OpenClaim := { program := "ytoknhjmcoleejaa", sum := "28c13b86e7da40a3f9cd20a2a6e2f5a7ca824eeefb9b8e4784a141aebe09c576", func := "plenum/plenumlaw18.SpfTies", spec := "spfTies", plainKeys := false, apart := false }
def SpfTiesSaid : Prop := spfTiesRow.holds Try.pinned (OpenSpec.ofChange spfTiesSpec)

/-- ITS FALSE NEIGHBOUR: 'it returns false'. Refute it at one input. -/
def spfTiesWrong : ChangeSpec := { name := "spfTies", fn := fun _ => fun
  | [d1, d2, d3] => { results := [.lit (.bool false)], args := [d1, d2, d3] }
  | _ => none }
def SpfTiesWrongFalsely : Prop := spfTiesRow.holds Try.pinned (OpenSpec.ofChange spfTiesWrong)

/-- 'plenumlaw18.SpfTrees': WHATEVER THE INPUT: true; the input reads as it did. -/
def spfTreesSpec : ChangeSpec := { name := "spfTrees", fn := fun _ => fun
  | [d1, d2, d3] => { results := [.lit (.bool true)], args := [d1, d2, d3] }
  | _ => none }
def spfTreesRow : OpenClaim := { program := "ytoknhjmcoleejaa", sum := "28c13b86e7da40a3f9cd20a2a6e2f5a7ca824eeefb9b8e4784a141aebe09c576", func := "plenum/plenumlaw18.SpfTrees", spec := "spfTrees", unfollowed := true, recurses := true, plainKeys := false, apart := false }
def SpfTreesSaid : Prop := spfTreesRow.holds Try.pinned (OpenSpec.ofChange spfTreesSpec)

/-- ITS FALSE NEIGHBOUR: 'it returns false'. Refute it at one input. -/
def spfTreesWrong : ChangeSpec := { name := "spfTrees", fn := fun _ => fun
  | [d1, d2, d3] => { results := [.lit (.bool false)], args := [d1, d2, d3] }
  | _ => none }
def SpfTreesWrongFalsely : Prop := spfTreesRow.holds Try.pinned (OpenSpec.ofChange spfTreesWrong)

/-- 'plenumlaw23.CastAll': WHATEVER THE INPUT: true; the input reads as it did. -/
def castAllSpec : ChangeSpec := { name := "castAll", fn := fun _ => fun
  | [d1, d2, d3] => { results := [.lit (.bool true)], args := [d1, d2, d3] }
  | _ => none }
def castAllRow : OpenClaim := { program := "ytoknhjmcoleejaa", sum := "28c13b86e7da40a3f9cd20a2a6e2f5a7ca824eeefb9b8e4784a141aebe09c576", func := "plenum/plenumlaw23.CastAll", spec := "castAll", unfollowed := true, recurses := true, plainKeys := false, apart := false }
def CastAllSaid : Prop := castAllRow.holds Try.pinned (OpenSpec.ofChange castAllSpec)

/-- ITS FALSE NEIGHBOUR: 'it returns false'. Refute it at one input. -/
def castAllWrong : ChangeSpec := { name := "castAll", fn := fun _ => fun
  | [d1, d2, d3] => { results := [.lit (.bool false)], args := [d1, d2, d3] }
  | _ => none }
def CastAllWrongFalsely : Prop := castAllRow.holds Try.pinned (OpenSpec.ofChange castAllWrong)

/-- 'plenumlaw23.CastGraphs': WHATEVER THE INPUT: true; the input reads as it did. -/
def castGraphsSpec : ChangeSpec := { name := "castGraphs", fn := fun _ => fun
  | [d1, d2, d3, d4, d5] => { results := [.lit (.bool true)], args := [d1, d2, d3, d4, d5] }
  | _ => none }
def castGraphsRow : OpenClaim := { program := "ytoknhjmcoleejaa", sum := "28c13b86e7da40a3f9cd20a2a6e2f5a7ca824eeefb9b8e4784a141aebe09c576", func := "plenum/plenumlaw23.CastGraphs", spec := "castGraphs", unfollowed := true, recurses := true, plainKeys := false, apart := false }
def CastGraphsSaid : Prop := castGraphsRow.holds Try.pinned (OpenSpec.ofChange castGraphsSpec)

/-- ITS FALSE NEIGHBOUR: 'it returns false'. Refute it at one input. -/
def castGraphsWrong : ChangeSpec := { name := "castGraphs", fn := fun _ => fun
  | [d1, d2, d3, d4, d5] => { results := [.lit (.bool false)], args := [d1, d2, d3, d4, d5] }
  | _ => none }
def CastGraphsWrongFalsely : Prop := castGraphsRow.holds Try.pinned (OpenSpec.ofChange castGraphsWrong)

/-- 'plenumlaw23.CastNearest': WHATEVER THE INPUT: true; the input reads as it did. -/
def castNearestSpec : ChangeSpec := { name := "castNearest", fn := fun _ => fun
  | [d1, d2, d3] => { results := [.lit (.bool true)], args := [d1, d2, d3] }
  | _ => none }
def castNearestRow : OpenClaim := { program := "ytoknhjmcoleejaa", sum := "28c13b86e7da40a3f9cd20a2a6e2f5a7ca824eeefb9b8e4784a141aebe09c576", func := "plenum/plenumlaw23.CastNearest", spec := "castNearest", unfollowed := true, recurses := true, plainKeys := false, apart := false }
def CastNearestSaid : Prop := castNearestRow.holds Try.pinned (OpenSpec.ofChange castNearestSpec)

/-- ITS FALSE NEIGHBOUR: 'it returns false'. Refute it at one input. -/
def castNearestWrong : ChangeSpec := { name := "castNearest", fn := fun _ => fun
  | [d1, d2, d3] => { results := [.lit (.bool false)], args := [d1, d2, d3] }
  | _ => none }
def CastNearestWrongFalsely : Prop := castNearestRow.holds Try.pinned (OpenSpec.ofChange castNearestWrong)

/-- 'plenumlaw19.RouteGraphs': WHATEVER THE INPUT: true; the input reads as it did. -/
def routeGraphsSpec : ChangeSpec := { name := "routeGraphs", fn := fun _ => fun
  | [d1, d2, d3, d4] => { results := [.lit (.bool true)], args := [d1, d2, d3, d4] }
  | _ => none }
def routeGraphsRow : OpenClaim := { program := "ytoknhjmcoleejaa", sum := "28c13b86e7da40a3f9cd20a2a6e2f5a7ca824eeefb9b8e4784a141aebe09c576", func := "plenum/plenumlaw19.RouteGraphs", spec := "routeGraphs", unfollowed := true, recurses := true, plainKeys := false, apart := false }
def RouteGraphsSaid : Prop := routeGraphsRow.holds Try.pinned (OpenSpec.ofChange routeGraphsSpec)

/-- ITS FALSE NEIGHBOUR: 'it returns false'. Refute it at one input. -/
def routeGraphsWrong : ChangeSpec := { name := "routeGraphs", fn := fun _ => fun
  | [d1, d2, d3, d4] => { results := [.lit (.bool false)], args := [d1, d2, d3, d4] }
  | _ => none }
def RouteGraphsWrongFalsely : Prop := routeGraphsRow.holds Try.pinned (OpenSpec.ofChange routeGraphsWrong)

/-- 'plenumlaw19.RouteHops': WHATEVER THE INPUT: true; the input reads as it did. -/
def routeHopsSpec : ChangeSpec := { name := "routeHops", fn := fun _ => fun
  | [d1, d2, d3, d4] => { results := [.lit (.bool true)], args := [d1, d2, d3, d4] }
  | _ => none }
def routeHopsRow : OpenClaim := { program := "ytoknhjmcoleejaa", sum := "28c13b86e7da40a3f9cd20a2a6e2f5a7ca824eeefb9b8e4784a141aebe09c576", func := "plenum/plenumlaw19.RouteHops", spec := "routeHops", unfollowed := true, recurses := true, plainKeys := false, apart := false }
def RouteHopsSaid : Prop := routeHopsRow.holds Try.pinned (OpenSpec.ofChange routeHopsSpec)

/-- ITS FALSE NEIGHBOUR: 'it returns false'. Refute it at one input. -/
def routeHopsWrong : ChangeSpec := { name := "routeHops", fn := fun _ => fun
  | [d1, d2, d3, d4] => { results := [.lit (.bool false)], args := [d1, d2, d3, d4] }
  | _ => none }
def RouteHopsWrongFalsely : Prop := routeHopsRow.holds Try.pinned (OpenSpec.ofChange routeHopsWrong)

/-- 'plenumlaw19.RouteRow': WHATEVER THE INPUT: true; the input reads as it did. -/
def routeRowSpec : ChangeSpec := { name := "routeRow", fn := fun _ => fun
  | [d1, d2] => { results := [.lit (.bool true)], args := [d1, d2] }
  | _ => none }
def routeRowRow : OpenClaim := { program := "ytoknhjmcoleejaa", sum := "28c13b86e7da40a3f9cd20a2a6e2f5a7ca824eeefb9b8e4784a141aebe09c576", func := "plenum/plenumlaw19.RouteRow", spec := "routeRow", unfollowed := true, recurses := true, plainKeys := false, apart := false }
def RouteRowSaid : Prop := routeRowRow.holds Try.pinned (OpenSpec.ofChange routeRowSpec)

/-- ITS FALSE NEIGHBOUR: 'it returns false'. Refute it at one input. -/
def routeRowWrong : ChangeSpec := { name := "routeRow", fn := fun _ => fun
  | [d1, d2] => { results := [.lit (.bool false)], args := [d1, d2] }
  | _ => none }
def RouteRowWrongFalsely : Prop := routeRowRow.holds Try.pinned (OpenSpec.ofChange routeRowWrong)

/-- 'plenumlaw19.RouteAll': WHATEVER THE INPUT: true; the input reads as it did. -/
def routeAllSpec : ChangeSpec := { name := "routeAll", fn := fun _ => fun
  | [d1, d2, d3, d4] => { results := [.lit (.bool true)], args := [d1, d2, d3, d4] }
  | _ => none }
def routeAllRow : OpenClaim := { program := "ytoknhjmcoleejaa", sum := "28c13b86e7da40a3f9cd20a2a6e2f5a7ca824eeefb9b8e4784a141aebe09c576", func := "plenum/plenumlaw19.RouteAll", spec := "routeAll", unfollowed := true, recurses := true, plainKeys := false, apart := false }
def RouteAllSaid : Prop := routeAllRow.holds Try.pinned (OpenSpec.ofChange routeAllSpec)

/-- ITS FALSE NEIGHBOUR: 'it returns false'. Refute it at one input. -/
def routeAllWrong : ChangeSpec := { name := "routeAll", fn := fun _ => fun
  | [d1, d2, d3, d4] => { results := [.lit (.bool false)], args := [d1, d2, d3, d4] }
  | _ => none }
def RouteAllWrongFalsely : Prop := routeAllRow.holds Try.pinned (OpenSpec.ofChange routeAllWrong)

/-- 'plenumlaw19.RouteFinds': WHATEVER THE INPUT: true; the input reads as it did. -/
def routeFindsSpec : ChangeSpec := { name := "routeFinds", fn := fun _ => fun
  | [d1, d2, d3] => { results := [.lit (.bool true)], args := [d1, d2, d3] }
  | _ => none }
def routeFindsRow : OpenClaim := { program := "ytoknhjmcoleejaa", sum := "28c13b86e7da40a3f9cd20a2a6e2f5a7ca824eeefb9b8e4784a141aebe09c576", func := "plenum/plenumlaw19.RouteFinds", spec := "routeFinds", unfollowed := true, recurses := true, plainKeys := false, apart := false }
def RouteFindsSaid : Prop := routeFindsRow.holds Try.pinned (OpenSpec.ofChange routeFindsSpec)

/-- ITS FALSE NEIGHBOUR: 'it returns false'. Refute it at one input. -/
def routeFindsWrong : ChangeSpec := { name := "routeFinds", fn := fun _ => fun
  | [d1, d2, d3] => { results := [.lit (.bool false)], args := [d1, d2, d3] }
  | _ => none }
def RouteFindsWrongFalsely : Prop := routeFindsRow.holds Try.pinned (OpenSpec.ofChange routeFindsWrong)

/-- 'plenumlaw24.CutOnce': WHATEVER THE INPUT: true; the input reads as it did. -/
def cutOnceSpec : ChangeSpec := { name := "cutOnce", fn := fun _ => fun
  | [d1, d2, d3, d4, d5, d6] => { results := [.lit (.bool true)], args := [d1, d2, d3, d4, d5, d6] }
  | _ => none }
def cutOnceRow : OpenClaim := { program := "ytoknhjmcoleejaa", sum := "28c13b86e7da40a3f9cd20a2a6e2f5a7ca824eeefb9b8e4784a141aebe09c576", func := "plenum/plenumlaw24.CutOnce", spec := "cutOnce", unfollowed := true, recurses := true, plainKeys := false, apart := false }
def CutOnceSaid : Prop := cutOnceRow.holds Try.pinned (OpenSpec.ofChange cutOnceSpec)

/-- ITS FALSE NEIGHBOUR: 'it returns false'. Refute it at one input. -/
def cutOnceWrong : ChangeSpec := { name := "cutOnce", fn := fun _ => fun
  | [d1, d2, d3, d4, d5, d6] => { results := [.lit (.bool false)], args := [d1, d2, d3, d4, d5, d6] }
  | _ => none }
def CutOnceWrongFalsely : Prop := cutOnceRow.holds Try.pinned (OpenSpec.ofChange cutOnceWrong)

/-- 'plenumlaw24.CutUps': WHATEVER THE INPUT: true; the input reads as it did. -/
def cutUpsSpec : ChangeSpec := { name := "cutUps", fn := fun _ => fun
  | [d1, d2, d3] => { results := [.lit (.bool true)], args := [d1, d2, d3] }
  | _ => none }
def cutUpsRow : OpenClaim := { program := "ytoknhjmcoleejaa", sum := "28c13b86e7da40a3f9cd20a2a6e2f5a7ca824eeefb9b8e4784a141aebe09c576", func := "plenum/plenumlaw24.CutUps", spec := "cutUps", unfollowed := true, recurses := true, plainKeys := false, apart := false }
def CutUpsSaid : Prop := cutUpsRow.holds Try.pinned (OpenSpec.ofChange cutUpsSpec)

/-- ITS FALSE NEIGHBOUR: 'it returns false'. Refute it at one input. -/
def cutUpsWrong : ChangeSpec := { name := "cutUps", fn := fun _ => fun
  | [d1, d2, d3] => { results := [.lit (.bool false)], args := [d1, d2, d3] }
  | _ => none }
def CutUpsWrongFalsely : Prop := cutUpsRow.holds Try.pinned (OpenSpec.ofChange cutUpsWrong)

/-- 'plenumlaw24.CutNeeds': WHATEVER THE INPUT: true; the input reads as it did. -/
def cutNeedsSpec : ChangeSpec := { name := "cutNeeds", fn := fun _ => fun
  | [d] => { results := [.lit (.bool true)], args := [d] }
  | _ => none }
def cutNeedsRow : OpenClaim := { program := "ytoknhjmcoleejaa", sum := "28c13b86e7da40a3f9cd20a2a6e2f5a7ca824eeefb9b8e4784a141aebe09c576", func := "plenum/plenumlaw24.CutNeeds", spec := "cutNeeds", unfollowed := true, recurses := true, plainKeys := false, apart := false }
def CutNeedsSaid : Prop := cutNeedsRow.holds Try.pinned (OpenSpec.ofChange cutNeedsSpec)

/-- ITS FALSE NEIGHBOUR: 'it returns false'. Refute it at one input. -/
def cutNeedsWrong : ChangeSpec := { name := "cutNeeds", fn := fun _ => fun
  | [d] => { results := [.lit (.bool false)], args := [d] }
  | _ => none }
def CutNeedsWrongFalsely : Prop := cutNeedsRow.holds Try.pinned (OpenSpec.ofChange cutNeedsWrong)

/- THE SECOND FORM. 'bulk': how many values and letters a reading holds, each counted each time it is reached (what is shared counts as often as it is met; a slice's spare places count too). A statement '..UptoSaid' is the law's where the arguments, and the package variables that the reading takes, are together of bulk at most 1048576: NARROWER than '..Said'. Prove '..Said' where nothing that the law and all that it calls make is longer than what came in: it says more and counts as full. Else prove '..UptoSaid'. A law counts once. -/
mutual
def uptoBulk {H : Type} : DataW H → Nat
  | .lit (.string bytes) => bytes.length + 1
  | .lit _ => 1
  | .nil => 1
  | .ptr d => uptoBulk d + 1
  | .slice elems spare => uptoBulkAll elems + uptoBulkAll spare + 1
  | .agg parts => uptoBulkAll parts + 1
  | .iface _ d => uptoBulk d + 1
  | .map entries => uptoBulkEntries entries + 1
  | .held _ => 1
def uptoBulkAll {H : Type} : List (DataW H) → Nat
  | [] => 0
  | d :: r => uptoBulk d + uptoBulkAll r
def uptoBulkEntries {H : Type} : List (Lit × DataW H) → Nat
  | [] => 0
  | x :: r => uptoBulkEntry x + uptoBulkEntries r
def uptoBulkEntry {H : Type} : Lit × DataW H → Nat
  | (.string bytes, d) => bytes.length + uptoBulk d + 1
  | (_, d) => uptoBulk d + 1
 end
def uptoSmall : (H : Type) → List (DataW H) → Bool := fun _ ds => decide (uptoBulkAll ds ≤ 1048576)
def OpenSpec.upto (s : _root_.Go.ChangeSpec) : _root_.Go.OpenSpec := { _root_.Go.OpenSpec.ofChange s with cond := some uptoSmall }

/-- 'plenumlaw18.SpfParents', WHERE WHAT IT READS IS OF BULK AT MOST 1048576: true; the input reads as it did. -/
def spfParentsUptoRow : OpenClaim := { program := "ytoknhjmcoleejaa", sum := "28c13b86e7da40a3f9cd20a2a6e2f5a7ca824eeefb9b8e4784a141aebe09c576", func := "plenum/plenumlaw18.SpfParents", spec := "spfParents", plainKeys := false, apart := false, narrowed := true }
def SpfParentsUptoSaid : Prop := spfParentsUptoRow.holds Try.pinned (OpenSpec.upto spfParentsSpec)

/-- 'plenumlaw18.SpfRows', WHERE WHAT IT READS IS OF BULK AT MOST 1048576: true; the input reads as it did. -/
def spfRowsUptoRow : OpenClaim := { program := "ytoknhjmcoleejaa", sum := "28c13b86e7da40a3f9cd20a2a6e2f5a7ca824eeefb9b8e4784a141aebe09c576", func := "plenum/plenumlaw18.SpfRows", spec := "spfRows", plainKeys := false, apart := false, narrowed := true }
def SpfRowsUptoSaid : Prop := spfRowsUptoRow.holds Try.pinned (OpenSpec.upto spfRowsSpec)

/-- 'plenumlaw18.SpfTies', WHERE WHAT IT READS IS OF BULK AT MOST 1048576: true; the input reads as it did. -/
def spfTiesUptoRow : OpenClaim := { program := "ytoknhjmcoleejaa", sum := "28c13b86e7da40a3f9cd20a2a6e2f5a7ca824eeefb9b8e4784a141aebe09c576", func := "plenum/plenumlaw18.SpfTies", spec := "spfTies", plainKeys := false, apart := false, narrowed := true }
def SpfTiesUptoSaid : Prop := spfTiesUptoRow.holds Try.pinned (OpenSpec.upto spfTiesSpec)

/-- 'plenumlaw18.SpfTrees', WHERE WHAT IT READS IS OF BULK AT MOST 1048576: true; the input reads as it did. -/
def spfTreesUptoRow : OpenClaim := { program := "ytoknhjmcoleejaa", sum := "28c13b86e7da40a3f9cd20a2a6e2f5a7ca824eeefb9b8e4784a141aebe09c576", func := "plenum/plenumlaw18.SpfTrees", spec := "spfTrees", unfollowed := true, recurses := true, plainKeys := false, apart := false, narrowed := true }
def SpfTreesUptoSaid : Prop := spfTreesUptoRow.holds Try.pinned (OpenSpec.upto spfTreesSpec)

/-- 'plenumlaw23.CastAll', WHERE WHAT IT READS IS OF BULK AT MOST 1048576: true; the input reads as it did. -/
def castAllUptoRow : OpenClaim := { program := "ytoknhjmcoleejaa", sum := "28c13b86e7da40a3f9cd20a2a6e2f5a7ca824eeefb9b8e4784a141aebe09c576", func := "plenum/plenumlaw23.CastAll", spec := "castAll", unfollowed := true, recurses := true, plainKeys := false, apart := false, narrowed := true }
def CastAllUptoSaid : Prop := castAllUptoRow.holds Try.pinned (OpenSpec.upto castAllSpec)

/-- 'plenumlaw23.CastGraphs', WHERE WHAT IT READS IS OF BULK AT MOST 1048576: true; the input reads as it did. -/
def castGraphsUptoRow : OpenClaim := { program := "ytoknhjmcoleejaa", sum := "28c13b86e7da40a3f9cd20a2a6e2f5a7ca824eeefb9b8e4784a141aebe09c576", func := "plenum/plenumlaw23.CastGraphs", spec := "castGraphs", unfollowed := true, recurses := true, plainKeys := false, apart := false, narrowed := true }
def CastGraphsUptoSaid : Prop := castGraphsUptoRow.holds Try.pinned (OpenSpec.upto castGraphsSpec)

/-- 'plenumlaw23.CastNearest', WHERE WHAT IT READS IS OF BULK AT MOST 1048576: true; the input reads as it did. -/
def castNearestUptoRow : OpenClaim := { program := "ytoknhjmcoleejaa", sum := "28c13b86e7da40a3f9cd20a2a6e2f5a7ca824eeefb9b8e4784a141aebe09c576", func := "plenum/plenumlaw23.CastNearest", spec := "castNearest", unfollowed := true, recurses := true, plainKeys := false, apart := false, narrowed := true }
def CastNearestUptoSaid : Prop := castNearestUptoRow.holds Try.pinned (OpenSpec.upto castNearestSpec)

/-- 'plenumlaw19.RouteGraphs', WHERE WHAT IT READS IS OF BULK AT MOST 1048576: true; the input reads as it did. -/
def routeGraphsUptoRow : OpenClaim := { program := "ytoknhjmcoleejaa", sum := "28c13b86e7da40a3f9cd20a2a6e2f5a7ca824eeefb9b8e4784a141aebe09c576", func := "plenum/plenumlaw19.RouteGraphs", spec := "routeGraphs", unfollowed := true, recurses := true, plainKeys := false, apart := false, narrowed := true }
def RouteGraphsUptoSaid : Prop := routeGraphsUptoRow.holds Try.pinned (OpenSpec.upto routeGraphsSpec)

/-- 'plenumlaw19.RouteHops', WHERE WHAT IT READS IS OF BULK AT MOST 1048576: true; the input reads as it did. -/
def routeHopsUptoRow : OpenClaim := { program := "ytoknhjmcoleejaa", sum := "28c13b86e7da40a3f9cd20a2a6e2f5a7ca824eeefb9b8e4784a141aebe09c576", func := "plenum/plenumlaw19.RouteHops", spec := "routeHops", unfollowed := true, recurses := true, plainKeys := false, apart := false, narrowed := true }
def RouteHopsUptoSaid : Prop := routeHopsUptoRow.holds Try.pinned (OpenSpec.upto routeHopsSpec)

/-- 'plenumlaw19.RouteRow', WHERE WHAT IT READS IS OF BULK AT MOST 1048576: true; the input reads as it did. -/
def routeRowUptoRow : OpenClaim := { program := "ytoknhjmcoleejaa", sum := "28c13b86e7da40a3f9cd20a2a6e2f5a7ca824eeefb9b8e4784a141aebe09c576", func := "plenum/plenumlaw19.RouteRow", spec := "routeRow", unfollowed := true, recurses := true, plainKeys := false, apart := false, narrowed := true }
def RouteRowUptoSaid : Prop := routeRowUptoRow.holds Try.pinned (OpenSpec.upto routeRowSpec)

/-- 'plenumlaw19.RouteAll', WHERE WHAT IT READS IS OF BULK AT MOST 1048576: true; the input reads as it did. -/
def routeAllUptoRow : OpenClaim := { program := "ytoknhjmcoleejaa", sum := "28c13b86e7da40a3f9cd20a2a6e2f5a7ca824eeefb9b8e4784a141aebe09c576", func := "plenum/plenumlaw19.RouteAll", spec := "routeAll", unfollowed := true, recurses := true, plainKeys := false, apart := false, narrowed := true }
def RouteAllUptoSaid : Prop := routeAllUptoRow.holds Try.pinned (OpenSpec.upto routeAllSpec)

/-- 'plenumlaw19.RouteFinds', WHERE WHAT IT READS IS OF BULK AT MOST 1048576: true; the input reads as it did. -/
def routeFindsUptoRow : OpenClaim := { program := "ytoknhjmcoleejaa", sum := "28c13b86e7da40a3f9cd20a2a6e2f5a7ca824eeefb9b8e4784a141aebe09c576", func := "plenum/plenumlaw19.RouteFinds", spec := "routeFinds", unfollowed := true, recurses := true, plainKeys := false, apart := false, narrowed := true }
def RouteFindsUptoSaid : Prop := routeFindsUptoRow.holds Try.pinned (OpenSpec.upto routeFindsSpec)

/-- 'plenumlaw24.CutOnce', WHERE WHAT IT READS IS OF BULK AT MOST 1048576: true; the input reads as it did. -/
def cutOnceUptoRow : OpenClaim := { program := "ytoknhjmcoleejaa", sum := "28c13b86e7da40a3f9cd20a2a6e2f5a7ca824eeefb9b8e4784a141aebe09c576", func := "plenum/plenumlaw24.CutOnce", spec := "cutOnce", unfollowed := true, recurses := true, plainKeys := false, apart := false, narrowed := true }
def CutOnceUptoSaid : Prop := cutOnceUptoRow.holds Try.pinned (OpenSpec.upto cutOnceSpec)

/-- 'plenumlaw24.CutUps', WHERE WHAT IT READS IS OF BULK AT MOST 1048576: true; the input reads as it did. -/
def cutUpsUptoRow : OpenClaim := { program := "ytoknhjmcoleejaa", sum := "28c13b86e7da40a3f9cd20a2a6e2f5a7ca824eeefb9b8e4784a141aebe09c576", func := "plenum/plenumlaw24.CutUps", spec := "cutUps", unfollowed := true, recurses := true, plainKeys := false, apart := false, narrowed := true }
def CutUpsUptoSaid : Prop := cutUpsUptoRow.holds Try.pinned (OpenSpec.upto cutUpsSpec)

/-- 'plenumlaw24.CutNeeds', WHERE WHAT IT READS IS OF BULK AT MOST 1048576: true; the input reads as it did. -/
def cutNeedsUptoRow : OpenClaim := { program := "ytoknhjmcoleejaa", sum := "28c13b86e7da40a3f9cd20a2a6e2f5a7ca824eeefb9b8e4784a141aebe09c576", func := "plenum/plenumlaw24.CutNeeds", spec := "cutNeeds", unfollowed := true, recurses := true, plainKeys := false, apart := false, narrowed := true }
def CutNeedsUptoSaid : Prop := cutNeedsUptoRow.holds Try.pinned (OpenSpec.upto cutNeedsSpec)

end Rows
end Go.Proofs.Ytoknhjmcoleejaa

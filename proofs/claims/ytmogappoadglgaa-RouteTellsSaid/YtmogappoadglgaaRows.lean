/-
  No cell of these rows narrows 'for every input' (looked for: loops, veiled, ifaces, maps, wideKeys, modest, calm, conditions, laid).
  DERIVED. THE GIVEN ROWS OF THIS SEAT. 23 by the template 'for every input the law returns true; each argument reads behind the call as it read before'; 0 by the template 'total and deterministic' (their statements: YtmogappoadglgaaTotals.lean).
  GIVEN WITH THE SEED: the statements are not yours to turn. If you find one false, say at which input.
  Laid BY PROGRAM, IN A SANDBOX (cutbox-rows.mjs): the forced cells as the released guide's own fill.sh prints them over the translation f3a34abcdc14419e… (all of the seat's roots in one cut). By AI agents, Wed Nov 11 2026. No macro, syntax, notation, axiom, sorry.
-/
import Derived.Test.YtmogappoadglgaaChecked
import GoSem.Claim
import GoSem.ClaimJoined
import GoSem.ClaimMapViews
import Derived.JoinedTies
import Derived.KernelRfl
namespace Go.Proofs.Ytmogappoadglgaa
/- THE CELL 'sum', in the pinned program and in every row, IS THE sha256 OF THE DUMP (.gsa) THAT YtmogappoadglgaaProg.lean LOADS. Nothing in Lean hashes anything: it is a label: what it is worth is what the hold of that sum in a sandbox is worth. -/
noncomputable def Try.pinned : Pinned := { name := "ytmogappoadglgaa", sum := "f3a34abcdc14419e34e39f16f3e6008d22ea9dc43375e0dd1987194b5628f95e", checked := Try.checked }
namespace Rows
def none {H : Type} : Left H := { results := [], args := [] }

/-- 'humpyardlaw10.HeapPlays': WHATEVER THE INPUT: true; the input reads as it did. -/
def heapPlaysSpec : ChangeSpec := { name := "heapPlays", fn := fun _ => fun
  | [d1, d2] => { results := [.lit (.bool true)], args := [d1, d2] }
  | _ => none }
def heapPlaysRow : OpenClaim := { program := "ytmogappoadglgaa", sum := "f3a34abcdc14419e34e39f16f3e6008d22ea9dc43375e0dd1987194b5628f95e", func := "humpyard/humpyardlaw10.HeapPlays", spec := "heapPlays", unfollowed := true, recurses := true, plainKeys := false, apart := false }
def HeapPlaysSaid : Prop := heapPlaysRow.holds Try.pinned (OpenSpec.ofChange heapPlaysSpec)

/-- ITS FALSE NEIGHBOUR: 'it returns false'. Refute it at one input. -/
def heapPlaysWrong : ChangeSpec := { name := "heapPlays", fn := fun _ => fun
  | [d1, d2] => { results := [.lit (.bool false)], args := [d1, d2] }
  | _ => none }
def HeapPlaysWrongFalsely : Prop := heapPlaysRow.holds Try.pinned (OpenSpec.ofChange heapPlaysWrong)

/-- 'humpyardlaw10.HeapSorts': WHATEVER THE INPUT: true; the input reads as it did. -/
def heapSortsSpec : ChangeSpec := { name := "heapSorts", fn := fun _ => fun
  | [d] => { results := [.lit (.bool true)], args := [d] }
  | _ => none }
def heapSortsRow : OpenClaim := { program := "ytmogappoadglgaa", sum := "f3a34abcdc14419e34e39f16f3e6008d22ea9dc43375e0dd1987194b5628f95e", func := "humpyard/humpyardlaw10.HeapSorts", spec := "heapSorts", unfollowed := true, recurses := true, plainKeys := false, apart := false }
def HeapSortsSaid : Prop := heapSortsRow.holds Try.pinned (OpenSpec.ofChange heapSortsSpec)

/-- ITS FALSE NEIGHBOUR: 'it returns false'. Refute it at one input. -/
def heapSortsWrong : ChangeSpec := { name := "heapSorts", fn := fun _ => fun
  | [d] => { results := [.lit (.bool false)], args := [d] }
  | _ => none }
def HeapSortsWrongFalsely : Prop := heapSortsRow.holds Try.pinned (OpenSpec.ofChange heapSortsWrong)

/-- 'humpyardlaw10.HeapLeast': WHATEVER THE INPUT: true; the input reads as it did. -/
def heapLeastSpec : ChangeSpec := { name := "heapLeast", fn := fun _ => fun
  | [d1, d2] => { results := [.lit (.bool true)], args := [d1, d2] }
  | _ => none }
def heapLeastRow : OpenClaim := { program := "ytmogappoadglgaa", sum := "f3a34abcdc14419e34e39f16f3e6008d22ea9dc43375e0dd1987194b5628f95e", func := "humpyard/humpyardlaw10.HeapLeast", spec := "heapLeast", unfollowed := true, recurses := true, plainKeys := false, apart := false }
def HeapLeastSaid : Prop := heapLeastRow.holds Try.pinned (OpenSpec.ofChange heapLeastSpec)

/-- ITS FALSE NEIGHBOUR: 'it returns false'. Refute it at one input. -/
def heapLeastWrong : ChangeSpec := { name := "heapLeast", fn := fun _ => fun
  | [d1, d2] => { results := [.lit (.bool false)], args := [d1, d2] }
  | _ => none }
def HeapLeastWrongFalsely : Prop := heapLeastRow.holds Try.pinned (OpenSpec.ofChange heapLeastWrong)

/-- 'humpyardlaw10.HeapApart': WHATEVER THE INPUT: true; the input reads as it did. -/
def heapApartSpec : ChangeSpec := { name := "heapApart", fn := fun _ => fun
  | [d1, d2] => { results := [.lit (.bool true)], args := [d1, d2] }
  | _ => none }
def heapApartRow : OpenClaim := { program := "ytmogappoadglgaa", sum := "f3a34abcdc14419e34e39f16f3e6008d22ea9dc43375e0dd1987194b5628f95e", func := "humpyard/humpyardlaw10.HeapApart", spec := "heapApart", unfollowed := true, recurses := true, plainKeys := false, apart := false }
def HeapApartSaid : Prop := heapApartRow.holds Try.pinned (OpenSpec.ofChange heapApartSpec)

/-- ITS FALSE NEIGHBOUR: 'it returns false'. Refute it at one input. -/
def heapApartWrong : ChangeSpec := { name := "heapApart", fn := fun _ => fun
  | [d1, d2] => { results := [.lit (.bool false)], args := [d1, d2] }
  | _ => none }
def HeapApartWrongFalsely : Prop := heapApartRow.holds Try.pinned (OpenSpec.ofChange heapApartWrong)

/-- 'humpyardlaw10.HeapBack': WHATEVER THE INPUT: true; the input reads as it did. -/
def heapBackSpec : ChangeSpec := { name := "heapBack", fn := fun _ => fun
  | [d1, d2] => { results := [.lit (.bool true)], args := [d1, d2] }
  | _ => none }
def heapBackRow : OpenClaim := { program := "ytmogappoadglgaa", sum := "f3a34abcdc14419e34e39f16f3e6008d22ea9dc43375e0dd1987194b5628f95e", func := "humpyard/humpyardlaw10.HeapBack", spec := "heapBack", unfollowed := true, recurses := true, plainKeys := false, apart := false }
def HeapBackSaid : Prop := heapBackRow.holds Try.pinned (OpenSpec.ofChange heapBackSpec)

/-- ITS FALSE NEIGHBOUR: 'it returns false'. Refute it at one input. -/
def heapBackWrong : ChangeSpec := { name := "heapBack", fn := fun _ => fun
  | [d1, d2] => { results := [.lit (.bool false)], args := [d1, d2] }
  | _ => none }
def HeapBackWrongFalsely : Prop := heapBackRow.holds Try.pinned (OpenSpec.ofChange heapBackWrong)

/-- 'humpyardlaw11.LayoutTells': WHATEVER THE INPUT: true; the input reads as it did. -/
def layoutTellsSpec : ChangeSpec := { name := "layoutTells", fn := fun _ => fun
  | [d1, d2, d3, d4, d5, d6] => { results := [.lit (.bool true)], args := [d1, d2, d3, d4, d5, d6] }
  | _ => none }
def layoutTellsRow : OpenClaim := { program := "ytmogappoadglgaa", sum := "f3a34abcdc14419e34e39f16f3e6008d22ea9dc43375e0dd1987194b5628f95e", func := "humpyard/humpyardlaw11.LayoutTells", spec := "layoutTells", unfollowed := true, recurses := true, plainKeys := false, apart := false }
def LayoutTellsSaid : Prop := layoutTellsRow.holds Try.pinned (OpenSpec.ofChange layoutTellsSpec)

/-- ITS FALSE NEIGHBOUR: 'it returns false'. Refute it at one input. -/
def layoutTellsWrong : ChangeSpec := { name := "layoutTells", fn := fun _ => fun
  | [d1, d2, d3, d4, d5, d6] => { results := [.lit (.bool false)], args := [d1, d2, d3, d4, d5, d6] }
  | _ => none }
def LayoutTellsWrongFalsely : Prop := layoutTellsRow.holds Try.pinned (OpenSpec.ofChange layoutTellsWrong)

/-- 'humpyardlaw11.LayoutClosed': WHATEVER THE INPUT: true; the input reads as it did. -/
def layoutClosedSpec : ChangeSpec := { name := "layoutClosed", fn := fun _ => fun
  | [d1, d2, d3, d4] => { results := [.lit (.bool true)], args := [d1, d2, d3, d4] }
  | _ => none }
def layoutClosedRow : OpenClaim := { program := "ytmogappoadglgaa", sum := "f3a34abcdc14419e34e39f16f3e6008d22ea9dc43375e0dd1987194b5628f95e", func := "humpyard/humpyardlaw11.LayoutClosed", spec := "layoutClosed", unfollowed := true, recurses := true, plainKeys := false, apart := false }
def LayoutClosedSaid : Prop := layoutClosedRow.holds Try.pinned (OpenSpec.ofChange layoutClosedSpec)

/-- ITS FALSE NEIGHBOUR: 'it returns false'. Refute it at one input. -/
def layoutClosedWrong : ChangeSpec := { name := "layoutClosed", fn := fun _ => fun
  | [d1, d2, d3, d4] => { results := [.lit (.bool false)], args := [d1, d2, d3, d4] }
  | _ => none }
def LayoutClosedWrongFalsely : Prop := layoutClosedRow.holds Try.pinned (OpenSpec.ofChange layoutClosedWrong)

/-- 'humpyardlaw11.LayoutMore': WHATEVER THE INPUT: true; the input reads as it did. -/
def layoutMoreSpec : ChangeSpec := { name := "layoutMore", fn := fun _ => fun
  | [d1, d2, d3, d4, d5] => { results := [.lit (.bool true)], args := [d1, d2, d3, d4, d5] }
  | _ => none }
def layoutMoreRow : OpenClaim := { program := "ytmogappoadglgaa", sum := "f3a34abcdc14419e34e39f16f3e6008d22ea9dc43375e0dd1987194b5628f95e", func := "humpyard/humpyardlaw11.LayoutMore", spec := "layoutMore", unfollowed := true, recurses := true, plainKeys := false, apart := false }
def LayoutMoreSaid : Prop := layoutMoreRow.holds Try.pinned (OpenSpec.ofChange layoutMoreSpec)

/-- ITS FALSE NEIGHBOUR: 'it returns false'. Refute it at one input. -/
def layoutMoreWrong : ChangeSpec := { name := "layoutMore", fn := fun _ => fun
  | [d1, d2, d3, d4, d5] => { results := [.lit (.bool false)], args := [d1, d2, d3, d4, d5] }
  | _ => none }
def LayoutMoreWrongFalsely : Prop := layoutMoreRow.holds Try.pinned (OpenSpec.ofChange layoutMoreWrong)

/-- 'humpyardlaw11.LayoutStrong': WHATEVER THE INPUT: true; the input reads as it did. -/
def layoutStrongSpec : ChangeSpec := { name := "layoutStrong", fn := fun _ => fun
  | [d1, d2] => { results := [.lit (.bool true)], args := [d1, d2] }
  | _ => none }
def layoutStrongRow : OpenClaim := { program := "ytmogappoadglgaa", sum := "f3a34abcdc14419e34e39f16f3e6008d22ea9dc43375e0dd1987194b5628f95e", func := "humpyard/humpyardlaw11.LayoutStrong", spec := "layoutStrong", unfollowed := true, recurses := true, plainKeys := false, apart := false }
def LayoutStrongSaid : Prop := layoutStrongRow.holds Try.pinned (OpenSpec.ofChange layoutStrongSpec)

/-- ITS FALSE NEIGHBOUR: 'it returns false'. Refute it at one input. -/
def layoutStrongWrong : ChangeSpec := { name := "layoutStrong", fn := fun _ => fun
  | [d1, d2] => { results := [.lit (.bool false)], args := [d1, d2] }
  | _ => none }
def LayoutStrongWrongFalsely : Prop := layoutStrongRow.holds Try.pinned (OpenSpec.ofChange layoutStrongWrong)

/-- 'humpyardlaw11.LayoutEdges': WHATEVER THE INPUT: true; the input reads as it did. -/
def layoutEdgesSpec : ChangeSpec := { name := "layoutEdges", fn := fun _ => fun
  | [d1, d2] => { results := [.lit (.bool true)], args := [d1, d2] }
  | _ => none }
def layoutEdgesRow : OpenClaim := { program := "ytmogappoadglgaa", sum := "f3a34abcdc14419e34e39f16f3e6008d22ea9dc43375e0dd1987194b5628f95e", func := "humpyard/humpyardlaw11.LayoutEdges", spec := "layoutEdges", unfollowed := true, recurses := true, plainKeys := false, apart := false }
def LayoutEdgesSaid : Prop := layoutEdgesRow.holds Try.pinned (OpenSpec.ofChange layoutEdgesSpec)

/-- ITS FALSE NEIGHBOUR: 'it returns false'. Refute it at one input. -/
def layoutEdgesWrong : ChangeSpec := { name := "layoutEdges", fn := fun _ => fun
  | [d1, d2] => { results := [.lit (.bool false)], args := [d1, d2] }
  | _ => none }
def LayoutEdgesWrongFalsely : Prop := layoutEdgesRow.holds Try.pinned (OpenSpec.ofChange layoutEdgesWrong)

/-- 'humpyardlaw11.LayoutWrong': WHATEVER THE INPUT: true; the input reads as it did. -/
def layoutWrongSpec : ChangeSpec := { name := "layoutWrong", fn := fun _ => fun
  | [d1, d2, d3] => { results := [.lit (.bool true)], args := [d1, d2, d3] }
  | _ => none }
def layoutWrongRow : OpenClaim := { program := "ytmogappoadglgaa", sum := "f3a34abcdc14419e34e39f16f3e6008d22ea9dc43375e0dd1987194b5628f95e", func := "humpyard/humpyardlaw11.LayoutWrong", spec := "layoutWrong", unfollowed := true, recurses := true, plainKeys := false, apart := false }
def LayoutWrongSaid : Prop := layoutWrongRow.holds Try.pinned (OpenSpec.ofChange layoutWrongSpec)

/-- ITS FALSE NEIGHBOUR: 'it returns false'. Refute it at one input. -/
def layoutWrongWrong : ChangeSpec := { name := "layoutWrong", fn := fun _ => fun
  | [d1, d2, d3] => { results := [.lit (.bool false)], args := [d1, d2, d3] }
  | _ => none }
def LayoutWrongWrongFalsely : Prop := layoutWrongRow.holds Try.pinned (OpenSpec.ofChange layoutWrongWrong)

/-- 'humpyardlaw11.LayoutTurned': WHATEVER THE INPUT: true; the input reads as it did. -/
def layoutTurnedSpec : ChangeSpec := { name := "layoutTurned", fn := fun _ => fun
  | [d1, d2, d3, d4] => { results := [.lit (.bool true)], args := [d1, d2, d3, d4] }
  | _ => none }
def layoutTurnedRow : OpenClaim := { program := "ytmogappoadglgaa", sum := "f3a34abcdc14419e34e39f16f3e6008d22ea9dc43375e0dd1987194b5628f95e", func := "humpyard/humpyardlaw11.LayoutTurned", spec := "layoutTurned", unfollowed := true, recurses := true, plainKeys := false, apart := false }
def LayoutTurnedSaid : Prop := layoutTurnedRow.holds Try.pinned (OpenSpec.ofChange layoutTurnedSpec)

/-- ITS FALSE NEIGHBOUR: 'it returns false'. Refute it at one input. -/
def layoutTurnedWrong : ChangeSpec := { name := "layoutTurned", fn := fun _ => fun
  | [d1, d2, d3, d4] => { results := [.lit (.bool false)], args := [d1, d2, d3, d4] }
  | _ => none }
def LayoutTurnedWrongFalsely : Prop := layoutTurnedRow.holds Try.pinned (OpenSpec.ofChange layoutTurnedWrong)

/-- 'humpyardlaw12.RouteFirst': WHATEVER THE INPUT: true; the input reads as it did. -/
def routeFirstSpec : ChangeSpec := { name := "routeFirst", fn := fun _ => fun
  | [d1, d2, d3, d4, d5] => { results := [.lit (.bool true)], args := [d1, d2, d3, d4, d5] }
  | _ => none }
def routeFirstRow : OpenClaim := { program := "ytmogappoadglgaa", sum := "f3a34abcdc14419e34e39f16f3e6008d22ea9dc43375e0dd1987194b5628f95e", func := "humpyard/humpyardlaw12.RouteFirst", spec := "routeFirst", unfollowed := true, recurses := true, plainKeys := false, apart := false }
def RouteFirstSaid : Prop := routeFirstRow.holds Try.pinned (OpenSpec.ofChange routeFirstSpec)

/-- ITS FALSE NEIGHBOUR: 'it returns false'. Refute it at one input. -/
def routeFirstWrong : ChangeSpec := { name := "routeFirst", fn := fun _ => fun
  | [d1, d2, d3, d4, d5] => { results := [.lit (.bool false)], args := [d1, d2, d3, d4, d5] }
  | _ => none }
def RouteFirstWrongFalsely : Prop := routeFirstRow.holds Try.pinned (OpenSpec.ofChange routeFirstWrong)

/-- 'humpyardlaw12.RouteMore': WHATEVER THE INPUT: true; the input reads as it did. -/
def routeMoreSpec : ChangeSpec := { name := "routeMore", fn := fun _ => fun
  | [d1, d2, d3, d4, d5, d6] => { results := [.lit (.bool true)], args := [d1, d2, d3, d4, d5, d6] }
  | _ => none }
def routeMoreRow : OpenClaim := { program := "ytmogappoadglgaa", sum := "f3a34abcdc14419e34e39f16f3e6008d22ea9dc43375e0dd1987194b5628f95e", func := "humpyard/humpyardlaw12.RouteMore", spec := "routeMore", unfollowed := true, recurses := true, plainKeys := false, apart := false }
def RouteMoreSaid : Prop := routeMoreRow.holds Try.pinned (OpenSpec.ofChange routeMoreSpec)

/-- ITS FALSE NEIGHBOUR: 'it returns false'. Refute it at one input. -/
def routeMoreWrong : ChangeSpec := { name := "routeMore", fn := fun _ => fun
  | [d1, d2, d3, d4, d5, d6] => { results := [.lit (.bool false)], args := [d1, d2, d3, d4, d5, d6] }
  | _ => none }
def RouteMoreWrongFalsely : Prop := routeMoreRow.holds Try.pinned (OpenSpec.ofChange routeMoreWrong)

/-- 'humpyardlaw12.RouteScaled': WHATEVER THE INPUT: true; the input reads as it did. -/
def routeScaledSpec : ChangeSpec := { name := "routeScaled", fn := fun _ => fun
  | [d1, d2, d3, d4, d5, d6] => { results := [.lit (.bool true)], args := [d1, d2, d3, d4, d5, d6] }
  | _ => none }
def routeScaledRow : OpenClaim := { program := "ytmogappoadglgaa", sum := "f3a34abcdc14419e34e39f16f3e6008d22ea9dc43375e0dd1987194b5628f95e", func := "humpyard/humpyardlaw12.RouteScaled", spec := "routeScaled", unfollowed := true, recurses := true, plainKeys := false, apart := false }
def RouteScaledSaid : Prop := routeScaledRow.holds Try.pinned (OpenSpec.ofChange routeScaledSpec)

/-- ITS FALSE NEIGHBOUR: 'it returns false'. Refute it at one input. -/
def routeScaledWrong : ChangeSpec := { name := "routeScaled", fn := fun _ => fun
  | [d1, d2, d3, d4, d5, d6] => { results := [.lit (.bool false)], args := [d1, d2, d3, d4, d5, d6] }
  | _ => none }
def RouteScaledWrongFalsely : Prop := routeScaledRow.holds Try.pinned (OpenSpec.ofChange routeScaledWrong)

/-- 'humpyardlaw12.RouteLeast': WHATEVER THE INPUT: true; the input reads as it did. -/
def routeLeastSpec : ChangeSpec := { name := "routeLeast", fn := fun _ => fun
  | [d1, d2, d3, d4, d5] => { results := [.lit (.bool true)], args := [d1, d2, d3, d4, d5] }
  | _ => none }
def routeLeastRow : OpenClaim := { program := "ytmogappoadglgaa", sum := "f3a34abcdc14419e34e39f16f3e6008d22ea9dc43375e0dd1987194b5628f95e", func := "humpyard/humpyardlaw12.RouteLeast", spec := "routeLeast", unfollowed := true, recurses := true, plainKeys := false, apart := false }
def RouteLeastSaid : Prop := routeLeastRow.holds Try.pinned (OpenSpec.ofChange routeLeastSpec)

/-- ITS FALSE NEIGHBOUR: 'it returns false'. Refute it at one input. -/
def routeLeastWrong : ChangeSpec := { name := "routeLeast", fn := fun _ => fun
  | [d1, d2, d3, d4, d5] => { results := [.lit (.bool false)], args := [d1, d2, d3, d4, d5] }
  | _ => none }
def RouteLeastWrongFalsely : Prop := routeLeastRow.holds Try.pinned (OpenSpec.ofChange routeLeastWrong)

/-- 'humpyardlaw12.RouteTells': WHATEVER THE INPUT: true; the input reads as it did. -/
def routeTellsSpec : ChangeSpec := { name := "routeTells", fn := fun _ => fun
  | [d1, d2, d3, d4, d5, d6] => { results := [.lit (.bool true)], args := [d1, d2, d3, d4, d5, d6] }
  | _ => none }
def routeTellsRow : OpenClaim := { program := "ytmogappoadglgaa", sum := "f3a34abcdc14419e34e39f16f3e6008d22ea9dc43375e0dd1987194b5628f95e", func := "humpyard/humpyardlaw12.RouteTells", spec := "routeTells", unfollowed := true, recurses := true, plainKeys := false, apart := false }
def RouteTellsSaid : Prop := routeTellsRow.holds Try.pinned (OpenSpec.ofChange routeTellsSpec)

/-- ITS FALSE NEIGHBOUR: 'it returns false'. Refute it at one input. -/
def routeTellsWrong : ChangeSpec := { name := "routeTells", fn := fun _ => fun
  | [d1, d2, d3, d4, d5, d6] => { results := [.lit (.bool false)], args := [d1, d2, d3, d4, d5, d6] }
  | _ => none }
def RouteTellsWrongFalsely : Prop := routeTellsRow.holds Try.pinned (OpenSpec.ofChange routeTellsWrong)

/-- 'humpyardlaw12.RouteTours': WHATEVER THE INPUT: true; the input reads as it did. -/
def routeToursSpec : ChangeSpec := { name := "routeTours", fn := fun _ => fun
  | [d1, d2, d3, d4] => { results := [.lit (.bool true)], args := [d1, d2, d3, d4] }
  | _ => none }
def routeToursRow : OpenClaim := { program := "ytmogappoadglgaa", sum := "f3a34abcdc14419e34e39f16f3e6008d22ea9dc43375e0dd1987194b5628f95e", func := "humpyard/humpyardlaw12.RouteTours", spec := "routeTours", unfollowed := true, recurses := true, plainKeys := false, apart := false }
def RouteToursSaid : Prop := routeToursRow.holds Try.pinned (OpenSpec.ofChange routeToursSpec)

/-- ITS FALSE NEIGHBOUR: 'it returns false'. Refute it at one input. -/
def routeToursWrong : ChangeSpec := { name := "routeTours", fn := fun _ => fun
  | [d1, d2, d3, d4] => { results := [.lit (.bool false)], args := [d1, d2, d3, d4] }
  | _ => none }
def RouteToursWrongFalsely : Prop := routeToursRow.holds Try.pinned (OpenSpec.ofChange routeToursWrong)

/-- 'humpyardlaw14.TablePlays': WHATEVER THE INPUT: true; the input reads as it did. -/
def tablePlaysSpec : ChangeSpec := { name := "tablePlays", fn := fun _ => fun
  | [d1, d2, d3] => { results := [.lit (.bool true)], args := [d1, d2, d3] }
  | _ => none }
def tablePlaysRow : OpenClaim := { program := "ytmogappoadglgaa", sum := "f3a34abcdc14419e34e39f16f3e6008d22ea9dc43375e0dd1987194b5628f95e", func := "humpyard/humpyardlaw14.TablePlays", spec := "tablePlays", unfollowed := true, recurses := true, plainKeys := false, apart := false }
def TablePlaysSaid : Prop := tablePlaysRow.holds Try.pinned (OpenSpec.ofChange tablePlaysSpec)

/-- ITS FALSE NEIGHBOUR: 'it returns false'. Refute it at one input. -/
def tablePlaysWrong : ChangeSpec := { name := "tablePlays", fn := fun _ => fun
  | [d1, d2, d3] => { results := [.lit (.bool false)], args := [d1, d2, d3] }
  | _ => none }
def TablePlaysWrongFalsely : Prop := tablePlaysRow.holds Try.pinned (OpenSpec.ofChange tablePlaysWrong)

/-- 'humpyardlaw14.TableApart': WHATEVER THE INPUT: true; the input reads as it did. -/
def tableApartSpec : ChangeSpec := { name := "tableApart", fn := fun _ => fun
  | [d] => { results := [.lit (.bool true)], args := [d] }
  | _ => none }
def tableApartRow : OpenClaim := { program := "ytmogappoadglgaa", sum := "f3a34abcdc14419e34e39f16f3e6008d22ea9dc43375e0dd1987194b5628f95e", func := "humpyard/humpyardlaw14.TableApart", spec := "tableApart", unfollowed := true, recurses := true, plainKeys := false, apart := false }
def TableApartSaid : Prop := tableApartRow.holds Try.pinned (OpenSpec.ofChange tableApartSpec)

/-- ITS FALSE NEIGHBOUR: 'it returns false'. Refute it at one input. -/
def tableApartWrong : ChangeSpec := { name := "tableApart", fn := fun _ => fun
  | [d] => { results := [.lit (.bool false)], args := [d] }
  | _ => none }
def TableApartWrongFalsely : Prop := tableApartRow.holds Try.pinned (OpenSpec.ofChange tableApartWrong)

/-- 'humpyardlaw14.TableFails': WHATEVER THE INPUT: true; the input reads as it did. -/
def tableFailsSpec : ChangeSpec := { name := "tableFails", fn := fun _ => fun
  | [d1, d2, d3] => { results := [.lit (.bool true)], args := [d1, d2, d3] }
  | _ => none }
def tableFailsRow : OpenClaim := { program := "ytmogappoadglgaa", sum := "f3a34abcdc14419e34e39f16f3e6008d22ea9dc43375e0dd1987194b5628f95e", func := "humpyard/humpyardlaw14.TableFails", spec := "tableFails", unfollowed := true, recurses := true, plainKeys := false, apart := false }
def TableFailsSaid : Prop := tableFailsRow.holds Try.pinned (OpenSpec.ofChange tableFailsSpec)

/-- ITS FALSE NEIGHBOUR: 'it returns false'. Refute it at one input. -/
def tableFailsWrong : ChangeSpec := { name := "tableFails", fn := fun _ => fun
  | [d1, d2, d3] => { results := [.lit (.bool false)], args := [d1, d2, d3] }
  | _ => none }
def TableFailsWrongFalsely : Prop := tableFailsRow.holds Try.pinned (OpenSpec.ofChange tableFailsWrong)

/-- 'humpyardlaw14.TableBack': WHATEVER THE INPUT: true; the input reads as it did. -/
def tableBackSpec : ChangeSpec := { name := "tableBack", fn := fun _ => fun
  | [d1, d2, d3] => { results := [.lit (.bool true)], args := [d1, d2, d3] }
  | _ => none }
def tableBackRow : OpenClaim := { program := "ytmogappoadglgaa", sum := "f3a34abcdc14419e34e39f16f3e6008d22ea9dc43375e0dd1987194b5628f95e", func := "humpyard/humpyardlaw14.TableBack", spec := "tableBack", unfollowed := true, recurses := true, plainKeys := false, apart := false }
def TableBackSaid : Prop := tableBackRow.holds Try.pinned (OpenSpec.ofChange tableBackSpec)

/-- ITS FALSE NEIGHBOUR: 'it returns false'. Refute it at one input. -/
def tableBackWrong : ChangeSpec := { name := "tableBack", fn := fun _ => fun
  | [d1, d2, d3] => { results := [.lit (.bool false)], args := [d1, d2, d3] }
  | _ => none }
def TableBackWrongFalsely : Prop := tableBackRow.holds Try.pinned (OpenSpec.ofChange tableBackWrong)

/-- 'humpyardlaw14.TableAgain': WHATEVER THE INPUT: true; the input reads as it did. -/
def tableAgainSpec : ChangeSpec := { name := "tableAgain", fn := fun _ => fun
  | [d1, d2] => { results := [.lit (.bool true)], args := [d1, d2] }
  | _ => none }
def tableAgainRow : OpenClaim := { program := "ytmogappoadglgaa", sum := "f3a34abcdc14419e34e39f16f3e6008d22ea9dc43375e0dd1987194b5628f95e", func := "humpyard/humpyardlaw14.TableAgain", spec := "tableAgain", unfollowed := true, recurses := true, plainKeys := false, apart := false }
def TableAgainSaid : Prop := tableAgainRow.holds Try.pinned (OpenSpec.ofChange tableAgainSpec)

/-- ITS FALSE NEIGHBOUR: 'it returns false'. Refute it at one input. -/
def tableAgainWrong : ChangeSpec := { name := "tableAgain", fn := fun _ => fun
  | [d1, d2] => { results := [.lit (.bool false)], args := [d1, d2] }
  | _ => none }
def TableAgainWrongFalsely : Prop := tableAgainRow.holds Try.pinned (OpenSpec.ofChange tableAgainWrong)

/- THE SECOND FORM. 'bulk': how many values and letters a reading holds, each counted each time it is reached (what is shared counts as often as it is met; a slice's spare places count too). A statement '..UptoSaid' is the law's where the arguments, and the package variables that the reading takes, are together of bulk at most 1048576: NARROWER than '..Said'. Prove '..Said' where nothing that the law and all that it calls make is longer than what came in: it says more and counts as full. Else prove '..UptoSaid'. A law counts once. -/
mutual
def uptoBulk {H : Type} : DataW H → Nat
  | .lit (.string bytes) => bytes.length + 1
  | .lit _ => 1
  | .nil => 1
  | .ptr d => uptoBulk d + 1
  | .slice elems spare => uptoBulkAll elems + uptoBulkAll spare + 1
  | .agg parts => uptoBulkAll parts + 1
  | .iface _ d => uptoBulk d + 1
  | .map entries => uptoBulkEntries entries + 1
  | .held _ => 1
def uptoBulkAll {H : Type} : List (DataW H) → Nat
  | [] => 0
  | d :: r => uptoBulk d + uptoBulkAll r
def uptoBulkEntries {H : Type} : List (Lit × DataW H) → Nat
  | [] => 0
  | x :: r => uptoBulkEntry x + uptoBulkEntries r
def uptoBulkEntry {H : Type} : Lit × DataW H → Nat
  | (.string bytes, d) => bytes.length + uptoBulk d + 1
  | (_, d) => uptoBulk d + 1
 end
def uptoSmall : (H : Type) → List (DataW H) → Bool := fun _ ds => decide (uptoBulkAll ds ≤ 1048576)
def OpenSpec.upto (s : _root_.Go.ChangeSpec) : _root_.Go.OpenSpec := { _root_.Go.OpenSpec.ofChange s with cond := some uptoSmall }

/-- 'humpyardlaw10.HeapPlays', WHERE WHAT IT READS IS OF BULK AT MOST 1048576: true; the input reads as it did. -/
def heapPlaysUptoRow : OpenClaim := { program := "ytmogappoadglgaa", sum := "f3a34abcdc14419e34e39f16f3e6008d22ea9dc43375e0dd1987194b5628f95e", func := "humpyard/humpyardlaw10.HeapPlays", spec := "heapPlays", unfollowed := true, recurses := true, plainKeys := false, apart := false, narrowed := true }
def HeapPlaysUptoSaid : Prop := heapPlaysUptoRow.holds Try.pinned (OpenSpec.upto heapPlaysSpec)

/-- 'humpyardlaw10.HeapSorts', WHERE WHAT IT READS IS OF BULK AT MOST 1048576: true; the input reads as it did. -/
def heapSortsUptoRow : OpenClaim := { program := "ytmogappoadglgaa", sum := "f3a34abcdc14419e34e39f16f3e6008d22ea9dc43375e0dd1987194b5628f95e", func := "humpyard/humpyardlaw10.HeapSorts", spec := "heapSorts", unfollowed := true, recurses := true, plainKeys := false, apart := false, narrowed := true }
def HeapSortsUptoSaid : Prop := heapSortsUptoRow.holds Try.pinned (OpenSpec.upto heapSortsSpec)

/-- 'humpyardlaw10.HeapLeast', WHERE WHAT IT READS IS OF BULK AT MOST 1048576: true; the input reads as it did. -/
def heapLeastUptoRow : OpenClaim := { program := "ytmogappoadglgaa", sum := "f3a34abcdc14419e34e39f16f3e6008d22ea9dc43375e0dd1987194b5628f95e", func := "humpyard/humpyardlaw10.HeapLeast", spec := "heapLeast", unfollowed := true, recurses := true, plainKeys := false, apart := false, narrowed := true }
def HeapLeastUptoSaid : Prop := heapLeastUptoRow.holds Try.pinned (OpenSpec.upto heapLeastSpec)

/-- 'humpyardlaw10.HeapApart', WHERE WHAT IT READS IS OF BULK AT MOST 1048576: true; the input reads as it did. -/
def heapApartUptoRow : OpenClaim := { program := "ytmogappoadglgaa", sum := "f3a34abcdc14419e34e39f16f3e6008d22ea9dc43375e0dd1987194b5628f95e", func := "humpyard/humpyardlaw10.HeapApart", spec := "heapApart", unfollowed := true, recurses := true, plainKeys := false, apart := false, narrowed := true }
def HeapApartUptoSaid : Prop := heapApartUptoRow.holds Try.pinned (OpenSpec.upto heapApartSpec)

/-- 'humpyardlaw10.HeapBack', WHERE WHAT IT READS IS OF BULK AT MOST 1048576: true; the input reads as it did. -/
def heapBackUptoRow : OpenClaim := { program := "ytmogappoadglgaa", sum := "f3a34abcdc14419e34e39f16f3e6008d22ea9dc43375e0dd1987194b5628f95e", func := "humpyard/humpyardlaw10.HeapBack", spec := "heapBack", unfollowed := true, recurses := true, plainKeys := false, apart := false, narrowed := true }
def HeapBackUptoSaid : Prop := heapBackUptoRow.holds Try.pinned (OpenSpec.upto heapBackSpec)

/-- 'humpyardlaw11.LayoutTells', WHERE WHAT IT READS IS OF BULK AT MOST 1048576: true; the input reads as it did. -/
def layoutTellsUptoRow : OpenClaim := { program := "ytmogappoadglgaa", sum := "f3a34abcdc14419e34e39f16f3e6008d22ea9dc43375e0dd1987194b5628f95e", func := "humpyard/humpyardlaw11.LayoutTells", spec := "layoutTells", unfollowed := true, recurses := true, plainKeys := false, apart := false, narrowed := true }
def LayoutTellsUptoSaid : Prop := layoutTellsUptoRow.holds Try.pinned (OpenSpec.upto layoutTellsSpec)

/-- 'humpyardlaw11.LayoutClosed', WHERE WHAT IT READS IS OF BULK AT MOST 1048576: true; the input reads as it did. -/
def layoutClosedUptoRow : OpenClaim := { program := "ytmogappoadglgaa", sum := "f3a34abcdc14419e34e39f16f3e6008d22ea9dc43375e0dd1987194b5628f95e", func := "humpyard/humpyardlaw11.LayoutClosed", spec := "layoutClosed", unfollowed := true, recurses := true, plainKeys := false, apart := false, narrowed := true }
def LayoutClosedUptoSaid : Prop := layoutClosedUptoRow.holds Try.pinned (OpenSpec.upto layoutClosedSpec)

/-- 'humpyardlaw11.LayoutMore', WHERE WHAT IT READS IS OF BULK AT MOST 1048576: true; the input reads as it did. -/
def layoutMoreUptoRow : OpenClaim := { program := "ytmogappoadglgaa", sum := "f3a34abcdc14419e34e39f16f3e6008d22ea9dc43375e0dd1987194b5628f95e", func := "humpyard/humpyardlaw11.LayoutMore", spec := "layoutMore", unfollowed := true, recurses := true, plainKeys := false, apart := false, narrowed := true }
def LayoutMoreUptoSaid : Prop := layoutMoreUptoRow.holds Try.pinned (OpenSpec.upto layoutMoreSpec)

/-- 'humpyardlaw11.LayoutStrong', WHERE WHAT IT READS IS OF BULK AT MOST 1048576: true; the input reads as it did. -/
def layoutStrongUptoRow : OpenClaim := { program := "ytmogappoadglgaa", sum := "f3a34abcdc14419e34e39f16f3e6008d22ea9dc43375e0dd1987194b5628f95e", func := "humpyard/humpyardlaw11.LayoutStrong", spec := "layoutStrong", unfollowed := true, recurses := true, plainKeys := false, apart := false, narrowed := true }
def LayoutStrongUptoSaid : Prop := layoutStrongUptoRow.holds Try.pinned (OpenSpec.upto layoutStrongSpec)

/-- 'humpyardlaw11.LayoutEdges', WHERE WHAT IT READS IS OF BULK AT MOST 1048576: true; the input reads as it did. -/
def layoutEdgesUptoRow : OpenClaim := { program := "ytmogappoadglgaa", sum := "f3a34abcdc14419e34e39f16f3e6008d22ea9dc43375e0dd1987194b5628f95e", func := "humpyard/humpyardlaw11.LayoutEdges", spec := "layoutEdges", unfollowed := true, recurses := true, plainKeys := false, apart := false, narrowed := true }
def LayoutEdgesUptoSaid : Prop := layoutEdgesUptoRow.holds Try.pinned (OpenSpec.upto layoutEdgesSpec)

/-- 'humpyardlaw11.LayoutWrong', WHERE WHAT IT READS IS OF BULK AT MOST 1048576: true; the input reads as it did. -/
def layoutWrongUptoRow : OpenClaim := { program := "ytmogappoadglgaa", sum := "f3a34abcdc14419e34e39f16f3e6008d22ea9dc43375e0dd1987194b5628f95e", func := "humpyard/humpyardlaw11.LayoutWrong", spec := "layoutWrong", unfollowed := true, recurses := true, plainKeys := false, apart := false, narrowed := true }
def LayoutWrongUptoSaid : Prop := layoutWrongUptoRow.holds Try.pinned (OpenSpec.upto layoutWrongSpec)

/-- 'humpyardlaw11.LayoutTurned', WHERE WHAT IT READS IS OF BULK AT MOST 1048576: true; the input reads as it did. -/
def layoutTurnedUptoRow : OpenClaim := { program := "ytmogappoadglgaa", sum := "f3a34abcdc14419e34e39f16f3e6008d22ea9dc43375e0dd1987194b5628f95e", func := "humpyard/humpyardlaw11.LayoutTurned", spec := "layoutTurned", unfollowed := true, recurses := true, plainKeys := false, apart := false, narrowed := true }
def LayoutTurnedUptoSaid : Prop := layoutTurnedUptoRow.holds Try.pinned (OpenSpec.upto layoutTurnedSpec)

/-- 'humpyardlaw12.RouteFirst', WHERE WHAT IT READS IS OF BULK AT MOST 1048576: true; the input reads as it did. -/
def routeFirstUptoRow : OpenClaim := { program := "ytmogappoadglgaa", sum := "f3a34abcdc14419e34e39f16f3e6008d22ea9dc43375e0dd1987194b5628f95e", func := "humpyard/humpyardlaw12.RouteFirst", spec := "routeFirst", unfollowed := true, recurses := true, plainKeys := false, apart := false, narrowed := true }
def RouteFirstUptoSaid : Prop := routeFirstUptoRow.holds Try.pinned (OpenSpec.upto routeFirstSpec)

/-- 'humpyardlaw12.RouteMore', WHERE WHAT IT READS IS OF BULK AT MOST 1048576: true; the input reads as it did. -/
def routeMoreUptoRow : OpenClaim := { program := "ytmogappoadglgaa", sum := "f3a34abcdc14419e34e39f16f3e6008d22ea9dc43375e0dd1987194b5628f95e", func := "humpyard/humpyardlaw12.RouteMore", spec := "routeMore", unfollowed := true, recurses := true, plainKeys := false, apart := false, narrowed := true }
def RouteMoreUptoSaid : Prop := routeMoreUptoRow.holds Try.pinned (OpenSpec.upto routeMoreSpec)

/-- 'humpyardlaw12.RouteScaled', WHERE WHAT IT READS IS OF BULK AT MOST 1048576: true; the input reads as it did. -/
def routeScaledUptoRow : OpenClaim := { program := "ytmogappoadglgaa", sum := "f3a34abcdc14419e34e39f16f3e6008d22ea9dc43375e0dd1987194b5628f95e", func := "humpyard/humpyardlaw12.RouteScaled", spec := "routeScaled", unfollowed := true, recurses := true, plainKeys := false, apart := false, narrowed := true }
def RouteScaledUptoSaid : Prop := routeScaledUptoRow.holds Try.pinned (OpenSpec.upto routeScaledSpec)

/-- 'humpyardlaw12.RouteLeast', WHERE WHAT IT READS IS OF BULK AT MOST 1048576: true; the input reads as it did. -/
def routeLeastUptoRow : OpenClaim := { program := "ytmogappoadglgaa", sum := "f3a34abcdc14419e34e39f16f3e6008d22ea9dc43375e0dd1987194b5628f95e", func := "humpyard/humpyardlaw12.RouteLeast", spec := "routeLeast", unfollowed := true, recurses := true, plainKeys := false, apart := false, narrowed := true }
def RouteLeastUptoSaid : Prop := routeLeastUptoRow.holds Try.pinned (OpenSpec.upto routeLeastSpec)

/-- 'humpyardlaw12.RouteTells', WHERE WHAT IT READS IS OF BULK AT MOST 1048576: true; the input reads as it did. -/
def routeTellsUptoRow : OpenClaim := { program := "ytmogappoadglgaa", sum := "f3a34abcdc14419e34e39f16f3e6008d22ea9dc43375e0dd1987194b5628f95e", func := "humpyard/humpyardlaw12.RouteTells", spec := "routeTells", unfollowed := true, recurses := true, plainKeys := false, apart := false, narrowed := true }
def RouteTellsUptoSaid : Prop := routeTellsUptoRow.holds Try.pinned (OpenSpec.upto routeTellsSpec)

/-- 'humpyardlaw12.RouteTours', WHERE WHAT IT READS IS OF BULK AT MOST 1048576: true; the input reads as it did. -/
def routeToursUptoRow : OpenClaim := { program := "ytmogappoadglgaa", sum := "f3a34abcdc14419e34e39f16f3e6008d22ea9dc43375e0dd1987194b5628f95e", func := "humpyard/humpyardlaw12.RouteTours", spec := "routeTours", unfollowed := true, recurses := true, plainKeys := false, apart := false, narrowed := true }
def RouteToursUptoSaid : Prop := routeToursUptoRow.holds Try.pinned (OpenSpec.upto routeToursSpec)

/-- 'humpyardlaw14.TablePlays', WHERE WHAT IT READS IS OF BULK AT MOST 1048576: true; the input reads as it did. -/
def tablePlaysUptoRow : OpenClaim := { program := "ytmogappoadglgaa", sum := "f3a34abcdc14419e34e39f16f3e6008d22ea9dc43375e0dd1987194b5628f95e", func := "humpyard/humpyardlaw14.TablePlays", spec := "tablePlays", unfollowed := true, recurses := true, plainKeys := false, apart := false, narrowed := true }
def TablePlaysUptoSaid : Prop := tablePlaysUptoRow.holds Try.pinned (OpenSpec.upto tablePlaysSpec)

/-- 'humpyardlaw14.TableApart', WHERE WHAT IT READS IS OF BULK AT MOST 1048576: true; the input reads as it did. -/
def tableApartUptoRow : OpenClaim := { program := "ytmogappoadglgaa", sum := "f3a34abcdc14419e34e39f16f3e6008d22ea9dc43375e0dd1987194b5628f95e", func := "humpyard/humpyardlaw14.TableApart", spec := "tableApart", unfollowed := true, recurses := true, plainKeys := false, apart := false, narrowed := true }
def TableApartUptoSaid : Prop := tableApartUptoRow.holds Try.pinned (OpenSpec.upto tableApartSpec)

/-- 'humpyardlaw14.TableFails', WHERE WHAT IT READS IS OF BULK AT MOST 1048576: true; the input reads as it did. -/
def tableFailsUptoRow : OpenClaim := { program := "ytmogappoadglgaa", sum := "f3a34abcdc14419e34e39f16f3e6008d22ea9dc43375e0dd1987194b5628f95e", func := "humpyard/humpyardlaw14.TableFails", spec := "tableFails", unfollowed := true, recurses := true, plainKeys := false, apart := false, narrowed := true }
def TableFailsUptoSaid : Prop := tableFailsUptoRow.holds Try.pinned (OpenSpec.upto tableFailsSpec)

/-- 'humpyardlaw14.TableBack', WHERE WHAT IT READS IS OF BULK AT MOST 1048576: true; the input reads as it did. -/
def tableBackUptoRow : OpenClaim := { program := "ytmogappoadglgaa", sum := "f3a34abcdc14419e34e39f16f3e6008d22ea9dc43375e0dd1987194b5628f95e", func := "humpyard/humpyardlaw14.TableBack", spec := "tableBack", unfollowed := true, recurses := true, plainKeys := false, apart := false, narrowed := true }
def TableBackUptoSaid : Prop := tableBackUptoRow.holds Try.pinned (OpenSpec.upto tableBackSpec)

/-- 'humpyardlaw14.TableAgain', WHERE WHAT IT READS IS OF BULK AT MOST 1048576: true; the input reads as it did. -/
def tableAgainUptoRow : OpenClaim := { program := "ytmogappoadglgaa", sum := "f3a34abcdc14419e34e39f16f3e6008d22ea9dc43375e0dd1987194b5628f95e", func := "humpyard/humpyardlaw14.TableAgain", spec := "tableAgain", unfollowed := true, recurses := true, plainKeys := false, apart := false, narrowed := true }
def TableAgainUptoSaid : Prop := tableAgainUptoRow.holds Try.pinned (OpenSpec.upto tableAgainSpec)

end Rows
end Go.Proofs.Ytmogappoadglgaa

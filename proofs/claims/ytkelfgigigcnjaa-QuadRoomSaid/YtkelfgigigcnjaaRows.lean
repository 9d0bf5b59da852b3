/-
  No cell of these rows narrows 'for every input' (looked for: loops, veiled, ifaces, maps, wideKeys, modest, calm, conditions, laid).
  DERIVED. THE GIVEN ROWS OF THIS SEAT. 10 by the template 'for every input the law returns true; each argument reads behind the call as it read before'; 0 by the template 'total and deterministic' (their statements: YtkelfgigigcnjaaTotals.lean).
  GIVEN WITH THE SEED: the statements are not yours to turn. If you find one false, say at which input.
  Laid BY PROGRAM, IN A SANDBOX (cutbox-rows.mjs): the forced cells as the released guide's own fill.sh prints them over the translation e86cfed1ae63b7ea… (all of the seat's roots in one cut). By AI agents, Wed Nov 11 2026. No macro, syntax, notation, axiom, sorry.
-/
import Derived.Test.YtkelfgigigcnjaaChecked
import GoSem.Claim
import GoSem.ClaimJoined
import GoSem.ClaimMapViews
import Derived.JoinedTies
import Derived.KernelRfl
namespace Go.Proofs.Ytkelfgigigcnjaa
/- THE CELL 'sum', in the pinned program and in every row, IS THE sha256 OF THE DUMP (.gsa) THAT YtkelfgigigcnjaaProg.lean LOADS. Nothing in Lean hashes anything: it is a label: what it is worth is what the hold of that sum in a sandbox is worth. -/
noncomputable def Try.pinned : Pinned := { name := "ytkelfgigigcnjaa", sum := "e86cfed1ae63b7ead062159b993c3a1e715b86126ba01b1da98d58acc38a5097", checked := Try.checked }
namespace Rows
def none {H : Type} : Left H := { results := [], args := [] }

/-- 'belvederelaw10.EvolveChanged': WHATEVER THE INPUT: true; the input reads as it did. -/
def evolveChangedSpec : ChangeSpec := { name := "evolveChanged", fn := fun _ => fun
  | [d1, d2] => { results := [.lit (.bool true)], args := [d1, d2] }
  | _ => none }
def evolveChangedRow : OpenClaim := { program := "ytkelfgigigcnjaa", sum := "e86cfed1ae63b7ead062159b993c3a1e715b86126ba01b1da98d58acc38a5097", func := "belvedere/belvederelaw10.EvolveChanged", spec := "evolveChanged", unfollowed := true, recurses := true, plainKeys := false, apart := false }
def EvolveChangedSaid : Prop := evolveChangedRow.holds Try.pinned (OpenSpec.ofChange evolveChangedSpec)

/-- ITS FALSE NEIGHBOUR: 'it returns false'. Refute it at one input. -/
def evolveChangedWrong : ChangeSpec := { name := "evolveChanged", fn := fun _ => fun
  | [d1, d2] => { results := [.lit (.bool false)], args := [d1, d2] }
  | _ => none }
def EvolveChangedWrongFalsely : Prop := evolveChangedRow.holds Try.pinned (OpenSpec.ofChange evolveChangedWrong)

/-- 'belvederelaw13.CollectPlanes': WHATEVER THE INPUT: true; the input reads as it did. -/
def collectPlanesSpec : ChangeSpec := { name := "collectPlanes", fn := fun _ => fun
  | [d1, d2, d3] => { results := [.lit (.bool true)], args := [d1, d2, d3] }
  | _ => none }
def collectPlanesRow : OpenClaim := { program := "ytkelfgigigcnjaa", sum := "e86cfed1ae63b7ead062159b993c3a1e715b86126ba01b1da98d58acc38a5097", func := "belvedere/belvederelaw13.CollectPlanes", spec := "collectPlanes", unfollowed := true, recurses := true, plainKeys := false, apart := false }
def CollectPlanesSaid : Prop := collectPlanesRow.holds Try.pinned (OpenSpec.ofChange collectPlanesSpec)

/-- ITS FALSE NEIGHBOUR: 'it returns false'. Refute it at one input. -/
def collectPlanesWrong : ChangeSpec := { name := "collectPlanes", fn := fun _ => fun
  | [d1, d2, d3] => { results := [.lit (.bool false)], args := [d1, d2, d3] }
  | _ => none }
def CollectPlanesWrongFalsely : Prop := collectPlanesRow.holds Try.pinned (OpenSpec.ofChange collectPlanesWrong)

/-- 'belvederelaw07.QuadRoom': WHATEVER THE INPUT: true; the input reads as it did. -/
def quadRoomSpec : ChangeSpec := { name := "quadRoom", fn := fun _ => fun
  | [d1, d2] => { results := [.lit (.bool true)], args := [d1, d2] }
  | _ => none }
def quadRoomRow : OpenClaim := { program := "ytkelfgigigcnjaa", sum := "e86cfed1ae63b7ead062159b993c3a1e715b86126ba01b1da98d58acc38a5097", func := "belvedere/belvederelaw07.QuadRoom", spec := "quadRoom", inPlace := ["internal/reflectlite.TypeOf"], unfollowed := true, recurses := true, plainKeys := false, apart := false }
def QuadRoomSaid : Prop := quadRoomRow.holds Try.pinned (OpenSpec.ofChange quadRoomSpec)

/-- ITS FALSE NEIGHBOUR: 'it returns false'. Refute it at one input. -/
def quadRoomWrong : ChangeSpec := { name := "quadRoom", fn := fun _ => fun
  | [d1, d2] => { results := [.lit (.bool false)], args := [d1, d2] }
  | _ => none }
def QuadRoomWrongFalsely : Prop := quadRoomRow.holds Try.pinned (OpenSpec.ofChange quadRoomWrong)

/-- 'belvederelaw10.EvolveArgs': WHATEVER THE INPUT: true; the input reads as it did. -/
def evolveArgsSpec : ChangeSpec := { name := "evolveArgs", fn := fun _ => fun
  | [d1, d2, d3] => { results := [.lit (.bool true)], args := [d1, d2, d3] }
  | _ => none }
def evolveArgsRow : OpenClaim := { program := "ytkelfgigigcnjaa", sum := "e86cfed1ae63b7ead062159b993c3a1e715b86126ba01b1da98d58acc38a5097", func := "belvedere/belvederelaw10.EvolveArgs", spec := "evolveArgs", inPlace := ["internal/reflectlite.TypeOf"], unfollowed := true, recurses := true, plainKeys := false, apart := false }
def EvolveArgsSaid : Prop := evolveArgsRow.holds Try.pinned (OpenSpec.ofChange evolveArgsSpec)

/-- ITS FALSE NEIGHBOUR: 'it returns false'. Refute it at one input. -/
def evolveArgsWrong : ChangeSpec := { name := "evolveArgs", fn := fun _ => fun
  | [d1, d2, d3] => { results := [.lit (.bool false)], args := [d1, d2, d3] }
  | _ => none }
def EvolveArgsWrongFalsely : Prop := evolveArgsRow.holds Try.pinned (OpenSpec.ofChange evolveArgsWrong)

/-- 'belvederelaw14.LodZooms': WHATEVER THE INPUT: true; the input reads as it did. -/
def lodZoomsSpec : ChangeSpec := { name := "lodZooms", fn := fun _ => fun
  | [d1, d2, d3] => { results := [.lit (.bool true)], args := [d1, d2, d3] }
  | _ => none }
def lodZoomsRow : OpenClaim := { program := "ytkelfgigigcnjaa", sum := "e86cfed1ae63b7ead062159b993c3a1e715b86126ba01b1da98d58acc38a5097", func := "belvedere/belvederelaw14.LodZooms", spec := "lodZooms", recurses := true, plainKeys := false, apart := false }
def LodZoomsSaid : Prop := lodZoomsRow.holds Try.pinned (OpenSpec.ofChange lodZoomsSpec)

/-- ITS FALSE NEIGHBOUR: 'it returns false'. Refute it at one input. -/
def lodZoomsWrong : ChangeSpec := { name := "lodZooms", fn := fun _ => fun
  | [d1, d2, d3] => { results := [.lit (.bool false)], args := [d1, d2, d3] }
  | _ => none }
def LodZoomsWrongFalsely : Prop := lodZoomsRow.holds Try.pinned (OpenSpec.ofChange lodZoomsWrong)

/-- 'belvederelaw14.LodTiles': WHATEVER THE INPUT: true; the input reads as it did. -/
def lodTilesSpec : ChangeSpec := { name := "lodTiles", fn := fun _ => fun
  | [d1, d2, d3] => { results := [.lit (.bool true)], args := [d1, d2, d3] }
  | _ => none }
def lodTilesRow : OpenClaim := { program := "ytkelfgigigcnjaa", sum := "e86cfed1ae63b7ead062159b993c3a1e715b86126ba01b1da98d58acc38a5097", func := "belvedere/belvederelaw14.LodTiles", spec := "lodTiles", recurses := true, plainKeys := false, apart := false }
def LodTilesSaid : Prop := lodTilesRow.holds Try.pinned (OpenSpec.ofChange lodTilesSpec)

/-- ITS FALSE NEIGHBOUR: 'it returns false'. Refute it at one input. -/
def lodTilesWrong : ChangeSpec := { name := "lodTiles", fn := fun _ => fun
  | [d1, d2, d3] => { results := [.lit (.bool false)], args := [d1, d2, d3] }
  | _ => none }
def LodTilesWrongFalsely : Prop := lodTilesRow.holds Try.pinned (OpenSpec.ofChange lodTilesWrong)

/-- 'belvederelaw07.QuadActs': WHATEVER THE INPUT: true; the input reads as it did. -/
def quadActsSpec : ChangeSpec := { name := "quadActs", fn := fun _ => fun
  | [d] => { results := [.lit (.bool true)], args := [d] }
  | _ => none }
def quadActsRow : OpenClaim := { program := "ytkelfgigigcnjaa", sum := "e86cfed1ae63b7ead062159b993c3a1e715b86126ba01b1da98d58acc38a5097", func := "belvedere/belvederelaw07.QuadActs", spec := "quadActs", inPlace := ["internal/reflectlite.TypeOf"], unfollowed := true, recurses := true, plainKeys := false, apart := false }
def QuadActsSaid : Prop := quadActsRow.holds Try.pinned (OpenSpec.ofChange quadActsSpec)

/-- ITS FALSE NEIGHBOUR: 'it returns false'. Refute it at one input. -/
def quadActsWrong : ChangeSpec := { name := "quadActs", fn := fun _ => fun
  | [d] => { results := [.lit (.bool false)], args := [d] }
  | _ => none }
def QuadActsWrongFalsely : Prop := quadActsRow.holds Try.pinned (OpenSpec.ofChange quadActsWrong)

/-- 'belvederelaw08.AreaGreat': WHATEVER THE INPUT: true; the input reads as it did. -/
def areaGreatSpec : ChangeSpec := { name := "areaGreat", fn := fun _ => fun
  | [d1, d2] => { results := [.lit (.bool true)], args := [d1, d2] }
  | _ => none }
def areaGreatRow : OpenClaim := { program := "ytkelfgigigcnjaa", sum := "e86cfed1ae63b7ead062159b993c3a1e715b86126ba01b1da98d58acc38a5097", func := "belvedere/belvederelaw08.AreaGreat", spec := "areaGreat", unfollowed := true, recurses := true, plainKeys := false, apart := false }
def AreaGreatSaid : Prop := areaGreatRow.holds Try.pinned (OpenSpec.ofChange areaGreatSpec)

/-- ITS FALSE NEIGHBOUR: 'it returns false'. Refute it at one input. -/
def areaGreatWrong : ChangeSpec := { name := "areaGreat", fn := fun _ => fun
  | [d1, d2] => { results := [.lit (.bool false)], args := [d1, d2] }
  | _ => none }
def AreaGreatWrongFalsely : Prop := areaGreatRow.holds Try.pinned (OpenSpec.ofChange areaGreatWrong)

/-- 'belvederelaw14.LodEyes': WHATEVER THE INPUT: true; the input reads as it did. -/
def lodEyesSpec : ChangeSpec := { name := "lodEyes", fn := fun _ => fun
  | [d1, d2, d3] => { results := [.lit (.bool true)], args := [d1, d2, d3] }
  | _ => none }
def lodEyesRow : OpenClaim := { program := "ytkelfgigigcnjaa", sum := "e86cfed1ae63b7ead062159b993c3a1e715b86126ba01b1da98d58acc38a5097", func := "belvedere/belvederelaw14.LodEyes", spec := "lodEyes", inPlace := ["internal/reflectlite.TypeOf"], unfollowed := true, recurses := true, plainKeys := false, apart := false }
def LodEyesSaid : Prop := lodEyesRow.holds Try.pinned (OpenSpec.ofChange lodEyesSpec)

/-- ITS FALSE NEIGHBOUR: 'it returns false'. Refute it at one input. -/
def lodEyesWrong : ChangeSpec := { name := "lodEyes", fn := fun _ => fun
  | [d1, d2, d3] => { results := [.lit (.bool false)], args := [d1, d2, d3] }
  | _ => none }
def LodEyesWrongFalsely : Prop := lodEyesRow.holds Try.pinned (OpenSpec.ofChange lodEyesWrong)

/-- 'belvederelaw16.DirtyTiles': WHATEVER THE INPUT: true; the input reads as it did. -/
def dirtyTilesSpec : ChangeSpec := { name := "dirtyTiles", fn := fun _ => fun
  | [d1, d2] => { results := [.lit (.bool true)], args := [d1, d2] }
  | _ => none }
def dirtyTilesRow : OpenClaim := { program := "ytkelfgigigcnjaa", sum := "e86cfed1ae63b7ead062159b993c3a1e715b86126ba01b1da98d58acc38a5097", func := "belvedere/belvederelaw16.DirtyTiles", spec := "dirtyTiles", unfollowed := true, recurses := true, plainKeys := false, apart := false }
def DirtyTilesSaid : Prop := dirtyTilesRow.holds Try.pinned (OpenSpec.ofChange dirtyTilesSpec)

/-- ITS FALSE NEIGHBOUR: 'it returns false'. Refute it at one input. -/
def dirtyTilesWrong : ChangeSpec := { name := "dirtyTiles", fn := fun _ => fun
  | [d1, d2] => { results := [.lit (.bool false)], args := [d1, d2] }
  | _ => none }
def DirtyTilesWrongFalsely : Prop := dirtyTilesRow.holds Try.pinned (OpenSpec.ofChange dirtyTilesWrong)

/- THE SECOND FORM. 'bulk': how many values and letters a reading holds, each counted each time it is reached (what is shared counts as often as it is met; a slice's spare places count too). A statement '..UptoSaid' is the law's where the arguments, and the package variables that the reading takes, are together of bulk at most 1048576: NARROWER than '..Said'. Prove '..Said' where nothing that the law and all that it calls make is longer than what came in: it says more and counts as full. Else prove '..UptoSaid'. A law counts once. -/
mutual
def uptoBulk {H : Type} : DataW H → Nat
  | .lit (.string bytes) => bytes.length + 1
  | .lit _ => 1
  | .nil => 1
  | .ptr d => uptoBulk d + 1
  | .slice elems spare => uptoBulkAll elems + uptoBulkAll spare + 1
  | .agg parts => uptoBulkAll parts + 1
  | .iface _ d => uptoBulk d + 1
  | .map entries => uptoBulkEntries entries + 1
  | .held _ => 1
def uptoBulkAll {H : Type} : List (DataW H) → Nat
  | [] => 0
  | d :: r => uptoBulk d + uptoBulkAll r
def uptoBulkEntries {H : Type} : List (Lit × DataW H) → Nat
  | [] => 0
  | x :: r => uptoBulkEntry x + uptoBulkEntries r
def uptoBulkEntry {H : Type} : Lit × DataW H → Nat
  | (.string bytes, d) => bytes.length + uptoBulk d + 1
  | (_, d) => uptoBulk d + 1
 end
def uptoSmall : (H : Type) → List (DataW H) → Bool := fun _ ds => decide (uptoBulkAll ds ≤ 1048576)
def OpenSpec.upto (s : _root_.Go.ChangeSpec) : _root_.Go.OpenSpec := { _root_.Go.OpenSpec.ofChange s with cond := some uptoSmall }

/-- 'belvederelaw10.EvolveChanged', WHERE WHAT IT READS IS OF BULK AT MOST 1048576: true; the input reads as it did. -/
def evolveChangedUptoRow : OpenClaim := { program := "ytkelfgigigcnjaa", sum := "e86cfed1ae63b7ead062159b993c3a1e715b86126ba01b1da98d58acc38a5097", func := "belvedere/belvederelaw10.EvolveChanged", spec := "evolveChanged", unfollowed := true, recurses := true, plainKeys := false, apart := false, narrowed := true }
def EvolveChangedUptoSaid : Prop := evolveChangedUptoRow.holds Try.pinned (OpenSpec.upto evolveChangedSpec)

/-- 'belvederelaw13.CollectPlanes', WHERE WHAT IT READS IS OF BULK AT MOST 1048576: true; the input reads as it did. -/
def collectPlanesUptoRow : OpenClaim := { program := "ytkelfgigigcnjaa", sum := "e86cfed1ae63b7ead062159b993c3a1e715b86126ba01b1da98d58acc38a5097", func := "belvedere/belvederelaw13.CollectPlanes", spec := "collectPlanes", unfollowed := true, recurses := true, plainKeys := false, apart := false, narrowed := true }
def CollectPlanesUptoSaid : Prop := collectPlanesUptoRow.holds Try.pinned (OpenSpec.upto collectPlanesSpec)

/-- 'belvederelaw07.QuadRoom', WHERE WHAT IT READS IS OF BULK AT MOST 1048576: true; the input reads as it did. -/
def quadRoomUptoRow : OpenClaim := { program := "ytkelfgigigcnjaa", sum := "e86cfed1ae63b7ead062159b993c3a1e715b86126ba01b1da98d58acc38a5097", func := "belvedere/belvederelaw07.QuadRoom", spec := "quadRoom", inPlace := ["internal/reflectlite.TypeOf"], unfollowed := true, recurses := true, plainKeys := false, apart := false, narrowed := true }
def QuadRoomUptoSaid : Prop := quadRoomUptoRow.holds Try.pinned (OpenSpec.upto quadRoomSpec)

/-- 'belvederelaw10.EvolveArgs', WHERE WHAT IT READS IS OF BULK AT MOST 1048576: true; the input reads as it did. -/
def evolveArgsUptoRow : OpenClaim := { program := "ytkelfgigigcnjaa", sum := "e86cfed1ae63b7ead062159b993c3a1e715b86126ba01b1da98d58acc38a5097", func := "belvedere/belvederelaw10.EvolveArgs", spec := "evolveArgs", inPlace := ["internal/reflectlite.TypeOf"], unfollowed := true, recurses := true, plainKeys := false, apart := false, narrowed := true }
def EvolveArgsUptoSaid : Prop := evolveArgsUptoRow.holds Try.pinned (OpenSpec.upto evolveArgsSpec)

/-- 'belvederelaw14.LodZooms', WHERE WHAT IT READS IS OF BULK AT MOST 1048576: true; the input reads as it did. -/
def lodZoomsUptoRow : OpenClaim := { program := "ytkelfgigigcnjaa", sum := "e86cfed1ae63b7ead062159b993c3a1e715b86126ba01b1da98d58acc38a5097", func := "belvedere/belvederelaw14.LodZooms", spec := "lodZooms", recurses := true, plainKeys := false, apart := false, narrowed := true }
def LodZoomsUptoSaid : Prop := lodZoomsUptoRow.holds Try.pinned (OpenSpec.upto lodZoomsSpec)

/-- 'belvederelaw14.LodTiles', WHERE WHAT IT READS IS OF BULK AT MOST 1048576: true; the input reads as it did. -/
def lodTilesUptoRow : OpenClaim := { program := "ytkelfgigigcnjaa", sum := "e86cfed1ae63b7ead062159b993c3a1e715b86126ba01b1da98d58acc38a5097", func := "belvedere/belvederelaw14.LodTiles", spec := "lodTiles", recurses := true, plainKeys := false, apart := false, narrowed := true }
def LodTilesUptoSaid : Prop := lodTilesUptoRow.holds Try.pinned (OpenSpec.upto lodTilesSpec)

/-- 'belvederelaw07.QuadActs', WHERE WHAT IT READS IS OF BULK AT MOST 1048576: true; the input reads as it did. -/
def quadActsUptoRow : OpenClaim := { program := "ytkelfgigigcnjaa", sum := "e86cfed1ae63b7ead062159b993c3a1e715b86126ba01b1da98d58acc38a5097", func := "belvedere/belvederelaw07.QuadActs", spec := "quadActs", inPlace := ["internal/reflectlite.TypeOf"], unfollowed := true, recurses := true, plainKeys := false, apart := false, narrowed := true }
def QuadActsUptoSaid : Prop := quadActsUptoRow.holds Try.pinned (OpenSpec.upto quadActsSpec)

/-- 'belvederelaw08.AreaGreat', WHERE WHAT IT READS IS OF BULK AT MOST 1048576: true; the input reads as it did. -/
def areaGreatUptoRow : OpenClaim := { program := "ytkelfgigigcnjaa", sum := "e86cfed1ae63b7ead062159b993c3a1e715b86126ba01b1da98d58acc38a5097", func := "belvedere/belvederelaw08.AreaGreat", spec := "areaGreat", unfollowed := true, recurses := true, plainKeys := false, apart := false, narrowed := true }
def AreaGreatUptoSaid : Prop := areaGreatUptoRow.holds Try.pinned (OpenSpec.upto areaGreatSpec)

/-- 'belvederelaw14.LodEyes', WHERE WHAT IT READS IS OF BULK AT MOST 1048576: true; the input reads as it did. -/
def lodEyesUptoRow : OpenClaim := { program := "ytkelfgigigcnjaa", sum := "e86cfed1ae63b7ead062159b993c3a1e715b86126ba01b1da98d58acc38a5097", func := "belvedere/belvederelaw14.LodEyes", spec := "lodEyes", inPlace := ["internal/reflectlite.TypeOf"], unfollowed := true, recurses := true, plainKeys := false, apart := false, narrowed := true }
def LodEyesUptoSaid : Prop := lodEyesUptoRow.holds Try.pinned (OpenSpec.upto lodEyesSpec)

/-- 'belvederelaw16.DirtyTiles', WHERE WHAT IT READS IS OF BULK AT MOST 1048576: true; the input reads as it did. -/
def dirtyTilesUptoRow : OpenClaim := { program := "ytkelfgigigcnjaa", sum := "e86cfed1ae63b7ead062159b993c3a1e715b86126ba01b1da98d58acc38a5097", func := "belvedere/belvederelaw16.DirtyTiles", spec := "dirtyTiles", unfollowed := true, recurses := true, plainKeys := false, apart := false, narrowed := true }
def DirtyTilesUptoSaid : Prop := dirtyTilesUptoRow.holds Try.pinned (OpenSpec.upto dirtyTilesSpec)

end Rows
end Go.Proofs.Ytkelfgigigcnjaa

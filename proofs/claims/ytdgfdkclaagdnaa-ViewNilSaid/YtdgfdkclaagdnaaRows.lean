/-
  No cell of these rows narrows 'for every input' (looked for: loops, veiled, ifaces, maps, wideKeys, modest, calm, conditions, laid).
  DERIVED. THE GIVEN ROWS OF THIS SEAT. 4 by the template 'for every input the law returns true; each argument reads behind the call as it read before'; 0 by the template 'total and deterministic' (their statements: YtdgfdkclaagdnaaTotals.lean).
  GIVEN WITH THE SEED: the statements are not yours to turn. If you find one false, say at which input.
  Laid BY PROGRAM, IN A SANDBOX (cutbox-rows.mjs): the forced cells as the released guide's own fill.sh prints them over the translation 1aa6cb1d06662801… (all of the seat's roots in one cut). By AI agents, Wed Nov 11 2026. No macro, syntax, notation, axiom, sorry.
-/
import Derived.Test.YtdgfdkclaagdnaaChecked
import GoSem.Claim
import GoSem.ClaimJoined
import GoSem.ClaimMapViews
import Derived.JoinedTies
import Derived.KernelRfl
namespace Go.Proofs.Ytdgfdkclaagdnaa
/- THE CELL 'sum', in the pinned program and in every row, IS THE sha256 OF THE DUMP (.gsa) THAT YtdgfdkclaagdnaaProg.lean LOADS. Nothing in Lean hashes anything: it is a label: what it is worth is what the hold of that sum in a sandbox is worth. -/
noncomputable def Try.pinned : Pinned := { name := "ytdgfdkclaagdnaa", sum := "1aa6cb1d06662801097681c8ecb6e1e257fa421f3b6b2736b01d763aea0ff93b", checked := Try.checked }
namespace Rows
def none {H : Type} : Left H := { results := [], args := [] }

/-- 'belvederelaw20.OutboxNil': WHATEVER THE INPUT: true; the input reads as it did. -/
def outboxNilSpec : ChangeSpec := { name := "outboxNil", fn := fun _ => fun
  | [d] => { results := [.lit (.bool true)], args := [d] }
  | _ => none }
def outboxNilRow : OpenClaim := { program := "ytdgfdkclaagdnaa", sum := "1aa6cb1d06662801097681c8ecb6e1e257fa421f3b6b2736b01d763aea0ff93b", func := "belvedere/belvederelaw20.OutboxNil", spec := "outboxNil", inPlace := ["internal/reflectlite.TypeOf"], unfollowed := true, recurses := true, plainKeys := false, apart := false }
def OutboxNilSaid : Prop := outboxNilRow.holds Try.pinned (OpenSpec.ofChange outboxNilSpec)

/-- ITS FALSE NEIGHBOUR: 'it returns false'. Refute it at one input. -/
def outboxNilWrong : ChangeSpec := { name := "outboxNil", fn := fun _ => fun
  | [d] => { results := [.lit (.bool false)], args := [d] }
  | _ => none }
def OutboxNilWrongFalsely : Prop := outboxNilRow.holds Try.pinned (OpenSpec.ofChange outboxNilWrong)

/-- 'belvederelaw18.MessageSame': WHATEVER THE INPUT: true; the input reads as it did. -/
def messageSameSpec : ChangeSpec := { name := "messageSame", fn := fun _ => fun
  | [d1, d2] => { results := [.lit (.bool true)], args := [d1, d2] }
  | _ => none }
def messageSameRow : OpenClaim := { program := "ytdgfdkclaagdnaa", sum := "1aa6cb1d06662801097681c8ecb6e1e257fa421f3b6b2736b01d763aea0ff93b", func := "belvedere/belvederelaw18.MessageSame", spec := "messageSame", unfollowed := true, recurses := true, plainKeys := false, apart := false }
def MessageSameSaid : Prop := messageSameRow.holds Try.pinned (OpenSpec.ofChange messageSameSpec)

/-- ITS FALSE NEIGHBOUR: 'it returns false'. Refute it at one input. -/
def messageSameWrong : ChangeSpec := { name := "messageSame", fn := fun _ => fun
  | [d1, d2] => { results := [.lit (.bool false)], args := [d1, d2] }
  | _ => none }
def MessageSameWrongFalsely : Prop := messageSameRow.holds Try.pinned (OpenSpec.ofChange messageSameWrong)

/-- 'belvederelaw19.ViewNil': WHATEVER THE INPUT: true; the input reads as it did. -/
def viewNilSpec : ChangeSpec := { name := "viewNil", fn := fun _ => fun
  | [d] => { results := [.lit (.bool true)], args := [d] }
  | _ => none }
def viewNilRow : OpenClaim := { program := "ytdgfdkclaagdnaa", sum := "1aa6cb1d06662801097681c8ecb6e1e257fa421f3b6b2736b01d763aea0ff93b", func := "belvedere/belvederelaw19.ViewNil", spec := "viewNil", inPlace := ["internal/reflectlite.TypeOf"], unfollowed := true, recurses := true, plainKeys := false, apart := false }
def ViewNilSaid : Prop := viewNilRow.holds Try.pinned (OpenSpec.ofChange viewNilSpec)

/-- ITS FALSE NEIGHBOUR: 'it returns false'. Refute it at one input. -/
def viewNilWrong : ChangeSpec := { name := "viewNil", fn := fun _ => fun
  | [d] => { results := [.lit (.bool false)], args := [d] }
  | _ => none }
def ViewNilWrongFalsely : Prop := viewNilRow.holds Try.pinned (OpenSpec.ofChange viewNilWrong)

/-- 'belvederelaw12.RootsNil': WHATEVER THE INPUT: true; the input reads as it did. -/
def rootsNilSpec : ChangeSpec := { name := "rootsNil", fn := fun _ => fun
  | [d] => { results := [.lit (.bool true)], args := [d] }
  | _ => none }
def rootsNilRow : OpenClaim := { program := "ytdgfdkclaagdnaa", sum := "1aa6cb1d06662801097681c8ecb6e1e257fa421f3b6b2736b01d763aea0ff93b", func := "belvedere/belvederelaw12.RootsNil", spec := "rootsNil", inPlace := ["internal/reflectlite.TypeOf"], unfollowed := true, recurses := true, plainKeys := false, apart := false }
def RootsNilSaid : Prop := rootsNilRow.holds Try.pinned (OpenSpec.ofChange rootsNilSpec)

/-- ITS FALSE NEIGHBOUR: 'it returns false'. Refute it at one input. -/
def rootsNilWrong : ChangeSpec := { name := "rootsNil", fn := fun _ => fun
  | [d] => { results := [.lit (.bool false)], args := [d] }
  | _ => none }
def RootsNilWrongFalsely : Prop := rootsNilRow.holds Try.pinned (OpenSpec.ofChange rootsNilWrong)

/- THE SECOND FORM. 'bulk': how many values and letters a reading holds, each counted each time it is reached (what is shared counts as often as it is met; a slice's spare places count too). A statement '..UptoSaid' is the law's where the arguments, and the package variables that the reading takes, are together of bulk at most 1048576: NARROWER than '..Said'. Prove '..Said' where nothing that the law and all that it calls make is longer than what came in: it says more and counts as full. Else prove '..UptoSaid'. A law counts once. -/
mutual
def uptoBulk {H : Type} : DataW H → Nat
  | .lit (.string bytes) => bytes.length + 1
  | .lit _ => 1
  | .nil => 1
  | .ptr d => uptoBulk d + 1
  | .slice elems spare => uptoBulkAll elems + uptoBulkAll spare + 1
  | .agg parts => uptoBulkAll parts + 1
  | .iface _ d => uptoBulk d + 1
  | .map entries => uptoBulkEntries entries + 1
  | .held _ => 1
def uptoBulkAll {H : Type} : List (DataW H) → Nat
  | [] => 0
  | d :: r => uptoBulk d + uptoBulkAll r
def uptoBulkEntries {H : Type} : List (Lit × DataW H) → Nat
  | [] => 0
  | x :: r => uptoBulkEntry x + uptoBulkEntries r
def uptoBulkEntry {H : Type} : Lit × DataW H → Nat
  | (.string bytes, d) => bytes.length + uptoBulk d + 1
  | (_, d) => uptoBulk d + 1
 end
def uptoSmall : (H : Type) → List (DataW H) → Bool := fun _ ds => decide (uptoBulkAll ds ≤ 1048576)
def OpenSpec.upto (s : _root_.Go.ChangeSpec) : _root_.Go.OpenSpec := { _root_.Go.OpenSpec.ofChange s with cond := some uptoSmall }

/-- 'belvederelaw20.OutboxNil', WHERE WHAT IT READS IS OF BULK AT MOST 1048576: true; the input reads as it did. -/
def outboxNilUptoRow : OpenClaim := { program := "ytdgfdkclaagdnaa", sum := "1aa6cb1d06662801097681c8ecb6e1e257fa421f3b6b2736b01d763aea0ff93b", func := "belvedere/belvederelaw20.OutboxNil", spec := "outboxNil", inPlace := ["internal/reflectlite.TypeOf"], unfollowed := true, recurses := true, plainKeys := false, apart := false, narrowed := true }
def OutboxNilUptoSaid : Prop := outboxNilUptoRow.holds Try.pinned (OpenSpec.upto outboxNilSpec)

/-- 'belvederelaw18.MessageSame', WHERE WHAT IT READS IS OF BULK AT MOST 1048576: true; the input reads as it did. -/
def messageSameUptoRow : OpenClaim := { program := "ytdgfdkclaagdnaa", sum := "1aa6cb1d06662801097681c8ecb6e1e257fa421f3b6b2736b01d763aea0ff93b", func := "belvedere/belvederelaw18.MessageSame", spec := "messageSame", unfollowed := true, recurses := true, plainKeys := false, apart := false, narrowed := true }
def MessageSameUptoSaid : Prop := messageSameUptoRow.holds Try.pinned (OpenSpec.upto messageSameSpec)

/-- 'belvederelaw19.ViewNil', WHERE WHAT IT READS IS OF BULK AT MOST 1048576: true; the input reads as it did. -/
def viewNilUptoRow : OpenClaim := { program := "ytdgfdkclaagdnaa", sum := "1aa6cb1d06662801097681c8ecb6e1e257fa421f3b6b2736b01d763aea0ff93b", func := "belvedere/belvederelaw19.ViewNil", spec := "viewNil", inPlace := ["internal/reflectlite.TypeOf"], unfollowed := true, recurses := true, plainKeys := false, apart := false, narrowed := true }
def ViewNilUptoSaid : Prop := viewNilUptoRow.holds Try.pinned (OpenSpec.upto viewNilSpec)

/-- 'belvederelaw12.RootsNil', WHERE WHAT IT READS IS OF BULK AT MOST 1048576: true; the input reads as it did. -/
def rootsNilUptoRow : OpenClaim := { program := "ytdgfdkclaagdnaa", sum := "1aa6cb1d06662801097681c8ecb6e1e257fa421f3b6b2736b01d763aea0ff93b", func := "belvedere/belvederelaw12.RootsNil", spec := "rootsNil", inPlace := ["internal/reflectlite.TypeOf"], unfollowed := true, recurses := true, plainKeys := false, apart := false, narrowed := true }
def RootsNilUptoSaid : Prop := rootsNilUptoRow.holds Try.pinned (OpenSpec.upto rootsNilSpec)

end Rows
end Go.Proofs.Ytdgfdkclaagdnaa

/-
  No cell of these rows narrows 'for every input' (looked for: loops, veiled, ifaces, maps, wideKeys, modest, calm, conditions, laid).
  DERIVED. THE GIVEN ROWS OF THIS SEAT. 5 by the template 'for every input the law returns true; each argument reads behind the call as it read before'; 0 by the template 'total and deterministic' (their statements: YtaenkjeaadmgeaaTotals.lean).
  GIVEN WITH THE SEED: the statements are not yours to turn. If you find one false, say at which input.
  Laid BY PROGRAM, IN A SANDBOX (cutbox-rows.mjs): the forced cells as the released guide's own fill.sh prints them over the translation bd6f3d6593666719… (all of the seat's roots in one cut). By AI agents, Wed Nov 11 2026. No macro, syntax, notation, axiom, sorry.
-/
import Derived.Test.YtaenkjeaadmgeaaChecked
import GoSem.Claim
import GoSem.ClaimJoined
import GoSem.ClaimMapViews
import Derived.JoinedTies
import Derived.KernelRfl
namespace Go.Proofs.Ytaenkjeaadmgeaa
/- THE CELL 'sum', in the pinned program and in every row, IS THE sha256 OF THE DUMP (.gsa) THAT YtaenkjeaadmgeaaProg.lean LOADS. Nothing in Lean hashes anything: it is a label: what it is worth is what the hold of that sum in a sandbox is worth. -/
noncomputable def Try.pinned : Pinned := { name := "ytaenkjeaadmgeaa", sum := "bd6f3d65936667197162c7b4b262378317b6854e4ca71762ead14fd0bf5ccc10", checked := Try.checked }
namespace Rows
def none {H : Type} : Left H := { results := [], args := [] }

/-- 'tidemilllaw05.RackOrders': WHATEVER THE INPUT: true; the input reads as it did. -/
def rackOrdersSpec : ChangeSpec := { name := "rackOrders", fn := fun _ => fun
  | [d1, d2] => { results := [.lit (.bool true)], args := [d1, d2] }
  | _ => none }
def rackOrdersRow : OpenClaim := { program := "ytaenkjeaadmgeaa", sum := "bd6f3d65936667197162c7b4b262378317b6854e4ca71762ead14fd0bf5ccc10", func := "tidemill/tidemilllaw05.RackOrders", spec := "rackOrders", unfollowed := true, recurses := true, apart := false }
def RackOrdersSaid : Prop := rackOrdersRow.holds Try.pinned (OpenSpec.ofChange rackOrdersSpec)

/-- ITS FALSE NEIGHBOUR: 'it returns false'. Refute it at one input. -/
def rackOrdersWrong : ChangeSpec := { name := "rackOrders", fn := fun _ => fun
  | [d1, d2] => { results := [.lit (.bool false)], args := [d1, d2] }
  | _ => none }
def RackOrdersWrongFalsely : Prop := rackOrdersRow.holds Try.pinned (OpenSpec.ofChange rackOrdersWrong)

/-- 'tidemilllaw05.RackHigh': WHATEVER THE INPUT: true; the input reads as it did. -/
def rackHighSpec : ChangeSpec := { name := "rackHigh", fn := fun _ => fun
  | [d1, d2, d3] => { results := [.lit (.bool true)], args := [d1, d2, d3] }
  | _ => none }
def rackHighRow : OpenClaim := { program := "ytaenkjeaadmgeaa", sum := "bd6f3d65936667197162c7b4b262378317b6854e4ca71762ead14fd0bf5ccc10", func := "tidemill/tidemilllaw05.RackHigh", spec := "rackHigh", unfollowed := true, recurses := true, apart := false }
def RackHighSaid : Prop := rackHighRow.holds Try.pinned (OpenSpec.ofChange rackHighSpec)

/-- ITS FALSE NEIGHBOUR: 'it returns false'. Refute it at one input. -/
def rackHighWrong : ChangeSpec := { name := "rackHigh", fn := fun _ => fun
  | [d1, d2, d3] => { results := [.lit (.bool false)], args := [d1, d2, d3] }
  | _ => none }
def RackHighWrongFalsely : Prop := rackHighRow.holds Try.pinned (OpenSpec.ofChange rackHighWrong)

/-- 'tidemilllaw05.RackTwo': WHATEVER THE INPUT: true; the input reads as it did. -/
def rackTwoSpec : ChangeSpec := { name := "rackTwo", fn := fun _ => fun
  | [d1, d2] => { results := [.lit (.bool true)], args := [d1, d2] }
  | _ => none }
def rackTwoRow : OpenClaim := { program := "ytaenkjeaadmgeaa", sum := "bd6f3d65936667197162c7b4b262378317b6854e4ca71762ead14fd0bf5ccc10", func := "tidemill/tidemilllaw05.RackTwo", spec := "rackTwo", unfollowed := true, recurses := true, apart := false }
def RackTwoSaid : Prop := rackTwoRow.holds Try.pinned (OpenSpec.ofChange rackTwoSpec)

/-- ITS FALSE NEIGHBOUR: 'it returns false'. Refute it at one input. -/
def rackTwoWrong : ChangeSpec := { name := "rackTwo", fn := fun _ => fun
  | [d1, d2] => { results := [.lit (.bool false)], args := [d1, d2] }
  | _ => none }
def RackTwoWrongFalsely : Prop := rackTwoRow.holds Try.pinned (OpenSpec.ofChange rackTwoWrong)

/-- 'tidemilllaw05.RackPlaces': WHATEVER THE INPUT: true; the input reads as it did. -/
def rackPlacesSpec : ChangeSpec := { name := "rackPlaces", fn := fun _ => fun
  | [d1, d2] => { results := [.lit (.bool true)], args := [d1, d2] }
  | _ => none }
def rackPlacesRow : OpenClaim := { program := "ytaenkjeaadmgeaa", sum := "bd6f3d65936667197162c7b4b262378317b6854e4ca71762ead14fd0bf5ccc10", func := "tidemill/tidemilllaw05.RackPlaces", spec := "rackPlaces", unfollowed := true, recurses := true, apart := false }
def RackPlacesSaid : Prop := rackPlacesRow.holds Try.pinned (OpenSpec.ofChange rackPlacesSpec)

/-- ITS FALSE NEIGHBOUR: 'it returns false'. Refute it at one input. -/
def rackPlacesWrong : ChangeSpec := { name := "rackPlaces", fn := fun _ => fun
  | [d1, d2] => { results := [.lit (.bool false)], args := [d1, d2] }
  | _ => none }
def RackPlacesWrongFalsely : Prop := rackPlacesRow.holds Try.pinned (OpenSpec.ofChange rackPlacesWrong)

/-- 'tidemilllaw05.RackPlays': WHATEVER THE INPUT: true; the input reads as it did. -/
def rackPlaysSpec : ChangeSpec := { name := "rackPlays", fn := fun _ => fun
  | [d1, d2] => { results := [.lit (.bool true)], args := [d1, d2] }
  | _ => none }
def rackPlaysRow : OpenClaim := { program := "ytaenkjeaadmgeaa", sum := "bd6f3d65936667197162c7b4b262378317b6854e4ca71762ead14fd0bf5ccc10", func := "tidemill/tidemilllaw05.RackPlays", spec := "rackPlays", unfollowed := true, recurses := true, apart := false }
def RackPlaysSaid : Prop := rackPlaysRow.holds Try.pinned (OpenSpec.ofChange rackPlaysSpec)

/-- ITS FALSE NEIGHBOUR: 'it returns false'. Refute it at one input. -/
def rackPlaysWrong : ChangeSpec := { name := "rackPlays", fn := fun _ => fun
  | [d1, d2] => { results := [.lit (.bool false)], args := [d1, d2] }
  | _ => none }
def RackPlaysWrongFalsely : Prop := rackPlaysRow.holds Try.pinned (OpenSpec.ofChange rackPlaysWrong)

/- THE SECOND FORM. 'bulk': how many values and letters a reading holds, each counted each time it is reached (what is shared counts as often as it is met; a slice's spare places count too). A statement '..UptoSaid' is the law's where the arguments, and the package variables that the reading takes, are together of bulk at most 1048576: NARROWER than '..Said'. Prove '..Said' where nothing that the law and all that it calls make is longer than what came in: it says more and counts as full. Else prove '..UptoSaid'. A law counts once. -/
mutual
def uptoBulk {H : Type} : DataW H → Nat
  | .lit (.string bytes) => bytes.length + 1
  | .lit _ => 1
  | .nil => 1
  | .ptr d => uptoBulk d + 1
  | .slice elems spare => uptoBulkAll elems + uptoBulkAll spare + 1
  | .agg parts => uptoBulkAll parts + 1
  | .iface _ d => uptoBulk d + 1
  | .map entries => uptoBulkEntries entries + 1
  | .held _ => 1
def uptoBulkAll {H : Type} : List (DataW H) → Nat
  | [] => 0
  | d :: r => uptoBulk d + uptoBulkAll r
def uptoBulkEntries {H : Type} : List (Lit × DataW H) → Nat
  | [] => 0
  | x :: r => uptoBulkEntry x + uptoBulkEntries r
def uptoBulkEntry {H : Type} : Lit × DataW H → Nat
  | (.string bytes, d) => bytes.length + uptoBulk d + 1
  | (_, d) => uptoBulk d + 1
 end
def uptoSmall : (H : Type) → List (DataW H) → Bool := fun _ ds => decide (uptoBulkAll ds ≤ 1048576)
def OpenSpec.upto (s : _root_.Go.ChangeSpec) : _root_.Go.OpenSpec := { _root_.Go.OpenSpec.ofChange s with cond := some uptoSmall }

/-- 'tidemilllaw05.RackOrders', WHERE WHAT IT READS IS OF BULK AT MOST 1048576: true; the input reads as it did. -/
def rackOrdersUptoRow : OpenClaim := { program := "ytaenkjeaadmgeaa", sum := "bd6f3d65936667197162c7b4b262378317b6854e4ca71762ead14fd0bf5ccc10", func := "tidemill/tidemilllaw05.RackOrders", spec := "rackOrders", unfollowed := true, recurses := true, apart := false, narrowed := true }
def RackOrdersUptoSaid : Prop := rackOrdersUptoRow.holds Try.pinned (OpenSpec.upto rackOrdersSpec)

/-- 'tidemilllaw05.RackHigh', WHERE WHAT IT READS IS OF BULK AT MOST 1048576: true; the input reads as it did. -/
def rackHighUptoRow : OpenClaim := { program := "ytaenkjeaadmgeaa", sum := "bd6f3d65936667197162c7b4b262378317b6854e4ca71762ead14fd0bf5ccc10", func := "tidemill/tidemilllaw05.RackHigh", spec := "rackHigh", unfollowed := true, recurses := true, apart := false, narrowed := true }
def RackHighUptoSaid : Prop := rackHighUptoRow.holds Try.pinned (OpenSpec.upto rackHighSpec)

/-- 'tidemilllaw05.RackTwo', WHERE WHAT IT READS IS OF BULK AT MOST 1048576: true; the input reads as it did. -/
def rackTwoUptoRow : OpenClaim := { program := "ytaenkjeaadmgeaa", sum := "bd6f3d65936667197162c7b4b262378317b6854e4ca71762ead14fd0bf5ccc10", func := "tidemill/tidemilllaw05.RackTwo", spec := "rackTwo", unfollowed := true, recurses := true, apart := false, narrowed := true }
def RackTwoUptoSaid : Prop := rackTwoUptoRow.holds Try.pinned (OpenSpec.upto rackTwoSpec)

/-- 'tidemilllaw05.RackPlaces', WHERE WHAT IT READS IS OF BULK AT MOST 1048576: true; the input reads as it did. -/
def rackPlacesUptoRow : OpenClaim := { program := "ytaenkjeaadmgeaa", sum := "bd6f3d65936667197162c7b4b262378317b6854e4ca71762ead14fd0bf5ccc10", func := "tidemill/tidemilllaw05.RackPlaces", spec := "rackPlaces", unfollowed := true, recurses := true, apart := false, narrowed := true }
def RackPlacesUptoSaid : Prop := rackPlacesUptoRow.holds Try.pinned (OpenSpec.upto rackPlacesSpec)

/-- 'tidemilllaw05.RackPlays', WHERE WHAT IT READS IS OF BULK AT MOST 1048576: true; the input reads as it did. -/
def rackPlaysUptoRow : OpenClaim := { program := "ytaenkjeaadmgeaa", sum := "bd6f3d65936667197162c7b4b262378317b6854e4ca71762ead14fd0bf5ccc10", func := "tidemill/tidemilllaw05.RackPlays", spec := "rackPlays", unfollowed := true, recurses := true, apart := false, narrowed := true }
def RackPlaysUptoSaid : Prop := rackPlaysUptoRow.holds Try.pinned (OpenSpec.upto rackPlaysSpec)

end Rows
end Go.Proofs.Ytaenkjeaadmgeaa

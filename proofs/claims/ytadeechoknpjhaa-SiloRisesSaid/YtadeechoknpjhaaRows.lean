/-
  No cell of these rows narrows 'for every input' (looked for: loops, veiled, ifaces, maps, wideKeys, modest, calm, conditions, laid).
  DERIVED. THE GIVEN ROWS OF THIS SEAT. 5 by the template 'for every input the law returns true; each argument reads behind the call as it read before'; 0 by the template 'total and deterministic' (their statements: YtadeechoknpjhaaTotals.lean).
  GIVEN WITH THE SEED: the statements are not yours to turn. If you find one false, say at which input.
  Laid BY PROGRAM, IN A SANDBOX (cutbox-rows.mjs): the forced cells as the released guide's own fill.sh prints them over the translation ef3aa758430f2a1d… (all of the seat's roots in one cut). By AI agents, Wed Nov 11 2026. No macro, syntax, notation, axiom, sorry.
-/
import Derived.Test.YtadeechoknpjhaaChecked
import GoSem.Claim
import GoSem.ClaimJoined
import GoSem.ClaimMapViews
import Derived.JoinedTies
import Derived.KernelRfl
namespace Go.Proofs.Ytadeechoknpjhaa
/- THE CELL 'sum', in the pinned program and in every row, IS THE sha256 OF THE DUMP (.gsa) THAT YtadeechoknpjhaaProg.lean LOADS. Nothing in Lean hashes anything: it is a label: what it is worth is what the hold of that sum in a sandbox is worth. -/
noncomputable def Try.pinned : Pinned := { name := "ytadeechoknpjhaa", sum := "ef3aa758430f2a1ded858421d638897ae583c9e523ec3babbd54c37a6d4e8118", checked := Try.checked }
namespace Rows
def none {H : Type} : Left H := { results := [], args := [] }

/-- 'tidemilllaw20.SiloRanges': WHATEVER THE INPUT: true; the input reads as it did. -/
def siloRangesSpec : ChangeSpec := { name := "siloRanges", fn := fun _ => fun
  | [d1, d2, d3] => { results := [.lit (.bool true)], args := [d1, d2, d3] }
  | _ => none }
def siloRangesRow : OpenClaim := { program := "ytadeechoknpjhaa", sum := "ef3aa758430f2a1ded858421d638897ae583c9e523ec3babbd54c37a6d4e8118", func := "tidemill/tidemilllaw20.SiloRanges", spec := "siloRanges", unfollowed := true, recurses := true, apart := false }
def SiloRangesSaid : Prop := siloRangesRow.holds Try.pinned (OpenSpec.ofChange siloRangesSpec)

/-- ITS FALSE NEIGHBOUR: 'it returns false'. Refute it at one input. -/
def siloRangesWrong : ChangeSpec := { name := "siloRanges", fn := fun _ => fun
  | [d1, d2, d3] => { results := [.lit (.bool false)], args := [d1, d2, d3] }
  | _ => none }
def SiloRangesWrongFalsely : Prop := siloRangesRow.holds Try.pinned (OpenSpec.ofChange siloRangesWrong)

/-- 'tidemilllaw20.SiloOrders': WHATEVER THE INPUT: true; the input reads as it did. -/
def siloOrdersSpec : ChangeSpec := { name := "siloOrders", fn := fun _ => fun
  | [d1, d2] => { results := [.lit (.bool true)], args := [d1, d2] }
  | _ => none }
def siloOrdersRow : OpenClaim := { program := "ytadeechoknpjhaa", sum := "ef3aa758430f2a1ded858421d638897ae583c9e523ec3babbd54c37a6d4e8118", func := "tidemill/tidemilllaw20.SiloOrders", spec := "siloOrders", unfollowed := true, recurses := true, apart := false }
def SiloOrdersSaid : Prop := siloOrdersRow.holds Try.pinned (OpenSpec.ofChange siloOrdersSpec)

/-- ITS FALSE NEIGHBOUR: 'it returns false'. Refute it at one input. -/
def siloOrdersWrong : ChangeSpec := { name := "siloOrders", fn := fun _ => fun
  | [d1, d2] => { results := [.lit (.bool false)], args := [d1, d2] }
  | _ => none }
def SiloOrdersWrongFalsely : Prop := siloOrdersRow.holds Try.pinned (OpenSpec.ofChange siloOrdersWrong)

/-- 'tidemilllaw20.SiloRises': WHATEVER THE INPUT: true; the input reads as it did. -/
def siloRisesSpec : ChangeSpec := { name := "siloRises", fn := fun _ => fun
  | [d] => { results := [.lit (.bool true)], args := [d] }
  | _ => none }
def siloRisesRow : OpenClaim := { program := "ytadeechoknpjhaa", sum := "ef3aa758430f2a1ded858421d638897ae583c9e523ec3babbd54c37a6d4e8118", func := "tidemill/tidemilllaw20.SiloRises", spec := "siloRises", unfollowed := true, recurses := true, apart := false }
def SiloRisesSaid : Prop := siloRisesRow.holds Try.pinned (OpenSpec.ofChange siloRisesSpec)

/-- ITS FALSE NEIGHBOUR: 'it returns false'. Refute it at one input. -/
def siloRisesWrong : ChangeSpec := { name := "siloRises", fn := fun _ => fun
  | [d] => { results := [.lit (.bool false)], args := [d] }
  | _ => none }
def SiloRisesWrongFalsely : Prop := siloRisesRow.holds Try.pinned (OpenSpec.ofChange siloRisesWrong)

/-- 'tidemilllaw20.SiloAlone': WHATEVER THE INPUT: true; the input reads as it did. -/
def siloAloneSpec : ChangeSpec := { name := "siloAlone", fn := fun _ => fun
  | [d1, d2, d3] => { results := [.lit (.bool true)], args := [d1, d2, d3] }
  | _ => none }
def siloAloneRow : OpenClaim := { program := "ytadeechoknpjhaa", sum := "ef3aa758430f2a1ded858421d638897ae583c9e523ec3babbd54c37a6d4e8118", func := "tidemill/tidemilllaw20.SiloAlone", spec := "siloAlone", unfollowed := true, recurses := true, apart := false }
def SiloAloneSaid : Prop := siloAloneRow.holds Try.pinned (OpenSpec.ofChange siloAloneSpec)

/-- ITS FALSE NEIGHBOUR: 'it returns false'. Refute it at one input. -/
def siloAloneWrong : ChangeSpec := { name := "siloAlone", fn := fun _ => fun
  | [d1, d2, d3] => { results := [.lit (.bool false)], args := [d1, d2, d3] }
  | _ => none }
def SiloAloneWrongFalsely : Prop := siloAloneRow.holds Try.pinned (OpenSpec.ofChange siloAloneWrong)

/-- 'tidemilllaw20.SiloLoads': WHATEVER THE INPUT: true; the input reads as it did. -/
def siloLoadsSpec : ChangeSpec := { name := "siloLoads", fn := fun _ => fun
  | [d1, d2] => { results := [.lit (.bool true)], args := [d1, d2] }
  | _ => none }
def siloLoadsRow : OpenClaim := { program := "ytadeechoknpjhaa", sum := "ef3aa758430f2a1ded858421d638897ae583c9e523ec3babbd54c37a6d4e8118", func := "tidemill/tidemilllaw20.SiloLoads", spec := "siloLoads", unfollowed := true, recurses := true, apart := false }
def SiloLoadsSaid : Prop := siloLoadsRow.holds Try.pinned (OpenSpec.ofChange siloLoadsSpec)

/-- ITS FALSE NEIGHBOUR: 'it returns false'. Refute it at one input. -/
def siloLoadsWrong : ChangeSpec := { name := "siloLoads", fn := fun _ => fun
  | [d1, d2] => { results := [.lit (.bool false)], args := [d1, d2] }
  | _ => none }
def SiloLoadsWrongFalsely : Prop := siloLoadsRow.holds Try.pinned (OpenSpec.ofChange siloLoadsWrong)

/- THE SECOND FORM. 'bulk': how many values and letters a reading holds, each counted each time it is reached (what is shared counts as often as it is met; a slice's spare places count too). A statement '..UptoSaid' is the law's where the arguments, and the package variables that the reading takes, are together of bulk at most 1048576: NARROWER than '..Said'. Prove '..Said' where nothing that the law and all that it calls make is longer than what came in: it says more and counts as full. Else prove '..UptoSaid'. A law counts once. -/
mutual
def uptoBulk {H : Type} : DataW H → Nat
  | .lit (.string bytes) => bytes.length + 1
  | .lit _ => 1
  | .nil => 1
  | .ptr d => uptoBulk d + 1
  | .slice elems spare => uptoBulkAll elems + uptoBulkAll spare + 1
  | .agg parts => uptoBulkAll parts + 1
  | .iface _ d => uptoBulk d + 1
  | .map entries => uptoBulkEntries entries + 1
  | .held _ => 1
def uptoBulkAll {H : Type} : List (DataW H) → Nat
  | [] => 0
  | d :: r => uptoBulk d + uptoBulkAll r
def uptoBulkEntries {H : Type} : List (Lit × DataW H) → Nat
  | [] => 0
  | x :: r => uptoBulkEntry x + uptoBulkEntries r
def uptoBulkEntry {H : Type} : Lit × DataW H → Nat
  | (.string bytes, d) => bytes.length + uptoBulk d + 1
  | (_, d) => uptoBulk d + 1
 end
def uptoSmall : (H : Type) → List (DataW H) → Bool := fun _ ds => decide (uptoBulkAll ds ≤ 1048576)
def OpenSpec.upto (s : _root_.Go.ChangeSpec) : _root_.Go.OpenSpec := { _root_.Go.OpenSpec.ofChange s with cond := some uptoSmall }

/-- 'tidemilllaw20.SiloRanges', WHERE WHAT IT READS IS OF BULK AT MOST 1048576: true; the input reads as it did. -/
def siloRangesUptoRow : OpenClaim := { program := "ytadeechoknpjhaa", sum := "ef3aa758430f2a1ded858421d638897ae583c9e523ec3babbd54c37a6d4e8118", func := "tidemill/tidemilllaw20.SiloRanges", spec := "siloRanges", unfollowed := true, recurses := true, apart := false, narrowed := true }
def SiloRangesUptoSaid : Prop := siloRangesUptoRow.holds Try.pinned (OpenSpec.upto siloRangesSpec)

/-- 'tidemilllaw20.SiloOrders', WHERE WHAT IT READS IS OF BULK AT MOST 1048576: true; the input reads as it did. -/
def siloOrdersUptoRow : OpenClaim := { program := "ytadeechoknpjhaa", sum := "ef3aa758430f2a1ded858421d638897ae583c9e523ec3babbd54c37a6d4e8118", func := "tidemill/tidemilllaw20.SiloOrders", spec := "siloOrders", unfollowed := true, recurses := true, apart := false, narrowed := true }
def SiloOrdersUptoSaid : Prop := siloOrdersUptoRow.holds Try.pinned (OpenSpec.upto siloOrdersSpec)

/-- 'tidemilllaw20.SiloRises', WHERE WHAT IT READS IS OF BULK AT MOST 1048576: true; the input reads as it did. -/
def siloRisesUptoRow : OpenClaim := { program := "ytadeechoknpjhaa", sum := "ef3aa758430f2a1ded858421d638897ae583c9e523ec3babbd54c37a6d4e8118", func := "tidemill/tidemilllaw20.SiloRises", spec := "siloRises", unfollowed := true, recurses := true, apart := false, narrowed := true }
def SiloRisesUptoSaid : Prop := siloRisesUptoRow.holds Try.pinned (OpenSpec.upto siloRisesSpec)

/-- 'tidemilllaw20.SiloAlone', WHERE WHAT IT READS IS OF BULK AT MOST 1048576: true; the input reads as it did. -/
def siloAloneUptoRow : OpenClaim := { program := "ytadeechoknpjhaa", sum := "ef3aa758430f2a1ded858421d638897ae583c9e523ec3babbd54c37a6d4e8118", func := "tidemill/tidemilllaw20.SiloAlone", spec := "siloAlone", unfollowed := true, recurses := true, apart := false, narrowed := true }
def SiloAloneUptoSaid : Prop := siloAloneUptoRow.holds Try.pinned (OpenSpec.upto siloAloneSpec)

/-- 'tidemilllaw20.SiloLoads', WHERE WHAT IT READS IS OF BULK AT MOST 1048576: true; the input reads as it did. -/
def siloLoadsUptoRow : OpenClaim := { program := "ytadeechoknpjhaa", sum := "ef3aa758430f2a1ded858421d638897ae583c9e523ec3babbd54c37a6d4e8118", func := "tidemill/tidemilllaw20.SiloLoads", spec := "siloLoads", unfollowed := true, recurses := true, apart := false, narrowed := true }
def SiloLoadsUptoSaid : Prop := siloLoadsUptoRow.holds Try.pinned (OpenSpec.upto siloLoadsSpec)

end Rows
end Go.Proofs.Ytadeechoknpjhaa

/-
  No cell of these rows narrows 'for every input' (looked for: loops, veiled, ifaces, maps, wideKeys, modest, calm, conditions, laid).
  DERIVED. THE GIVEN ROWS OF THIS SEAT. 4 by the template 'for every input the law returns true; each argument reads behind the call as it read before'; 0 by the template 'total and deterministic' (their statements: YtpljdckppmobeaaTotals.lean).
  GIVEN WITH THE SEED: the statements are not yours to turn. If you find one false, say at which input.
  Laid BY PROGRAM, IN A SANDBOX (cutbox-rows.mjs): the forced cells as the released guide's own fill.sh prints them over the translation f5f6a7d61973382c… (all of the seat's roots in one cut). By AI agents, Wed Nov 11 2026. No macro, syntax, notation, axiom, sorry.
-/
import Derived.Test.YtpljdckppmobeaaChecked
import GoSem.Claim
import GoSem.ClaimJoined
import GoSem.ClaimMapViews
import Derived.JoinedTies
import Derived.KernelRfl
namespace Go.Proofs.Ytpljdckppmobeaa
/- THE CELL 'sum', in the pinned program and in every row, IS THE sha256 OF THE DUMP (.gsa) THAT YtpljdckppmobeaaProg.lean LOADS. Nothing in Lean hashes anything: it is a label: what it is worth is what the hold of that sum in a sandbox is worth. -/
noncomputable def Try.pinned : Pinned := { name := "ytpljdckppmobeaa", sum := "f5f6a7d61973382c9c209047bc8fc8fe7c2a93690459cb9fedd7bc74af50cd6c", checked := Try.checked }
namespace Rows
def none {H : Type} : Left H := { results := [], args := [] }

/-- 'tidemilllaw13.MarkRises': WHATEVER THE INPUT: true; the input reads as it did. -/
def markRisesSpec : ChangeSpec := { name := "markRises", fn := fun _ => fun
  | [d1, d2] => { results := [.lit (.bool true)], args := [d1, d2] }
  | _ => none }
def markRisesRow : OpenClaim := { program := "ytpljdckppmobeaa", sum := "f5f6a7d61973382c9c209047bc8fc8fe7c2a93690459cb9fedd7bc74af50cd6c", func := "tidemill/tidemilllaw13.MarkRises", spec := "markRises", inPlace := ["internal/bytealg.abigen_runtime_cmpstring"], unfollowed := true, recurses := true, apart := false }
def MarkRisesSaid : Prop := markRisesRow.holds Try.pinned (OpenSpec.ofChange markRisesSpec)

/-- ITS FALSE NEIGHBOUR: 'it returns false'. Refute it at one input. -/
def markRisesWrong : ChangeSpec := { name := "markRises", fn := fun _ => fun
  | [d1, d2] => { results := [.lit (.bool false)], args := [d1, d2] }
  | _ => none }
def MarkRisesWrongFalsely : Prop := markRisesRow.holds Try.pinned (OpenSpec.ofChange markRisesWrong)

/-- 'tidemilllaw13.MarkTurns': WHATEVER THE INPUT: true; the input reads as it did. -/
def markTurnsSpec : ChangeSpec := { name := "markTurns", fn := fun _ => fun
  | [d1, d2] => { results := [.lit (.bool true)], args := [d1, d2] }
  | _ => none }
def markTurnsRow : OpenClaim := { program := "ytpljdckppmobeaa", sum := "f5f6a7d61973382c9c209047bc8fc8fe7c2a93690459cb9fedd7bc74af50cd6c", func := "tidemill/tidemilllaw13.MarkTurns", spec := "markTurns", inPlace := ["internal/bytealg.abigen_runtime_cmpstring"], unfollowed := true, recurses := true, apart := false }
def MarkTurnsSaid : Prop := markTurnsRow.holds Try.pinned (OpenSpec.ofChange markTurnsSpec)

/-- ITS FALSE NEIGHBOUR: 'it returns false'. Refute it at one input. -/
def markTurnsWrong : ChangeSpec := { name := "markTurns", fn := fun _ => fun
  | [d1, d2] => { results := [.lit (.bool false)], args := [d1, d2] }
  | _ => none }
def MarkTurnsWrongFalsely : Prop := markTurnsRow.holds Try.pinned (OpenSpec.ofChange markTurnsWrong)

/-- 'tidemilllaw13.MarkPlays': WHATEVER THE INPUT: true; the input reads as it did. -/
def markPlaysSpec : ChangeSpec := { name := "markPlays", fn := fun _ => fun
  | [d1, d2, d3] => { results := [.lit (.bool true)], args := [d1, d2, d3] }
  | _ => none }
def markPlaysRow : OpenClaim := { program := "ytpljdckppmobeaa", sum := "f5f6a7d61973382c9c209047bc8fc8fe7c2a93690459cb9fedd7bc74af50cd6c", func := "tidemill/tidemilllaw13.MarkPlays", spec := "markPlays", inPlace := ["internal/bytealg.abigen_runtime_cmpstring"], unfollowed := true, recurses := true, apart := false }
def MarkPlaysSaid : Prop := markPlaysRow.holds Try.pinned (OpenSpec.ofChange markPlaysSpec)

/-- ITS FALSE NEIGHBOUR: 'it returns false'. Refute it at one input. -/
def markPlaysWrong : ChangeSpec := { name := "markPlays", fn := fun _ => fun
  | [d1, d2, d3] => { results := [.lit (.bool false)], args := [d1, d2, d3] }
  | _ => none }
def MarkPlaysWrongFalsely : Prop := markPlaysRow.holds Try.pinned (OpenSpec.ofChange markPlaysWrong)

/-- 'tidemilllaw13.MarkLoads': WHATEVER THE INPUT: true; the input reads as it did. -/
def markLoadsSpec : ChangeSpec := { name := "markLoads", fn := fun _ => fun
  | [d1, d2, d3] => { results := [.lit (.bool true)], args := [d1, d2, d3] }
  | _ => none }
def markLoadsRow : OpenClaim := { program := "ytpljdckppmobeaa", sum := "f5f6a7d61973382c9c209047bc8fc8fe7c2a93690459cb9fedd7bc74af50cd6c", func := "tidemill/tidemilllaw13.MarkLoads", spec := "markLoads", inPlace := ["internal/bytealg.abigen_runtime_cmpstring", "internal/bytealg.IndexByteString", "internal/bytealg.IndexString"], unfollowed := true, recurses := true, named := ["internal/bytealg.MaxLen"], apart := false }
def MarkLoadsSaid : Prop := markLoadsRow.holds Try.pinned (OpenSpec.ofChange markLoadsSpec)

/-- ITS FALSE NEIGHBOUR: 'it returns false'. Refute it at one input. -/
def markLoadsWrong : ChangeSpec := { name := "markLoads", fn := fun _ => fun
  | [d1, d2, d3] => { results := [.lit (.bool false)], args := [d1, d2, d3] }
  | _ => none }
def MarkLoadsWrongFalsely : Prop := markLoadsRow.holds Try.pinned (OpenSpec.ofChange markLoadsWrong)

/- THE SECOND FORM. 'bulk': how many values and letters a reading holds, each counted each time it is reached (what is shared counts as often as it is met; a slice's spare places count too). A statement '..UptoSaid' is the law's where the arguments, and the package variables that the reading takes, are together of bulk at most 1048576: NARROWER than '..Said'. Prove '..Said' where nothing that the law and all that it calls make is longer than what came in: it says more and counts as full. Else prove '..UptoSaid'. A law counts once. -/
mutual
def uptoBulk {H : Type} : DataW H → Nat
  | .lit (.string bytes) => bytes.length + 1
  | .lit _ => 1
  | .nil => 1
  | .ptr d => uptoBulk d + 1
  | .slice elems spare => uptoBulkAll elems + uptoBulkAll spare + 1
  | .agg parts => uptoBulkAll parts + 1
  | .iface _ d => uptoBulk d + 1
  | .map entries => uptoBulkEntries entries + 1
  | .held _ => 1
def uptoBulkAll {H : Type} : List (DataW H) → Nat
  | [] => 0
  | d :: r => uptoBulk d + uptoBulkAll r
def uptoBulkEntries {H : Type} : List (Lit × DataW H) → Nat
  | [] => 0
  | x :: r => uptoBulkEntry x + uptoBulkEntries r
def uptoBulkEntry {H : Type} : Lit × DataW H → Nat
  | (.string bytes, d) => bytes.length + uptoBulk d + 1
  | (_, d) => uptoBulk d + 1
 end
def uptoSmall : (H : Type) → List (DataW H) → Bool := fun _ ds => decide (uptoBulkAll ds ≤ 1048576)
def OpenSpec.upto (s : _root_.Go.ChangeSpec) : _root_.Go.OpenSpec := { _root_.Go.OpenSpec.ofChange s with cond := some uptoSmall }

/-- 'tidemilllaw13.MarkRises', WHERE WHAT IT READS IS OF BULK AT MOST 1048576: true; the input reads as it did. -/
def markRisesUptoRow : OpenClaim := { program := "ytpljdckppmobeaa", sum := "f5f6a7d61973382c9c209047bc8fc8fe7c2a93690459cb9fedd7bc74af50cd6c", func := "tidemill/tidemilllaw13.MarkRises", spec := "markRises", inPlace := ["internal/bytealg.abigen_runtime_cmpstring"], unfollowed := true, recurses := true, apart := false, narrowed := true }
def MarkRisesUptoSaid : Prop := markRisesUptoRow.holds Try.pinned (OpenSpec.upto markRisesSpec)

/-- 'tidemilllaw13.MarkTurns', WHERE WHAT IT READS IS OF BULK AT MOST 1048576: true; the input reads as it did. -/
def markTurnsUptoRow : OpenClaim := { program := "ytpljdckppmobeaa", sum := "f5f6a7d61973382c9c209047bc8fc8fe7c2a93690459cb9fedd7bc74af50cd6c", func := "tidemill/tidemilllaw13.MarkTurns", spec := "markTurns", inPlace := ["internal/bytealg.abigen_runtime_cmpstring"], unfollowed := true, recurses := true, apart := false, narrowed := true }
def MarkTurnsUptoSaid : Prop := markTurnsUptoRow.holds Try.pinned (OpenSpec.upto markTurnsSpec)

/-- 'tidemilllaw13.MarkPlays', WHERE WHAT IT READS IS OF BULK AT MOST 1048576: true; the input reads as it did. -/
def markPlaysUptoRow : OpenClaim := { program := "ytpljdckppmobeaa", sum := "f5f6a7d61973382c9c209047bc8fc8fe7c2a93690459cb9fedd7bc74af50cd6c", func := "tidemill/tidemilllaw13.MarkPlays", spec := "markPlays", inPlace := ["internal/bytealg.abigen_runtime_cmpstring"], unfollowed := true, recurses := true, apart := false, narrowed := true }
def MarkPlaysUptoSaid : Prop := markPlaysUptoRow.holds Try.pinned (OpenSpec.upto markPlaysSpec)

/-- 'tidemilllaw13.MarkLoads', WHERE WHAT IT READS IS OF BULK AT MOST 1048576: true; the input reads as it did. -/
def markLoadsUptoRow : OpenClaim := { program := "ytpljdckppmobeaa", sum := "f5f6a7d61973382c9c209047bc8fc8fe7c2a93690459cb9fedd7bc74af50cd6c", func := "tidemill/tidemilllaw13.MarkLoads", spec := "markLoads", inPlace := ["internal/bytealg.abigen_runtime_cmpstring", "internal/bytealg.IndexByteString", "internal/bytealg.IndexString"], unfollowed := true, recurses := true, named := ["internal/bytealg.MaxLen"], apart := false, narrowed := true }
def MarkLoadsUptoSaid : Prop := markLoadsUptoRow.holds Try.pinned (OpenSpec.upto markLoadsSpec)

end Rows
end Go.Proofs.Ytpljdckppmobeaa

/-
  No cell of these rows narrows 'for every input' (looked for: loops, veiled, ifaces, maps, wideKeys, modest, calm, conditions, laid).
  DERIVED. THE GIVEN ROWS OF THIS SEAT. 4 by the template 'for every input the law returns true; each argument reads behind the call as it read before'; 0 by the template 'total and deterministic' (their statements: YtjlobcbjhnfjcaaTotals.lean).
  GIVEN WITH THE SEED: the statements are not yours to turn. If you find one false, say at which input.
  Laid BY PROGRAM, IN A SANDBOX (cutbox-rows.mjs): the forced cells as the released guide's own fill.sh prints them over the translation a3b7f102bb9ffb50… (all of the seat's roots in one cut). By AI agents, Wed Nov 11 2026. No macro, syntax, notation, axiom, sorry.
-/
import Derived.Test.YtjlobcbjhnfjcaaChecked
import GoSem.Claim
import GoSem.ClaimJoined
import GoSem.ClaimMapViews
import Derived.JoinedTies
import Derived.KernelRfl
namespace Go.Proofs.Ytjlobcbjhnfjcaa
/- THE CELL 'sum', in the pinned program and in every row, IS THE sha256 OF THE DUMP (.gsa) THAT YtjlobcbjhnfjcaaProg.lean LOADS. Nothing in Lean hashes anything: it is a label: what it is worth is what the hold of that sum in a sandbox is worth. -/
noncomputable def Try.pinned : Pinned := { name := "ytjlobcbjhnfjcaa", sum := "a3b7f102bb9ffb50f3a1bbb97298e8c9cfbfdb7dc528ec197c498e3fd930f51a", checked := Try.checked }
namespace Rows
def none {H : Type} : Left H := { results := [], args := [] }

/-- 'tidemilllaw06.SackNear': WHATEVER THE INPUT: true; the input reads as it did. -/
def sackNearSpec : ChangeSpec := { name := "sackNear", fn := fun _ => fun
  | [d1, d2, d3] => { results := [.lit (.bool true)], args := [d1, d2, d3] }
  | _ => none }
def sackNearRow : OpenClaim := { program := "ytjlobcbjhnfjcaa", sum := "a3b7f102bb9ffb50f3a1bbb97298e8c9cfbfdb7dc528ec197c498e3fd930f51a", func := "tidemill/tidemilllaw06.SackNear", spec := "sackNear", unfollowed := true, recurses := true, apart := false }
def SackNearSaid : Prop := sackNearRow.holds Try.pinned (OpenSpec.ofChange sackNearSpec)

/-- ITS FALSE NEIGHBOUR: 'it returns false'. Refute it at one input. -/
def sackNearWrong : ChangeSpec := { name := "sackNear", fn := fun _ => fun
  | [d1, d2, d3] => { results := [.lit (.bool false)], args := [d1, d2, d3] }
  | _ => none }
def SackNearWrongFalsely : Prop := sackNearRow.holds Try.pinned (OpenSpec.ofChange sackNearWrong)

/-- 'tidemilllaw06.SackRuns': WHATEVER THE INPUT: true; the input reads as it did. -/
def sackRunsSpec : ChangeSpec := { name := "sackRuns", fn := fun _ => fun
  | [d1, d2] => { results := [.lit (.bool true)], args := [d1, d2] }
  | _ => none }
def sackRunsRow : OpenClaim := { program := "ytjlobcbjhnfjcaa", sum := "a3b7f102bb9ffb50f3a1bbb97298e8c9cfbfdb7dc528ec197c498e3fd930f51a", func := "tidemill/tidemilllaw06.SackRuns", spec := "sackRuns", unfollowed := true, recurses := true, apart := false }
def SackRunsSaid : Prop := sackRunsRow.holds Try.pinned (OpenSpec.ofChange sackRunsSpec)

/-- ITS FALSE NEIGHBOUR: 'it returns false'. Refute it at one input. -/
def sackRunsWrong : ChangeSpec := { name := "sackRuns", fn := fun _ => fun
  | [d1, d2] => { results := [.lit (.bool false)], args := [d1, d2] }
  | _ => none }
def SackRunsWrongFalsely : Prop := sackRunsRow.holds Try.pinned (OpenSpec.ofChange sackRunsWrong)

/-- 'tidemilllaw06.SackPlays': WHATEVER THE INPUT: true; the input reads as it did. -/
def sackPlaysSpec : ChangeSpec := { name := "sackPlays", fn := fun _ => fun
  | [d1, d2, d3] => { results := [.lit (.bool true)], args := [d1, d2, d3] }
  | _ => none }
def sackPlaysRow : OpenClaim := { program := "ytjlobcbjhnfjcaa", sum := "a3b7f102bb9ffb50f3a1bbb97298e8c9cfbfdb7dc528ec197c498e3fd930f51a", func := "tidemill/tidemilllaw06.SackPlays", spec := "sackPlays", unfollowed := true, recurses := true, apart := false }
def SackPlaysSaid : Prop := sackPlaysRow.holds Try.pinned (OpenSpec.ofChange sackPlaysSpec)

/-- ITS FALSE NEIGHBOUR: 'it returns false'. Refute it at one input. -/
def sackPlaysWrong : ChangeSpec := { name := "sackPlays", fn := fun _ => fun
  | [d1, d2, d3] => { results := [.lit (.bool false)], args := [d1, d2, d3] }
  | _ => none }
def SackPlaysWrongFalsely : Prop := sackPlaysRow.holds Try.pinned (OpenSpec.ofChange sackPlaysWrong)

/-- 'tidemilllaw06.SackMerges': WHATEVER THE INPUT: true; the input reads as it did. -/
def sackMergesSpec : ChangeSpec := { name := "sackMerges", fn := fun _ => fun
  | [d1, d2, d3] => { results := [.lit (.bool true)], args := [d1, d2, d3] }
  | _ => none }
def sackMergesRow : OpenClaim := { program := "ytjlobcbjhnfjcaa", sum := "a3b7f102bb9ffb50f3a1bbb97298e8c9cfbfdb7dc528ec197c498e3fd930f51a", func := "tidemill/tidemilllaw06.SackMerges", spec := "sackMerges", unfollowed := true, recurses := true, apart := false }
def SackMergesSaid : Prop := sackMergesRow.holds Try.pinned (OpenSpec.ofChange sackMergesSpec)

/-- ITS FALSE NEIGHBOUR: 'it returns false'. Refute it at one input. -/
def sackMergesWrong : ChangeSpec := { name := "sackMerges", fn := fun _ => fun
  | [d1, d2, d3] => { results := [.lit (.bool false)], args := [d1, d2, d3] }
  | _ => none }
def SackMergesWrongFalsely : Prop := sackMergesRow.holds Try.pinned (OpenSpec.ofChange sackMergesWrong)

/- THE SECOND FORM. 'bulk': how many values and letters a reading holds, each counted each time it is reached (what is shared counts as often as it is met; a slice's spare places count too). A statement '..UptoSaid' is the law's where the arguments, and the package variables that the reading takes, are together of bulk at most 1048576: NARROWER than '..Said'. Prove '..Said' where nothing that the law and all that it calls make is longer than what came in: it says more and counts as full. Else prove '..UptoSaid'. A law counts once. -/
mutual
def uptoBulk {H : Type} : DataW H → Nat
  | .lit (.string bytes) => bytes.length + 1
  | .lit _ => 1
  | .nil => 1
  | .ptr d => uptoBulk d + 1
  | .slice elems spare => uptoBulkAll elems + uptoBulkAll spare + 1
  | .agg parts => uptoBulkAll parts + 1
  | .iface _ d => uptoBulk d + 1
  | .map entries => uptoBulkEntries entries + 1
  | .held _ => 1
def uptoBulkAll {H : Type} : List (DataW H) → Nat
  | [] => 0
  | d :: r => uptoBulk d + uptoBulkAll r
def uptoBulkEntries {H : Type} : List (Lit × DataW H) → Nat
  | [] => 0
  | x :: r => uptoBulkEntry x + uptoBulkEntries r
def uptoBulkEntry {H : Type} : Lit × DataW H → Nat
  | (.string bytes, d) => bytes.length + uptoBulk d + 1
  | (_, d) => uptoBulk d + 1
 end
def uptoSmall : (H : Type) → List (DataW H) → Bool := fun _ ds => decide (uptoBulkAll ds ≤ 1048576)
def OpenSpec.upto (s : _root_.Go.ChangeSpec) : _root_.Go.OpenSpec := { _root_.Go.OpenSpec.ofChange s with cond := some uptoSmall }

/-- 'tidemilllaw06.SackNear', WHERE WHAT IT READS IS OF BULK AT MOST 1048576: true; the input reads as it did. -/
def sackNearUptoRow : OpenClaim := { program := "ytjlobcbjhnfjcaa", sum := "a3b7f102bb9ffb50f3a1bbb97298e8c9cfbfdb7dc528ec197c498e3fd930f51a", func := "tidemill/tidemilllaw06.SackNear", spec := "sackNear", unfollowed := true, recurses := true, apart := false, narrowed := true }
def SackNearUptoSaid : Prop := sackNearUptoRow.holds Try.pinned (OpenSpec.upto sackNearSpec)

/-- 'tidemilllaw06.SackRuns', WHERE WHAT IT READS IS OF BULK AT MOST 1048576: true; the input reads as it did. -/
def sackRunsUptoRow : OpenClaim := { program := "ytjlobcbjhnfjcaa", sum := "a3b7f102bb9ffb50f3a1bbb97298e8c9cfbfdb7dc528ec197c498e3fd930f51a", func := "tidemill/tidemilllaw06.SackRuns", spec := "sackRuns", unfollowed := true, recurses := true, apart := false, narrowed := true }
def SackRunsUptoSaid : Prop := sackRunsUptoRow.holds Try.pinned (OpenSpec.upto sackRunsSpec)

/-- 'tidemilllaw06.SackPlays', WHERE WHAT IT READS IS OF BULK AT MOST 1048576: true; the input reads as it did. -/
def sackPlaysUptoRow : OpenClaim := { program := "ytjlobcbjhnfjcaa", sum := "a3b7f102bb9ffb50f3a1bbb97298e8c9cfbfdb7dc528ec197c498e3fd930f51a", func := "tidemill/tidemilllaw06.SackPlays", spec := "sackPlays", unfollowed := true, recurses := true, apart := false, narrowed := true }
def SackPlaysUptoSaid : Prop := sackPlaysUptoRow.holds Try.pinned (OpenSpec.upto sackPlaysSpec)

/-- 'tidemilllaw06.SackMerges', WHERE WHAT IT READS IS OF BULK AT MOST 1048576: true; the input reads as it did. -/
def sackMergesUptoRow : OpenClaim := { program := "ytjlobcbjhnfjcaa", sum := "a3b7f102bb9ffb50f3a1bbb97298e8c9cfbfdb7dc528ec197c498e3fd930f51a", func := "tidemill/tidemilllaw06.SackMerges", spec := "sackMerges", unfollowed := true, recurses := true, apart := false, narrowed := true }
def SackMergesUptoSaid : Prop := sackMergesUptoRow.holds Try.pinned (OpenSpec.upto sackMergesSpec)

end Rows
end Go.Proofs.Ytjlobcbjhnfjcaa

/-
  No cell of these rows narrows 'for every input' (looked for: loops, veiled, ifaces, maps, wideKeys, modest, calm, conditions, laid).
  DERIVED. THE GIVEN ROWS OF THIS SEAT. 11 by the template 'for every input the law returns true; each argument reads behind the call as it read before'; 0 by the template 'total and deterministic' (their statements: YtkjkpmeommfdgaaTotals.lean).
  GIVEN WITH THE SEED: the statements are not yours to turn. If you find one false, say at which input.
  Laid BY PROGRAM, IN A SANDBOX (cutbox-rows.mjs): the forced cells as the released guide's own fill.sh prints them over the translation 146909f74d921d78… (all of the seat's roots in one cut). By AI agents, Wed Nov 11 2026. No macro, syntax, notation, axiom, sorry.
-/
import Derived.Test.YtkjkpmeommfdgaaChecked
import GoSem.Claim
import GoSem.ClaimJoined
import GoSem.ClaimMapViews
import Derived.JoinedTies
import Derived.KernelRfl
namespace Go.Proofs.Ytkjkpmeommfdgaa
/- THE CELL 'sum', in the pinned program and in every row, IS THE sha256 OF THE DUMP (.gsa) THAT YtkjkpmeommfdgaaProg.lean LOADS. Nothing in Lean hashes anything: it is a label: what it is worth is what the hold of that sum in a sandbox is worth. -/
noncomputable def Try.pinned : Pinned := { name := "ytkjkpmeommfdgaa", sum := "146909f74d921d78eef15563d062c62c6650f45ca4458a6f0bfa114f60e74eab", checked := Try.checked }
namespace Rows
def none {H : Type} : Left H := { results := [], args := [] }

/-- 'tidemilllaw27.WeaveFilters': WHATEVER THE INPUT: true; the input reads as it did. -/
def weaveFiltersSpec : ChangeSpec := { name := "weaveFilters", fn := fun _ => fun
  | [d1, d2, d3] => { results := [.lit (.bool true)], args := [d1, d2, d3] }
  | _ => none }
def weaveFiltersRow : OpenClaim := { program := "ytkjkpmeommfdgaa", sum := "146909f74d921d78eef15563d062c62c6650f45ca4458a6f0bfa114f60e74eab", func := "tidemill/tidemilllaw27.WeaveFilters", spec := "weaveFilters", unfollowed := true, recurses := true, apart := false }
def WeaveFiltersSaid : Prop := weaveFiltersRow.holds Try.pinned (OpenSpec.ofChange weaveFiltersSpec)

/-- ITS FALSE NEIGHBOUR: 'it returns false'. Refute it at one input. -/
def weaveFiltersWrong : ChangeSpec := { name := "weaveFilters", fn := fun _ => fun
  | [d1, d2, d3] => { results := [.lit (.bool false)], args := [d1, d2, d3] }
  | _ => none }
def WeaveFiltersWrongFalsely : Prop := weaveFiltersRow.holds Try.pinned (OpenSpec.ofChange weaveFiltersWrong)

/-- 'tidemilllaw27.WeaveScans': WHATEVER THE INPUT: true; the input reads as it did. -/
def weaveScansSpec : ChangeSpec := { name := "weaveScans", fn := fun _ => fun
  | [d1, d2, d3] => { results := [.lit (.bool true)], args := [d1, d2, d3] }
  | _ => none }
def weaveScansRow : OpenClaim := { program := "ytkjkpmeommfdgaa", sum := "146909f74d921d78eef15563d062c62c6650f45ca4458a6f0bfa114f60e74eab", func := "tidemill/tidemilllaw27.WeaveScans", spec := "weaveScans", unfollowed := true, recurses := true, apart := false }
def WeaveScansSaid : Prop := weaveScansRow.holds Try.pinned (OpenSpec.ofChange weaveScansSpec)

/-- ITS FALSE NEIGHBOUR: 'it returns false'. Refute it at one input. -/
def weaveScansWrong : ChangeSpec := { name := "weaveScans", fn := fun _ => fun
  | [d1, d2, d3] => { results := [.lit (.bool false)], args := [d1, d2, d3] }
  | _ => none }
def WeaveScansWrongFalsely : Prop := weaveScansRow.holds Try.pinned (OpenSpec.ofChange weaveScansWrong)

/-- 'tidemilllaw27.WeavePairs': WHATEVER THE INPUT: true; the input reads as it did. -/
def weavePairsSpec : ChangeSpec := { name := "weavePairs", fn := fun _ => fun
  | [d1, d2] => { results := [.lit (.bool true)], args := [d1, d2] }
  | _ => none }
def weavePairsRow : OpenClaim := { program := "ytkjkpmeommfdgaa", sum := "146909f74d921d78eef15563d062c62c6650f45ca4458a6f0bfa114f60e74eab", func := "tidemill/tidemilllaw27.WeavePairs", spec := "weavePairs", unfollowed := true, recurses := true, apart := false }
def WeavePairsSaid : Prop := weavePairsRow.holds Try.pinned (OpenSpec.ofChange weavePairsSpec)

/-- ITS FALSE NEIGHBOUR: 'it returns false'. Refute it at one input. -/
def weavePairsWrong : ChangeSpec := { name := "weavePairs", fn := fun _ => fun
  | [d1, d2] => { results := [.lit (.bool false)], args := [d1, d2] }
  | _ => none }
def WeavePairsWrongFalsely : Prop := weavePairsRow.holds Try.pinned (OpenSpec.ofChange weavePairsWrong)

/-- 'tidemilllaw27.WeaveChunks': WHATEVER THE INPUT: true; the input reads as it did. -/
def weaveChunksSpec : ChangeSpec := { name := "weaveChunks", fn := fun _ => fun
  | [d1, d2, d3] => { results := [.lit (.bool true)], args := [d1, d2, d3] }
  | _ => none }
def weaveChunksRow : OpenClaim := { program := "ytkjkpmeommfdgaa", sum := "146909f74d921d78eef15563d062c62c6650f45ca4458a6f0bfa114f60e74eab", func := "tidemill/tidemilllaw27.WeaveChunks", spec := "weaveChunks", unfollowed := true, recurses := true, apart := false }
def WeaveChunksSaid : Prop := weaveChunksRow.holds Try.pinned (OpenSpec.ofChange weaveChunksSpec)

/-- ITS FALSE NEIGHBOUR: 'it returns false'. Refute it at one input. -/
def weaveChunksWrong : ChangeSpec := { name := "weaveChunks", fn := fun _ => fun
  | [d1, d2, d3] => { results := [.lit (.bool false)], args := [d1, d2, d3] }
  | _ => none }
def WeaveChunksWrongFalsely : Prop := weaveChunksRow.holds Try.pinned (OpenSpec.ofChange weaveChunksWrong)

/-- 'tidemilllaw27.WeaveMaps': WHATEVER THE INPUT: true; the input reads as it did. -/
def weaveMapsSpec : ChangeSpec := { name := "weaveMaps", fn := fun _ => fun
  | [d1, d2, d3] => { results := [.lit (.bool true)], args := [d1, d2, d3] }
  | _ => none }
def weaveMapsRow : OpenClaim := { program := "ytkjkpmeommfdgaa", sum := "146909f74d921d78eef15563d062c62c6650f45ca4458a6f0bfa114f60e74eab", func := "tidemill/tidemilllaw27.WeaveMaps", spec := "weaveMaps", unfollowed := true, recurses := true, apart := false }
def WeaveMapsSaid : Prop := weaveMapsRow.holds Try.pinned (OpenSpec.ofChange weaveMapsSpec)

/-- ITS FALSE NEIGHBOUR: 'it returns false'. Refute it at one input. -/
def weaveMapsWrong : ChangeSpec := { name := "weaveMaps", fn := fun _ => fun
  | [d1, d2, d3] => { results := [.lit (.bool false)], args := [d1, d2, d3] }
  | _ => none }
def WeaveMapsWrongFalsely : Prop := weaveMapsRow.holds Try.pinned (OpenSpec.ofChange weaveMapsWrong)

/-- 'tidemilllaw27.WeaveTakes': WHATEVER THE INPUT: true; the input reads as it did. -/
def weaveTakesSpec : ChangeSpec := { name := "weaveTakes", fn := fun _ => fun
  | [d1, d2, d3] => { results := [.lit (.bool true)], args := [d1, d2, d3] }
  | _ => none }
def weaveTakesRow : OpenClaim := { program := "ytkjkpmeommfdgaa", sum := "146909f74d921d78eef15563d062c62c6650f45ca4458a6f0bfa114f60e74eab", func := "tidemill/tidemilllaw27.WeaveTakes", spec := "weaveTakes", unfollowed := true, recurses := true, apart := false }
def WeaveTakesSaid : Prop := weaveTakesRow.holds Try.pinned (OpenSpec.ofChange weaveTakesSpec)

/-- ITS FALSE NEIGHBOUR: 'it returns false'. Refute it at one input. -/
def weaveTakesWrong : ChangeSpec := { name := "weaveTakes", fn := fun _ => fun
  | [d1, d2, d3] => { results := [.lit (.bool false)], args := [d1, d2, d3] }
  | _ => none }
def WeaveTakesWrongFalsely : Prop := weaveTakesRow.holds Try.pinned (OpenSpec.ofChange weaveTakesWrong)

/-- 'tidemilllaw30.PlotBuckets': WHATEVER THE INPUT: true; the input reads as it did. -/
def plotBucketsSpec : ChangeSpec := { name := "plotBuckets", fn := fun _ => fun
  | [d1, d2] => { results := [.lit (.bool true)], args := [d1, d2] }
  | _ => none }
def plotBucketsRow : OpenClaim := { program := "ytkjkpmeommfdgaa", sum := "146909f74d921d78eef15563d062c62c6650f45ca4458a6f0bfa114f60e74eab", func := "tidemill/tidemilllaw30.PlotBuckets", spec := "plotBuckets", unfollowed := true, recurses := true, apart := false }
def PlotBucketsSaid : Prop := plotBucketsRow.holds Try.pinned (OpenSpec.ofChange plotBucketsSpec)

/-- ITS FALSE NEIGHBOUR: 'it returns false'. Refute it at one input. -/
def plotBucketsWrong : ChangeSpec := { name := "plotBuckets", fn := fun _ => fun
  | [d1, d2] => { results := [.lit (.bool false)], args := [d1, d2] }
  | _ => none }
def PlotBucketsWrongFalsely : Prop := plotBucketsRow.holds Try.pinned (OpenSpec.ofChange plotBucketsWrong)

/-- 'tidemilllaw30.PlotSums': WHATEVER THE INPUT: true; the input reads as it did. -/
def plotSumsSpec : ChangeSpec := { name := "plotSums", fn := fun _ => fun
  | [d1, d2] => { results := [.lit (.bool true)], args := [d1, d2] }
  | _ => none }
def plotSumsRow : OpenClaim := { program := "ytkjkpmeommfdgaa", sum := "146909f74d921d78eef15563d062c62c6650f45ca4458a6f0bfa114f60e74eab", func := "tidemill/tidemilllaw30.PlotSums", spec := "plotSums", unfollowed := true, recurses := true, apart := false }
def PlotSumsSaid : Prop := plotSumsRow.holds Try.pinned (OpenSpec.ofChange plotSumsSpec)

/-- ITS FALSE NEIGHBOUR: 'it returns false'. Refute it at one input. -/
def plotSumsWrong : ChangeSpec := { name := "plotSums", fn := fun _ => fun
  | [d1, d2] => { results := [.lit (.bool false)], args := [d1, d2] }
  | _ => none }
def PlotSumsWrongFalsely : Prop := plotSumsRow.holds Try.pinned (OpenSpec.ofChange plotSumsWrong)

/-- 'tidemilllaw30.PlotTables': WHATEVER THE INPUT: true; the input reads as it did. -/
def plotTablesSpec : ChangeSpec := { name := "plotTables", fn := fun _ => fun
  | [d] => { results := [.lit (.bool true)], args := [d] }
  | _ => none }
def plotTablesRow : OpenClaim := { program := "ytkjkpmeommfdgaa", sum := "146909f74d921d78eef15563d062c62c6650f45ca4458a6f0bfa114f60e74eab", func := "tidemill/tidemilllaw30.PlotTables", spec := "plotTables", inPlace := ["internal/abi.NoEscape", "internal/bytealg.MakeNoZero"], unfollowed := true, recurses := true, apart := false }
def PlotTablesSaid : Prop := plotTablesRow.holds Try.pinned (OpenSpec.ofChange plotTablesSpec)

/-- ITS FALSE NEIGHBOUR: 'it returns false'. Refute it at one input. -/
def plotTablesWrong : ChangeSpec := { name := "plotTables", fn := fun _ => fun
  | [d] => { results := [.lit (.bool false)], args := [d] }
  | _ => none }
def PlotTablesWrongFalsely : Prop := plotTablesRow.holds Try.pinned (OpenSpec.ofChange plotTablesWrong)

/-- 'tidemilllaw30.PlotBars': WHATEVER THE INPUT: true; the input reads as it did. -/
def plotBarsSpec : ChangeSpec := { name := "plotBars", fn := fun _ => fun
  | [d1, d2] => { results := [.lit (.bool true)], args := [d1, d2] }
  | _ => none }
def plotBarsRow : OpenClaim := { program := "ytkjkpmeommfdgaa", sum := "146909f74d921d78eef15563d062c62c6650f45ca4458a6f0bfa114f60e74eab", func := "tidemill/tidemilllaw30.PlotBars", spec := "plotBars", inPlace := ["internal/abi.NoEscape", "internal/bytealg.MakeNoZero"], unfollowed := true, recurses := true, apart := false }
def PlotBarsSaid : Prop := plotBarsRow.holds Try.pinned (OpenSpec.ofChange plotBarsSpec)

/-- ITS FALSE NEIGHBOUR: 'it returns false'. Refute it at one input. -/
def plotBarsWrong : ChangeSpec := { name := "plotBars", fn := fun _ => fun
  | [d1, d2] => { results := [.lit (.bool false)], args := [d1, d2] }
  | _ => none }
def PlotBarsWrongFalsely : Prop := plotBarsRow.holds Try.pinned (OpenSpec.ofChange plotBarsWrong)

/-- 'tidemilllaw27.WeaveMerges': WHATEVER THE INPUT: true; the input reads as it did. -/
def weaveMergesSpec : ChangeSpec := { name := "weaveMerges", fn := fun _ => fun
  | [d1, d2, d3] => { results := [.lit (.bool true)], args := [d1, d2, d3] }
  | _ => none }
def weaveMergesRow : OpenClaim := { program := "ytkjkpmeommfdgaa", sum := "146909f74d921d78eef15563d062c62c6650f45ca4458a6f0bfa114f60e74eab", func := "tidemill/tidemilllaw27.WeaveMerges", spec := "weaveMerges", unfollowed := true, recurses := true, apart := false }
def WeaveMergesSaid : Prop := weaveMergesRow.holds Try.pinned (OpenSpec.ofChange weaveMergesSpec)

/-- ITS FALSE NEIGHBOUR: 'it returns false'. Refute it at one input. -/
def weaveMergesWrong : ChangeSpec := { name := "weaveMerges", fn := fun _ => fun
  | [d1, d2, d3] => { results := [.lit (.bool false)], args := [d1, d2, d3] }
  | _ => none }
def WeaveMergesWrongFalsely : Prop := weaveMergesRow.holds Try.pinned (OpenSpec.ofChange weaveMergesWrong)

/- THE SECOND FORM. 'bulk': how many values and letters a reading holds, each counted each time it is reached (what is shared counts as often as it is met; a slice's spare places count too). A statement '..UptoSaid' is the law's where the arguments, and the package variables that the reading takes, are together of bulk at most 1048576: NARROWER than '..Said'. Prove '..Said' where nothing that the law and all that it calls make is longer than what came in: it says more and counts as full. Else prove '..UptoSaid'. A law counts once. -/
mutual
def uptoBulk {H : Type} : DataW H → Nat
  | .lit (.string bytes) => bytes.length + 1
  | .lit _ => 1
  | .nil => 1
  | .ptr d => uptoBulk d + 1
  | .slice elems spare => uptoBulkAll elems + uptoBulkAll spare + 1
  | .agg parts => uptoBulkAll parts + 1
  | .iface _ d => uptoBulk d + 1
  | .map entries => uptoBulkEntries entries + 1
  | .held _ => 1
def uptoBulkAll {H : Type} : List (DataW H) → Nat
  | [] => 0
  | d :: r => uptoBulk d + uptoBulkAll r
def uptoBulkEntries {H : Type} : List (Lit × DataW H) → Nat
  | [] => 0
  | x :: r => uptoBulkEntry x + uptoBulkEntries r
def uptoBulkEntry {H : Type} : Lit × DataW H → Nat
  | (.string bytes, d) => bytes.length + uptoBulk d + 1
  | (_, d) => uptoBulk d + 1
 end
def uptoSmall : (H : Type) → List (DataW H) → Bool := fun _ ds => decide (uptoBulkAll ds ≤ 1048576)
def OpenSpec.upto (s : _root_.Go.ChangeSpec) : _root_.Go.OpenSpec := { _root_.Go.OpenSpec.ofChange s with cond := some uptoSmall }

/-- 'tidemilllaw27.WeaveFilters', WHERE WHAT IT READS IS OF BULK AT MOST 1048576: true; the input reads as it did. -/
def weaveFiltersUptoRow : OpenClaim := { program := "ytkjkpmeommfdgaa", sum := "146909f74d921d78eef15563d062c62c6650f45ca4458a6f0bfa114f60e74eab", func := "tidemill/tidemilllaw27.WeaveFilters", spec := "weaveFilters", unfollowed := true, recurses := true, apart := false, narrowed := true }
def WeaveFiltersUptoSaid : Prop := weaveFiltersUptoRow.holds Try.pinned (OpenSpec.upto weaveFiltersSpec)

/-- 'tidemilllaw27.WeaveScans', WHERE WHAT IT READS IS OF BULK AT MOST 1048576: true; the input reads as it did. -/
def weaveScansUptoRow : OpenClaim := { program := "ytkjkpmeommfdgaa", sum := "146909f74d921d78eef15563d062c62c6650f45ca4458a6f0bfa114f60e74eab", func := "tidemill/tidemilllaw27.WeaveScans", spec := "weaveScans", unfollowed := true, recurses := true, apart := false, narrowed := true }
def WeaveScansUptoSaid : Prop := weaveScansUptoRow.holds Try.pinned (OpenSpec.upto weaveScansSpec)

/-- 'tidemilllaw27.WeavePairs', WHERE WHAT IT READS IS OF BULK AT MOST 1048576: true; the input reads as it did. -/
def weavePairsUptoRow : OpenClaim := { program := "ytkjkpmeommfdgaa", sum := "146909f74d921d78eef15563d062c62c6650f45ca4458a6f0bfa114f60e74eab", func := "tidemill/tidemilllaw27.WeavePairs", spec := "weavePairs", unfollowed := true, recurses := true, apart := false, narrowed := true }
def WeavePairsUptoSaid : Prop := weavePairsUptoRow.holds Try.pinned (OpenSpec.upto weavePairsSpec)

/-- 'tidemilllaw27.WeaveChunks', WHERE WHAT IT READS IS OF BULK AT MOST 1048576: true; the input reads as it did. -/
def weaveChunksUptoRow : OpenClaim := { program := "ytkjkpmeommfdgaa", sum := "146909f74d921d78eef15563d062c62c6650f45ca4458a6f0bfa114f60e74eab", func := "tidemill/tidemilllaw27.WeaveChunks", spec := "weaveChunks", unfollowed := true, recurses := true, apart := false, narrowed := true }
def WeaveChunksUptoSaid : Prop := weaveChunksUptoRow.holds Try.pinned (OpenSpec.upto weaveChunksSpec)

/-- 'tidemilllaw27.WeaveMaps', WHERE WHAT IT READS IS OF BULK AT MOST 1048576: true; the input reads as it did. -/
def weaveMapsUptoRow : OpenClaim := { program := "ytkjkpmeommfdgaa", sum := "146909f74d921d78eef15563d062c62c6650f45ca4458a6f0bfa114f60e74eab", func := "tidemill/tidemilllaw27.WeaveMaps", spec := "weaveMaps", unfollowed := true, recurses := true, apart := false, narrowed := true }
def WeaveMapsUptoSaid : Prop := weaveMapsUptoRow.holds Try.pinned (OpenSpec.upto weaveMapsSpec)

/-- 'tidemilllaw27.WeaveTakes', WHERE WHAT IT READS IS OF BULK AT MOST 1048576: true; the input reads as it did. -/
def weaveTakesUptoRow : OpenClaim := { program := "ytkjkpmeommfdgaa", sum := "146909f74d921d78eef15563d062c62c6650f45ca4458a6f0bfa114f60e74eab", func := "tidemill/tidemilllaw27.WeaveTakes", spec := "weaveTakes", unfollowed := true, recurses := true, apart := false, narrowed := true }
def WeaveTakesUptoSaid : Prop := weaveTakesUptoRow.holds Try.pinned (OpenSpec.upto weaveTakesSpec)

/-- 'tidemilllaw30.PlotBuckets', WHERE WHAT IT READS IS OF BULK AT MOST 1048576: true; the input reads as it did. -/
def plotBucketsUptoRow : OpenClaim := { program := "ytkjkpmeommfdgaa", sum := "146909f74d921d78eef15563d062c62c6650f45ca4458a6f0bfa114f60e74eab", func := "tidemill/tidemilllaw30.PlotBuckets", spec := "plotBuckets", unfollowed := true, recurses := true, apart := false, narrowed := true }
def PlotBucketsUptoSaid : Prop := plotBucketsUptoRow.holds Try.pinned (OpenSpec.upto plotBucketsSpec)

/-- 'tidemilllaw30.PlotSums', WHERE WHAT IT READS IS OF BULK AT MOST 1048576: true; the input reads as it did. -/
def plotSumsUptoRow : OpenClaim := { program := "ytkjkpmeommfdgaa", sum := "146909f74d921d78eef15563d062c62c6650f45ca4458a6f0bfa114f60e74eab", func := "tidemill/tidemilllaw30.PlotSums", spec := "plotSums", unfollowed := true, recurses := true, apart := false, narrowed := true }
def PlotSumsUptoSaid : Prop := plotSumsUptoRow.holds Try.pinned (OpenSpec.upto plotSumsSpec)

/-- 'tidemilllaw30.PlotTables', WHERE WHAT IT READS IS OF BULK AT MOST 1048576: true; the input reads as it did. -/
def plotTablesUptoRow : OpenClaim := { program := "ytkjkpmeommfdgaa", sum := "146909f74d921d78eef15563d062c62c6650f45ca4458a6f0bfa114f60e74eab", func := "tidemill/tidemilllaw30.PlotTables", spec := "plotTables", inPlace := ["internal/abi.NoEscape", "internal/bytealg.MakeNoZero"], unfollowed := true, recurses := true, apart := false, narrowed := true }
def PlotTablesUptoSaid : Prop := plotTablesUptoRow.holds Try.pinned (OpenSpec.upto plotTablesSpec)

/-- 'tidemilllaw30.PlotBars', WHERE WHAT IT READS IS OF BULK AT MOST 1048576: true; the input reads as it did. -/
def plotBarsUptoRow : OpenClaim := { program := "ytkjkpmeommfdgaa", sum := "146909f74d921d78eef15563d062c62c6650f45ca4458a6f0bfa114f60e74eab", func := "tidemill/tidemilllaw30.PlotBars", spec := "plotBars", inPlace := ["internal/abi.NoEscape", "internal/bytealg.MakeNoZero"], unfollowed := true, recurses := true, apart := false, narrowed := true }
def PlotBarsUptoSaid : Prop := plotBarsUptoRow.holds Try.pinned (OpenSpec.upto plotBarsSpec)

/-- 'tidemilllaw27.WeaveMerges', WHERE WHAT IT READS IS OF BULK AT MOST 1048576: true; the input reads as it did. -/
def weaveMergesUptoRow : OpenClaim := { program := "ytkjkpmeommfdgaa", sum := "146909f74d921d78eef15563d062c62c6650f45ca4458a6f0bfa114f60e74eab", func := "tidemill/tidemilllaw27.WeaveMerges", spec := "weaveMerges", unfollowed := true, recurses := true, apart := false, narrowed := true }
def WeaveMergesUptoSaid : Prop := weaveMergesUptoRow.holds Try.pinned (OpenSpec.upto weaveMergesSpec)

end Rows
end Go.Proofs.Ytkjkpmeommfdgaa

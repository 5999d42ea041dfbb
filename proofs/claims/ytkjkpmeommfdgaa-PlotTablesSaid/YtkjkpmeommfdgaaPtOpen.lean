/- Rows of texts as a row's argument. -/
import Derived.Test.YtkjkpmeommfdgaaProg
import Derived.Test.YtkjkpmeommfdgaaRowG
import Derived.Test.YtkjkpmeommfdgaaPtA
set_option linter.unusedSimpArgs false
set_option linter.unusedVariables false
namespace Go.Proofs.Ytkjkpmeommfdgaa
open Go.ChangeShapes Go.WideShapes Go.ChangeAt Go.RowKit
set_option maxRecDepth 100000 in
theorem open_rows {H : Type} {enc : TypeId × Value → H} {W : World} {b0 : Nat} {v : Value} {d : DataW H} {ps : List MemPlace} (hval : Value.okWide Try.prog W .any b0 74 v) (hd : DataW.Trod enc Try.prog W 0 (fun _ => true) true 74 v d ps) :
    ∃ (A : Option Addr) (cap : Nat) (rows : List SRow), v = .slice A rows.length cap ∧ R2 W A rows ∧ rows.length ≤ cap ∧ cap ≤ maxLen ∧ ∀ r ∈ rows, r.l.length ≤ maxLen := by
  obtain ⟨A, cap, L, h1, h2, h3, h4, h5⟩ := open_els (n := 1) (fun r => [sV r]) (fun r => Reads1 W r.a (r.l.map Value.string) ∧ r.l.length ≤ maxLen) (fun _ => rfl) Try.underlying74 (by kernel_rfl : Try.prog.cellsOf 75 = 1) (fun fuel cs x h => by
    obtain ⟨A, cap, L, g1, g2, g3, g4, _⟩ := open_cells (n := 1) (fun s : ByteArray => [Value.string s]) (fun _ => True) (fun _ => rfl) Try.underlying75 (by kernel_rfl : Try.prog.cellsOf 9 = 1) (fun fuel cs x h => by
      obtain ⟨s, e, _⟩ := DataW.trod_string Try.underlying9 h
      exact ⟨s, e, trivial⟩) h
    rw [flat1] at g2
    exact ⟨⟨A, cap, L⟩, g1, g2, Nat.le_trans g3 g4⟩) hval hd
  rw [flat1] at h2
  exact ⟨A, cap, L, h1, ⟨h2, fun r hr => (h5 r hr).1⟩, h3, h4, fun r hr => (h5 r hr).2⟩
end Go.Proofs.Ytkjkpmeommfdgaa

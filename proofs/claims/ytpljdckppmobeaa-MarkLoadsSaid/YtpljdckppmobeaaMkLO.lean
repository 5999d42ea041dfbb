/- A mark's state as a row's argument. -/
import Derived.Test.YtpljdckppmobeaaProg
import Derived.Test.YtpljdckppmobeaaRowG
import Derived.Test.YtpljdckppmobeaaMkOpen
import Derived.Test.YtpljdckppmobeaaMkS
namespace Go.Proofs.Ytpljdckppmobeaa
open Go.ChangeShapes Go.WideShapes Go.ChangeAt Go.RowKit

set_option maxRecDepth 100000 in
theorem open_state13 {H : Type} {enc : TypeId × Value → H} {W : World} {b0 : Nat} {v : Value} {d : DataW H} {ps : List MemPlace} (hval : Value.okWide Try.prog W .any b0 47 v)
    (hd : DataW.Trod enc Try.prog W 0 (fun _ => true) true 47 v d ps) : ∃ (now low : Int) (A : Option Addr) (cap : Nat) (L : List (KSM × VSM)), v = .agg #[.int .i64 now, .int .i64 low, .slice A L.length cap] ∧ Reads1 W A (flatS L) ∧ ∀ a ∈ L, a.1.size ≤ maxLen := by
  obtain ⟨cs, rfl, hsz⟩ := okWide_struct Try.underlying47 hval
  obtain ⟨fuel, hf⟩ := hd
  simp only [Value.cells] at hf
  obtain ⟨v0, v1, v2, n, y0, y1, y2, e, g0, g1, g2⟩ := flds3 Try.underlying47 (by kernel_rfl) rfl rfl rfl (by kernel_rfl) (by kernel_rfl) (by kernel_rfl) hf
  obtain ⟨k, e0, _⟩ := DataW.trod_int Try.underlying3 g0
  obtain ⟨u, e1, _⟩ := DataW.trod_int Try.underlying3 g1
  cases e0; cases e1
  obtain ⟨A, cap, L, h1, h2, h3, h4, h5⟩ := open_cells (n := 3) encS (fun a => a.1.size ≤ maxLen) (fun _ => rfl) Try.underlying45 (by kernel_rfl) (fun fuel cs x h => by
    obtain ⟨v0, v1, v2, n, y0, y1, y2, rfl, g0, g1, g2⟩ := flds3 Try.underlying75 (by kernel_rfl) rfl rfl rfl (by kernel_rfl) (by kernel_rfl) (by kernel_rfl) h
    obtain ⟨s, e0, _, e3⟩ := DataW.trod_string Try.underlying9 g0
    obtain ⟨u, e1, _⟩ := DataW.trod_int Try.underlying3 g1
    obtain ⟨k, e2, _⟩ := DataW.trod_int Try.underlying3 g2
    cases e0; cases e1; cases e2
    exact ⟨(s, u, k), rfl, e3⟩) g2
  cases h1
  refine ⟨k, u, A, cap, L, ?_, h2, h5⟩
  exact congrArg Value.agg (Array.toList_inj.1 e)
end Go.Proofs.Ytpljdckppmobeaa

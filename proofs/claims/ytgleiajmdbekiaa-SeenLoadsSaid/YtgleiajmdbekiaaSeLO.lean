/- A seen's state as a row's argument. -/
import Derived.Test.YtgleiajmdbekiaaProg
import Derived.Test.YtgleiajmdbekiaaRowG
import Derived.Test.YtgleiajmdbekiaaSeOpen
import Derived.Test.YtgleiajmdbekiaaSeE
namespace Go.Proofs.Ytgleiajmdbekiaa
open Go.ChangeShapes Go.WideShapes Go.ChangeAt Go.RowKit

theorem flds3 {P : Program} {t : TypeId} {f0 f1 f2 : Field} {H : Type} {enc : TypeId × Value → H} {W : World} {fuel : Nat} {cs : List Value} {x : DataW H × List MemPlace} (ht : P.underlying t = some (.struct #[f0, f1, f2])) (hc : P.cellsOf t = 3)
    (o0 : f0.offset = 0) (o1 : f1.offset = 1) (o2 : f2.offset = 2) (c0 : P.cellsOf f0.type = 1) (c1 : P.cellsOf f1.type = 1) (c2 : P.cellsOf f2.type = 1) (h : DataW.trod enc P W 0 (fun _ => true) true fuel t cs = some x) :
    ∃ v0 v1 v2 n y0 y1 y2, cs = [v0, v1, v2] ∧ DataW.trod enc P W 0 (fun _ => true) true n f0.type [v0] = some y0 ∧ DataW.trod enc P W 0 (fun _ => true) true n f1.type [v1] = some y1 ∧ DataW.trod enc P W 0 (fun _ => true) true n f2.type [v2] = some y2 := by
  obtain ⟨xs, n, _, _, hl, hxl, hf⟩ := DataW.trod_struct ht h
  rw [hc] at hl
  match cs, hl, xs, hxl with
  | [v0, v1, v2], _, [y0, y1, y2], _ =>
    have g0 := hf 0 f0 rfl
    have g1 := hf 1 f1 rfl
    have g2 := hf 2 f2 rfl
    simp [o0, o1, o2, c0, c1, c2] at g0 g1 g2
    exact ⟨v0, v1, v2, n, y0, y1, y2, rfl, g0, g1, g2⟩
theorem flds1 {P : Program} {t : TypeId} {f0 : Field} {H : Type} {enc : TypeId × Value → H} {W : World} {fuel : Nat} {cs : List Value} {x : DataW H × List MemPlace} (ht : P.underlying t = some (.struct #[f0])) (hc : P.cellsOf t = 1)
    (o0 : f0.offset = 0) (c0 : P.cellsOf f0.type = 1) (h : DataW.trod enc P W 0 (fun _ => true) true fuel t cs = some x) :
    ∃ v0 n y0, cs = [v0] ∧ DataW.trod enc P W 0 (fun _ => true) true n f0.type [v0] = some y0 := by
  obtain ⟨xs, n, _, _, hl, hxl, hf⟩ := DataW.trod_struct ht h
  rw [hc] at hl
  match cs, hl, xs, hxl with
  | [v0], _, [y0], _ =>
    have g0 := hf 0 f0 rfl
    simp [o0, c0] at g0
    exact ⟨v0, n, y0, rfl, g0⟩

set_option maxRecDepth 100000 in
theorem open_state14 {H : Type} {enc : TypeId × Value → H} {W : World} {b0 : Nat} {v : Value} {d : DataW H} {ps : List MemPlace} (hval : Value.okWide Try.prog W .any b0 38 v)
    (hd : DataW.Trod enc Try.prog W 0 (fun _ => true) true 38 v d ps) : ∃ (A : Option Addr) (cap : Nat) (rs : List SrcP), v = .agg #[.slice A rs.length cap] ∧ ReadsT W A rs ∧ ∀ r ∈ rs, r.1.size ≤ maxLen := by
  obtain ⟨cs, rfl, hsz⟩ := okWide_struct Try.underlying38 hval
  obtain ⟨fuel, hf⟩ := hd
  simp only [Value.cells] at hf
  obtain ⟨v0, n, y0, e, g0⟩ := flds1 Try.underlying38 (by kernel_rfl) rfl (by kernel_rfl) hf
  obtain ⟨A, cap, rs, h1, h2, h3, h4, h5⟩ := open_cells (n := 3) encT (fun r : SrcP => r.1.size ≤ maxLen ∧ Reads1 W r.2.2.2.1 (intsV r.2.2.1) ∧ r.2.2.1.length ≤ r.2.2.2.2) (fun _ => rfl) Try.underlying36 (by kernel_rfl) (fun fuel cs x h => by
    obtain ⟨v0, v1, v2, n, y0, y1, y2, rfl, g0, g1, g2⟩ := flds3 Try.underlying43 (by kernel_rfl) rfl rfl rfl (by kernel_rfl) (by kernel_rfl) (by kernel_rfl) h
    obtain ⟨s, e0, _, e3⟩ := DataW.trod_string Try.underlying9 g0
    obtain ⟨u, e1, _⟩ := DataW.trod_int Try.underlying3 g1
    obtain ⟨A5, c5, l, e2, k2, k3, _, _⟩ := open_cells (n := 1) (fun x : Int => [Value.int .i64 x]) (fun _ => True) (fun _ => rfl) Try.underlying41 (by kernel_rfl) (fun fuel cs x h => by
      obtain ⟨q, e, _⟩ := DataW.trod_int Try.underlying3 h
      exact ⟨q, e, trivial⟩) g2
    cases e0; cases e1; cases e2
    rw [flat1] at k2
    exact ⟨(s, u, l, A5, c5), rfl, e3, k2, k3⟩) g0
  cases h1
  exact ⟨A, cap, rs, congrArg Value.agg (Array.toList_inj.1 e), ⟨h2, fun r hr => (h5 r hr).2⟩, fun r hr => (h5 r hr).1⟩
end Go.Proofs.Ytgleiajmdbekiaa

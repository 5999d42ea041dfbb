/- Acts as a row's argument. -/
import Derived.Test.YtpljdckppmobeaaProg
import Derived.Test.YtpljdckppmobeaaRowG
import Derived.Test.YtpljdckppmobeaaMkRL
namespace Go.Proofs.Ytpljdckppmobeaa
open Go.ChangeShapes Go.WideShapes Go.ChangeAt Go.RowKit

theorem flds3 {P : Program} {t : TypeId} {f0 f1 f2 : Field} {H : Type} {enc : TypeId × Value → H} {W : World} {fuel : Nat} {cs : List Value} {x : DataW H × List MemPlace} (ht : P.underlying t = some (.struct #[f0, f1, f2])) (hc : P.cellsOf t = 3)
    (o0 : f0.offset = 0) (o1 : f1.offset = 1) (o2 : f2.offset = 2) (c0 : P.cellsOf f0.type = 1) (c1 : P.cellsOf f1.type = 1) (c2 : P.cellsOf f2.type = 1) (h : DataW.trod enc P W 0 (fun _ => true) true fuel t cs = some x) :
    ∃ v0 v1 v2 n y0 y1 y2, cs = [v0, v1, v2] ∧ DataW.trod enc P W 0 (fun _ => true) true n f0.type [v0] = some y0 ∧ DataW.trod enc P W 0 (fun _ => true) true n f1.type [v1] = some y1 ∧ DataW.trod enc P W 0 (fun _ => true) true n f2.type [v2] = some y2 := by
  obtain ⟨xs, n, _, _, hl, hxl, hf⟩ := DataW.trod_struct ht h
  rw [hc] at hl
  match cs, hl, xs, hxl with
  | [v0, v1, v2], _, [y0, y1, y2], _ =>
    have g0 := hf 0 f0 rfl
    have g1 := hf 1 f1 rfl
    have g2 := hf 2 f2 rfl
    simp [o0, o1, o2, c0, c1, c2] at g0 g1 g2
    exact ⟨v0, v1, v2, n, y0, y1, y2, rfl, g0, g1, g2⟩

set_option maxRecDepth 100000 in
theorem open_acts {H : Type} {enc : TypeId × Value → H} {W : World} {b0 : Nat} {v : Value} {d : DataW H} {ps : List MemPlace} (hval : Value.okWide Try.prog W .any b0 22 v)
    (hd : DataW.Trod enc Try.prog W 0 (fun _ => true) true 22 v d ps) : ∃ (A : Option Addr) (cap : Nat) (L : List Act13), v = .slice A L.length cap ∧ Reads1 W A (L.flatMap encC) ∧ L.length ≤ cap ∧ cap ≤ maxLen ∧ ∀ a ∈ L, a.src.size ≤ maxLen := by
  obtain ⟨A, cap, L, h1, h2, h3, h4, h5⟩ := open_els (n := 3) encC (fun a => a.src.size ≤ maxLen) (fun _ => rfl) Try.underlying22 (by kernel_rfl) (fun fuel cs x h => by
    obtain ⟨v0, v1, v2, n, y0, y1, y2, rfl, g0, g1, g2⟩ := flds3 Try.underlying29 (by kernel_rfl) rfl rfl rfl (by kernel_rfl) (by kernel_rfl) (by kernel_rfl) h
    obtain ⟨k, e0, _⟩ := DataW.trod_int Try.underlying3 g0
    obtain ⟨u, e1, _⟩ := DataW.trod_int Try.underlying3 g1
    obtain ⟨s, e2, _, e3⟩ := DataW.trod_string Try.underlying9 g2
    cases e0; cases e1; cases e2
    exact ⟨⟨k, u, s⟩, rfl, e3⟩) hval hd
  exact ⟨A, cap, L, h1, h2, h3, h4, h5⟩
end Go.Proofs.Ytpljdckppmobeaa

/- Acts as a row's argument. -/
import Derived.Test.YtgleiajmdbekiaaProg
import Derived.Test.YtgleiajmdbekiaaRowG
import Derived.Test.YtgleiajmdbekiaaSeO
namespace Go.Proofs.Ytgleiajmdbekiaa
open Go.ChangeShapes Go.WideShapes Go.ChangeAt Go.RowKit

theorem flds2 {P : Program} {t : TypeId} {f0 f1 : Field} {H : Type} {enc : TypeId × Value → H} {W : World} {fuel : Nat} {cs : List Value} {x : DataW H × List MemPlace} (ht : P.underlying t = some (.struct #[f0, f1])) (hc : P.cellsOf t = 2)
    (o0 : f0.offset = 0) (o1 : f1.offset = 1) (c0 : P.cellsOf f0.type = 1) (c1 : P.cellsOf f1.type = 1) (h : DataW.trod enc P W 0 (fun _ => true) true fuel t cs = some x) :
    ∃ v0 v1 n y0 y1, cs = [v0, v1] ∧ DataW.trod enc P W 0 (fun _ => true) true n f0.type [v0] = some y0 ∧ DataW.trod enc P W 0 (fun _ => true) true n f1.type [v1] = some y1 := by
  obtain ⟨xs, n, _, _, hl, hxl, hf⟩ := DataW.trod_struct ht h
  rw [hc] at hl
  match cs, hl, xs, hxl with
  | [v0, v1], _, [y0, y1], _ =>
    have g0 := hf 0 f0 rfl
    have g1 := hf 1 f1 rfl
    simp [o0, o1, c0, c1] at g0 g1
    exact ⟨v0, v1, n, y0, y1, rfl, g0, g1⟩

set_option maxRecDepth 100000 in
theorem open_acts {H : Type} {enc : TypeId × Value → H} {W : World} {b0 : Nat} {v : Value} {d : DataW H} {ps : List MemPlace} (hval : Value.okWide Try.prog W .any b0 22 v)
    (hd : DataW.Trod enc Try.prog W 0 (fun _ => true) true 22 v d ps) : ∃ (A : Option Addr) (cap : Nat) (L : Noted), v = .slice A L.length cap ∧ Reads1 W A (L.flatMap encQ) ∧ L.length ≤ cap ∧ cap ≤ maxLen ∧ ∀ a ∈ L, a.1.size ≤ maxLen := by
  obtain ⟨A, cap, L, h1, h2, h3, h4, h5⟩ := open_els (n := 2) encQ (fun a => a.1.size ≤ maxLen) (fun _ => rfl) Try.underlying22 (by kernel_rfl) (fun fuel cs x h => by
    obtain ⟨v0, v1, n, y0, y1, rfl, g0, g1⟩ := flds2 Try.underlying27 (by kernel_rfl) rfl rfl (by kernel_rfl) (by kernel_rfl) h
    obtain ⟨s, e0, _, e3⟩ := DataW.trod_string Try.underlying9 g0
    obtain ⟨k, e1, _⟩ := DataW.trod_int Try.underlying3 g1
    cases e0; cases e1
    exact ⟨(s, k), rfl, e3⟩) hval hd
  exact ⟨A, cap, L, h1, h2, h3, h4, h5⟩
end Go.Proofs.Ytgleiajmdbekiaa

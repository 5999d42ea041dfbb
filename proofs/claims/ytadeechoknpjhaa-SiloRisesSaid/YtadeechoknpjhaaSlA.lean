/- silo: its state; New. -/
import Derived.Test.YtadeechoknpjhaaProg
import Derived.Test.YtadeechoknpjhaaBase
import Derived.Test.YtadeechoknpjhaaRkCEE
import Derived.Test.YtadeechoknpjhaaRkCEF
import Derived.Test.YtadeechoknpjhaaSlK
set_option linter.unusedSimpArgs false
set_option linter.unusedVariables false
namespace Go.Proofs.Ytadeechoknpjhaa
open Go.RowKit Go.Shelf
attribute [local go_sem] Oper.semAt_some

abbrev RackC (q : Nat) (t : Tr KCE VCE) (l : List (KCE × VCE)) (W : World) : Prop := RackCE cmpC (.func 26) #[] #[] q t l W
/-- A silo in block sb: its fence, its entries; F: its blocks. -/
def SiloI (sb : Nat) (fence : Int) (l : List (KCE × VCE)) (F : Nat → Prop) (W : World) : Prop :=
  ∃ q t, Blk W sb #[.int .i64 fence, .pointer (some ⟨q, 0, none⟩)] 76 ∧ RackC q t l W ∧ (∀ j, F j ↔ j = sb ∨ j = q ∨ t.has j) ∧ ¬ (sb = q ∨ t.has sb)
section
variable {sb : Nat} {fence : Int} {l : List (KCE × VCE)} {F : Nat → Prop} {W W2 : World}
theorem SiloI.agree (h : SiloI sb fence l F W) (ha : Agree F W W2) : SiloI sb fence l F W2 := by
  obtain ⟨q, t, g1, g2, g3, g4⟩ := h
  exact ⟨q, t, g1.agree ha ((g3 _).2 (.inl rfl)), g2.agree (ha.mono fun j hj => (g3 j).2 (.inr hj)), g3, g4⟩
theorem SiloI.lt (h : SiloI sb fence l F W) : ∀ j, F j → j < W.heap.size := by
  obtain ⟨q, t, g1, g2, g3, g4⟩ := h
  intro j hj
  rcases (g3 j).1 hj with rfl | h
  · exact g1.lt
  · exact g2.lt j h
theorem SiloI.upd (h : SiloI sb fence l F W) {M : Nat → Prop} (hu : Upd M W W2) (hM : ∀ j, F j → ¬ M j) : SiloI sb fence l F W2 := h.agree (hu.agree fun j hj => ⟨h.lt j hj, hM j hj⟩)
end
end Go.Proofs.Ytadeechoknpjhaa

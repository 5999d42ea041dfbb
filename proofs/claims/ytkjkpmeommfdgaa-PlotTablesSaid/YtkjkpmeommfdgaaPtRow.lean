/- PlotTables answers true and leaves its input as it was, whatever the input. No conditions. -/
import Derived.Test.YtkjkpmeommfdgaaRowP
import Derived.Test.YtkjkpmeommfdgaaRowG
import Derived.Test.YtkjkpmeommfdgaaPtL
import Derived.Test.YtkjkpmeommfdgaaPtOpen
set_option linter.unusedSimpArgs false
set_option linter.unusedVariables false
namespace Go.Proofs.Ytkjkpmeommfdgaa
open Go.ChangeShapes Go.WideShapes Go.ChangeAt Go.RowKit

set_option maxRecDepth 100000 in
theorem plotTables_lifted (os : Os) (started : os.Started) (H : Type) (enc : TypeId × Value → H) :
    ReturnsInHanded {} Try.checked os 11 .any (Rows.plotTablesSpec.pre6 enc Try.prog Try.f11 Rows.plotTablesRow.domain false) (Rows.plotTablesSpec.post enc Try.prog Try.f11 false true false false) := by
  refine returnsInHanded_of_change (C := Try.checked) own_none started (by kernel_rfl) Try.func11
    (ChangeSpec.witness6 (enc := enc) (C := Try.checked) false ⟨#[], #[.slice none 0 0], []⟩ 8 (by kernel_rfl) (by kernel_rfl) (by kernel_rfl) (by kernel_rfl)) ?_
  intro W base args ds gs before hval0 hW hcnd _
  have hval : ∀ (j : Nat) t v, Try.f11.params[j]? = some t → args[j]? = some v → Value.okWide Try.prog W .any base t v := hval0
  have hW' := hW
  obtain ⟨p, q, hA0, hV, rfl, hfz, hnd⟩ := hW
  have hA : DataW.TrodAll enc Try.prog W 0 (fun _ => true) true Try.f11.params.toList args.toList ds p := hA0
  rw [Try.params11] at hA hval
  obtain ⟨v0, d0, rfl, rfl, h0⟩ := trodAll_one hA
  obtain ⟨rfl, rfl⟩ := trodVars_none hV
  obtain ⟨rowsA, cap0, rows, rfl, hr0, hl0, hc0, hz0⟩ := open_rows (hval 0 _ v0 rfl rfl) h0
  refine (callsIn_wide (n := 0)).1 ((plotTables_w hr0 (Nat.le_trans hl0 hc0) hz0).mono ?_)
  rintro e W' ⟨rfl, hB⟩
  replace hB := hB.below (B := W.heap.size) (Nat.le_refl _) (fun _ h => h.elim)
  exact ⟨_, rfl, law_post laid_out (by rw [Try.params11]; intro t ht; revert t ht; decide +kernel) rfl Try.underlying4 hW' rfl rfl hB⟩

theorem plotTables_holds : Rows.PlotTablesSaid :=
  OpenClaim.holds_of_wide 11 Try.f11 rfl rfl rfl rfl rfl rfl rfl ⟨rfl, rfl, rfl, rfl, rfl⟩ rfl rfl rfl rfl rfl (by kernel_rfl) Try.func11 (by kernel_rfl)
    (of_decide_eq_true (by kernel_rfl)) (by unfold Func.isWrapper; first | (rw [if_pos (by decide +kernel)]; kernel_rfl) | (rw [if_neg (by decide +kernel)]; exact ⟨rfl, rfl⟩))
    (fun os started H enc _ => plotTables_lifted os started H enc)
end Go.Proofs.Ytkjkpmeommfdgaa

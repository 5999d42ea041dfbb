/- SiloLoads answers true and leaves its input as it was, whatever the input. No conditions. -/
import Derived.Test.YtadeechoknpjhaaRowP
import Derived.Test.YtadeechoknpjhaaRowG
import Derived.Test.YtadeechoknpjhaaSlLl
import Derived.Test.YtadeechoknpjhaaSlLo
set_option linter.unusedSimpArgs false
set_option linter.unusedVariables false
namespace Go.Proofs.Ytadeechoknpjhaa
open Go.ChangeShapes Go.WideShapes Go.ChangeAt Go.RowKit

set_option maxRecDepth 100000 in
theorem siloLoads_lifted (os : Os) (started : os.Started) (H : Type) (enc : TypeId × Value → H) :
    ReturnsInHanded {} Try.checked os 7 .any (Rows.siloLoadsSpec.pre6 enc Try.prog Try.f7 Rows.siloLoadsRow.domain false) (Rows.siloLoadsSpec.post enc Try.prog Try.f7 false true false false) := by
  refine returnsInHanded_of_change (C := Try.checked) own_none started (by kernel_rfl) Try.func7
    (ChangeSpec.witness6 (enc := enc) (C := Try.checked) false ⟨#[], #[.agg #[.int .i64 0, .slice none 0 0], .agg #[.int .i64 0, .int .i64 0, .string ⟨#[]⟩, .string ⟨#[]⟩, .int .i64 0, .int .i64 0, .int .i64 0, .bool false, .int .i64 0, .int .i64 0, .int .i64 0, .int .i64 0, .int .i64 0, .int .i64 0, .int .i64 0, .int .i64 0, .bool false]], []⟩ 8 (by kernel_rfl) (by kernel_rfl) (by kernel_rfl) (by kernel_rfl)) ?_
  intro W base args ds gs before hval0 hW hcnd _
  have hval : ∀ (j : Nat) t v, Try.f7.params[j]? = some t → args[j]? = some v → Value.okWide Try.prog W .any base t v := hval0
  have hW' := hW
  obtain ⟨p, q, hA0, hV, rfl, hfz, hnd⟩ := hW
  have hA : DataW.TrodAll enc Try.prog W 0 (fun _ => true) true Try.f7.params.toList args.toList ds p := hA0
  rw [Try.params7] at hA hval
  obtain ⟨v0, v1, d0, d1, p0, p1, rfl, rfl, rfl, h0, h1⟩ := trodAll_two hA
  obtain ⟨rfl, rfl⟩ := trodVars_none hV
  obtain ⟨xF, xA, cap0, x, rfl, hr0, hl0, hc0, hz0⟩ := open_state20 (hval 0 _ v0 rfl rfl) h0
  obtain ⟨a, rfl⟩ := open_act20 (hval 1 _ v1 rfl rfl) h1
  refine (callsIn_wide (n := 0)).1 ((siloLoads_w hr0 (Nat.le_trans hl0 hc0) hz0).mono ?_)
  rintro e W' ⟨rfl, hB⟩
  replace hB := hB.below (B := W.heap.size) (Nat.le_refl _) (fun _ h => h.elim)
  exact ⟨_, rfl, law_post laid_out (by rw [Try.params7]; intro t ht; revert t ht; decide +kernel) rfl Try.underlying4 hW' rfl rfl hB⟩

theorem siloLoads_holds : Rows.SiloLoadsSaid :=
  OpenClaim.holds_of_wide 7 Try.f7 rfl rfl rfl rfl rfl rfl rfl ⟨rfl, rfl, rfl, rfl, rfl⟩ rfl rfl rfl rfl rfl (by kernel_rfl) Try.func7 (by kernel_rfl)
    (of_decide_eq_true (by kernel_rfl)) (by unfold Func.isWrapper; first | (rw [if_pos (by decide +kernel)]; kernel_rfl) | (rw [if_neg (by decide +kernel)]; exact ⟨rfl, rfl⟩))
    (fun os started H enc _ => siloLoads_lifted os started H enc)
end Go.Proofs.Ytadeechoknpjhaa

/- SiloAlone answers true and leaves its input as it was, whatever the input. No conditions. -/
import Derived.Test.YtadeechoknpjhaaRowP
import Derived.Test.YtadeechoknpjhaaRowG
import Derived.Test.YtadeechoknpjhaaSlAw
import Derived.Test.YtadeechoknpjhaaSlOp
set_option linter.unusedSimpArgs false
set_option linter.unusedVariables false
namespace Go.Proofs.Ytadeechoknpjhaa
open Go.ChangeShapes Go.WideShapes Go.ChangeAt Go.RowKit

set_option maxRecDepth 100000 in
theorem siloAlone_lifted (os : Os) (started : os.Started) (H : Type) (enc : TypeId × Value → H) :
    ReturnsInHanded {} Try.checked os 6 .any (Rows.siloAloneSpec.pre6 enc Try.prog Try.f6 Rows.siloAloneRow.domain false) (Rows.siloAloneSpec.post enc Try.prog Try.f6 false true false false) := by
  refine returnsInHanded_of_change (C := Try.checked) own_none started (by kernel_rfl) Try.func6
    (ChangeSpec.witness6 (enc := enc) (C := Try.checked) false ⟨#[], #[.slice none 0 0, .int .i64 0, .int .u8 0], []⟩ 8 (by kernel_rfl) (by kernel_rfl) (by kernel_rfl) (by kernel_rfl)) ?_
  intro W base args ds gs before hval0 hW hcnd _
  have hval : ∀ (j : Nat) t v, Try.f6.params[j]? = some t → args[j]? = some v → Value.okWide Try.prog W .any base t v := hval0
  have hW' := hW
  obtain ⟨p, q, hA0, hV, rfl, hfz, hnd⟩ := hW
  have hA : DataW.TrodAll enc Try.prog W 0 (fun _ => true) true Try.f6.params.toList args.toList ds p := hA0
  rw [Try.params6] at hA hval
  obtain ⟨v0, v1, v2, d0, d1, d2, p0, p1, p2, rfl, rfl, rfl, h0, h1, h2⟩ := trodAll_three hA
  obtain ⟨rfl, rfl⟩ := trodVars_none hV
  obtain ⟨acts, cap0, xs0, rfl, hr0, hl0, hc0⟩ := open_acts (hval 0 _ v0 rfl rfl) h0
  obtain ⟨cut, rfl, rfl, rfl, wicut⟩ := open_int Try.underlying3 (hval 1 3 v1 rfl rfl) h1
  obtain ⟨most, rfl, rfl, rfl, wmost0⟩ := open_int Try.underlying5 (hval 2 5 v2 rfl rfl) h2
  have wmost := byte_in wmost0
  obtain ⟨most, rfl⟩ := Int.eq_ofNat_of_zero_le wmost.1
  refine (callsIn_wide (n := 0)).1 ((siloAlone_w hr0 (Nat.le_trans hl0 hc0) (by omega)).mono ?_)
  rintro e W' ⟨rfl, hB⟩
  replace hB := hB.below (B := W.heap.size) (Nat.le_refl _) (fun _ h => h.elim)
  exact ⟨_, rfl, law_post laid_out (by rw [Try.params6]; intro t ht; revert t ht; decide +kernel) rfl Try.underlying4 hW' rfl rfl hB⟩

theorem siloAlone_holds : Rows.SiloAloneSaid :=
  OpenClaim.holds_of_wide 6 Try.f6 rfl rfl rfl rfl rfl rfl rfl ⟨rfl, rfl, rfl, rfl, rfl⟩ rfl rfl rfl rfl rfl (by kernel_rfl) Try.func6 (by kernel_rfl)
    (of_decide_eq_true (by kernel_rfl)) (by unfold Func.isWrapper; first | (rw [if_pos (by decide +kernel)]; kernel_rfl) | (rw [if_neg (by decide +kernel)]; exact ⟨rfl, rfl⟩))
    (fun os started H enc _ => siloAlone_lifted os started H enc)
end Go.Proofs.Ytadeechoknpjhaa

/- MarkPlays answers true and leaves its input as it was, whatever the input. No conditions. -/
import Derived.Test.YtpljdckppmobeaaRowP
import Derived.Test.YtpljdckppmobeaaRowG
import Derived.Test.YtpljdckppmobeaaMkJL
import Derived.Test.YtpljdckppmobeaaMkOpen
namespace Go.Proofs.Ytpljdckppmobeaa
open Go.ChangeShapes Go.WideShapes Go.ChangeAt Go.RowKit

set_option maxRecDepth 100000 in
theorem markPlays_lifted (os : Os) (started : os.Started) (H : Type) (enc : TypeId × Value → H) :
    ReturnsInHanded {} Try.checked os 5 .any (Rows.markPlaysSpec.pre6 enc Try.prog Try.f5 Rows.markPlaysRow.domain false) (Rows.markPlaysSpec.post enc Try.prog Try.f5 false true false false) := by
  refine returnsInHanded_of_change (C := Try.checked) own_none started (by kernel_rfl) Try.func5
    (ChangeSpec.witness6 (enc := enc) (C := Try.checked) false ⟨#[], #[.int .i64 0, .int .i64 0, .slice none 0 0], []⟩ 8 (by kernel_rfl) (by kernel_rfl) (by kernel_rfl) (by kernel_rfl)) ?_
  intro W base args ds gs before hval0 hW hcnd _
  have hval : ∀ (j : Nat) t v, Try.f5.params[j]? = some t → args[j]? = some v → Value.okWide Try.prog W .any base t v := hval0
  have hW' := hW
  obtain ⟨p, q, hA0, hV, rfl, hfz, hnd⟩ := hW
  have hA : DataW.TrodAll enc Try.prog W 0 (fun _ => true) true Try.f5.params.toList args.toList ds p := hA0
  rw [Try.params5] at hA hval
  obtain ⟨v0, v1, v2, d0, d1, d2, p0, p1, p2, rfl, rfl, rfl, h0, h1, h2⟩ := trodAll_three hA
  obtain ⟨rfl, rfl⟩ := trodVars_none hV
  obtain ⟨idle, rfl, rfl, rfl, wiidle⟩ := open_int Try.underlying3 (hval 0 3 v0 rfl rfl) h0
  obtain ⟨drain, rfl, rfl, rfl, widrain⟩ := open_int Try.underlying3 (hval 1 3 v1 rfl rfl) h1
  obtain ⟨acts, cap2, xs2, rfl, hr2, hl2, hc2, hz2⟩ := open_acts (hval 2 _ v2 rfl rfl) h2
  refine (callsIn_wide (n := 0)).1 ((markPlays_law hr2 hz2).mono ?_)
  rintro e W' ⟨rfl, hB⟩
  replace hB := hB.below (B := W.heap.size) (Nat.le_refl _) (fun _ h => h.elim)
  exact ⟨_, rfl, law_post laid_out (by rw [Try.params5]; intro t ht; revert t ht; decide +kernel) rfl Try.underlying4 hW' rfl rfl hB⟩

theorem markPlays_holds : Rows.MarkPlaysSaid :=
  OpenClaim.holds_of_wide 5 Try.f5 rfl rfl rfl rfl rfl rfl rfl ⟨rfl, rfl, rfl, rfl, rfl⟩ rfl rfl rfl rfl rfl (by kernel_rfl) Try.func5 (by kernel_rfl)
    (of_decide_eq_true (by kernel_rfl)) (by unfold Func.isWrapper; first | (rw [if_pos (by decide +kernel)]; kernel_rfl) | (rw [if_neg (by decide +kernel)]; exact ⟨rfl, rfl⟩))
    (fun os started H enc _ => markPlays_lifted os started H enc)
end Go.Proofs.Ytpljdckppmobeaa

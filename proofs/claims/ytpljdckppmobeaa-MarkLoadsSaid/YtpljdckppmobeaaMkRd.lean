/- MarkLoads answers true and leaves its input as it was, whatever the input. No conditions. -/
import Derived.Test.YtpljdckppmobeaaRowP
import Derived.Test.YtpljdckppmobeaaRowG
import Derived.Test.YtpljdckppmobeaaMkLL
import Derived.Test.YtpljdckppmobeaaMkLO
namespace Go.Proofs.Ytpljdckppmobeaa
open Go.ChangeShapes Go.WideShapes Go.ChangeAt Go.RowKit

set_option maxRecDepth 100000 in
theorem markLoads_lifted (os : Os) (started : os.Started) (H : Type) (enc : TypeId × Value → H) :
    ReturnsInHanded {} Try.checked os 6 .any (Rows.markLoadsSpec.pre6 enc Try.prog Try.f6 Rows.markLoadsRow.domain false) (Rows.markLoadsSpec.post enc Try.prog Try.f6 false true false false) := by
  refine returnsInHanded_of_change (C := Try.checked) own_none started (by kernel_rfl) Try.func6
    (ChangeSpec.witness6 (enc := enc) (C := Try.checked) false ⟨#[], #[.agg #[.int .i64 0, .int .i64 0], .agg #[.int .i64 0, .int .i64 0, .slice none 0 0], .slice none 0 0], []⟩ 8 (by kernel_rfl) (by kernel_rfl) (by kernel_rfl) (by kernel_rfl)) ?_
  intro W base args ds gs before hval0 hW hcnd _
  have hval : ∀ (j : Nat) t v, Try.f6.params[j]? = some t → args[j]? = some v → Value.okWide Try.prog W .any base t v := hval0
  have hW' := hW
  obtain ⟨p, q, hA0, hV, rfl, hfz, hnd⟩ := hW
  have hA : DataW.TrodAll enc Try.prog W 0 (fun _ => true) true Try.f6.params.toList args.toList ds p := hA0
  rw [Try.params6] at hA hval
  obtain ⟨v0, v1, v2, d0, d1, d2, p0, p1, p2, rfl, rfl, rfl, h0, h1, h2⟩ := trodAll_three hA
  obtain ⟨rfl, rfl⟩ := trodVars_none hV
  obtain ⟨ends0, ends1, rfl, rfl, rfl, wendsa, wendsb⟩ := Go.WideMaps.open_pair (P := Try.prog) (k := 52) (e := 3) ⟨Try.underlying52, by kernel_rfl, by kernel_rfl, by kernel_rfl⟩ Try.underlying3 (hval 0 52 v0 rfl rfl) h0
  obtain ⟨sNow, sLow, sA, cap1, s, rfl, hr1, hz1⟩ := open_state13 (hval 1 _ v1 rfl rfl) h1
  obtain ⟨acts, cap2, xs2, rfl, hr2, hl2, hc2, hz2⟩ := open_acts (hval 2 _ v2 rfl rfl) h2
  refine (callsIn_wide (n := 0)).1 ((markLoads_law hr1 hz1 hr2 hz2).mono ?_)
  rintro e W' ⟨rfl, hB⟩
  replace hB := hB.below (B := W.heap.size) (Nat.le_refl _) (fun _ h => h.elim)
  exact ⟨_, rfl, law_post laid_out (by rw [Try.params6]; intro t ht; revert t ht; decide +kernel) rfl Try.underlying4 hW' rfl rfl hB⟩

theorem markLoads_holds : Rows.MarkLoadsSaid :=
  OpenClaim.holds_of_wide 6 Try.f6 rfl rfl rfl rfl rfl rfl rfl ⟨rfl, rfl, rfl, rfl, rfl⟩ rfl rfl rfl rfl rfl (by kernel_rfl) Try.func6 (by kernel_rfl)
    (of_decide_eq_true (by kernel_rfl)) (by unfold Func.isWrapper; first | (rw [if_pos (by decide +kernel)]; kernel_rfl) | (rw [if_neg (by decide +kernel)]; exact ⟨rfl, rfl⟩))
    (fun os started H enc _ => markLoads_lifted os started H enc)
end Go.Proofs.Ytpljdckppmobeaa

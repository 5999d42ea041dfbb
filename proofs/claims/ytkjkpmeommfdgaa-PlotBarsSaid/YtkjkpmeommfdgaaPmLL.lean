/- PlotBars: the law, all ways. -/
import Derived.Test.YtkjkpmeommfdgaaProg
import Derived.Test.YtkjkpmeommfdgaaBase
import Derived.Test.YtkjkpmeommfdgaaPmL
set_option linter.unusedSimpArgs false
set_option linter.unusedVariables false
namespace Go.Proofs.Ytkjkpmeommfdgaa
open Go.RowKit Go.Shelf
attribute [local go_sem] Oper.semAt_some
theorem castL_of : ∀ {xs : List Int}, xs.any outB = false → ∃ ks : List Nat, xs = castL ks ∧ ∀ k ∈ ks, k ≤ 1125899906842624
  | [], _ => ⟨[], rfl, fun k h => by simp at h⟩
  | x :: xs, h => by
    rw [List.any_cons, Bool.or_eq_false_iff] at h
    obtain ⟨ks, e, hk⟩ := castL_of h.2
    have h1 := h.1
    simp only [outB, decide_eq_false_iff_not] at h1
    obtain ⟨k, rfl⟩ := Int.eq_ofNat_of_zero_le (show 0 ≤ x by omega)
    refine ⟨k :: ks, by rw [e]; rfl, fun j hj => ?_⟩
    rcases List.mem_cons.1 hj with rfl | hj
    · omega
    · exact hk j hj
set_option maxHeartbeats 1000000 in
theorem plotBars_w {n : Nat} {A : Option Addr} {cap : Nat} {xs : List Int} {wd : Int} {W : World} (hr : Reads1 W A (xs.map (Value.int .i64))) (hl : xs.length ≤ cap) (hc : cap ≤ maxLen) :
    CallsIn Fence.wide n Try.prog 12 #[.slice A xs.length cap, .int .i64 wd] W fun e W2 => e = .returned (.bool true) ∧ Upd (fun _ => False) W W2 := by
  by_cases h40 : xs.length ≤ 40
  · by_cases hg : (1 ≤ wd ∧ wd ≤ 200) ∧ xs.any outB = false
    · obtain ⟨⟨w1, w2⟩, ha⟩ := hg
      obtain ⟨ks, rfl, hk⟩ := castL_of ha
      obtain ⟨width, rfl⟩ := Int.eq_ofNat_of_zero_le (show 0 ≤ wd by omega)
      have hlen : (castL ks).length = ks.length := by simp
      rw [hlen] at h40 ⊢
      exact plotBarsYes_w hr h40 hk (by omega) (by omega)
    · refine plotBarsNo_w hr h40 ?_
      by_cases h1 : 1 ≤ wd ∧ wd ≤ 200
      · right
        cases h : xs.any outB
        · exact absurd ⟨h1, h⟩ hg
        · rfl
      · exact .inl h1
  · have kAw := Lib.hid fun V => awake30_c (n := 0) (w := V)
    have h1 : ((40 : Int) < xs.length) = True := eq_true (by omega)
    have hu := Upd.refl (fun _ => False) W
    clear hr hl hc
    refine callsIn_any (n := 0) (callsIn_of_wp Try.func12 rfl trivial ?_)
    simp only [Try.ntmps12, List.size_toArray, List.length_cons, List.length_nil, Nat.reduceAdd, Nat.reduceSub, Array.replicate_succ, Array.replicate_zero, List.push_toArray, List.append_toArray, List.nil_append, List.cons_append]
    gi_wp2_with (first | refine (⟨trivial, rfl, ?_⟩ : Fence.wide.fn _ ∧ Fence.wide.depth = none ∧ _) | (gi_at_call 48; (with_reducible refine (kAw.out _).mono ?_); rintro e W1 ⟨rfl, u1⟩; (replace hu := hu.trans' u1)) | refine (⟨trivial, ?_⟩ : Fence.wide.fn _ ∧ _))
    go_ret
    exact ⟨rfl, hu⟩
end Go.Proofs.Ytkjkpmeommfdgaa

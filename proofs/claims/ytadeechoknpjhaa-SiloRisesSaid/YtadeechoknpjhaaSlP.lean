/- silo: the comparing of cells' parts, as calls. -/
import Derived.Test.YtadeechoknpjhaaProg
import Derived.Test.YtadeechoknpjhaaBase
import Derived.Test.YtadeechoknpjhaaSlO
set_option linter.unusedSimpArgs false
set_option linter.unusedVariables false
namespace Go.Proofs.Ytadeechoknpjhaa
open Go.RowKit Go.Shelf
attribute [local go_sem] Oper.semAt_some

set_option maxHeartbeats 1000000 in
theorem cmpI_c {n : Nat} {a b : Int} {W : World} : CallsIn Fence.wide n Try.prog 41 #[.int .i64 a, .int .i64 b] W fun e W2 => e = .returned (.int .i64 (cmpI a b)) ∧ Upd (fun _ => False) W W2 := by
  refine callsIn_any (n := 0) (callsIn_of_wp Try.func41 rfl trivial ?_)
  simp only [Try.ntmps41, List.size_toArray, List.length_cons, List.length_nil, Nat.reduceAdd, Nat.reduceSub, Array.replicate_succ, Array.replicate_zero, List.push_toArray, List.append_toArray, List.nil_append, List.cons_append]
  gi_wp2_with (first | refine (⟨trivial, rfl, ?_⟩ : Fence.wide.fn _ ∧ Fence.wide.depth = none ∧ _) | (gi_at_call 54; refine nanI_c.mono ?_; rintro e w' ⟨rfl, rfl⟩))
  all_goals go_ret
  all_goals refine ⟨?_, Upd.refl _ _⟩
  · have h : a < b := by assumption
    simp [cmpI, h]
  · have h : b < a := by assumption
    simp [cmpI, h, show ¬ a < b by omega]
  · have h : ¬ a < b := by omega
    have h2 : ¬ b < a := by omega
    simp [cmpI, h, h2]
set_option maxHeartbeats 1000000 in
theorem cmpS_c {n : Nat} {a b : ByteArray} {W : World} : CallsIn Fence.wide n Try.prog 40 #[.string a, .string b] W fun e W2 => e = .returned (.int .i64 (cmpS a b)) ∧ Upd (fun _ => False) W W2 := by
  refine callsIn_any (n := 0) (callsIn_of_wp Try.func40 rfl trivial ?_)
  simp only [Try.ntmps40, List.size_toArray, List.length_cons, List.length_nil, Nat.reduceAdd, Nat.reduceSub, Array.replicate_succ, Array.replicate_zero, List.push_toArray, List.append_toArray, List.nil_append, List.cons_append]
  cases h1 : Op.bytesLess a.toList b.toList with
  | true =>
    gi_wp2_with (first | refine (⟨trivial, rfl, ?_⟩ : Fence.wide.fn _ ∧ Fence.wide.depth = none ∧ _) | (gi_at_call 53; refine nanS_c2.mono ?_; rintro e w' ⟨rfl, rfl⟩))
    go_ret
    exact ⟨by simp [cmpS, h1], Upd.refl _ _⟩
  | false =>
    cases h3 : Op.bytesLess b.toList a.toList with
    | true =>
      have h2 : (a.toList == b.toList) = false := by
        rw [beq_eq_false_iff_ne]
        intro e
        rw [e, bl_irrefl] at h3
        cases h3
      gi_wp2_with (first | refine (⟨trivial, rfl, ?_⟩ : Fence.wide.fn _ ∧ Fence.wide.depth = none ∧ _) | (gi_at_call 53; refine nanS_c2.mono ?_; rintro e w' ⟨rfl, rfl⟩))
      all_goals go_ret
      all_goals first | exact ⟨by simp [cmpS, h1, h3], Upd.refl _ _⟩ | (exfalso; simp_all)
    | false =>
      have h2 : (a.toList == b.toList) = true := by rw [bl_conn _ _ h1 h3]; simp
      gi_wp2_with (first | refine (⟨trivial, rfl, ?_⟩ : Fence.wide.fn _ ∧ Fence.wide.depth = none ∧ _) | (gi_at_call 53; refine nanS_c2.mono ?_; rintro e w' ⟨rfl, rfl⟩))
      all_goals go_ret
      all_goals first | exact ⟨by simp [cmpS, h1, h3], Upd.refl _ _⟩ | (exfalso; simp_all)
end Go.Proofs.Ytadeechoknpjhaa

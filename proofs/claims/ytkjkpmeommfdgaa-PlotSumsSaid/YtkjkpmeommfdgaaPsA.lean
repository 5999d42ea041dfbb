/- fix.Add, the document's Add, plot.Sums. -/
import Derived.Test.YtkjkpmeommfdgaaProg
import Derived.Test.YtkjkpmeommfdgaaBase
import Derived.Test.YtkjkpmeommfdgaaWvI
import Derived.Test.YtkjkpmeommfdgaaWvL
import Derived.Test.YtkjkpmeommfdgaaWvH
import Derived.Test.YtkjkpmeommfdgaaWvS
import Derived.Test.YtkjkpmeommfdgaaWvS2
import Derived.Test.YtkjkpmeommfdgaaWvT
namespace Go.Proofs.Ytkjkpmeommfdgaa
open Go.RowKit Go.Shelf
attribute [local go_sem] Oper.semAt_some

/-- The sum that stays at an end. -/
def satI (x y : Int) : Int := if 0 < y ∧ wrap64 (9223372036854775807 - y) < x then 9223372036854775807 else if y < 0 ∧ x < wrap64 (-9223372036854775808 - y) then -9223372036854775808 else wrap64 (x + y)
theorem satI_eq {x y : Int} (hx : -9223372036854775808 ≤ x ∧ x ≤ 9223372036854775807) (hy : -9223372036854775808 ≤ y ∧ y ≤ 9223372036854775807) :
    satI x y = if 9223372036854775807 < x + y then 9223372036854775807 else if x + y < -9223372036854775808 then -9223372036854775808 else x + y := by
  have w : ∀ z : Int, -9223372036854775808 ≤ z → z ≤ 9223372036854775807 → wrap64 z = z := fun z h1 h2 => by
    have := IntKind.wrap_i64 z
    simp only [wrap64] at *
    omega
  unfold satI
  by_cases h0 : 0 < y
  · rw [w (9223372036854775807 - y) (by omega) (by omega)]
    by_cases h1 : 9223372036854775807 < x + y
    · rw [if_pos ⟨h0, by omega⟩, if_pos h1]
    · rw [if_neg (by omega), if_neg (by omega), if_neg h1, if_neg (by omega), w _ (by omega) (by omega)]
  · rw [if_neg (by omega)]
    by_cases h1 : x + y < -9223372036854775808
    · rw [w (-9223372036854775808 - y) (by omega) (by omega), if_pos ⟨by omega, by omega⟩, if_neg (by omega), if_pos h1]
    · by_cases h2 : y < 0
      · rw [w (-9223372036854775808 - y) (by omega) (by omega), if_neg (by omega), if_neg (by omega), if_neg h1, w _ (by omega) (by omega)]
      · rw [if_neg (by omega), if_neg (by omega), if_neg h1, w _ (by omega) (by omega)]
theorem satI_in {x y : Int} (hx : -9223372036854775808 ≤ x ∧ x ≤ 9223372036854775807) (hy : -9223372036854775808 ≤ y ∧ y ≤ 9223372036854775807) : -9223372036854775808 ≤ satI x y ∧ satI x y ≤ 9223372036854775807 := by
  rw [satI_eq hx hy]
  split
  · omega
  · split <;> omega

theorem pair_ret {a b : Value} {z : Int} (h : a = .int .i64 z) : Ending.returned (.tuple #[a, b]) = Ending.returned (.tuple #[.int .i64 z, b]) := by rw [h]
theorem half (x : Int) : x = 2 * x.tdiv 2 + x.tmod 2 ∧ -1 ≤ x.tmod 2 ∧ x.tmod 2 ≤ 1 ∧ (0 ≤ x → 0 ≤ x.tmod 2) ∧ (x ≤ 0 → x.tmod 2 ≤ 0) := by
  have h1 := Int.mul_tdiv_add_tmod x 2
  have h2 := Int.tmod_lt_of_pos x (b := 2) (by omega)
  have h3 := Int.tmod_lt_of_pos (-x) (b := 2) (by omega)
  rw [Int.neg_tmod] at h3
  refine ⟨by omega, by omega, by omega, fun h => Int.tmod_nonneg 2 h, fun h => ?_⟩
  have := Int.tmod_nonneg 2 (show 0 ≤ -x by omega)
  rw [Int.neg_tmod] at this
  omega

set_option maxHeartbeats 1000000 in
theorem fixAdd_c {n : Nat} {x y : Int} {w : World} : CallsIn Fence.wide n Try.prog 90 #[.int .i64 x, .int .i64 y] w fun e w' => (∃ v, e = .returned (.tuple #[.int .i64 (satI x y), v])) ∧ w' = w := by
  refine callsIn_any (n := 0) (callsIn_of_wp Try.func90 rfl trivial ?_)
  simp only [Try.ntmps90, List.size_toArray, List.length_cons, List.length_nil, Nat.reduceAdd, Nat.reduceSub, Array.replicate_succ, Array.replicate_zero, List.push_toArray, List.append_toArray, List.nil_append, List.cons_append]
  gi_wp2
  all_goals
    refine bodyPost_ret (results_tmp2 (t := 4) (u := 5) rfl _ _ _) rfl ⟨⟨_, pair_ret (congrArg (Value.int .i64) ?_)⟩, rfl⟩
    simp only [satI]
    (repeat' split) <;> first | rfl | omega
theorem addC_c {n : Nat} {x y : Int} {w : World} : CallsIn Fence.wide n Try.prog 89 #[.int .i64 x, .int .i64 y] w fun e w' => e = .returned (.int .i64 (satI x y)) ∧ w' = w := by
  refine callsIn_any (n := 0) (callsIn_of_wp Try.func89 rfl trivial ?_)
  simp only [Try.ntmps89, List.size_toArray, List.length_cons, List.length_nil, Nat.reduceAdd, Nat.reduceSub, Array.replicate_succ, Array.replicate_zero, List.push_toArray, List.append_toArray, List.nil_append, List.cons_append]
  gi_wp2_with (first | refine (⟨trivial, rfl, ?_⟩ : Fence.wide.fn _ ∧ Fence.wide.depth = none ∧ _) | (gi_at_call 90; refine fixAdd_c.mono ?_; rintro e w' ⟨⟨v, rfl⟩, rfl⟩))
  go_ret
  exact ⟨rfl, rfl⟩
theorem addC_v {x y : Int} {w : World} : CallV Try.prog (.func (.func 89) #[] #[]) #[.int .i64 x, .int .i64 y] w fun v w' => v = .int .i64 (satI x y) ∧ w' = w :=
  CallV.of_calls (n := 0) (enters_of Try.func89 (by kernel_rfl) rfl) (addC_c.mono fun e w' ⟨h1, h2⟩ => ⟨_, h1, rfl, h2⟩)

set_option maxRecDepth 100000 in
set_option maxHeartbeats 1000000 in
theorem addRef_c {n : Nat} {x y : Int} {w : World} (hx : -9223372036854775808 ≤ x ∧ x ≤ 9223372036854775807) (hy : -9223372036854775808 ≤ y ∧ y ≤ 9223372036854775807) :
    CallsIn Fence.wide n Try.prog 54 #[.int .i64 x, .int .i64 y] w fun e w' => (∃ v, e = .returned (.tuple #[.int .i64 (satI x y), v])) ∧ w' = w := by
  refine callsIn_any (n := 0) (callsIn_of_wp Try.func54 rfl trivial ?_)
  simp only [Try.ntmps54, List.size_toArray, List.length_cons, List.length_nil, Nat.reduceAdd, Nat.reduceSub, Array.replicate_succ, Array.replicate_zero, List.push_toArray, List.append_toArray, List.nil_append, List.cons_append]
  obtain ⟨x1, x2, x3, x4, x5⟩ := half x
  obtain ⟨y1, y2, y3, y4, y5⟩ := half y
  obtain ⟨s1, s2, s3, s4, s5⟩ := half (x.tmod 2 + y.tmod 2)
  have hs := satI_eq hx hy
  generalize satI x y = S at *
  have b1 : -4611686018427387904 ≤ x.tdiv 2 ∧ x.tdiv 2 ≤ 4611686018427387903 := by omega
  have b2 : -4611686018427387904 ≤ y.tdiv 2 ∧ y.tdiv 2 ≤ 4611686018427387903 := by omega
  have b3 : -2 ≤ x.tmod 2 + y.tmod 2 ∧ x.tmod 2 + y.tmod 2 ≤ 2 := by omega
  have b4 : -1 ≤ (x.tmod 2 + y.tmod 2).tdiv 2 ∧ (x.tmod 2 + y.tmod 2).tdiv 2 ≤ 1 := by omega
  have b5 : -9223372036854775808 ≤ x.tdiv 2 + y.tdiv 2 + (x.tmod 2 + y.tmod 2).tdiv 2 ∧ x.tdiv 2 + y.tdiv 2 + (x.tmod 2 + y.tmod 2).tdiv 2 ≤ 9223372036854775807 := by omega
  replace x1 := Lib.hid x1
  replace y1 := Lib.hid y1
  replace s1 := Lib.hid s1
  replace hs := Lib.hid hs
  gi_wp2
  all_goals
    have x1 := x1.out
    have y1 := y1.out
    have s1 := s1.out
    have hs := hs.out
    refine bodyPost_ret (results_tmp2 (t := 4) (u := 5) rfl _ _ _) rfl ⟨⟨_, pair_ret (congrArg (Value.int .i64) ?_)⟩, rfl⟩
    rw [hs]
    (repeat' split) <;> omega
end Go.Proofs.Ytkjkpmeommfdgaa

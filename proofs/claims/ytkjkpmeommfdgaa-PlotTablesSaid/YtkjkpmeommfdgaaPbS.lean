/- slices.BinarySearch over rising ints. -/
import Derived.Test.YtkjkpmeommfdgaaProg
import Derived.Test.YtkjkpmeommfdgaaBase
import Derived.Test.YtkjkpmeommfdgaaWvI
set_option linter.unusedSimpArgs false
set_option linter.unusedVariables false
namespace Go.Proofs.Ytkjkpmeommfdgaa
open Go.RowKit Go.Shelf
attribute [local go_sem] Oper.semAt_some

theorem nanC_c {n : Nat} {x : Int} {w : World} : CallsIn Fence.wide n Try.prog 108 #[.int .i64 x] w fun e w' => e = .returned (.bool false) ∧ w' = w := by
  refine callsIn_any (n := 0) (callsIn_of_wp Try.func108 rfl trivial ?_)
  simp only [Try.ntmps108, List.size_toArray, List.length_cons, List.length_nil, Nat.reduceAdd, Nat.reduceSub, Array.replicate_succ, Array.replicate_zero, List.push_toArray, List.append_toArray, List.nil_append, List.cons_append]
  gi_wp2
  go_ret
  exact ⟨by simp, rfl⟩
theorem nanS_c {n : Nat} {x : Int} {w : World} : CallsIn Fence.wide n Try.prog 114 #[.int .i64 x] w fun e w' => e = .returned (.bool false) ∧ w' = w := by
  refine callsIn_any (n := 0) (callsIn_of_wp Try.func114 rfl trivial ?_)
  simp only [Try.ntmps114, List.size_toArray, List.length_cons, List.length_nil, Nat.reduceAdd, Nat.reduceSub, Array.replicate_succ, Array.replicate_zero, List.push_toArray, List.append_toArray, List.nil_append, List.cons_append]
  gi_wp2
  go_ret
  exact ⟨by simp, rfl⟩
theorem less_c {n : Nat} {x y : Int} {w : World} : CallsIn Fence.wide n Try.prog 113 #[.int .i64 x, .int .i64 y] w fun e w' => e = .returned (.bool (decide (x < y))) ∧ w' = w := by
  refine callsIn_any (n := 0) (callsIn_of_wp Try.func113 rfl trivial ?_)
  simp only [Try.ntmps113, List.size_toArray, List.length_cons, List.length_nil, Nat.reduceAdd, Nat.reduceSub, Array.replicate_succ, Array.replicate_zero, List.push_toArray, List.append_toArray, List.nil_append, List.cons_append]
  gi_wp2_with (first | refine (⟨trivial, rfl, ?_⟩ : Fence.wide.fn _ ∧ Fence.wide.depth = none ∧ _) | (gi_at_call 108; refine nanC_c.mono ?_; rintro e w' ⟨rfl, rfl⟩) | refine (⟨trivial, ?_⟩ : Fence.wide.fn _ ∧ _))
  go_ret
  exact ⟨rfl, rfl⟩

theorem takeWhile_len {p : Int → Bool} : ∀ {xs : List Int} {k : Nat}, k ≤ xs.length → (∀ t (h : t < xs.length), t < k → p xs[t] = true) → (∀ h : k < xs.length, p xs[k] = false) → (xs.takeWhile p).length = k
  | [], k, hk, _, _ => by simp at hk; simp [hk]
  | x :: xs, 0, _, _, h2 => by
    have := h2 (by simp)
    simp at this
    simp [this]
  | x :: xs, k + 1, hk, h1, h2 => by
    have hx := h1 0 (by simp) (by omega)
    simp at hx
    rw [List.takeWhile_cons, if_pos hx, List.length_cons, takeWhile_len (k := k) (by simpa using hk) (fun t h ht => h1 (t + 1) (by simpa using h) (by omega)) (fun h => h2 (by simpa using h))]

/-- Rising. -/
def Rises (xs : List Int) : Prop := ∀ i j (hi : i < xs.length) (hj : j < xs.length), i < j → xs[i] < xs[j]

set_option maxRecDepth 100000 in
set_option maxHeartbeats 2000000 in
theorem bsearch_c {n : Nat} {A : Option Addr} {cap : Nat} {xs : List Int} {x : Int} {w : World} (hr : Reads1 w A (xs.map (Value.int .i64))) (hl : xs.length ≤ 1000) (hs : Rises xs) :
    CallsIn Fence.wide n Try.prog 88 #[.slice A xs.length cap, .int .i64 x] w fun e w' => ∃ b, e = .returned (.tuple #[.int .i64 (xs.takeWhile fun y => decide (y < x)).length, .bool b]) ∧ Upd (fun _ => False) w w' := by
  have hrd := fun (i : Nat) (h : i < xs.length) => hr i (.int .i64 xs[i]) (by simp [h])
  replace hrd := Lib.hid hrd
  replace hs := Lib.hid hs
  clear hr
  refine callsIn_any (n := 0) (callsIn_of_wp Try.func88 rfl trivial ?_)
  simp only [Try.ntmps88, List.size_toArray, List.length_cons, List.length_nil, Nat.reduceAdd, Nat.reduceSub, Array.replicate_succ, Array.replicate_zero, List.push_toArray, List.append_toArray, List.nil_append, List.cons_append]
  gi_wp2
  gi_loopw [7, 8] (fun u v wr => ∃ lo hi : Nat, u = .int .i64 lo ∧ v = .int .i64 hi ∧ lo ≤ hi ∧ hi ≤ xs.length ∧ wr = w ∧ (∀ t (h : t < xs.length), t < lo → xs[t] < x) ∧ (∀ t (h : t < xs.length), hi ≤ t → x ≤ xs[t])) (fun u v _ => (intOf v).toNat - (intOf u).toNat)
  case atStart => exact ⟨0, xs.length, rfl, rfl, Nat.zero_le _, Nat.le_refl _, rfl, fun t _ ht => absurd ht (Nat.not_lt_zero _), fun t h1 h2 => by omega⟩
  case round =>
    obtain ⟨lo, hi, rfl, rfl, hlh, hin, rfl, h1, h2⟩ := hrel
    by_cases hlt : lo < hi
    · obtain ⟨a, rfl, c1⟩ := hrd.out ((lo + hi) / 2) (by omega)
      have hm : (lo + hi) / 2 < xs.length := by omega
      replace h1 := Lib.hid h1
      replace h2 := Lib.hid h2
      generalize hy : xs[(lo + hi) / 2] = y at c1
      replace hy := Lib.hid hy
      gi_wp2_with (first | refine (⟨trivial, rfl, ?_⟩ : Fence.wide.fn _ ∧ Fence.wide.depth = none ∧ _) | (gi_at_call 113; refine less_c.mono ?_; rintro e w' ⟨rfl, rfl⟩))
      · have hyx : y < x := by assumption
        refine ⟨⟨(lo + hi) / 2 + 1, hi, by rw [show ((lo : Int) + (hi : Int)) / 2 + 1 = (((lo + hi) / 2 + 1 : Nat) : Int) by omega], rfl, by omega, hin, trivial, fun t h ht => ?_, h2.out⟩, by simp [intOf]; omega⟩
        by_cases he : t = (lo + hi) / 2
        · subst he; rw [hy.out]; exact hyx
        · have := hs.out t _ h hm (by omega)
          rw [hy.out] at this
          omega
      · have hyx : ¬ y < x := by first | assumption | (have h3 : decide (y < x) = false := by assumption
                                                       simpa using h3) | omega
        refine ⟨⟨lo, (lo + hi) / 2, rfl, by rw [show ((lo : Int) + (hi : Int)) / 2 = (((lo + hi) / 2 : Nat) : Int) by omega], by omega, by omega, trivial, h1.out, fun t h ht => ?_⟩, by simp [intOf]; omega⟩
        by_cases he : t = (lo + hi) / 2
        · subst he; rw [hy.out]; omega
        · have := hs.out _ t hm h (by omega)
          rw [hy.out] at this
          omega
    · obtain rfl : hi = lo := by omega
      have hend : (xs.takeWhile fun y => decide (y < x)).length = hi := takeWhile_len hin (fun t h ht => by simpa using h1 t h ht) (fun h => by simpa using h2 hi h (Nat.le_refl _))
      replace hend := Lib.hid hend
      clear h1 h2
      by_cases hn : hi < xs.length
      · obtain ⟨a, rfl, c1⟩ := hrd.out hi hn
        gi_wp2_with (first | refine (⟨trivial, rfl, ?_⟩ : Fence.wide.fn _ ∧ Fence.wide.depth = none ∧ _) | (gi_at_call 114; refine nanS_c.mono ?_; rintro e w' ⟨rfl, rfl⟩) | refine (⟨trivial, ?_⟩ : Fence.wide.fn _ ∧ _))
        all_goals exact bodyPost_ret (results_tmp2 rfl _ _ _) rfl ⟨_, by rw [hend.out]; rfl, Upd.refl _ _⟩
      · gi_wp2_with (first | refine (⟨trivial, rfl, ?_⟩ : Fence.wide.fn _ ∧ Fence.wide.depth = none ∧ _) | (gi_at_call 114; refine nanS_c.mono ?_; rintro e w' ⟨rfl, rfl⟩) | refine (⟨trivial, ?_⟩ : Fence.wide.fn _ ∧ _))
        all_goals exact bodyPost_ret (results_tmp2 rfl _ _ _) rfl ⟨_, by rw [hend.out]; rfl, Upd.refl _ _⟩
end Go.Proofs.Ytkjkpmeommfdgaa

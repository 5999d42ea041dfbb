/- PLAIN LAWS of Filter and While over a list whose elements are counted. -/
import Derived.Test.YtkjkpmeommfdgaaBase
import Derived.Test.YtkjkpmeommfdgaaWvI
import Derived.Test.YtkjkpmeommfdgaaWvF
import Derived.Test.YtkjkpmeommfdgaaWvG
set_option linter.unusedSimpArgs false
set_option linter.unusedVariables false
namespace Go.Proofs.Ytkjkpmeommfdgaa

theorem outs_filter (p : Int → Bool) : ∀ xs : List Int, outs (trFilter p) () xs = xs.filter p
  | [] => rfl
  | x :: xs => by
    have ih := outs_filter p xs
    cases h : p x <;> simp [outs, h, ih]
theorem outs_while (p : Int → Bool) : ∀ xs : List Int, outs (trWhile p) () xs = xs.takeWhile p
  | [] => rfl
  | x :: xs => by
    have ih := outs_while p xs
    cases h : p x <;> simp [outs, h, ih]

theorem filter_cnt (p : Int → Bool) (m : Int) : ∀ (xs : List Int) (n0 c : Nat), goOwn (goStep m) (finT (trFilter p) (n0 + xs.length) () (cntFrom n0 xs)) c (evsT (trFilter p) () (cntFrom n0 xs)) ≤ n0 + xs.length
  | [], n0, c => by simp [goOwn, finT, evsT, cntFrom]
  | x :: xs, n0, c => by
    have ih := filter_cnt p m xs (n0 + 1)
    have e : n0 + (x :: xs).length = n0 + 1 + xs.length := by simp; omega
    rw [e]
    cases h : p x with
    | false => simpa [cntFrom, finT, evsT, h] using ih c
    | true =>
      simp only [cntFrom, finT, evsT, h, if_true, Option.toList, List.map_cons, List.map_nil, List.cons_append, List.nil_append, goOwn]
      split
      · exact ih _
      · omega

theorem while_cnt (p : Int → Bool) (m : Int) : ∀ (xs : List Int) (n0 c : Nat), (c : Int) < max m 1 →
    ((goOwn (goStep m) (finT (trWhile p) (n0 + xs.length) () (cntFrom n0 xs)) c (evsT (trWhile p) () (cntFrom n0 xs)) : Nat) : Int) = n0 + min (min (xs.length : Int) ((xs.takeWhile p).length + 1)) (max m 1 - c)
  | [], n0, c, hc => by simp [goOwn, finT, evsT, cntFrom]; omega
  | x :: xs, n0, c, hc => by
    have ih := while_cnt p m xs (n0 + 1)
    have e : n0 + (x :: xs).length = n0 + 1 + xs.length := by simp; omega
    rw [e]
    cases h : p x with
    | false => simp [cntFrom, finT, evsT, h, goOwn]; omega
    | true =>
      simp only [cntFrom, finT, evsT, h, if_true, Option.toList, List.map_cons, List.map_nil, List.cons_append, List.nil_append, goOwn, List.takeWhile_cons, List.length_cons]
      by_cases hb : (c : Int) + 1 < m
      · rw [if_pos (by simpa using hb), ih (c + 1) (by omega)]
        omega
      · rw [if_neg (by simpa using hb)]
        omega
end Go.Proofs.Ytkjkpmeommfdgaa

/- slices.Equal over ints. -/
import Derived.Test.YtkjkpmeommfdgaaProg
import Derived.Test.YtkjkpmeommfdgaaBase
import Derived.Test.YtkjkpmeommfdgaaWvI
set_option linter.unusedSimpArgs false
set_option linter.unusedVariables false
namespace Go.Proofs.Ytkjkpmeommfdgaa
open Go.RowKit Go.Shelf
attribute [local go_sem] Oper.semAt_some

theorem eq_upto {xs ys : List Int} (hl : xs.length = ys.length) : ∀ j, (∀ t, t < j → xs[t]? = ys[t]?) → xs.length ≤ j → xs = ys := by
  intro j h hj
  refine List.ext_getElem? fun t => ?_
  by_cases ht : t < j
  · exact h t ht
  · rw [List.getElem?_eq_none (by omega), List.getElem?_eq_none (by omega)]

set_option maxRecDepth 100000 in
set_option maxHeartbeats 1000000 in
theorem equal_c {n : Nat} {A B : Option Addr} {ca cb la lb : Nat} {xs ys : List Int} {w : World} (hr : Reads1 w A (xs.map (Value.int .i64))) (hr2 : Reads1 w B (ys.map (Value.int .i64))) (hla : la = xs.length) (hlb : lb = ys.length) (hl : xs.length ≤ 100000) :
    CallsIn Fence.wide n Try.prog 37 #[.slice A la ca, .slice B lb cb] w fun e w' => e = .returned (.bool (decide (xs = ys))) ∧ Upd (fun _ => False) w w' := by
  subst hla
  have hrd := fun (wr : World) (hu : Upd (fun _ => False) w wr) (i : Nat) (h : i < xs.length) => (hr.agree' (w' := wr) (hu.agree fun k hk => ⟨hr.lt' k hk, id⟩)) i (.int .i64 xs[i]) (by simp [h])
  have hrd2 := fun (wr : World) (hu : Upd (fun _ => False) w wr) (i : Nat) (h : i < ys.length) => (hr2.agree' (w' := wr) (hu.agree fun k hk => ⟨hr2.lt' k hk, id⟩)) i (.int .i64 ys[i]) (by simp [h])
  replace hrd := Lib.hid hrd
  replace hrd2 := Lib.hid hrd2
  clear hr hr2
  refine callsIn_any (n := 0) (callsIn_of_wp Try.func37 rfl trivial ?_)
  simp only [Try.ntmps37, List.size_toArray, List.length_cons, List.length_nil, Nat.reduceAdd, Nat.reduceSub, Array.replicate_succ, Array.replicate_zero, List.push_toArray, List.append_toArray, List.nil_append, List.cons_append]
  by_cases hlen0 : lb = xs.length
  · subst hlen0
    have hlen := hlb
    replace hlb := Lib.hid hlb
    replace hlen := Lib.hid hlen
    gi_wp2
    gi_loopw [13] (fun i wr => ∃ j : Nat, j ≤ xs.length ∧ i = .int .i64 j ∧ (∀ t, t < j → xs[t]? = ys[t]?) ∧ Upd (fun _ => False) w wr) (fun i _ => xs.length - (intOf i).toNat)
    case atStart => exact ⟨0, Nat.zero_le _, rfl, fun t ht => absurd ht (Nat.not_lt_zero _), Upd.refl _ _⟩
    case round =>
      obtain ⟨j, hj, rfl, hsame, hu⟩ := hrel
      by_cases hlt : j < xs.length
      · obtain ⟨a, rfl, c1⟩ := hrd.out wr.drew hu.stepDrew j hlt
        obtain ⟨b, rfl, c2⟩ := hrd2.out wr.drew hu.stepDrew j (hlb.out ▸ hlt)
        replace hu := hu.stepDrew
        gi_wp2
        refine wpIn_still (by kernel_rfl) (by kernel_rfl) ?_
        generalize wr.drew = V at *
        repeat still_step
        refine wpStill_nil ?_
        replace hsame := Lib.hid hsame
        gi_wp2
        · have hlt2 : j < ys.length := hlb.out ▸ hlt
          have hne : xs[j] ≠ ys[j] := by simpa using (by assumption : (xs[j] != ys[j]) = true)
          refine bodyPost_ret (results_tmp rfl _ _ _) rfl ⟨?_, hu⟩
          rw [decide_eq_false (fun h => hne (by simp [h]))]
          rfl
        · have hlt2 : j < ys.length := hlb.out ▸ hlt
          have he : xs[j] = ys[j] := by simpa using (by assumption : (xs[j] != ys[j]) = false)
          refine ⟨⟨j + 1, by omega, by go_num, ?_, hu⟩, by simp [intOf]; omega⟩
          · intro t ht
            by_cases h : t < j
            · exact hsame.out t h
            · obtain rfl : t = j := by omega
              rw [List.getElem?_eq_getElem hlt, List.getElem?_eq_getElem hlt2, he]
      · gi_wp2
        refine bodyPost_ret (results_tmp rfl _ _ _) rfl ⟨?_, hu⟩
        rw [decide_eq_true (eq_upto hlen.out j hsame (by omega))]
        rfl
  · gi_wp2
    refine bodyPost_ret (results_tmp rfl _ _ _) rfl ⟨?_, Upd.refl _ _⟩
    rw [decide_eq_false (fun h => hlen0 (by rw [hlb, h]))]
    rfl
end Go.Proofs.Ytkjkpmeommfdgaa

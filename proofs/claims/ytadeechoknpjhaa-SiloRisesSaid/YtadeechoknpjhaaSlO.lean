/- silo: cmp.Or of ints. -/
import Derived.Test.YtadeechoknpjhaaProg
import Derived.Test.YtadeechoknpjhaaBase
import Derived.Test.YtadeechoknpjhaaAppS
import Derived.Test.YtadeechoknpjhaaSlC
set_option linter.unusedSimpArgs false
set_option linter.unusedVariables false
namespace Go.Proofs.Ytadeechoknpjhaa
open Go.RowKit Go.Shelf
attribute [local go_sem] Oper.semAt_some

def intsV (l : List Int) : List Value := l.map fun x => Value.int .i64 x
theorem intsV_len (l : List Int) : (intsV l).length = l.length := by simp [intsV]
theorem intsV_get (l : List Int) (i : Nat) (h : i < l.length) : (intsV l)[i]? = some (.int .i64 l[i]) := by simp [intsV, h]
def firstNZ : List Int → Int
  | [] => 0
  | x :: s => if x = 0 then firstNZ s else x
theorem firstNZ_zero : ∀ {s : List Int} {k : Nat}, (∀ i (h : i < s.length), i < k → s[i] = 0) → firstNZ s = firstNZ (s.drop k)
  | s, 0, _ => rfl
  | [], k + 1, _ => rfl
  | x :: s, k + 1, h => by
    have h0 : x = 0 := h 0 (by simp) (by omega)
    simp only [firstNZ, h0, if_true, List.drop_succ_cons]
    exact firstNZ_zero fun i hi hk => h (i + 1) (by simp; omega) (by omega)
set_option maxRecDepth 100000 in
set_option maxHeartbeats 2000000 in
theorem or_c {n : Nat} {A : Option Addr} {cap : Nat} {s : List Int} {W : World} (hr : Reads1 W A (intsV s)) (hl : s.length ≤ 100000) : CallsIn Fence.wide n Try.prog 39 #[.slice A s.length cap] W fun e W2 => e = .returned (.int .i64 (firstNZ s)) ∧ Upd (fun _ => False) W W2 := by
  refine callsIn_any (n := 0) (callsIn_of_wp Try.func39 rfl trivial ?_)
  simp only [Try.ntmps39, List.size_toArray, List.length_cons, List.length_nil, Nat.reduceAdd, Nat.reduceSub, Array.replicate_succ, Array.replicate_zero, List.push_toArray, List.append_toArray, List.nil_append, List.cons_append]
  gi_wp2
  gi_loopw [8] (fun i wr => ∃ k : Nat, i = .int .i64 k ∧ k ≤ s.length ∧ Hid (∀ i (h : i < s.length), i < k → s[i] = 0) ∧ Upd (fun _ => False) W wr) (fun i _ => s.length - (intOf i).toNat)
  case atStart => exact ⟨0, rfl, Nat.zero_le _, Lib.hid fun i h hi => by omega, Upd.refl _ _⟩
  case round =>
    obtain ⟨k, rfl, hk, hT, hu⟩ := hrel
    have hr := hr.agree' (w' := wr) (hu.agree fun j hj => ⟨hr.lt' j hj, id⟩)
    by_cases hlt : k < s.length
    · obtain ⟨g, o, rfl, hc⟩ := reads_at hr (by rw [intsV_len]; omega)
      have he := hc k _ (intsV_get s k hlt)
      have hw5 : IntKind.i64.wrap ((k : Int) + 1) = (k : Int) + 1 := Go.IntWalk.i64_in _ ⟨by omega, by omega⟩
      have hfn := firstNZ_zero hT.out
      rw [List.drop_eq_getElem_cons hlt] at hfn
      have hsk : s[k] = 0 → ∀ i (h : i < s.length), i < k + 1 → s[i] = 0 := fun h0 i h hi => by
        by_cases e : i = k
        · subst e; exact h0
        · exact hT.out i h (by omega)
      generalize s[k] = x at *
      replace hfn := Lib.hid hfn
      replace hsk := Lib.hid hsk
      clear hr hc
      by_cases hx : x = 0
      · subst hx
        gi_wp2
        exact ⟨⟨k + 1, by go_num, by omega, Lib.hid (hsk.out rfl), by first | exact hu | exact hu.stepDrew⟩, by simp [intOf]; omega⟩
      · gi_wp2
        go_ret
        refine ⟨?_, by first | exact hu | exact hu.stepDrew⟩
        rw [hfn.out, firstNZ, if_neg hx]
        rfl
    · obtain rfl : k = s.length := by omega
      have hfn := Lib.hid (firstNZ_zero hT.out)
      clear hr
      gi_wp2
      go_ret
      refine ⟨?_, by first | exact hu | exact hu.stepDrew⟩
      rw [hfn.out, List.drop_length, firstNZ]
      rfl
end Go.Proofs.Ytadeechoknpjhaa

/- A sequence without a state of its own is handed a function value: what that makes of it. -/
import Derived.Test.YtadeechoknpjhaaBase
set_option linter.unusedSimpArgs false
set_option linter.unusedVariables false
namespace Go.Proofs.Ytadeechoknpjhaa
open Go.RowKit Go.Shelf
section
variable {P : Program} {α τ : Type} {fv : Value} {enc : α → Array Value} {l : List α} {D : Nat → Prop} {w W : World} {step : τ → α → τ × Bool} {Rep : τ → (Nat → Prop) → World → Prop} {f : Fn} {first cap : Array Value} {s0 : τ} {S0 : Nat → Prop}
theorem feed (hseq : SeqO P fv enc (l.map fun x => ((), x)) () () (fun _ _ => True) (fun _ => False) D w) (hs : w.heap.size ≤ W.heap.size) (hag : Agree D w W) (hS : ∀ k, S0 k → k < W.heap.size ∧ ¬ D k)
    (hstab : ∀ s S W1 W2, Rep s S W1 → Agree S W1 W2 → W1.heap.size ≤ W2.heap.size → Rep s S W2) (hrep : Rep s0 S0 W)
    (hy : ∀ pre x suf s1 S1 W1, l = pre ++ x :: suf → goF step s0 pre = (s1, true) → Rep s1 S1 W1 → Upd S0 W W1 → (∀ k, S1 k → k < W1.heap.size ∧ (S0 k ∨ W.heap.size ≤ k)) →
      CallV P (.func f first cap) (enc x) W1 fun v W2 => ∃ S2, v = .bool (step s1 x).2 ∧ Rep (step s1 x).1 S2 W2 ∧ Upd S1 W1 W2 ∧ (∀ k, S2 k → k < W2.heap.size ∧ (S1 k ∨ W1.heap.size ≤ k))) :
    CallV P fv #[.func f first cap] W fun _ W' => ∃ S', Rep (goF step s0 l).1 S' W' ∧ Upd S0 W W' ∧ (∀ k, S' k → k < W'.heap.size ∧ (S0 k ∨ W.heap.size ≤ k)) := by
  have ee : (l.map fun x => ((), x)).map (·.2) = l := by simp [Function.comp_def]
  have h := hseq.run τ step Rep (.func f first cap) s0 S0 W ⟨⟨_, _, _, rfl⟩, hs, hag, fun k hk => ⟨(hS k hk).1, (hS k hk).2, id⟩, hstab, fun pre x suf s1 S1 W1 h1 h2 h3 h4 h5 => hy pre x suf s1 S1 W1 (by rw [ee] at h1; exact h1) h2 h3 (h4.mono fun _ _ h => h.elim id False.elim) h5, hrep⟩ trivial
  rw [ee] at h
  refine h.mono ?_
  rintro v W' ⟨S', h1, _, h3, h4⟩
  exact ⟨S', h1, h3.mono fun _ _ h => h.elim id False.elim, h4⟩
end
end Go.Proofs.Ytadeechoknpjhaa

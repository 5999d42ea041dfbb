/- A range over an iterator, its loop's record named. -/
import Derived.Test.YtkjkpmeommfdgaaBase
set_option linter.unusedSimpArgs false
set_option linter.unusedVariables false
namespace Go.Proofs.Ytkjkpmeommfdgaa
open Go.RowKit Go.Shelf

section
variable {P : Program} {α ω : Type} {fv : Value} {enc : α → Array Value} {evs : List (ω × α)} {init fin : ω} {Own : ω → World → Prop} {E D : Nat → Prop} {w0 : World}
theorem wpIn_range_at {g : Operand} {ps : Array Tmp} {assign body : Code} {Q : Exit → Act → World → Prop} {a : Act} {w : World}
    (hseq : SeqO P fv enc evs init fin Own E D w0) (hg : a.eval g = fv) (hs0 : w0.heap.size ≤ w.heap.size) (ha0 : Agree D w0 w) (hO : Own init w) (hps : ∀ x, (enc x).size = ps.size)
    {σ : Type} (step : σ → α → σ × Option Code) (Inv : σ → (Nat → Prop) → World → Prop) (s : σ) (S : Nat → Prop) (hS : ∀ k, S k → k < w.heap.size ∧ ¬ D k ∧ ¬ E k)
    (hstab : ∀ s S W1 W2, Inv s S W1 → Agree S W1 W2 → W1.heap.size ≤ W2.heap.size → Inv s S W2) (hI : Inv s S w)
    (hround : ∀ l pre x suf s1 S1 W1, l = w.heap.size + 1 → evs.map (·.2) = pre ++ x :: suf → goR step s pre = (s1, none) → Inv s1 S1 W1 → w.heap.size + 2 ≤ W1.heap.size → Upd (fun k => S k ∨ E k) w W1 → (∀ k, S1 k → k < W1.heap.size ∧ k ≠ l ∧ (S k ∨ w.heap.size ≤ k)) →
      assign.wpIn (Fence.wide.inRound l) 0 P (Exit.then (fun a1 Wa => Upd (fun _ => False) W1 Wa ∧ ∀ Wb, Upd (fun k => k = l) Wa Wb → Wb.heap.size = Wa.heap.size → (∃ r, Wb.heap[l]? = some (.loop r)) →
        body.wpIn (Fence.wide.inRound l) 0 P (bodyP step Inv s1 x (fun k => S1 k ∨ W1.heap.size ≤ k) Wb) a1 Wb) (fun _ _ _ => False))
      { tmps := (ps.zip (enc x)).foldl (fun t (p, v) => t.setIfInBounds p v) a.tmps, defers := [] } W1)
    (hend : ∀ S' W', Inv (goR step s (evs.map (·.2))).1 S' W' → Own (goOwnR step fin s evs) W' → Upd (fun k => S k ∨ E k) w W' → w.heap.size + 2 ≤ W'.heap.size →
      (∀ k, S' k → k < W'.heap.size ∧ k ≠ w.heap.size ∧ (S k ∨ w.heap.size ≤ k)) → W'.heap[w.heap.size]? = some (.deferred (some [])) →
      match (goR step s (evs.map (·.2))).2 with
      | none => Q .normal { a with defers := { target := .collected w.heap.size, args := #[] } :: a.defers } W'
      | some c => c.wpIn Fence.wide 0 P Q { a with defers := { target := .collected w.heap.size, args := #[] } :: a.defers } W') :
    (Code.rangeFunc g ps assign body).wpIn Fence.wide 0 P Q a w := by
  refine wpIn_rangeFunc ?_
  intro fn _
  obtain ⟨k, cap, rfl⟩ := hseq.fn
  obtain ⟨W1, hW1⟩ : ∃ W1, (w.alloc (.deferred (some []))).alloc (.loop (recOf fn a.tmps ps assign body w.heap.size none)) = W1 := ⟨_, rfl⟩
  have hsz : W1.heap.size = w.heap.size + 2 := by rw [← hW1]; simp
  have hL1 : W1.heap[w.heap.size + 1]? = some (.loop (recOf fn a.tmps ps assign body w.heap.size none)) := by
    rw [← hW1]; have := World.alloc_heap_new (w.alloc (.deferred (some []))) (.loop (recOf fn a.tmps ps assign body w.heap.size none)); rwa [World.size_alloc] at this
  have hK1 : W1.heap[w.heap.size]? = some (.deferred (some [])) := by
    rw [← hW1]; exact (Below.heap_alloc _ _ _ (by simp)).trans (World.alloc_heap_new w _)
  have hu1 : Upd (fun _ => False) w W1 := by rw [← hW1]; exact ((Upd.refl _ w).stepAlloc _).stepAlloc _
  have hA1 : ∀ T : Nat → Prop, (∀ k, T k → k < w.heap.size) → Agree T w W1 := fun T hT k hk => hu1.block k (hT k hk) id
  have hDw : ∀ k, D k → k < w.heap.size := fun k hk => Nat.lt_of_lt_of_le (hseq.dlt k hk).1 hs0
  have hEw : ∀ k, E k → k < w.heap.size := fun k hk => Nat.lt_of_lt_of_le (hseq.elt k hk) hs0
  have hcall := range_call hseq (W := W1) hL1 (by omega) (ha0.trans (hA1 D hDw)) (hseq.stable _ _ _ hO (hA1 E hEw)) hps step Inv s
    (fun k => S k) (fun k hk => ⟨by have := (hS k hk).1; omega, by have := (hS k hk).1; omega, (hS k hk).2⟩) hstab
    (hstab _ _ _ _ hI (hA1 S (fun k hk => (hS k hk).1)) (by omega))
    (fun pre x suf s1 S1 W2 e1 e2 e3 e5 e6 => hround _ pre x suf s1 S1 W2 rfl e1 e2 e3 (by have := e5.size; omega) ((hu1.mono (fun _ _ h => h.elim)).trans e5 (fun k hk => by
      rcases hk with h | h | h
      · exact .inl (.inl h)
      · exact .inr (by omega)
      · exact .inl (.inr h))) (fun k hk => by
      obtain ⟨p, q, r⟩ := e6 k hk
      exact ⟨p, q, r.elim .inl (fun h => .inr (by omega))⟩))
  refine ⟨w.heap.size + 1, [{ target := .collected w.heap.size, args := #[] }], W1, { target := .fn (.func k) cap, args := #[.func (.yield (w.heap.size + 1)) #[] #[]] }, W1, k,
    #[.func (.yield (w.heap.size + 1)) #[] #[]] ++ cap, W1, ?_, ?_, fun _ _ => trivial, ?_, fun h => (by cases h), ?_⟩
  · rw [← hW1]; exact run_enterLoop_outer _ _ _ _ _
  · simp only [resolve, hg, Deferred.ofValue, Sem.run_pure, Array.empty_append, List.map_toArray, List.map_cons, List.map_nil]; rfl
  · simp only [invoke]; exact hcall.1 _ _
  · refine (callsIn_any (by simpa using hcall.2)).mono ?_
    rintro e W' ⟨v, rfl, S', hI', hOw, hu, hS', hrec⟩
    have hD2 : W'.heap[w.heap.size]? = some (.deferred (some [])) := by
      refine (hu.block w.heap.size (by omega) ?_).trans hK1
      rintro (h | h | h)
      · have := (hS _ h).1; omega
      · omega
      · have := hEw _ h; omega
    have hne : ∀ k, S' k → k ≠ w.heap.size + 1 := fun k hk => (hS' k hk).2.1
    have hst : (recOf fn a.tmps ps assign body w.heap.size (goR step s (evs.map (·.2))).2).state ≠ .busy := by cases (goR step s (evs.map (·.2))).2 <;> simp [recOf]
    have hend' := run_endLoop (P := P) hrec hst
    have hpend : (recOf fn a.tmps ps assign body w.heap.size (goR step s (evs.map (·.2))).2).pending = (goR step s (evs.map (·.2))).2 := by cases (goR step s (evs.map (·.2))).2 <;> rfl
    rw [hpend] at hend'
    have hE2 : ∀ k, E k → k ≠ w.heap.size + 1 := fun k hk e => by have := hEw k hk; omega
    refine ⟨_, _, hend', ?_⟩
    refine hend S' _ (hstab _ _ _ _ hI' (fun k hk => World.putObj_heap_other (hne k hk)) (by simp)) (hseq.stable _ _ _ hOw (fun k hk => World.putObj_heap_other (hE2 k hk))) ?_ (by have := hu.size; simp; omega) ?_ ?_
    · refine ((hu1.mono (fun _ _ h => h.elim)).trans hu (fun k hk => ?_)).stepPut (.inr (by omega)) _
      rcases hk with h | h | h
      · exact .inl (.inl h)
      · exact .inr (by omega)
      · exact .inl (.inr h)
    · intro k hk
      obtain ⟨p, q, r⟩ := hS' k hk
      refine ⟨by simpa using p, fun e => ?_, r.elim .inl (fun h => .inr (by omega))⟩
      subst e
      rcases r with h | h
      · have := (hS _ h).1; omega
      · omega
    · exact (World.putObj_heap_other (by omega)).trans hD2
end
end Go.Proofs.Ytkjkpmeommfdgaa

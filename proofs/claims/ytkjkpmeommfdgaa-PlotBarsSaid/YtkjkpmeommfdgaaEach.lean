/- A CLOSURE 'for x := range INNER { .. yield(f x) .. }', over whatever program. -/
import Derived.Test.YtkjkpmeommfdgaaBase
import Derived.Test.YtkjkpmeommfdgaaRangeAt
set_option linter.unusedSimpArgs false
set_option linter.unusedVariables false
namespace Go.Proofs.Ytkjkpmeommfdgaa
open Go.RowKit Go.Shelf

section
variable {P : Program} {α β σ : Type}
/-- What is given, where each x is told by 'tr': what is given for it, if anything, and whether it goes on. -/
def outsE (tr : α → Option β × Bool) : List α → List β
  | [] => []
  | x :: l => (tr x).1.toList ++ if (tr x).2 then outsE tr l else []
def stepE (tr : α → Option β × Bool) (step : σ → β → σ × Bool) (s : σ) (x : α) : σ × Option Code :=
  match (tr x).1 with
  | none => (s, if (tr x).2 then none else some .ret)
  | some z => ((step s z).1, if (step s z).2 && (tr x).2 then none else some .ret)
theorem goR_E (tr : α → Option β × Bool) (step : σ → β → σ × Bool) : ∀ (l : List α) (s : σ), (goR (stepE tr step) s l).1 = (goF step s (outsE tr l)).1 ∧ ((goR (stepE tr step) s l).2 = none ∨ (goR (stepE tr step) s l).2 = some .ret)
  | [], s => ⟨rfl, .inl rfl⟩
  | x :: l, s => by
    have ih := goR_E tr step l
    simp only [goR, stepE, outsE]
    cases h1 : (tr x).1 with
    | none =>
      cases h2 : (tr x).2 with
      | true => simpa using ih s
      | false => simp [goF]
    | some z =>
      cases h3 : (step s z).2 with
      | false => simp [goF, h3]
      | true =>
        cases h2 : (tr x).2 with
        | true => simpa [goF, h3] using ih (step s z).1
        | false => simp [goF, h3]
theorem goR_E_pre (tr : α → Option β × Bool) (step : σ → β → σ × Bool) (suf : List α) : ∀ (l : List α) (s s1 : σ), goR (stepE tr step) s l = (s1, none) → goF step s (outsE tr l) = (s1, true) ∧ outsE tr (l ++ suf) = outsE tr l ++ outsE tr suf
  | [], s, s1, h => by
    simp only [goR, Prod.mk.injEq, and_true] at h
    simp [outsE, goF, h]
  | x :: l, s, s1, h => by
    have ih := goR_E_pre tr step suf l
    simp only [goR, stepE] at h
    cases h1 : (tr x).1 with
    | none =>
      cases h2 : (tr x).2 with
      | true =>
        simp only [h1, h2, if_true] at h
        obtain ⟨i1, i2⟩ := ih s s1 h
        simp [outsE, h1, h2, i1, i2]
      | false => simp [h1, h2] at h
    | some z =>
      cases h3 : (step s z).2 with
      | false => simp [h1, h3] at h
      | true =>
        cases h2 : (tr x).2 with
        | true =>
          simp only [h1, h2, h3, Bool.and_self, if_true] at h
          obtain ⟨i1, i2⟩ := ih _ s1 h
          simp [outsE, goF, h1, h2, h3, i1, i2]
        | false => simp [h1, h2, h3] at h
def eBody (Next Stop : World → Prop) : Exit → Act → World → Prop
  | .normal, _, W' => Next W'
  | .ret, _, W' => Stop W'
  | _, _, _ => False
/-- What a round of such a loop may use. -/
structure EachCtx (P : Program) (tr : α → Option β × Bool) (y : Value) (enc' : β → Array Value) (D' : Nat → Prop) (lb : Nat) (w W1 Wb : World) (x : α) (M : Nat → Prop) (Next Stop : World → Prop) : Prop where
  m : ∀ k, M k → k < W1.heap.size ∧ ¬ D' k ∧ k ≠ lb
  agree : Agree D' w Wb
  next : ∀ V V', Next V → Upd (fun _ => False) V V' → Next V'
  stop : ∀ V V', Stop V → Upd (fun _ => False) V V' → Stop V'
  yield : ∀ z, (tr x).1 = some z → ∀ V, Upd (fun _ => False) Wb V → CallV P y (enc' z) V fun v V' => ∃ b, v = .bool b ∧ Upd M V V' ∧ (b = true → (tr x).2 = true → Next V') ∧ (b = false ∨ (tr x).2 = false → Stop V')
  none : (tr x).1 = none → ∀ V, Upd (fun _ => False) Wb V → ((tr x).2 = true → Next V) ∧ ((tr x).2 = false → Stop V)

theorem trans_each {fn : Func} {fv : Value} {enc : α → Array Value} {l : List α} {D D' D0 : Nat → Prop} {w w0 W : World} {y : Value} {enc' : β → Array Value} {L : List β} {step : σ → β → σ × Bool} {Rep : σ → (Nat → Prop) → World → Prop} {s : σ} {S : Nat → Prop}
    {g : Operand} {ps : Array Tmp} {assign body : Code} {Q : Exit → Act → World → Prop} {a : Act} {R : Value → World → Prop} (tr : α → Option β × Bool)
    (hseq : SeqO P fv enc (l.map fun x => ((), x)) () () (fun _ _ => True) (fun _ => False) D w)
    (hx : RunCtx P enc' L step Rep y s S (fun _ => False) D0 w0 W) (hu : Upd (fun _ => False) W w)
    (hDD : ∀ k, D k → D' k) (hD' : ∀ k, D' k → k < w.heap.size) (hDS : ∀ k, S k → ¬ D' k)
    (hL : L = outsE tr l) (hg : a.eval g = fv) (hps : ∀ x, (enc x).size = ps.size) (hfn : fn.results = #[]) (ha : a.defers = [])
    (hR : ∀ v W', RunEnd Rep (goF step s L).1 (fun _ => True) S (fun _ => False) W v W' → R v W')
    (hQn : ∀ a' W', LeavesInM Fence.wide 0 P fn a'.tmps (Ret R) a'.defers .returning W' → Q .normal a' W' ∧ Q .ret a' W')
    (hround : ∀ lb x W1, w.heap.size ≤ lb → lb < W1.heap.size → x ∈ l → w.heap.size ≤ W1.heap.size → Agree D' w W1 →
      assign.wpIn (Fence.wide.inRound lb) 0 P (Exit.then (fun a1 Wa => Upd (fun _ => False) W1 Wa ∧ ∀ Wb M Next Stop, Upd (fun k => k = lb) Wa Wb → Wb.heap.size = Wa.heap.size → (∃ r, Wb.heap[lb]? = some (.loop r)) →
        EachCtx P tr y enc' D' lb w W1 Wb x M Next Stop → body.wpIn (Fence.wide.inRound lb) 0 P (eBody Next Stop) a1 Wb) (fun _ _ _ => False))
      { tmps := (ps.zip (enc x)).foldl (fun t (p, v) => t.setIfInBounds p v) a.tmps, defers := [] } W1) :
    (Code.rangeFunc g ps assign body).wpIn Fence.wide 0 P Q a w := by
  have ee : (l.map fun x => ((), x)).map (·.2) = l := by simp [Function.comp_def]
  have hz := hu.size
  have hSw : ∀ k, S k → k < w.heap.size := fun k hk => Nat.lt_of_lt_of_le (hx.own k hk).1 hz
  refine wpIn_range_at hseq hg (Nat.le_refl _) (Agree.refl _ _) trivial hps (stepE tr step) (fun s' S1 W1 => ∃ S', (∀ j, S' j → S1 j) ∧ Rep s' S' W1) s S (fun k hk => ⟨hSw k hk, fun h => hDS k hk (hDD k h), id⟩) ?_
    ⟨S, fun _ h => h, hx.stab _ _ _ _ hx.rep (hu.agree fun j hj => ⟨(hx.own j hj).1, id⟩) hz⟩ ?_ ?_
  · rintro s' S1 Wa Wb ⟨S', g1, g2⟩ hA hz
    exact ⟨S', g1, hx.stab _ _ _ _ g2 (hA.mono fun j hj => g1 j hj) hz⟩
  · rintro lb pre x suf s1 S1 W1 hlb he hgo ⟨S', g1, g2⟩ hsz hu1 hS1
    rw [ee] at he
    obtain ⟨p1, p2⟩ := goR_E_pre tr step (x :: suf) pre s s1 hgo
    have hlW : lb < W1.heap.size := by omega
    by_cases hzzz : True
    · have hSd : ∀ k, S' k → k < W1.heap.size ∧ ¬ D' k ∧ k ≠ lb := fun k hk => by
        obtain ⟨a1, a2, a3⟩ := hS1 k (g1 k hk)
        refine ⟨a1, fun h => ?_, a2⟩
        rcases a3 with a3 | a3
        · exact hDS k a3 h
        · have := hD' k h; omega
      have hAg : Agree D' w W1 := hu1.agree fun k hk => ⟨hD' k hk, fun h => h.elim (fun h => hDS k h hk) id⟩
      have hWW1 : Upd S W W1 := (hu.mono (M' := S) fun _ _ h => h.elim).trans hu1 fun k hk => by
        rcases hk with h | h
        · exact .inl h
        · exact h.elim
      refine wpIn_mono (hround lb x W1 (by omega) hlW (by rw [he]; simp) (by omega) hAg) ?_
      rintro e a1 Wa hp
      cases e with
      | normal =>
        obtain ⟨hua, hb⟩ := hp
        refine ⟨hua, fun Wb hub hbs hrec => ?_⟩
        have hu1b : Upd (fun k => k = lb) W1 Wb := (hua.mono fun _ _ h => h.elim).trans hub fun k hk => .inl hk
        have zb := hu1b.size
        have Held0 : ∀ V, Upd (fun _ => False) Wb V → Held (fun s' S1 W1 => ∃ S', (∀ j, S' j → S1 j) ∧ Rep s' S' W1) s1 (fun k => S1 k ∨ W1.heap.size ≤ k) Wb V := fun V hv =>
          ⟨S', ⟨S', fun _ h => h, hx.stab _ _ _ _ g2 ((hu1b.trans hv fun k hk => hk.elim).agree fun j hj => ⟨(hSd j hj).1, (hSd j hj).2.2⟩) (Nat.le_trans hu1b.size hv.size)⟩, hv.mono fun _ _ h => h.elim, fun k hk => ⟨by have := (hSd k hk).1; have := hv.size; omega, .inl (.inl (g1 k hk))⟩⟩
        have HeldU : ∀ s' V V', Held (fun s' S1 W1 => ∃ S', (∀ j, S' j → S1 j) ∧ Rep s' S' W1) s' (fun k => S1 k ∨ W1.heap.size ≤ k) Wb V → Upd (fun _ => False) V V' → Held (fun s' S1 W1 => ∃ S', (∀ j, S' j → S1 j) ∧ Rep s' S' W1) s' (fun k => S1 k ∨ W1.heap.size ≤ k) Wb V' := by
          rintro s' V V' ⟨T, ⟨T', t1, t2⟩, t3, t4⟩ hv
          exact ⟨T, ⟨T', t1, hx.stab _ _ _ _ t2 (hv.agree fun j hj => ⟨(t4 j (t1 j hj)).1, id⟩) hv.size⟩, t3.trans hv fun k hk => hk.elim, fun k hk => ⟨Nat.lt_of_lt_of_le (t4 k hk).1 hv.size, (t4 k hk).2⟩⟩
        refine wpIn_mono (hb Wb S' (fun V => (stepE tr step s1 x).2 = none ∧ Held (fun s' S1 W1 => ∃ S', (∀ j, S' j → S1 j) ∧ Rep s' S' W1) (stepE tr step s1 x).1 (fun k => S1 k ∨ W1.heap.size ≤ k) Wb V)
          (fun V => (stepE tr step s1 x).2 = some .ret ∧ Held (fun s' S1 W1 => ∃ S', (∀ j, S' j → S1 j) ∧ Rep s' S' W1) (stepE tr step s1 x).1 (fun k => S1 k ∨ W1.heap.size ≤ k) Wb V) hub hbs hrec ⟨hSd, ?_, ?_, ?_, ?_, ?_⟩) ?_
        · exact hAg.trans (hu1b.agree fun k hk => ⟨Nat.lt_of_lt_of_le (hD' k hk) (by omega), fun e => by have := hD' k hk; omega⟩)
        · exact fun V V' h hv => ⟨h.1, HeldU _ _ _ h.2 hv⟩
        · exact fun V V' h hv => ⟨h.1, HeldU _ _ _ h.2 hv⟩
        · intro z hz V hv
          have hWV : Upd (fun k => S k ∨ False) W V := ((hWW1.trans hu1b fun k hk => .inr (by omega)).trans hv fun k hk => hk.elim).mono fun _ _ h => .inl h
          have hx1 : x :: suf = [x] ++ suf := rfl
          have hco := hx.yield (outsE tr pre) z (if (tr x).2 then outsE tr suf else []) s1 S' V (by rw [hL, he, p2]; simp [outsE, hz]) p1
            (hx.stab _ _ _ _ g2 ((hu1b.trans hv fun k hk => hk.elim).agree fun j hj => ⟨(hSd j hj).1, (hSd j hj).2.2⟩) (Nat.le_trans hu1b.size hv.size)) hWV (fun k hk => ⟨by have := (hSd k hk).1; have := hv.size; omega, by
              rcases (hS1 k (g1 k hk)).2.2 with h | h
              · exact .inl h
              · exact .inr (by omega)⟩)
          refine hco.mono ?_
          rintro v V' ⟨S2, rfl, q1, q2, q3⟩
          have hH : Held (fun s' S1 W1 => ∃ S', (∀ j, S' j → S1 j) ∧ Rep s' S' W1) (step s1 z).1 (fun k => S1 k ∨ W1.heap.size ≤ k) Wb V' :=
            ⟨S2, ⟨S2, fun _ h => h, q1⟩, (hv.mono fun _ _ h => h.elim).trans q2 fun k hk => .inl (.inl (g1 k hk)), fun k hk => ⟨(q3 k hk).1, (q3 k hk).2.elim (fun h => .inl (.inl (g1 k h))) fun h => .inr (by have := hv.size; omega)⟩⟩
          refine ⟨_, rfl, q2, fun hb1 hb2 => ?_, fun hb1 => ?_⟩
          · simp only [stepE, hz, hb1, hb2, Bool.and_self, if_true]
            exact ⟨trivial, hH⟩
          · have hf : ((step s1 z).2 && (tr x).2) = false := by rcases hb1 with h | h <;> simp [h]
            simp only [stepE, hz, hf, Bool.false_eq_true, if_false]
            exact ⟨trivial, hH⟩
        · intro hz V hv
          refine ⟨fun hb => ?_, fun hb => ?_⟩
          · simp only [stepE, hz, hb, if_true]
            exact ⟨trivial, Held0 V hv⟩
          · simp only [stepE, hz, hb, Bool.false_eq_true, if_false]
            exact ⟨trivial, Held0 V hv⟩
        · rintro e2 a2 W3 hp2
          cases e2 with
          | normal => exact hp2
          | ret => exact hp2
          | exit id => exact hp2.elim
          | goto t => exact hp2.elim
          | panic ch => exact hp2.elim
          | outgrown => exact hp2.elim
      | ret => exact hp.elim
      | exit id => exact hp.elim
      | goto t => exact hp.elim
      | panic ch => exact hp.elim
      | outgrown => exact hp.elim
    · exact (hzzz trivial).elim
  · rintro S1 W' ⟨S', g1, g2⟩ hOw hu1 hsz hS' hdef
    rw [ee] at g2 ⊢
    obtain ⟨e1, e2⟩ := goR_E tr step l s
    have hfin : RunEnd Rep (goF step s L).1 (fun _ => True) S (fun _ => False) W (.tuple #[]) (W'.putObj w.heap.size (.deferred none)) := by
      refine ⟨S', ?_, trivial, ?_, fun k hk => ?_⟩
      · rw [hL, ← e1]
        exact hx.stab _ _ _ _ g2 (fun k hk => World.putObj_heap_other (hS' k (g1 k hk)).2.1) (by simp)
      · exact ((hu.mono fun _ _ h => h.elim).trans hu1 fun k hk => .inl hk).stepPut (.inr hz) _
      · obtain ⟨a1, a2, a3⟩ := hS' k (g1 k hk)
        exact ⟨by simpa using a1, a3.imp id fun h => by omega⟩
    have hlv : LeavesInM Fence.wide 0 P fn a.tmps (Ret R) ({ target := .collected w.heap.size, args := #[] } :: a.defers) .returning W' := by
      rw [ha]
      exact leave_none (a := { tmps := a.tmps, defers := [{ target := .collected w.heap.size, args := #[] }] }) hfn rfl hdef (hR _ _ hfin)
    have hq := hQn { a with defers := { target := .collected w.heap.size, args := #[] } :: a.defers } W' hlv
    rcases e2 with e2 | e2
    · rw [e2]; exact hq.1
    · rw [e2]; exact wpIn_ret hq.2
end
end Go.Proofs.Ytkjkpmeommfdgaa

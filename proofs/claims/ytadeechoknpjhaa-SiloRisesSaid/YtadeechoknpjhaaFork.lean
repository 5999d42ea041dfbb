/- A region that draws its order, two of whose effects may come in either order. -/
import Derived.Test.YtadeechoknpjhaaBase
set_option linter.unusedSimpArgs false
set_option linter.unusedVariables false
namespace Go.Proofs.Ytadeechoknpjhaa
open Go.RowKit Go.Shelf

/-- What is done, step by step; 'fork': two operations are ready, either may come first. -/
inductive Plan where
  | done
  | fl (i : Nat) (t : Plan)
  | ef (j : Nat) (t : Plan)
  | fork (i : Nat) (t : Plan) (j : Nat) (u : Plan)
def Plan.height : Plan → Nat
  | .done => 0
  | .fl _ t => t.height + 1
  | .ef _ t => t.height + 1
  | .fork _ t _ _ => t.height + 1
def Plan.ok (md : Region.Mode) (ops : Array Oper) : Plan → Array Bool → Bool
  | .done, listed => (Region.ready md ops listed).isEmpty
  | .fl i t, listed => (Region.ready md ops listed).contains i && Region.free md ops listed i && t.ok md ops (listed.setIfInBounds i true)
  | .ef j t, listed => decide (Region.ready md ops listed = [j]) && t.ok md ops (listed.setIfInBounds j true)
  | .fork i t j u, listed => decide (Region.ready md ops listed = [i, j]) && decide (t.height = u.height) && t.ok md ops (listed.setIfInBounds i true) && u.ok md ops (listed.setIfInBounds j true)
def Plan.okB (md : Region.Mode) (ops : Array Oper) (t : Plan) : Bool := Region.noSelect ops && Region.noDefer ops && t.ok md ops (Array.replicate ops.size false) && decide (t.height = ops.size)

section
variable {F : Fence} [IsWide F] {n : Nat} {P : Program} {ops : Array Oper} {md : Region.Mode} {Hold : World → Prop} {Q : Exit → Act → World → Prop}
def wpT (F : Fence) (n : Nat) (P : Program) (ops : Array Oper) (Hold : World → Prop) (Q : Exit → Act → World → Prop) : Plan → Act → World → Prop
  | .done, a, w => Q .normal a w
  | .fl i t, a, w => ∃ o v, ops[i]? = some o ∧ YieldsH P ops Hold o v a ∧ wpT F n P ops Hold Q t (a.put o.dst v) w
  | .ef j t, a, w => wpOpIn F n P ops (NoPanic Q) j (fun a' w' => Hold w' ∧ wpT F n P ops Hold Q t a' w') a w
  | .fork i t j u, a, w => wpOpIn F n P ops (NoPanic Q) i (fun a' w' => Hold w' ∧ wpT F n P ops Hold Q t a' w') a w ∧ wpOpIn F n P ops (NoPanic Q) j (fun a' w' => Hold w' ∧ wpT F n P ops Hold Q u a' w') a w

theorem wpAnyH_of_T (hsel : ∀ (j : Nat) (o : Oper) cs b, ops[j]? = some o → o.op ≠ .select cs b) (hdf : ∀ (j : Nat) (o : Oper) c, ops[j]? = some o → o.op ≠ .defer c) :
    ∀ (L : Plan) (listed : Array Bool) (a : Act) (w : World), L.ok md ops listed = true → Hold w → wpT F n P ops Hold Q L a w → wpAnyH F n P md ops Hold (NoPanic Q) L.height listed a w
  | .done, listed, a, w, hB, _, h => ⟨by simpa [Plan.ok] using hB, h⟩
  | .fl i L, listed, a, w, hB, hw, h => by
    simp only [Plan.ok, Bool.and_eq_true] at hB
    obtain ⟨o, v, ho, hy, h⟩ := h
    exact wpAnyH_first ho hsel hdf L.height listed a w (Region.free_spec ho hB.1.2) (by simpa using hB.1.1) hy hw (wpAnyH_of_T hsel hdf L _ _ _ hB.2 hw h)
  | .ef j L, listed, a, w, hB, hw, h => by
    simp only [Plan.ok, Bool.and_eq_true, decide_eq_true_eq] at hB
    refine ⟨fun h0 => (by rw [h0] at hB; cases hB.1), fun i hi => ?_⟩
    rw [hB.1] at hi
    obtain rfl : i = j := by simpa using hi
    exact wpOpIn_mono (fun a' w' h' => ⟨h'.1, wpAnyH_of_T hsel hdf L _ a' w' hB.2 h'.1 h'.2⟩) h
  | .fork i t j u, listed, a, w, hB, hw, h => by
    simp only [Plan.ok, Bool.and_eq_true, decide_eq_true_eq] at hB
    obtain ⟨⟨⟨h1, h2⟩, h3⟩, h4⟩ := hB
    refine ⟨fun h0 => (by rw [h0] at h1; cases h1), fun q hq => ?_⟩
    rw [h1] at hq
    have hq' : q = i ∨ q = j := by simpa using hq
    rcases hq' with rfl | rfl
    · exact wpOpIn_mono (fun a' w' h' => ⟨h'.1, wpAnyH_of_T hsel hdf t _ a' w' h3 h'.1 h'.2⟩) h.1
    · rw [h2]
      exact wpOpIn_mono (fun a' w' h' => ⟨h'.1, wpAnyH_of_T hsel hdf u _ a' w' h4 h'.1 h'.2⟩) h.2

/-- THE REGION: walk it along L. -/
theorem wpIn_plan {id : Nat} {a : Act} {w : World} {l : List Oper} (L : Plan) (Hold : World → Prop) (hm : P.follows .mixedOrders = true) (hB : L.okB .any l.toArray = true) (hw : Hold w.drew)
    (h : wpT F n P l.toArray Hold Q L a w.drew) : (Code.region id l.toArray true).wpIn F n P Q a w := by
  simp only [Plan.okB, Bool.and_eq_true, decide_eq_true_eq] at hB
  refine wpIn_mono (Q := NoPanic Q) ?_ NoPanic.imp
  refine wpIn_region_any hm ?_
  have hdf : ∀ (j : Nat) (o : Oper) c, l.toArray[j]? = some o → o.op ≠ .defer c := fun j o c ho hc => by
    have := Array.all_eq_true_iff_forall_mem.1 hB.1.1.2 o (Array.mem_of_getElem? ho)
    simp [hc] at this
  have H := wpAnyH_of_T (F := F) (n := n) (P := P) (Hold := Hold) (Q := Q) (Region.noSelect_spec hB.1.1.1) hdf L _ a _ hB.1.2 hw h
  rw [hB.2] at H
  exact wpAnyIn_of_H _ _ _ _ H

omit [IsWide F] in
theorem wpT_nil {a : Act} {w : World} (h : Q .normal a w) : wpT F n P ops Hold Q .done a w := h
omit [IsWide F] in
theorem wpT_fl {i : Nat} {o : Oper} {v : Value} {L : Plan} {a : Act} {w : World} (ho : ops[i]? = some o) (hw : Region.wanted o (yielded ops a.tmps) = true)
    (hv : ∀ w', Hold w' → (execOp a.eval o).run P w' = .ok (.value v) w') (h : wpT F n P ops Hold Q L (a.put o.dst v) w) : wpT F n P ops Hold Q (.fl i L) a w := ⟨o, v, ho, .inl ⟨hw, hv⟩, h⟩
theorem wpOp_of_list {j : Nat} {o : Oper} {K : Act → World → Prop} {a : Act} {w : World} (ho : ops[j]? = some o) (h : wpListIn F n P ops (Exit.then K (NoPanic Q)) [o] a w) : wpOpIn F n P ops (NoPanic Q) j K a w := by
  obtain ⟨⟨r, rfl⟩⟩ := (inferInstance : IsWide F)
  unfold wpOpIn
  simp only [ho]
  unfold wpListIn at h
  split
  · rename_i hw
    rw [if_pos hw] at h
    refine ⟨fun _ _ => trivial, ?_⟩
    have h := h.2
    generalize (o.semAt _ a.eval).run P w = r at *
    cases r with
    | ok x w' =>
      cases x <;> simp only [Oper.uponIn] at h ⊢ <;>
        first
          | exact h
          | exact ⟨h.1, CallsIn.mono h.2 (fun e w'' he => by cases e <;> exact he)⟩
          | exact ⟨h.1, RowsIn.mono h.2 (fun _ _ he => he)⟩
          | exact ⟨h.1, RoundIn.mono h.2 (fun e w'' he => by cases e <;> exact he)⟩
    | halt x w' => cases x <;> simp only [Oper.uponIn] at h ⊢ <;> exact h
  · rename_i hw
    rw [if_neg hw] at h
    exact ⟨fun _ _ => trivial, h.2⟩
theorem wpT_ef {j : Nat} {o : Oper} {L : Plan} {a : Act} {w : World} (ho : ops[j]? = some o)
    (h : wpListIn F n P ops (Exit.then (fun a' w' => Hold w' ∧ wpT F n P ops Hold Q L a' w') (NoPanic Q)) [o] a w) : wpT F n P ops Hold Q (.ef j L) a w := wpOp_of_list ho h
theorem wpT_fork {i j : Nat} {o o' : Oper} {L L' : Plan} {a : Act} {w : World} (ho : ops[i]? = some o) (ho' : ops[j]? = some o')
    (h : wpListIn F n P ops (Exit.then (fun a' w' => Hold w' ∧ wpT F n P ops Hold Q L a' w') (NoPanic Q)) [o] a w) (h' : wpListIn F n P ops (Exit.then (fun a' w' => Hold w' ∧ wpT F n P ops Hold Q L' a' w') (NoPanic Q)) [o'] a w) :
    wpT F n P ops Hold Q (.fork i L j L') a w := ⟨wpOp_of_list ho h, wpOp_of_list ho' h'⟩
end
end Go.Proofs.Ytadeechoknpjhaa

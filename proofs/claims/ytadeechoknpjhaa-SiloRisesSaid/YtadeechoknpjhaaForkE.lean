/- A region that draws its order, with forks; what holds throughout needn't hold behind its last operation, which waits for all others. -/
import Derived.Test.YtadeechoknpjhaaBase
import Derived.Test.YtadeechoknpjhaaFork
set_option linter.unusedSimpArgs false
set_option linter.unusedVariables false
namespace Go.Proofs.Ytadeechoknpjhaa
open Go.RowKit Go.Shelf

section
variable {F : Fence} [IsWide F] {n : Nat} {P : Program} {ops : Array Oper} {md : Region.Mode} {Hold : World → Prop} {last : Nat} {Q : Exit → Act → World → Prop}
def wpAnyE (F : Fence) (n : Nat) (P : Program) (md : Region.Mode) (ops : Array Oper) (Hold : World → Prop) (last : Nat) (Q : Exit → Act → World → Prop) : Nat → Array Bool → Act → World → Prop
  | 0, listed, a, w => Region.ready md ops listed = [] ∧ Q .normal a w
  | fuel + 1, listed, a, w =>
    (Region.ready md ops listed = [] → Q .normal a w) ∧
    ∀ i ∈ Region.ready md ops listed, wpOpIn F n P ops Q i (fun a' w' => (i = last ∨ Hold w') ∧ wpAnyE F n P md ops Hold last Q fuel (listed.setIfInBounds i true) a' w') a w
omit [IsWide F] in
theorem wpAnyIn_of_E : ∀ (fuel : Nat) (listed : Array Bool) (a : Act) (w : World), wpAnyE F n P md ops Hold last Q fuel listed a w → wpAnyIn F n P md ops Q fuel listed a w
  | 0, _, _, _, h => h
  | fuel + 1, _, _, _, h => ⟨h.1, fun i hi => wpOpIn_mono (fun a' w' h' => wpAnyIn_of_E fuel _ a' w' h'.2) (h.2 i hi)⟩
/-- The last one waits for all others. -/
def Region.lastB (md : Region.Mode) (ops : Array Oper) (last : Nat) : Bool := (List.range ops.size).all fun k => k == last || (match ops[last]? with | some o => o.after.any fun e => Region.binds md e && e.on == k | none => false)
theorem Region.last_spec (h : Region.lastB md ops last = true) {listed : Array Bool} (hr : last ∈ Region.ready md ops listed) {k : Nat} (hk : k < ops.size) (hne : k ≠ last) : listed.getD k false = true := by
  obtain ⟨_, o, ho, hall⟩ := mem_ready.1 hr
  have := List.all_eq_true.1 h k (List.mem_range.2 hk)
  rw [ho] at this
  simp only [Bool.or_eq_true, beq_iff_eq, hne, false_or] at this
  obtain ⟨e, he, h2⟩ := Array.any_eq_true'.1 this
  simp only [Bool.and_eq_true, beq_iff_eq] at h2
  rw [← h2.2]
  exact hall e he h2.1

theorem wpAnyE_first {i : Nat} {oi : Oper} {v : Value} (hi : ops[i]? = some oi) (hsel : ∀ (j : Nat) (o : Oper) cs b, ops[j]? = some o → o.op ≠ .select cs b) (hdf : ∀ (j : Nat) (o : Oper) c, ops[j]? = some o → o.op ≠ .defer c) (hlast : Region.lastB md ops last = true) (hil : i ≠ last) :
    ∀ (fuel : Nat) (listed : Array Bool) (a : Act) (w : World),
      (∀ j oj, ops[j]? = some oj → j ≠ i → listed.getD j true = false → (∀ e ∈ oj.after, Region.binds md e = true → e.on ≠ i) → oi.apart ops oj = true) →
      i ∈ Region.ready md ops listed → YieldsH P ops Hold oi v a → Hold w →
      wpAnyE F n P md ops Hold last (NoPanic Q) fuel (listed.setIfInBounds i true) (a.put oi.dst v) w → wpAnyE F n P md ops Hold last (NoPanic Q) (fuel + 1) listed a w := by
  have hFn : ∀ f, F.fn f := by obtain ⟨⟨r, rfl⟩⟩ := (inferInstance : IsWide F); exact fun _ => trivial
  intro fuel
  induction fuel with
  | zero =>
    intro listed a w _ hr hy hh H
    refine ⟨fun h => (by rw [h] at hr; cases hr), fun j hj => ?_⟩
    by_cases hji : j = i
    · subst hji; exact hy.wpOpIn hi hh ⟨.inr hh, H⟩
    · have := ready_mono hj hji
      rw [H.1] at this
      cases this
  | succ fuel ih =>
    intro listed a w hfree hr hy hh H
    refine ⟨fun h => (by rw [h] at hr; cases hr), fun j hj => ?_⟩
    by_cases hji : j = i
    · subst hji; exact hy.wpOpIn hi hh ⟨.inr hh, H⟩
    · have h1 := H.2 j (ready_mono hj hji)
      have hjl : j ≠ last := by
        rintro rfl
        have h0 := (mem_ready.1 hr).1
        have h2 := Region.last_spec hlast hj (Array.getElem?_eq_some_iff.1 hi).1 hil
        rcases Nat.lt_or_ge i listed.size with h' | h'
        · simp [h'] at h0 h2; rw [h0] at h2; cases h2
        · simp [Array.getElem?_eq_none h'] at h2
      obtain ⟨hjun, oj, hoj, hall⟩ := mem_ready.1 hj
      have hnot : ∀ e ∈ oj.after, Region.binds md e = true → e.on ≠ i := fun e he hb heq => by
        have h1 := hall e he hb
        have h0 := (mem_ready.1 hr).1
        rw [heq] at h1
        rcases Nat.lt_or_ge i listed.size with h' | h'
        · simp [h'] at h0 h1; rw [h0] at h1; cases h1
        · simp [Array.getElem?_eq_none h'] at h1
      have h2 := wpOpIn_putH hoj (hfree j oj hoj hji hjun hnot) (fun c => hdf j oj c hoj) (fun cs b => hsel i oi cs b hi) (fun cs b => hsel j oj cs b hoj) hFn hy h1
      have hfree' : ∀ k ok, ops[k]? = some ok → k ≠ i → (listed.setIfInBounds j true).getD k true = false →
          (∀ e ∈ ok.after, Region.binds md e = true → e.on ≠ i) → oi.apart ops ok = true := fun k ok hk hki hun hno => by
        refine hfree k ok hk hki ?_ hno
        by_cases hjk : j = k
        · subst hjk; exact hjun
        · rw [getD_set_ne true hjk] at hun; exact hun
      refine wpOpIn_mono (fun a' w' h3 => ?_) h2
      have hh' : Hold w' := h3.2.1.resolve_left hjl
      refine ⟨.inr hh', ih (listed.setIfInBounds j true) a' w' hfree' (ready_mono hr (Ne.symm hji)) h3.1 hh' ?_⟩
      rw [Array.setIfInBounds_comm _ _ hji]
      exact h3.2.2
def wpU (F : Fence) (n : Nat) (P : Program) (ops : Array Oper) (Hold : World → Prop) (Q : Exit → Act → World → Prop) : Plan → Act → World → Prop
  | .done, a, w => Q .normal a w
  | .fl i t, a, w => ∃ o v, ops[i]? = some o ∧ YieldsH P ops Hold o v a ∧ wpU F n P ops Hold Q t (a.put o.dst v) w
  | .ef j t, a, w => wpOpIn F n P ops (NoPanic Q) j (fun a' w' => (t = .done ∨ Hold w') ∧ wpU F n P ops Hold Q t a' w') a w
  | .fork i t j u, a, w => wpOpIn F n P ops (NoPanic Q) i (fun a' w' => Hold w' ∧ wpU F n P ops Hold Q t a' w') a w ∧ wpOpIn F n P ops (NoPanic Q) j (fun a' w' => Hold w' ∧ wpU F n P ops Hold Q u a' w') a w
/-- 'last' is the plan's last operation alone. -/
def Plan.lastOk (last : Nat) : Plan → Bool
  | .done => true
  | .fl i t => i != last && t.lastOk last
  | .ef j .done => j == last
  | .ef _ t => t.lastOk last
  | .fork _ t _ u => t.lastOk last && u.lastOk last
theorem wpAnyE_of_U (hsel : ∀ (j : Nat) (o : Oper) cs b, ops[j]? = some o → o.op ≠ .select cs b) (hdf : ∀ (j : Nat) (o : Oper) c, ops[j]? = some o → o.op ≠ .defer c) (hlast : Region.lastB md ops last = true) :
    ∀ (L : Plan) (listed : Array Bool) (a : Act) (w : World), L.ok md ops listed = true → L.lastOk last = true → (L = .done ∨ Hold w) → wpU F n P ops Hold Q L a w → wpAnyE F n P md ops Hold last (NoPanic Q) L.height listed a w
  | .done, listed, a, w, hB, _, _, h => ⟨by simpa [Plan.ok] using hB, h⟩
  | .fl i L, listed, a, w, hB, hl, hw, h => by
    simp only [Plan.ok, Bool.and_eq_true] at hB
    simp only [Plan.lastOk, Bool.and_eq_true, bne_iff_ne] at hl
    obtain ⟨o, v, ho, hy, h⟩ := h
    have hw := hw.resolve_left (by simp)
    exact wpAnyE_first ho hsel hdf hlast hl.1 L.height listed a w (Region.free_spec ho hB.1.2) (by simpa using hB.1.1) hy hw (wpAnyE_of_U hsel hdf hlast L _ _ _ hB.2 hl.2 (.inr hw) h)
  | .ef j L, listed, a, w, hB, hl, hw, h => by
    simp only [Plan.ok, Bool.and_eq_true, decide_eq_true_eq] at hB
    refine ⟨fun h0 => (by rw [h0] at hB; cases hB.1), fun i hi => ?_⟩
    rw [hB.1] at hi
    obtain rfl : i = j := by simpa using hi
    have hl' : L.lastOk last = true ∧ (L = .done → i = last) := by
      cases L with
      | done => simp only [Plan.lastOk, beq_iff_eq] at hl; exact ⟨rfl, fun _ => hl⟩
      | _ => exact ⟨by simpa [Plan.lastOk] using hl, fun h => by cases h⟩
    exact wpOpIn_mono (fun a' w' h' => ⟨h'.1.imp hl'.2 id, wpAnyE_of_U hsel hdf hlast L _ a' w' hB.2 hl'.1 h'.1 h'.2⟩) h
  | .fork i t j u, listed, a, w, hB, hl, hw, h => by
    simp only [Plan.ok, Bool.and_eq_true, decide_eq_true_eq] at hB
    simp only [Plan.lastOk, Bool.and_eq_true] at hl
    obtain ⟨⟨⟨h1, h2⟩, h3⟩, h4⟩ := hB
    refine ⟨fun h0 => (by rw [h0] at h1; cases h1), fun q hq => ?_⟩
    rw [h1] at hq
    have hq' : q = i ∨ q = j := by simpa using hq
    rcases hq' with rfl | rfl
    · exact wpOpIn_mono (fun a' w' h' => ⟨.inr h'.1, wpAnyE_of_U hsel hdf hlast t _ a' w' h3 hl.1 (.inr h'.1) h'.2⟩) h.1
    · rw [h2]
      exact wpOpIn_mono (fun a' w' h' => ⟨.inr h'.1, wpAnyE_of_U hsel hdf hlast u _ a' w' h4 hl.2 (.inr h'.1) h'.2⟩) h.2
/-- THE REGION: walk it along L. -/
theorem wpIn_planE {id : Nat} {a : Act} {w : World} {l : List Oper} (L : Plan) (last : Nat) (Hold : World → Prop) (hm : P.follows .mixedOrders = true) (hB : (L.okB .any l.toArray && L.lastOk last && Region.lastB .any l.toArray last) = true) (hw : Hold w.drew)
    (h : wpU F n P l.toArray Hold Q L a w.drew) : (Code.region id l.toArray true).wpIn F n P Q a w := by
  simp only [Plan.okB, Bool.and_eq_true, decide_eq_true_eq] at hB
  obtain ⟨⟨hB, hB2⟩, hB3⟩ := hB
  refine wpIn_mono (Q := NoPanic Q) ?_ NoPanic.imp
  refine wpIn_region_any hm ?_
  have hdf : ∀ (j : Nat) (o : Oper) c, l.toArray[j]? = some o → o.op ≠ .defer c := fun j o c ho hc => by
    have := Array.all_eq_true_iff_forall_mem.1 hB.1.1.2 o (Array.mem_of_getElem? ho)
    simp [hc] at this
  have H := wpAnyE_of_U (F := F) (n := n) (P := P) (Hold := Hold) (Q := Q) (Region.noSelect_spec hB.1.1.1) hdf hB3 L _ a _ hB.1.2 hB2 (.inr hw) h
  rw [hB.2] at H
  exact wpAnyIn_of_E _ _ _ _ H
omit [IsWide F] in
theorem wpU_nil {a : Act} {w : World} (h : Q .normal a w) : wpU F n P ops Hold Q .done a w := h
omit [IsWide F] in
theorem wpU_fl {i : Nat} {o : Oper} {v : Value} {L : Plan} {a : Act} {w : World} (ho : ops[i]? = some o) (hw : Region.wanted o (yielded ops a.tmps) = true)
    (hv : ∀ w', Hold w' → (execOp a.eval o).run P w' = .ok (.value v) w') (h : wpU F n P ops Hold Q L (a.put o.dst v) w) : wpU F n P ops Hold Q (.fl i L) a w := ⟨o, v, ho, .inl ⟨hw, hv⟩, h⟩
theorem wpU_ef {j : Nat} {o : Oper} {L : Plan} {a : Act} {w : World} (ho : ops[j]? = some o)
    (h : wpListIn F n P ops (Exit.then (fun a' w' => (L = .done ∨ Hold w') ∧ wpU F n P ops Hold Q L a' w') (NoPanic Q)) [o] a w) : wpU F n P ops Hold Q (.ef j L) a w := wpOp_of_list ho h
theorem wpU_fork {i j : Nat} {o o' : Oper} {L L' : Plan} {a : Act} {w : World} (ho : ops[i]? = some o) (ho' : ops[j]? = some o')
    (h : wpListIn F n P ops (Exit.then (fun a' w' => Hold w' ∧ wpU F n P ops Hold Q L a' w') (NoPanic Q)) [o] a w) (h' : wpListIn F n P ops (Exit.then (fun a' w' => Hold w' ∧ wpU F n P ops Hold Q L' a' w') (NoPanic Q)) [o'] a w) :
    wpU F n P ops Hold Q (.fork i L j L') a w := ⟨wpOp_of_list ho h, wpOp_of_list ho' h'⟩
end
end Go.Proofs.Ytadeechoknpjhaa

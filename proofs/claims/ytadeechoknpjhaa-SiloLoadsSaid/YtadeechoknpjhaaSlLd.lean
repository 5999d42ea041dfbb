/- silo: Load. -/
import Derived.Test.YtadeechoknpjhaaProg
import Derived.Test.YtadeechoknpjhaaBase
import Derived.Test.YtadeechoknpjhaaSlRi
import Derived.Test.YtadeechoknpjhaaSlG
import Derived.Test.YtadeechoknpjhaaSlK
set_option linter.unusedSimpArgs false
set_option linter.unusedVariables false
namespace Go.Proofs.Ytadeechoknpjhaa
open Go.RowKit Go.Shelf
attribute [local go_sem] Oper.semAt_some

/-- Can a state be? -/
structure RightE (f : Int) (vs : List VCE) : Prop where
  fR : 0 ≤ f ∧ f ≤ mxE
  ep : ∀ v ∈ vs, 0 ≤ v.ep ∧ v.ep ≤ f
  ri : Rise cmpC (vs.map prE)
/-- Those of a state that begin it can be. -/
structure RightTo (f : Int) (vs : List VCE) (j : Nat) : Prop where
  ep : ∀ v ∈ vs.take j, 0 ≤ v.ep ∧ v.ep ≤ f
  ri : Rise cmpC ((vs.take j).map prE)
theorem rise_snoc {l : List VCE} {x : VCE} (h : Rise cmpC (l.map prE)) (hx : ∀ (h0 : 0 < l.length), cmpC (cellE l[l.length - 1]) (cellE x) < 0) : Rise cmpC ((l ++ [x]).map prE) := by
  rw [List.map_append]
  refine List.pairwise_append.2 ⟨h, by simp, fun a ha b hb => ?_⟩
  simp only [List.map_cons, List.map_nil, List.mem_singleton] at hb
  subst hb
  obtain ⟨i, hi, rfl⟩ := List.getElem_of_mem ha
  rw [List.length_map] at hi
  have hl := hx (by omega)
  simp only [List.getElem_map, prE]
  by_cases e : i = l.length - 1
  · subst e; exact hl
  · have := List.pairwise_iff_getElem.1 h i (l.length - 1) (by simpa using hi) (by simp; omega) (by omega)
    simp only [List.getElem_map, prE] at this
    exact ordrC.trans _ _ _ this hl
theorem RightTo.step {f : Int} {vs : List VCE} {j : Nat} (h : RightTo f vs j) (hj : j < vs.length) (h1 : 0 ≤ vs[j].ep ∧ vs[j].ep ≤ f) (h2 : ∀ h0 : 0 < j, cmpC (cellE (vs[j - 1]'(by omega))) (cellE vs[j]) < 0) : RightTo f vs (j + 1) := by
  have ht : vs.take (j + 1) = vs.take j ++ [vs[j]] := List.take_succ_eq_append_getElem hj
  have hl : (vs.take j).length = j := by rw [List.length_take]; omega
  refine ⟨fun v hv => ?_, ?_⟩
  · rw [ht, List.mem_append, List.mem_singleton] at hv
    rcases hv with hv | rfl
    · exact h.ep v hv
    · exact h1
  · rw [ht]
    refine rise_snoc h.ri fun h0 => ?_
    have h0' : 0 < j := by omega
    have := h2 h0'
    simp only [hl, List.getElem_take]
    exact this
theorem RightE.to {f : Int} {vs : List VCE} (h : RightE f vs) (j : Nat) : RightTo f vs j :=
  ⟨fun v hv => h.ep v (List.mem_of_mem_take hv), by rw [List.map_take]; exact List.Pairwise.sublist (List.take_sublist _ _) h.ri⟩
theorem right_before {f : Int} {vs : List VCE} (h : RightE f vs) {j : Nat} (hj : j < vs.length) (h0 : 0 < j) : cmpC (cellE (vs[j - 1]'(by omega))) (cellE vs[j]) < 0 := by
  have := List.pairwise_iff_getElem.1 h.ri (j - 1) j (by simp; omega) (by simpa using hj) (by omega)
  simpa only [List.getElem_map, prE] using this
/-- One more at the end. -/
theorem putL_snoc {l : List VCE} {x : VCE} (h : Rise cmpC ((l ++ [x]).map prE)) : putL cmpC (cellE x) x (l.map prE) = (l ++ [x]).map prE := by
  rw [List.map_append] at h ⊢
  obtain ⟨_, _, h3⟩ := List.pairwise_append.1 h
  have hlt : ∀ a ∈ l.map prE, cmpC a.1 (cellE x) < 0 := fun a ha => h3 a ha (prE x) (by simp)
  have hgt : ∀ a ∈ l.map prE, 0 < cmpC (cellE x) a.1 := fun a ha => by
    have h1 := hlt a ha
    have h2 := ordrC.flip a.1 (cellE x)
    have h3 := ordrC.flip (cellE x) a.1
    omega
  simp only [putL]
  rw [List.filter_eq_self.2 fun a ha => decide_eq_true (hgt a ha), List.filter_eq_nil_iff.2 fun a ha => by have := hgt a ha; simp; omega]
  rfl
section
variable {sb : Nat} {f : Int} {l : List (KCE × VCE)} {vs : List VCE} {F : Nat → Prop} {A : Option Addr} {cap : Nat} {W : World}
/-- The rack's own Put. -/
theorem silo_put (h : SiloI sb f l F W) (hn : l.length < 100000) (v : VCE) : ∃ q, W.cell? ⟨sb, 1, none⟩ = some (.pointer (some ⟨q, 0, none⟩)) ∧ ∀ V, Upd (fun _ => False) W V → V.cell? ⟨sb, 1, none⟩ = some (.pointer (some ⟨q, 0, none⟩)) ∧
    CallsIn Fence.wide 0 Try.prog 28 #[.pointer (some ⟨q, 0, none⟩), .agg #[.string (v).key, .string (v).pol, .int .i64 (v).kd, .int .i64 (v).st], .agg #[.int .i64 (v).ep, .string (v).key, .string (v).pol, .int .i64 (v).kd, .int .i64 (v).st, .int .i64 (v).rev, .bool (v).fin, .int .i64 (v).rk, .int .i64 (v).cnt, .int .i64 (v).sum, .int .i64 (v).mn, .int .i64 (v).mx, .int .i64 (v).q0, .int .i64 (v).q1, .int .i64 (v).q2, .bool (v).over]] V fun e W3 => ∃ b, e = .returned (.bool b) ∧ W3.cell? ⟨sb, 1, none⟩ = some (.pointer (some ⟨q, 0, none⟩)) ∧
      ∃ F', SiloI sb f (putL cmpC (cellE v) v l) F' W3 ∧ (∀ j, F' j → F j ∨ W.heap.size ≤ j) ∧ Upd F W W3 ∧ Upd F V W3 := by
  obtain ⟨q, t, g1, g2, g3, g4⟩ := h
  refine ⟨q, g1.cell 1, fun V uV => ⟨(g1.upd uV id).cell 1, ?_⟩⟩
  have b3 := g1.upd uV id
  refine (rackPutCE (n := 0) cmpV_cell (k := cellE v) (v := v) (g2.upd uV fun _ _ => id) hn).mono ?_
  rintro e W3 ⟨rfl, t', p1, p2, p3⟩
  have zV := uV.size
  have hsb := g1.lt
  have ut : ∀ j, t'.has j → t.has j ∨ W.heap.size ≤ j := fun j hj => (p2 j hj).imp id fun h => by omega
  refine ⟨_, rfl, (b3.upd p3 g4).cell 1, fun j => j = sb ∨ j = q ∨ t'.has j, ⟨q, t', b3.upd p3 g4, p1, fun j => Iff.rfl, ?_⟩, ?_, ?_, p3.mono fun j _ hj => (g3 j).2 (.inr hj)⟩
  · rintro (h | h)
    · exact g4 (.inl h)
    · rcases ut _ h with h | h
      · exact g4 (.inr h)
      · omega
  · rintro j (h | h | h)
    · exact .inl ((g3 j).2 (.inl h))
    · exact .inl ((g3 j).2 (.inr (.inl h)))
    · exact (ut j h).imp (fun h => (g3 j).2 (.inr (.inr h))) id
  · exact (uV.mono fun _ _ h => h.elim).trans' (p3.mono fun j _ hj => (g3 j).2 (.inr hj))
/-- Load's answer. -/
def LoadR (f : Int) (vs : List VCE) (W : World) (e : Ending) (W2 : World) : Prop :=
  (RightE f vs ∧ ∃ sb F, e = .returned (.tuple #[.pointer (some ⟨sb, 0, none⟩), .int .i64 0]) ∧ SiloV sb f vs F W2 ∧ (∀ j, F j → W.heap.size ≤ j) ∧ Upd (fun _ => False) W W2) ∨
  (¬ RightE f vs ∧ e = .returned (.tuple #[.pointer none, .int .i64 2]) ∧ Upd (fun _ => False) W W2)
end
end Go.Proofs.Ytadeechoknpjhaa

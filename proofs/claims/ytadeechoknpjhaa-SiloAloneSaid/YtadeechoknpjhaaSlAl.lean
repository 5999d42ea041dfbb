/- SiloAlone: entries of one key, policy and kind, found whole; ranges side by side (plain law). -/
import Derived.Test.YtadeechoknpjhaaProg
import Derived.Test.YtadeechoknpjhaaBase
import Derived.Test.YtadeechoknpjhaaSlT
import Derived.Test.YtadeechoknpjhaaSlRf
import Derived.Test.YtadeechoknpjhaaSlRi
set_option linter.unusedSimpArgs false
set_option linter.unusedVariables false
namespace Go.Proofs.Ytadeechoknpjhaa
open Go.RowKit Go.Shelf
attribute [local go_sem] Oper.semAt_some

abbrev fitK (c v : VCE) : Prop := v.key = c.key ∧ v.pol = c.pol ∧ v.kd = c.kd
/-- Those of one key, policy and kind. -/
def keyL (c : VCE) (vs : List VCE) : List VCE := vs.filter fun v => decide (fitK c v)
theorem keyL_take {c : VCE} {vs : List VCE} {i : Nat} (h : i < vs.length) : keyL c (vs.take (i + 1)) = if fitK c vs[i] then keyL c (vs.take i) ++ [vs[i]] else keyL c (vs.take i) := by
  simp only [keyL]
  rw [List.take_succ_eq_append_getElem h, List.filter_append]
  by_cases hc : fitK c vs[i]
  · rw [if_pos hc]; simp [hc]
  · rw [if_neg hc]; simp [hc]
/-- Starts that are times. -/
def timeL (vs : List VCE) : Prop := ∀ y ∈ vs, 0 ≤ y.st ∧ y.st ≤ mxE
abbrev kyA (c : VCE) (x : Int) : KCE := (c.key, c.pol, c.kd, x)
theorem fit_all {c : VCE} {vs : List VCE} (h : timeL vs) : fitL (kyA c 0) 1099511627777 vs = keyL c vs := by
  refine List.filter_congr fun y hy => ?_
  have := h y hy
  refine decide_eq_decide.2 ⟨fun hh => ⟨hh.1, hh.2.1, hh.2.2.1⟩, fun hh => ⟨hh.1, hh.2.1, hh.2.2, this.1, ?_⟩⟩
  have h2 : y.st ≤ 1099511627776 := this.2
  omega
theorem fit_cut {c : VCE} {mid : Int} (h0 : 0 ≤ mid) : ∀ {vs : List VCE}, Rise cmpC (vs.map prE) → timeL vs → fitL (kyA c 0) mid vs ++ fitL (kyA c mid) 1099511627777 vs = keyL c vs
  | [], _, _ => rfl
  | v :: vs, hr, ht => by
    have hr2 : Rise cmpC (vs.map prE) := (List.pairwise_cons.1 hr).2
    have ih := fit_cut (c := c) h0 hr2 fun y hy => ht y (by simp [hy])
    have hv := ht v (by simp)
    simp only [fitL, keyL, List.filter_cons] at ih ⊢
    by_cases hk : fitK c v
    · obtain ⟨k1, k2, k3⟩ := hk
      by_cases hm : v.st < mid
      · have f1 : fitsR (kyA c 0) mid v := ⟨k1, k2, k3, hv.1, hm⟩
        have f2 : ¬ fitsR (kyA c mid) 1099511627777 v := fun h => by have := h.2.2.2.1; simp only at this; omega
        simp only [decide_eq_true f1, decide_eq_false f2, decide_eq_true (show fitK c v from ⟨k1, k2, k3⟩), if_true, Bool.false_eq_true, if_false, List.cons_append]
        rw [ih]
      · have f1 : ¬ fitsR (kyA c 0) mid v := fun h => hm h.2.2.2.2
        have f2 : fitsR (kyA c mid) 1099511627777 v := ⟨k1, k2, k3, by simp only; omega, by have h2 : v.st ≤ 1099511627776 := hv.2; omega⟩
        have e : vs.filter (fun y => decide (fitsR (kyA c 0) mid y)) = [] := by
          refine List.filter_eq_nil_iff.2 fun y hy => ?_
          simp only [decide_eq_true_eq]
          intro hf
          have h3 := (List.pairwise_cons.1 hr).1 (prE y) (List.mem_map.2 ⟨y, hy, rfl⟩)
          obtain ⟨y1, y2, y3, _, y5⟩ := hf
          simp only at y1 y2 y3
          have e2 : ¬ 0 < cmpC (cellE v) (cellE y) := by simp only [prE] at h3; omega
          simp only [cellE, y1, y2, y3, k1, k2, k3] at e2
          simp only [lexO, (ordrS.eq _ _).2 rfl, (ordrI.eq _ _).2 rfl, if_true] at e2
          have := (cmpI_not _ _).1 e2
          omega
        rw [e] at ih ⊢
        simp only [decide_eq_false f1, decide_eq_true f2, decide_eq_true (show fitK c v from ⟨k1, k2, k3⟩), if_true, Bool.false_eq_true, if_false, List.nil_append] at ih ⊢
        rw [ih]
    · have f1 : ¬ fitsR (kyA c 0) mid v := fun h => hk ⟨h.1, h.2.1, h.2.2.1⟩
      have f2 : ¬ fitsR (kyA c mid) 1099511627777 v := fun h => hk ⟨h.1, h.2.1, h.2.2.1⟩
      simp only [decide_eq_false f1, decide_eq_false f2, decide_eq_false hk, Bool.false_eq_true, if_false]
      exact ih
theorem timeL_put {x : Int} {v : VCE} {vs : List VCE} (h : timeL vs) (hv : 0 ≤ v.st ∧ v.st ≤ mxE) : timeL (putV x v vs) := fun y hy => by
  rcases mem_putV hy with rfl | hy
  · exact hv
  · exact h y hy
/-- An entry of those. -/
theorem keyL_len (c : VCE) (vs : List VCE) : (keyL c vs).length ≤ vs.length := List.length_filter_le _ _
end Go.Proofs.Ytadeechoknpjhaa

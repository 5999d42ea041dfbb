/- silo: what a range gives, in plain words. -/
import Derived.Test.YtadeechoknpjhaaProg
import Derived.Test.YtadeechoknpjhaaBase
import Derived.Test.YtadeechoknpjhaaSlR
import Derived.Test.YtadeechoknpjhaaSlM
set_option linter.unusedSimpArgs false
set_option linter.unusedVariables false
namespace Go.Proofs.Ytadeechoknpjhaa
open Go.RowKit Go.Shelf

theorem squeeze {α β : Type} {c : α → α → Int} {d : β → β → Int} (hc : Ordr c) {a x : α} {b b' y : β} (h1 : ¬ 0 < lexO c d (a, b) (x, y)) (h2 : ¬ 0 < lexO c d (x, y) (a, b')) : x = a ∧ ¬ 0 < d b y ∧ ¬ 0 < d y b' := by
  by_cases h : c a x = 0
  · have e := (hc.eq _ _).1 h
    subst e
    simp only [lexO, h, if_true] at h1 h2
    exact ⟨rfl, h1, h2⟩
  · have h' : ¬ c x a = 0 := fun e => h ((hc.eq _ _).2 ((hc.eq _ _).1 e).symm)
    simp only [lexO, if_neg h, if_neg h'] at h1 h2
    have := hc.flip a x
    omega
theorem cmpI_not (a b : Int) : ¬ 0 < cmpI a b ↔ a ≤ b := by simp only [cmpI]; (repeat' split) <;> omega
theorem fits_ge {k : KCE} {to : Int} {v : VCE} (h : fitsR k to v) : ¬ cmpC (cellE v) k < 0 := by
  obtain ⟨k0, k1, k2, k3⟩ := k
  obtain ⟨h1, h2, h3, h4, h5⟩ := h
  simp only at h1 h2 h3 h4
  subst h1 h2 h3
  simp only [lexO, (ordrS.eq _ _).2 rfl, (ordrI.eq _ _).2 rfl, if_true]
  simp only [cmpI]; (repeat' split) <;> omega
theorem nonpos_of_flip {a b : KCE} (h : ¬ cmpC b a < 0) : ¬ 0 < cmpC a b := by
  have := ordrC.flip b a
  omega
theorem fits_first {k : KCE} {to : Int} {v : VCE} (hge : ¬ cmpC (cellE v) k < 0) : fitsR k to v ↔ ((v.key, v.pol, v.kd, k.2.2.2) = k ∧ v.st < to) := by
  obtain ⟨k0, k1, k2, k3⟩ := k
  simp only [fitsR, Prod.mk.injEq, and_true]
  constructor
  · rintro ⟨h1, h2, h3, h4, h5⟩; exact ⟨⟨h1, h2, h3⟩, h5⟩
  · rintro ⟨⟨h1, h2, h3⟩, h5⟩
    refine ⟨h1, h2, h3, ?_, h5⟩
    subst h1 h2 h3
    simp only [lexO, (ordrS.eq _ _).2 rfl, (ordrI.eq _ _).2 rfl, if_true] at hge
    have := (cmpI_not k3 v.st).1 (by have := ordrI.flip v.st k3; omega)
    exact this
theorem fits_later {k : KCE} {to : Int} {v y : VCE} (hge : ¬ cmpC (cellE v) k < 0) (hlt : cmpC (cellE v) (cellE y) < 0) (hy : fitsR k to y) : fitsR k to v := by
  obtain ⟨k0, k1, k2, k3⟩ := k
  obtain ⟨h1, h2, h3, h4, h5⟩ := hy
  simp only at h1 h2 h3 h4
  have e1 := nonpos_of_flip hge
  have e2 : ¬ 0 < cmpC (cellE v) (cellE y) := by omega
  simp only [cellE, h1, h2, h3] at e1 e2
  obtain ⟨p1, e1, e2⟩ := squeeze ordrS e1 e2
  obtain ⟨p2, e1, e2⟩ := squeeze ordrS e1 e2
  obtain ⟨p3, e1, e2⟩ := squeeze ordrI e1 e2
  have q1 := (cmpI_not _ _).1 e1
  have q2 := (cmpI_not _ _).1 e2
  exact ⟨p1, p2, p3, q1, by omega⟩
theorem rangeL_eq {k : KCE} {to : Int} : ∀ {vs : List VCE}, Rise cmpC (vs.map prE) → rangeL k to vs = fitL k to vs
  | [], _ => rfl
  | v :: vs, hr => by
    have hr2 : Rise cmpC (vs.map prE) := (List.pairwise_cons.1 hr).2
    have ih := rangeL_eq (k := k) (to := to) hr2
    simp only [rangeL, fitL, behindL, List.map_cons, List.filter_cons] at ih ⊢
    by_cases hc : cmpC (cellE v) k < 0
    · have hf : ¬ fitsR k to v := fun h => fits_ge h hc
      simp only [prE, hc, hf, decide_true, decide_false, Bool.not_true, Bool.false_eq_true, if_false]
      exact ih
    · have hb := fits_first (to := to) hc
      simp only [prE, hc, decide_false, Bool.not_false, if_true]
      by_cases hf : fitsR k to v
      · simp only [outsE, trR, if_pos (hb.1 hf), decide_eq_true hf, if_true, Option.toList_some, List.cons_append, List.nil_append]
        rw [← ih]
      · simp only [outsE, trR, if_neg (fun h => hf (hb.2 h)), decide_eq_false hf, Bool.false_eq_true, if_false, Option.toList_none, List.nil_append]
        refine (List.filter_eq_nil_iff.2 fun y hy => ?_).symm
        simp only [decide_eq_true_eq]
        intro hfy
        have h3 := (List.pairwise_cons.1 hr).1 (prE y) (List.mem_map.2 ⟨y, hy, rfl⟩)
        exact hf (fits_later hc h3 hfy)
end Go.Proofs.Ytadeechoknpjhaa

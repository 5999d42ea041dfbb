/- silo: what Put does to the entries, in plain words (SiloRises). -/
import Derived.Test.YtadeechoknpjhaaProg
import Derived.Test.YtadeechoknpjhaaBase
import Derived.Test.YtadeechoknpjhaaSlS
set_option linter.unusedSimpArgs false
set_option linter.unusedVariables false
namespace Go.Proofs.Ytadeechoknpjhaa
open Go.RowKit Go.Shelf

theorem mem_putV_iff {x : Int} {v y : VCE} {vs : List VCE} (hr : Rise cmpC (vs.map prE)) : y ∈ putV x v vs ↔ y = atE x v ∨ (y ∈ vs ∧ cellE y ≠ cellE v) := by
  have h := mem_putL (c := cmpC) (k := cellE v) (v := atE x v) (l := vs.map prE) (y := prE y)
  rw [putV_pr hr] at h
  have e1 : prE y ∈ (putV x v vs).map prE ↔ y ∈ putV x v vs := by
    constructor
    · intro h
      obtain ⟨z, hz, e⟩ := List.mem_map.1 h
      have : z = y := congrArg Prod.snd e
      rwa [← this]
    · exact fun h => List.mem_map.2 ⟨y, h, rfl⟩
  have e2 : prE y ∈ vs.map prE ↔ y ∈ vs := by
    constructor
    · intro h
      obtain ⟨z, hz, e⟩ := List.mem_map.1 h
      have : z = y := congrArg Prod.snd e
      rwa [← this]
    · exact fun h => List.mem_map.2 ⟨y, h, rfl⟩
  rw [e1, e2] at h
  rw [h]
  constructor
  · rintro (h | ⟨h1, h2⟩)
    · exact .inl (congrArg Prod.snd h)
    · exact .inr ⟨h1, fun e => h2 ((ordrC.eq _ _).2 e.symm)⟩
  · rintro (rfl | ⟨h1, h2⟩)
    · exact .inl rfl
    · exact .inr ⟨h1, fun e => h2 ((ordrC.eq _ _).1 e).symm⟩
/-- Entries of one cell are one. -/
theorem cell_inj {vs : List VCE} (hr : Rise cmpC (vs.map prE)) {x y : VCE} (hx : x ∈ vs) (hy : y ∈ vs) (h : cellE x = cellE y) : x = y := by
  obtain ⟨i, hi, rfl⟩ := List.getElem_of_mem hx
  obtain ⟨j, hj, rfl⟩ := List.getElem_of_mem hy
  have irr : ∀ k : KCE, cmpC k k = 0 := fun k => (ordrC.eq k k).2 rfl
  rcases Nat.lt_trichotomy i j with h1 | h1 | h1
  · have := List.pairwise_iff_getElem.1 hr i j (by simpa using hi) (by simpa using hj) h1
    simp only [List.getElem_map, prE] at this
    rw [h, irr] at this
    omega
  · subst h1; rfl
  · have := List.pairwise_iff_getElem.1 hr j i (by simpa using hj) (by simpa using hi) h1
    simp only [List.getElem_map, prE] at this
    rw [h, irr] at this
    omega
/-- Of each cell the revisions only rise, and the epochs don't fall. -/
def risesB (vs ws : List VCE) : Prop := ∀ x ∈ vs, (∃ y ∈ ws, cellE y = cellE x) ∧ ∀ y ∈ ws, cellE y = cellE x → y = x ∨ (x.ep ≤ y.ep ∧ x.rev < y.rev)
theorem rises_same {vs : List VCE} (hr : Rise cmpC (vs.map prE)) : risesB vs vs := fun x hx => ⟨⟨x, hx, rfl⟩, fun y hy h => .inl (cell_inj hr hy hx h)⟩
theorem get_cell {vs : List VCE} (hr : Rise cmpC (vs.map prE)) {x : VCE} (hx : x ∈ vs) : getL cmpC (cellE x) (vs.map prE) = some x := by
  have hh : hadL cmpC (cellE x) (vs.map prE) = true := (hadL_iff ordrC).2 ⟨prE x, List.mem_map.2 ⟨x, hx, rfl⟩, rfl⟩
  obtain ⟨hlt, hg⟩ := get_at ordrC hr hh
  rw [hg]
  obtain ⟨h1, h2⟩ := (had_at ordrC hr).1 hh
  have hl : rankL cmpC (cellE x) (vs.map prE) < vs.length := by simpa using hlt
  simp only [List.getElem_map, prE] at h2 ⊢
  exact congrArg some (cell_inj hr (List.getElem_mem hl) hx h2)
theorem rises_put {x f : Int} {v : VCE} {vs : List VCE} (hr : Rise cmpC (vs.map prE)) (hf : ∀ y ∈ vs, y.ep ≤ f) (hc : codeP f (vs.map prE) x v = 0) : risesB vs (putV x v vs) ∧ f ≤ x ∧ ∀ y ∈ putV x v vs, y.ep ≤ x := by
  have hcf : codeF f x = 0 := by
    apply Classical.byContradiction
    intro h
    rw [codeP, if_neg h] at hc
    exact h hc
  have hfx : f ≤ x := by
    unfold codeF at hcf
    by_cases h1 : 0 ≤ x ∧ x ≤ mxE
    · rw [if_pos h1] at hcf
      by_cases h2 : x < f
      · rw [if_pos h2] at hcf; cases hcf
      · omega
    · rw [if_neg h1] at hcf; cases hcf
  rw [codeP, if_pos hcf] at hc
  refine ⟨fun y hy => ?_, hfx, fun y hy => ?_⟩
  · by_cases he : cellE y = cellE v
    · have hg := get_cell hr hy
      rw [he] at hg
      simp only [codeG, hg] at hc
      have hrev : y.rev < v.rev := by
        by_cases h : v.rev ≤ y.rev
        · rw [if_pos h] at hc; cases hc
        · omega
      refine ⟨⟨atE x v, (mem_putV_iff hr).2 (.inl rfl), he.symm⟩, fun z hz hzc => ?_⟩
      rcases (mem_putV_iff hr).1 hz with rfl | ⟨h1, h2⟩
      · exact .inr ⟨Int.le_trans (hf y hy) hfx, hrev⟩
      · exact absurd (hzc.trans he) h2
    · refine ⟨⟨y, (mem_putV_iff hr).2 (.inr ⟨hy, he⟩), rfl⟩, fun z hz hzc => ?_⟩
      rcases (mem_putV_iff hr).1 hz with rfl | ⟨h1, h2⟩
      · exact absurd hzc.symm he
      · exact .inl (cell_inj hr h1 hy hzc)
  · rcases (mem_putV_iff hr).1 hy with rfl | ⟨h1, _⟩
    · exact Int.le_refl _
    · exact Int.le_trans (hf y h1) hfx
end Go.Proofs.Ytadeechoknpjhaa

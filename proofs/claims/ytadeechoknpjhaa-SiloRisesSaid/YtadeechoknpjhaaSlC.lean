/- silo: the order of cells. -/
import Derived.Test.YtadeechoknpjhaaProg
import Derived.Test.YtadeechoknpjhaaBase
import Derived.Test.YtadeechoknpjhaaRkCEC
import Derived.Test.YtadeechoknpjhaaRkCmp
set_option linter.unusedSimpArgs false
set_option linter.unusedVariables false
namespace Go.Proofs.Ytadeechoknpjhaa
open Go.RowKit Go.Shelf

/-- One order, then another. -/
def lexO {α β : Type} (c : α → α → Int) (d : β → β → Int) (x y : α × β) : Int := if c x.1 y.1 = 0 then d x.2 y.2 else c x.1 y.1
abbrev cmpC : KCE → KCE → Int := lexO cmpS (lexO cmpS (lexO cmpI cmpI))
theorem ordrL {α β : Type} {c : α → α → Int} {d : β → β → Int} (hc : Ordr c) (hd : Ordr d) : Ordr (lexO c d) := by
  refine ⟨fun a b => ?_, fun a b => ?_, fun a b e => ?_⟩
  · simp only [lexO]
    split
    · rename_i h
      rw [hd.eq]
      have := (hc.eq _ _).1 h
      exact ⟨fun h2 => Prod.ext this h2, fun h2 => by rw [h2]⟩
    · rename_i h
      exact ⟨fun h2 => absurd h2 h, fun h2 => absurd ((hc.eq _ _).2 (by rw [h2])) h⟩
  · simp only [lexO]
    have h0 : c a.1 b.1 = 0 ↔ c b.1 a.1 = 0 := by rw [hc.eq, hc.eq]; exact eq_comm
    by_cases h : c a.1 b.1 = 0
    · rw [if_pos h, if_pos (h0.1 h)]; exact hd.flip _ _
    · rw [if_neg h, if_neg (fun h2 => h (h0.2 h2))]; exact hc.flip _ _
  · simp only [lexO]
    intro h1 h2
    by_cases h : c a.1 b.1 = 0
    · rw [if_pos h] at h1
      have e1 := (hc.eq _ _).1 h
      rw [e1]
      by_cases h' : c b.1 e.1 = 0
      · rw [if_pos h'] at h2 ⊢; exact hd.trans _ _ _ h1 h2
      · rw [if_neg h'] at h2 ⊢; exact h2
    · rw [if_neg h] at h1
      by_cases h' : c b.1 e.1 = 0
      · have e2 := (hc.eq _ _).1 h'
        rw [← e2, if_neg h]; exact h1
      · rw [if_neg h'] at h2
        have h3 := hc.trans _ _ _ h1 h2
        rw [if_neg (by omega)]; exact h3
theorem ordrC : Ordr cmpC := ordrL ordrS (ordrL ordrS (ordrL ordrI ordrI))
end Go.Proofs.Ytadeechoknpjhaa

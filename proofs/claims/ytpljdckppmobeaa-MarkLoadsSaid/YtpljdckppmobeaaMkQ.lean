/- Which states of a mark are right: the program's test, and the document's. -/
import Derived.Test.YtpljdckppmobeaaProg
import Derived.Test.YtpljdckppmobeaaBase
import Derived.Test.YtpljdckppmobeaaMkV
import Derived.Test.YtpljdckppmobeaaMkF
import Derived.Test.YtpljdckppmobeaaMkT
namespace Go.Proofs.Ytpljdckppmobeaa
open Go.RowKit Go.Shelf
attribute [local go_sem] Oper.semAt_some

/-- A source of a state is right, at its place. -/
def rowOk (now : Int) (ls : List (KSM × VSM)) (i : Nat) (h : i < ls.length) : Prop := wordP ls[i].1 ∧ (∀ h' : 0 < i, cmpS (ls[i - 1]'(by omega)).1 ls[i].1 < 0) ∧ (0 ≤ ls[i].2.1 ∧ ls[i].2.1 ≤ mxT) ∧ (0 ≤ ls[i].2.2 ∧ ls[i].2.2 ≤ now)
def rightP (now low : Int) (ls : List (KSM × VSM)) : Prop := (∀ i (h : i < ls.length), rowOk now ls i h) ∧ (0 ≤ now ∧ now ≤ mxT) ∧ (0 ≤ low ∧ low ≤ 2 * mxT) ∧ ls.length ≤ 8
def rowsTo (now : Int) (ls : List (KSM × VSM)) (n : Nat) : Prop := ∀ i (h : i < ls.length), i < n → rowOk now ls i h
section
variable {now low : Int} {ls : List (KSM × VSM)} {A : Option Addr} {cap : Nat} {W : World}
theorem rows_no {k : Nat} (h : k < ls.length) (hn : ¬ rowOk now ls k h) : (false = true ↔ rightP now low ls) := ⟨fun h => (by cases h), fun hp => (hn (hp.1 k h)).elim⟩
theorem rows_succ {k : Nat} (hu : rowsTo now ls k) (h : k < ls.length) (hn : rowOk now ls k h) : rowsTo now ls (k + 1) := fun i hi hlt => by
  by_cases e : i = k
  · subst e; exact hn
  · exact hu i hi (by omega)
theorem rows_end (hu : rowsTo now ls ls.length) {b : Bool} (hb : b = true ↔ (0 ≤ now ∧ now ≤ mxT) ∧ (0 ≤ low ∧ low ≤ 2 * mxT) ∧ ls.length ≤ 8) : b = true ↔ rightP now low ls :=
  ⟨fun h => ⟨fun i hi => hu i hi hi, hb.1 h⟩, fun h => hb.2 h.2⟩
theorem boolP {b : Bool} {p : Prop} {e : Ending} (he : SaysB p e) (hb : b = true ↔ p) : e = .returned (.bool b) := by
  obtain ⟨b', rfl, h⟩ := he
  rw [show b' = b from Bool.eq_iff_iff.2 (h.trans hb.symm)]
end
end Go.Proofs.Ytpljdckppmobeaa

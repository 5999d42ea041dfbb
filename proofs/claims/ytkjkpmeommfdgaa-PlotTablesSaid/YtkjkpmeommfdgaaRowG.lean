/- OPENING A ROW's ARGUMENTS: slices of whatever elements. -/
import Derived.Test.YtkjkpmeommfdgaaBase
import Derived.Test.YtkjkpmeommfdgaaRow
import Derived.Deep.Slices
set_option linter.unusedSimpArgs false
set_option linter.unusedVariables false
namespace Go.Proofs.Ytkjkpmeommfdgaa
open Go.ChangeShapes Go.WideShapes Go.ChangeAt Go.RowKit

section
variable {H : Type} {enc : TypeId × Value → H} {P : Program}

theorem choose_list {α : Type} {p : Nat → α → Prop} : ∀ {n : Nat}, (∀ i, i < n → ∃ a, p i a) → ∃ L : List α, L.length = n ∧ ∀ i (h : i < L.length), p i L[i]
  | 0, _ => ⟨[], rfl, fun _ h => by simp at h⟩
  | n + 1, h => by
    obtain ⟨L, hl, hL⟩ := choose_list (n := n) fun i hi => h i (by omega)
    obtain ⟨a, ha⟩ := h n (by omega)
    refine ⟨L ++ [a], by simp [hl], fun i hi => ?_⟩
    simp only [List.length_append, List.length_cons, List.length_nil] at hi
    by_cases hlt : i < L.length
    · rw [List.getElem_append_left hlt]; exact hL i hlt
    · have : i = n := by omega
      subst this
      rw [List.getElem_append_right (by omega)]
      simpa [hl] using ha

theorem flatMap_get {α : Type} {f : α → List Value} {n : Nat} (hn : ∀ a, (f a).length = n) : ∀ (L : List α) (j : Nat) (v : Value), (L.flatMap f)[j]? = some v → ∃ (i : Nat) (h : i < L.length) (q : Nat), q < n ∧ j = i * n + q ∧ (f L[i])[q]? = some v
  | [], j, v, h => by simp at h
  | x :: L, j, v, h => by
    rw [List.flatMap_cons] at h
    by_cases hj : j < n
    · rw [List.getElem?_append_left (by rw [hn]; exact hj)] at h
      exact ⟨0, by simp, j, hj, by simp, by simpa using h⟩
    · rw [List.getElem?_append_right (by rw [hn]; omega), hn] at h
      obtain ⟨i, hi, q, hq, e, hv⟩ := flatMap_get hn L _ v h
      refine ⟨i + 1, by simpa using hi, q, hq, ?_, by simpa using hv⟩
      rw [Nat.add_mul]; omega
theorem flatMap_at {α : Type} {f : α → List Value} {n : Nat} (hn : ∀ a, (f a).length = n) : ∀ (L : List α) (i : Nat) (h : i < L.length) (q : Nat), q < n → (L.flatMap f)[i * n + q]? = (f L[i])[q]?
  | x :: L, 0, _, q, hq => by
    rw [List.flatMap_cons, Nat.zero_mul, Nat.zero_add, List.getElem?_append_left (by rw [hn]; exact hq)]; rfl
  | x :: L, i + 1, h, q, hq => by
    rw [List.flatMap_cons, List.getElem?_append_right (by rw [hn, Nat.add_mul]; omega), hn, show (i + 1) * n + q - n = i * n + q by rw [Nat.add_mul]; omega]
    exact flatMap_at hn L i (by simpa using h) q hq
theorem flatMap_len {α : Type} {f : α → List Value} {n : Nat} (hn : ∀ a, (f a).length = n) (L : List α) : (L.flatMap f).length = L.length * n := by
  induction L with
  | nil => simp
  | cons x L ih => rw [List.flatMap_cons, List.length_append, hn, ih, List.length_cons, Nat.add_mul]; omega

/-- A slice of whatever elements. -/
theorem open_cells {α : Type} {W : World} {t e : TypeId} {n fuel : Nat} {cs : List Value} {x : DataW H × List MemPlace} (f : α → List Value) (ok : α → Prop) (hf : ∀ a, (f a).length = n) (ht : P.underlying t = some (.slice e)) (hn : P.cellsOf e = n)
    (hel : ∀ (fuel : Nat) (cs : List Value) (x : DataW H × List MemPlace), DataW.trod enc P W 0 (fun _ => true) true fuel e cs = some x → ∃ a, cs = f a ∧ ok a)
    (h : DataW.trod enc P W 0 (fun _ => true) true fuel t cs = some x) :
    ∃ (A : Option Addr) (cap : Nat) (L : List α), cs = [.slice A L.length cap] ∧ Reads1 W A (L.flatMap f) ∧ L.length ≤ cap ∧ cap ≤ maxLen ∧ ∀ a ∈ L, ok a := by
  rcases Go.Deep.open_slice ht h with ⟨rfl, _⟩ | ⟨a, len, cap, m, k, D, Pl, rfl, _, h1, h2, h3, _, h5⟩
  · exact ⟨none, 0, [], rfl, fun i v hv => by simp at hv, Nat.le_refl _, by decide, by simp⟩
  · rw [if_pos rfl] at h3
    rw [hn] at h5
    obtain ⟨L, hl, hL⟩ := choose_list (p := fun i b => W.cells? 0 (a.add (i * n)) n = some (f b) ∧ ok b) (n := len) (fun i hi => by
      obtain ⟨cs', g1, g2⟩ := h5 i (by omega)
      obtain ⟨b, rfl, hb⟩ := hel _ _ _ g2
      exact ⟨b, g1, hb⟩)
    refine ⟨some a, cap, L, by rw [hl], fun j v hj => ⟨a, rfl, ?_⟩, by omega, h2, fun b hb => ?_⟩
    · obtain ⟨i, hi, q, hq, rfl, hv⟩ := flatMap_get hf L j v hj
      obtain ⟨_, g2, g3⟩ := World.cells?_some (hL i hi).1
      have := g3 q hq
      rw [Go.Deep.add_add] at this
      rw [this, ← hv]
    · obtain ⟨i, hi, rfl⟩ := List.mem_iff_getElem.1 hb
      exact (hL i hi).2
theorem open_els {α : Type} {W : World} {t e : TypeId} {n b0 : Nat} {v : Value} {d : DataW H} {ps : List MemPlace} (f : α → List Value) (ok : α → Prop) (hf : ∀ a, (f a).length = n) (ht : P.underlying t = some (.slice e)) (hn : P.cellsOf e = n)
    (hel : ∀ (fuel : Nat) (cs : List Value) (x : DataW H × List MemPlace), DataW.trod enc P W 0 (fun _ => true) true fuel e cs = some x → ∃ a, cs = f a ∧ ok a)
    (hval : Value.okWide P W .any b0 t v) (hd : DataW.Trod enc P W 0 (fun _ => true) true t v d ps) :
    ∃ (A : Option Addr) (cap : Nat) (L : List α), v = .slice A L.length cap ∧ Reads1 W A (L.flatMap f) ∧ L.length ≤ cap ∧ cap ≤ maxLen ∧ ∀ a ∈ L, ok a := by
  obtain ⟨a0, len0, cap0, rfl⟩ := okWide_slice ht hval
  obtain ⟨fuel, hf'⟩ := hd
  obtain ⟨A, cap, L, h1, h2⟩ := open_cells f ok hf ht hn hel hf'
  refine ⟨A, cap, L, ?_, h2⟩
  simpa [Value.cells] using h1

/-- Strings. -/
theorem flat1 {α : Type} (g : α → Value) (L : List α) : L.flatMap (fun a => [g a]) = L.map g := by
  induction L with
  | nil => rfl
  | cons x L ih => simp [ih]
theorem open_texts {W : World} {t e : TypeId} {b0 : Nat} {v : Value} {d : DataW H} {ps : List MemPlace} (ht : P.underlying t = some (.slice e)) (he : P.underlying e = some .string) (hc : P.cellsOf e = 1) (hval : Value.okWide P W .any b0 t v)
    (hd : DataW.Trod enc P W 0 (fun _ => true) true t v d ps) : ∃ (A : Option Addr) (cap : Nat) (L : List ByteArray), v = .slice A L.length cap ∧ Reads1 W A (L.map Value.string) ∧ L.length ≤ cap ∧ cap ≤ maxLen ∧ ∀ s ∈ L, s.size ≤ maxLen := by
  have h := open_els (n := 1) (fun s => [.string s]) (fun s : ByteArray => s.size ≤ maxLen) (fun _ => rfl) ht hc (fun fuel cs x h => by
    obtain ⟨s, rfl, _, hs⟩ := DataW.trod_string he h
    exact ⟨s, rfl, hs⟩) hval hd
  simpa only [flat1] using h
theorem open_flag {W : World} {t : TypeId} {b0 : Nat} {v : Value} {d : DataW H} {ps : List MemPlace} (ht : P.underlying t = some .bool) (hval : Value.okWide P W .any b0 t v) (hd : DataW.Trod enc P W 0 (fun _ => true) true t v d ps) :
    ∃ b, v = .bool b ∧ d = .lit (.bool b) ∧ ps = [] := by
  obtain ⟨b, rfl⟩ := okWide_bool ht hval
  obtain ⟨fuel, hf⟩ := hd
  obtain ⟨b', h, hx⟩ := DataW.trod_bool ht hf
  simp [Value.cells] at h
  subst h
  simp only [Prod.mk.injEq] at hx
  exact ⟨b, rfl, hx.1, hx.2⟩
end
end Go.Proofs.Ytkjkpmeommfdgaa

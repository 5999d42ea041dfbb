/- A table's text, in plain words. -/
import Derived.Test.YtkjkpmeommfdgaaPtB
set_option linter.unusedSimpArgs false
set_option linter.unusedVariables false
namespace Go.Proofs.Ytkjkpmeommfdgaa
open Go.RowKit Go.Shelf

def szAt (l : List ByteArray) (k : Nat) : Nat := (l[k]?.map ByteArray.size).getD 0
def colW (ls : List (List ByteArray)) (k : Nat) : Nat := (ls.map (szAt · k)).foldl max 0
theorem szAt_get {l : List ByteArray} {k : Nat} (h : k < l.length) : szAt l k = l[k].size := by simp [szAt, h]
theorem szAt_none {l : List ByteArray} {k : Nat} (h : l.length ≤ k) : szAt l k = 0 := by simp [szAt, h]
theorem szAt_take {l : List ByteArray} {k i : Nat} : szAt (l.take i) k = if k < i then szAt l k else 0 := by
  unfold szAt
  rw [List.getElem?_take]
  split <;> simp
theorem colW_snoc (ls : List (List ByteArray)) (l : List ByteArray) (k : Nat) : colW (ls ++ [l]) k = max (colW ls k) (szAt l k) := by
  simp [colW]
theorem le_foldl_max : ∀ (ks : List Nat) (a n : Nat), n < ks.foldl max a ↔ n < a ∨ ∃ x ∈ ks, n < x
  | [], a, n => by simp
  | x :: ks, a, n => by
    simp only [List.foldl_cons]
    rw [le_foldl_max ks _ n]
    simp only [List.mem_cons, exists_eq_or_imp]
    constructor
    · rintro (h | h)
      · rcases Nat.lt_or_ge n a with h2 | h2
        · exact .inl h2
        · exact .inr (.inl (by omega))
      · exact .inr (.inr h)
    · rintro (h | h | h)
      · exact .inl (by omega)
      · exact .inl (by omega)
      · exact .inr h
theorem colW_gt {ls : List (List ByteArray)} {k n : Nat} : n < colW ls k ↔ ∃ l ∈ ls, n < szAt l k := by
  unfold colW
  rw [le_foldl_max]
  simp only [Nat.not_lt_zero, false_or, List.mem_map]
  constructor
  · rintro ⟨x, ⟨l, hl, rfl⟩, h⟩; exact ⟨l, hl, h⟩
  · rintro ⟨l, hl, h⟩; exact ⟨_, ⟨l, hl, rfl⟩, h⟩
theorem colW_ge {ls : List (List ByteArray)} {l : List ByteArray} (h : l ∈ ls) (k : Nat) : szAt l k ≤ colW ls k := by
  rcases Nat.lt_or_ge (colW ls k) (szAt l k) with h2 | h2
  · exact absurd (colW_gt.2 ⟨l, h, h2⟩) (Nat.lt_irrefl _)
  · exact h2
theorem colW_le {ls : List (List ByteArray)} {k b : Nat} (h : ∀ l ∈ ls, ∀ s ∈ l, s.size ≤ b) : colW ls k ≤ b := by
  rcases Nat.lt_or_ge b (colW ls k) with h2 | h2
  · obtain ⟨l, hl, h3⟩ := colW_gt.1 h2
    by_cases hk : k < l.length
    · rw [szAt_get hk] at h3
      have := h l hl _ (List.getElem_mem hk)
      omega
    · rw [szAt_none (by omega)] at h3; omega
  · exact h2
/-- The widths so far. -/
structure WideI (ls : List (List ByteArray)) (ws : List Nat) : Prop where
  len : ∀ l ∈ ls, l.length ≤ ws.length
  at_ : ∀ k, ws[k]?.getD 0 = colW ls k
theorem WideI.nil : WideI [] [] := ⟨fun l h => by simp at h, fun k => by simp [colW]⟩
theorem WideI.open {ls : List (List ByteArray)} {ws : List Nat} (h : WideI ls ws) : WideI (ls ++ [[]]) ws :=
  ⟨fun l hl => by
    rcases List.mem_append.1 hl with hl | hl
    · exact h.len l hl
    · rw [List.mem_singleton.1 hl]; exact Nat.zero_le _, fun k => by rw [colW_snoc, szAt_none (by simp), h.at_]; omega⟩
theorem WideI.col0 {ls : List (List ByteArray)} {ws : List Nat} (h : WideI ls ws) {k : Nat} (hk : ws.length ≤ k) : colW ls k = 0 := by
  rw [← h.at_]; simp [hk]
theorem WideI.push {ls : List (List ByteArray)} {ws : List Nat} (h : WideI ls ws) : WideI ls (ws ++ [0]) :=
  ⟨fun l hl => by have := h.len l hl; simp; omega, fun k => by
    rcases Nat.lt_trichotomy k ws.length with h1 | h1 | h1
    · rw [List.getElem?_append_left h1]; exact h.at_ k
    · subst h1; rw [h.col0 (Nat.le_refl _)]; simp
    · rw [h.col0 (by omega), List.getElem?_eq_none (by simp; omega)]; rfl⟩
theorem WideI.put {ls : List (List ByteArray)} {r : List ByteArray} {ws : List Nat} {i : Nat} (h : WideI (ls ++ [r.take i]) ws) (hi : i < r.length) (hw : i < ws.length) : WideI (ls ++ [r.take (i + 1)]) (ws.set i (max ws[i] r[i].size)) := by
  refine ⟨fun l hl => ?_, fun k => ?_⟩
  · rw [List.length_set]
    rcases List.mem_append.1 hl with hl | hl
    · exact h.len l (by simp [hl])
    · rw [List.mem_singleton.1 hl, List.length_take]; omega
  · have hk := h.at_ k
    rw [colW_snoc, szAt_take] at hk ⊢
    by_cases e : k = i
    · subst e
      rw [List.getElem?_set_self (by omega)]
      rw [if_neg (Nat.lt_irrefl _), List.getElem?_eq_getElem hw] at hk
      rw [if_pos (by omega), szAt_get hi]
      simp only [Option.getD_some] at hk ⊢
      omega
    · rw [List.getElem?_set_ne (Ne.symm e), hk]
      by_cases h1 : k < i
      · rw [if_pos h1, if_pos (by omega)]
      · rw [if_neg h1, if_neg (by omega)]
/-- A cell's text: what stands behind it. -/
def tailB (ls : List (List ByteArray)) (r : List ByteArray) (i : Nat) : List UInt8 := if i + 1 < r.length then blankL (colW ls i - szAt r i) ++ [32, 32] else []
def cellB (ls : List (List ByteArray)) (r : List ByteArray) (i : Nat) : List UInt8 := (r[i]?.map (·.data.toList)).getD [] ++ tailB ls r i
def rowTo (ls : List (List ByteArray)) (r : List ByteArray) (i : Nat) : List UInt8 := (List.range i).flatMap (cellB ls r)
def tabTo (ls : List (List ByteArray)) (k : Nat) : List UInt8 := (ls.take k).flatMap fun r => rowTo ls r r.length ++ [10]
theorem rowTo_succ (ls : List (List ByteArray)) (r : List ByteArray) {i : Nat} (h : i < r.length) : rowTo ls r (i + 1) = rowTo ls r i ++ (r[i].data.toList ++ tailB ls r i) := by
  simp [rowTo, List.range_succ, cellB, h]
theorem tabTo_succ (ls : List (List ByteArray)) {k : Nat} (h : k < ls.length) : tabTo ls (k + 1) = tabTo ls k ++ (rowTo ls ls[k] ls[k].length ++ [10]) := by
  simp only [tabTo]
  rw [List.take_succ_eq_append_getElem h, List.flatMap_append, List.flatMap_cons, List.flatMap_nil, List.append_nil]
theorem tailB_len {ls : List (List ByteArray)} (hs : ∀ l ∈ ls, ∀ s ∈ l, s.size ≤ 60) (r : List ByteArray) (i : Nat) : (tailB ls r i).length ≤ 62 := by
  have := colW_le (k := i) hs
  unfold tailB
  split
  · simp [blankL]; omega
  · simp
theorem size_data (s : ByteArray) : s.data.toList.length = s.size := by rw [Array.length_toList]; rfl
theorem cellB_len {ls : List (List ByteArray)} (hs : ∀ l ∈ ls, ∀ s ∈ l, s.size ≤ 60) {r : List ByteArray} (hr : r ∈ ls) (i : Nat) : (cellB ls r i).length ≤ 130 := by
  have h1 := tailB_len hs r i
  unfold cellB
  rw [List.length_append]
  have h2 : ((r[i]?.map (·.data.toList)).getD []).length ≤ 60 := by
    by_cases hi : i < r.length
    · rw [List.getElem?_eq_getElem hi]
      simp only [Option.map_some, Option.getD_some]
      rw [size_data]
      exact hs r hr _ (List.getElem_mem hi)
    · rw [List.getElem?_eq_none (by omega)]; simp
  omega
theorem rowTo_len {ls : List (List ByteArray)} (hs : ∀ l ∈ ls, ∀ s ∈ l, s.size ≤ 60) {r : List ByteArray} (hr : r ∈ ls) : ∀ i, (rowTo ls r i).length ≤ i * 130
  | 0 => by simp [rowTo]
  | i + 1 => by
    have h1 := rowTo_len hs hr i
    have h2 := cellB_len hs hr i
    simp only [rowTo, List.range_succ, List.flatMap_append, List.length_append] at h1 ⊢
    simp only [List.flatMap_cons, List.flatMap_nil, List.append_nil]
    omega
theorem tabTo_len {ls : List (List ByteArray)} (hs : ∀ l ∈ ls, ∀ s ∈ l, s.size ≤ 60) (hl : ∀ l ∈ ls, l.length ≤ 12) : ∀ k, k ≤ ls.length → (tabTo ls k).length ≤ k * 2000
  | 0, _ => by simp [tabTo]
  | k + 1, h => by
    have h1 := tabTo_len hs hl k (by omega)
    have hm := List.getElem_mem (show k < ls.length by omega)
    have h2 := rowTo_len hs hm ls[k].length
    have h3 := hl _ hm
    rw [tabTo_succ ls (by omega), List.length_append, List.length_append, List.length_singleton]
    have : ls[k].length * 130 ≤ 12 * 130 := Nat.mul_le_mul_right _ h3
    omega
end Go.Proofs.Ytkjkpmeommfdgaa

/- slices.Compact of numbers in order: each once. -/
import Derived.Test.YtjlobcbjhnfjcaaProg
import Derived.Test.YtjlobcbjhnfjcaaBase
import Derived.Test.YtjlobcbjhnfjcaaSkRef
import Derived.Shelf.Slices.CompactI
import Derived.Lib.OwnBridge
namespace Go.Proofs.Ytjlobcbjhnfjcaa
open Go.RowKit Go.Shelf

theorem strict_ext : ∀ {l m : List Int}, l.Pairwise (· < ·) → m.Pairwise (· < ·) → (∀ x, x ∈ l ↔ x ∈ m) → l = m
  | [], [], _, _, _ => rfl
  | [], b :: m, _, _, h => by have := (h b).2 (by simp); simp at this
  | a :: l, [], _, _, h => by have := (h a).1 (by simp); simp at this
  | a :: l, b :: m, hl, hm, h => by
    rw [List.pairwise_cons] at hl hm
    have h1 := (h a).1 (by simp)
    have h2 := (h b).2 (by simp)
    simp only [List.mem_cons] at h1 h2
    have hab : a = b := by
      rcases h1 with h1 | h1
      · exact h1
      · rcases h2 with h2 | h2
        · exact h2.symm
        · have := hm.1 _ h1; have := hl.1 _ h2; omega
    subst hab
    rw [strict_ext hl.2 hm.2 fun x => ?_]
    have := h x
    simp only [List.mem_cons] at this
    constructor
    · intro hx
      rcases this.1 (.inr hx) with rfl | h'
      · exact absurd (hl.1 _ hx) (by omega)
      · exact h'
    · intro hx
      rcases this.2 (.inr hx) with rfl | h'
      · exact absurd (hm.1 _ hx) (by omega)
      · exact h'
theorem compact_upto {d : Array Int} (hs : ∀ i j, i ≤ j → j < d.size → d[i]! ≤ d[j]!) : ∀ m, m ≤ d.size → (Lib.compactUpTo d m).Pairwise (· < ·) ∧ ∀ x, x ∈ Lib.compactUpTo d m ↔ ∃ j, j < m ∧ d[j]! = x
  | 0, _ => by simp [Lib.compactUpTo]
  | m + 1, hm => by
    obtain ⟨h1, h2⟩ := compact_upto hs m (by omega)
    rw [Lib.compactUpTo_succ]
    by_cases hk : Lib.keeps d m = true
    · rw [if_pos hk]
      refine ⟨List.pairwise_append.2 ⟨h1, by simp, fun x hx y hy => ?_⟩, fun x => ?_⟩
      · obtain rfl : y = d[m]! := by simpa using hy
        obtain ⟨j, hj, rfl⟩ := (h2 x).1 hx
        have e1 := hs j (m - 1) (by omega) (by omega)
        have e2 := hs (m - 1) m (by omega) (by omega)
        have e3 : d[m]! ≠ d[m - 1]! := by
          simp only [Lib.keeps, decide_eq_true_eq] at hk
          rcases hk with rfl | hk
          · omega
          · exact hk
        omega
      · rw [List.mem_append, h2]
        constructor
        · rintro (⟨j, hj, e⟩ | h)
          · exact ⟨j, by omega, e⟩
          · exact ⟨m, by omega, (by simpa using h : x = d[m]!).symm⟩
        · rintro ⟨j, hj, e⟩
          rcases Nat.lt_or_ge j m with h | h
          · exact .inl ⟨j, h, e⟩
          · obtain rfl : j = m := by omega
            exact .inr (by simp [e])
    · rw [if_neg hk, List.append_nil]
      refine ⟨h1, fun x => (h2 x).trans ?_⟩
      have e3 : m ≠ 0 ∧ d[m]! = d[m - 1]! := by
        simp only [Lib.keeps, decide_eq_true_eq, not_or, ne_eq, Classical.not_not] at hk
        exact hk
      constructor
      · rintro ⟨j, hj, e⟩
        exact ⟨j, by omega, e⟩
      · rintro ⟨j, hj, e⟩
        rcases Nat.lt_or_ge j m with h | h
        · exact ⟨j, h, e⟩
        · obtain rfl : j = m := by omega
          exact ⟨j - 1, by omega, by rw [← e, e3.2]⟩
/-- Each once, in order. -/
theorem compact_bag {lr : List (Int × Int)} {ls : List Int} (hb : Bag cmpI lr ls) (hs : Srt cmpI ls) : Lib.compact ls = lr.map (·.1) := by
  have hsz : ls.toArray.size = ls.length := by simp
  have hsort : ∀ i j, i ≤ j → j < ls.toArray.size → ls.toArray[i]! ≤ ls.toArray[j]! := by
    intro i j hij hj
    rw [hsz] at hj
    rw [getElem!_pos ls.toArray i (by rw [hsz]; omega), getElem!_pos ls.toArray j (by rw [hsz]; omega)]
    simp only [List.getElem_toArray]
    rcases Nat.lt_or_ge i j with h | h
    · have := List.pairwise_iff_getElem.1 hs i j (by omega) hj h
      rw [cmpI_lt] at this; omega
    · obtain rfl : i = j := by omega
      exact Int.le_refl _
  obtain ⟨h1, h2⟩ := compact_upto hsort ls.length (by rw [hsz]; omega)
  refine strict_ext h1 (List.pairwise_map.2 (hb.1.imp fun h => (cmpI_lt _ _).1 h)) fun x => ?_
  rw [show Lib.compact ls = Lib.compactUpTo ls.toArray ls.length from rfl, h2, List.mem_map]
  constructor
  · rintro ⟨j, hj, e⟩
    rw [getElem!_pos ls.toArray j (by rw [hsz]; omega)] at e
    have hx : x ∈ ls := by rw [← e]; simp
    have := (cnt_pos ordrI (c := cmpI)).2 hx
    exact ⟨(x, cnt cmpI x ls), (hb.2 _).2 ⟨this, rfl⟩, rfl⟩
  · rintro ⟨y, hy, rfl⟩
    have hx := (cnt_pos ordrI (c := cmpI)).1 ((hb.2 y).1 hy).1
    obtain ⟨j, hj, e⟩ := List.getElem_of_mem hx
    refine ⟨j, hj, ?_⟩
    rw [getElem!_pos ls.toArray j (by rw [hsz]; omega)]
    simpa using e

def renCo : Ren := ⟨fun _ => 11, fun t => if t = 0 then 0 else if t = 3 then 3 else if t = 4 then 4 else 22, fun g => g⟩
theorem laysCo : Lays2.n20 Try.prog renCo where
  mixed := by kernel_rfl
  f20 := by kernel_rfl
  t0 := by kernel_rfl
  a0 := fun _ => rfl
  z0 := fun _ => rfl
  v0 := fun _ => rfl
  t3 := Try.underlying3
  a3 := fun _ => rfl
  z3 := fun _ => rfl
  v3 := fun _ => rfl
  t4 := Try.underlying4
  a4 := fun _ => rfl
  z4 := fun _ => rfl
  v4 := fun _ => rfl
  t22 := Try.underlying22
  a22 := fun _ => rfl
  z22 := fun _ => rfl
  v22 := fun _ => rfl
  i3 := by kernel_rfl
theorem compact_c {n : Nat} {W : World} {base g k cap : Nat} {zs : List Int} (h : W.ownsRow base 3 1 (.slice (some ⟨g, 0, none⟩) k cap) k (intsV zs)) :
    CallsIn Fence.wide n Try.prog 11 #[.slice (some ⟨g, 0, none⟩) k cap] W fun e W2 => e = .returned (.slice (some ⟨g, 0, none⟩) (Lib.compact zs).length cap) ∧ Reads1 W2 (some ⟨g, 0, none⟩) (intsV (Lib.compact zs)) ∧ Upd (fun j => j = g) W W2 := by
  obtain ⟨g', cap', e0, hb, hlt, hn, hm, hl, hH⟩ := Lib.holds_of_ownsRow (enc := fun x : Int => Value.int .i64 x) h (by intro h; cases h)
  cases e0
  subst hl
  have hmx : maxLen ≤ 9223372036854775807 := by decide
  refine callsIn_wide.2 ((Any.slices_Compact_int laysCo g 0 cap zs W hH (by omega) hn).mono ?_)
  rintro e W2 ⟨rfl, q, rfl⟩
  have hle := Lib.compact_length_le zs
  have ho := Lib.ownsRow_putRow (q := q) (k := (Lib.compact zs).length) (ys := Lib.compact zs ++ List.replicate (zs.length - (Lib.compact zs).length) 0) h (by simp; omega) (by omega)
  rw [List.take_left] at ho
  refine ⟨rfl, ?_, ?_⟩
  · obtain ⟨A, c, e0, hr, _⟩ := Reads1.of_own ho (by simp)
    cases e0
    exact hr
  · refine ⟨rfl, rfl, rfl, by simp [Sort.putRow, Sort.mapBlock, Sort.ahead], fun j hj hne => ?_⟩
    simp [Sort.putRow, Sort.mapBlock, Sort.ahead, Array.getElem?_modify, Ne.symm hne]
end Go.Proofs.Ytjlobcbjhnfjcaa

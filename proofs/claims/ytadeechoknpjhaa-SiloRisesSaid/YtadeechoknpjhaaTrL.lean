/- Lists in the order of their keys: what putting and dropping makes of them. -/
import Derived.Test.YtadeechoknpjhaaBase
import Derived.Test.YtadeechoknpjhaaTr
set_option linter.unusedSimpArgs false
set_option linter.unusedVariables false
namespace Go.Proofs.Ytadeechoknpjhaa
open Go.RowKit Go.Shelf

section
variable {α β : Type} {c : α → α → Int}
theorem mem_putL {k : α} {v : β} {l : List (α × β)} {y : α × β} : y ∈ putL c k v l ↔ y = (k, v) ∨ (y ∈ l ∧ c k y.1 ≠ 0) := by
  simp only [putL, List.mem_append, List.mem_filter, List.mem_cons, decide_eq_true_eq]
  constructor
  · rintro (⟨h1, h2⟩ | h | ⟨h1, h2⟩)
    · exact .inr ⟨h1, by omega⟩
    · exact .inl h
    · exact .inr ⟨h1, by omega⟩
  · rintro (h | ⟨h1, h2⟩)
    · exact .inr (.inl h)
    · rcases Int.lt_trichotomy (c k y.1) 0 with h | h | h
      · exact .inr (.inr ⟨h1, h⟩)
      · exact absurd h h2
      · exact .inl ⟨h1, h⟩
theorem rise_ext (ho : Ordr c) : ∀ {l m : List (α × β)}, Rise c l → Rise c m → (∀ y, y ∈ l ↔ y ∈ m) → l = m
  | [], [], _, _, _ => rfl
  | [], y :: m, _, _, h => by have := (h y).2 (List.mem_cons_self ..); cases this
  | x :: l, [], _, _, h => by have := (h x).1 (List.mem_cons_self ..); cases this
  | x :: l, y :: m, hl, hm, h => by
    obtain ⟨l1, l2⟩ := List.pairwise_cons.1 hl
    obtain ⟨m1, m2⟩ := List.pairwise_cons.1 hm
    have irr : ∀ a, ¬ c a a < 0 := fun a => by have := (ho.eq a a).2 rfl; omega
    have e : x = y := by
      rcases List.mem_cons.1 ((h x).1 (List.mem_cons_self ..)) with e | hx
      · exact e
      · rcases List.mem_cons.1 ((h y).2 (List.mem_cons_self ..)) with e | hy
        · exact e.symm
        · exact absurd (ho.trans _ _ _ (m1 x hx) (l1 y hy)) (irr _)
    subst e
    have : l = m := rise_ext ho l2 m2 fun z => by
      constructor
      · intro hz
        rcases List.mem_cons.1 ((h z).1 (List.mem_cons_of_mem _ hz)) with e | h
        · subst e; exact absurd (l1 _ hz) (irr _)
        · exact h
      · intro hz
        rcases List.mem_cons.1 ((h z).2 (List.mem_cons_of_mem _ hz)) with e | h
        · subst e; exact absurd (m1 _ hz) (irr _)
        · exact h
    rw [this]

theorem hadL_iff (ho : Ordr c) {x : α} {l : List (α × β)} : hadL c x l = true ↔ ∃ y ∈ l, y.1 = x := by
  simp only [hadL, List.any_eq_true, decide_eq_true_eq]
  exact ⟨fun ⟨y, h1, h2⟩ => ⟨y, h1, ((ho.eq _ _).1 h2).symm⟩, fun ⟨y, h1, h2⟩ => ⟨y, h1, (ho.eq _ _).2 h2.symm⟩⟩
theorem hadL_put (ho : Ordr c) {x k : α} {v : β} {l : List (α × β)} : hadL c x (putL c k v l) = true ↔ x = k ∨ hadL c x l = true := by
  rw [hadL_iff ho, hadL_iff ho]
  constructor
  · rintro ⟨y, hy, rfl⟩
    rcases mem_putL.1 hy with rfl | ⟨h, _⟩
    · exact .inl rfl
    · exact .inr ⟨y, h, rfl⟩
  · rintro (rfl | ⟨y, hy, rfl⟩)
    · exact ⟨_, mem_putL.2 (.inl rfl), rfl⟩
    · by_cases h : c k y.1 = 0
      · exact ⟨_, mem_putL.2 (.inl rfl), (ho.eq _ _).1 h⟩
      · exact ⟨y, mem_putL.2 (.inr ⟨hy, h⟩), rfl⟩
theorem hadL_drop (ho : Ordr c) {x k : α} {l : List (α × β)} : hadL c x (dropL c k l) = true ↔ x ≠ k ∧ hadL c x l = true := by
  rw [hadL_iff ho, hadL_iff ho]
  simp only [dropL, List.mem_filter, Bool.not_eq_true', decide_eq_false_iff_not]
  constructor
  · rintro ⟨y, ⟨h1, h2⟩, rfl⟩
    exact ⟨fun e => h2 ((ho.eq _ _).2 e.symm), y, h1, rfl⟩
  · rintro ⟨h1, y, hy, rfl⟩
    exact ⟨y, ⟨hy, fun e => h1 ((ho.eq _ _).1 e).symm⟩, rfl⟩
theorem dropL_len (ho : Ordr c) {k : α} : ∀ {l : List (α × β)}, Rise c l → (dropL c k l).length + (if hadL c k l then 1 else 0) = l.length
  | [], _ => rfl
  | x :: l, h => by
    obtain ⟨h1, h2⟩ := List.pairwise_cons.1 h
    have ih := dropL_len ho (k := k) h2
    by_cases hx : c k x.1 = 0
    · have hn : hadL c k l = false := by
        simp only [hadL, List.any_eq_false, decide_eq_true_eq]
        intro y hy e
        have := h1 y hy
        rw [← (ho.eq _ _).1 hx] at this
        omega
      have e1 : hadL c k (x :: l) = true := by simp [hadL, hx]
      have e2 : dropL c k (x :: l) = dropL c k l := by simp [dropL, hx]
      rw [hn] at ih
      rw [e1, e2]
      simp only [Bool.false_eq_true, if_false, Nat.add_zero] at ih
      simp [ih]
    · have e1 : hadL c k (x :: l) = hadL c k l := by simp [hadL, hx]
      have e2 : dropL c k (x :: l) = x :: dropL c k l := by simp [dropL, hx]
      rw [e1, e2, List.length_cons, List.length_cons]
      omega
theorem rank_at (ho : Ordr c) {k : α} : ∀ {l : List (α × β)}, Rise c l → ∀ i (h : i < l.length), i < rankL c k l ↔ c l[i].1 k < 0
  | [], _, _, h => by simp at h
  | x :: l, hr, 0, _ => by
    obtain ⟨h1, h2⟩ := List.pairwise_cons.1 hr
    simp only [rankL, List.countP_cons, List.getElem_cons_zero]
    by_cases hx : c x.1 k < 0
    · simp [hx]
    · have : l.countP (fun y => decide (c y.1 k < 0)) = 0 := List.countP_eq_zero.2 fun y hy => by
        simp only [decide_eq_true_eq]
        exact fun e => hx (ho.trans _ _ _ (h1 y hy) e)
      simp [hx, this]
  | x :: l, hr, i + 1, h => by
    obtain ⟨h1, h2⟩ := List.pairwise_cons.1 hr
    have hi : i < l.length := by simpa using h
    have ih := rank_at ho (k := k) h2 i hi
    have e : rankL c k (x :: l) = rankL c k l + (if c x.1 k < 0 then 1 else 0) := by simp [rankL, List.countP_cons]
    rw [e, List.getElem_cons_succ, ← ih]
    by_cases hx : c x.1 k < 0
    · simp [hx]
    · have hn : ¬ i < rankL c k l := fun hh => hx (ho.trans _ _ _ (h1 _ (List.getElem_mem hi)) (ih.1 hh))
      rw [if_neg hx]
      constructor
      · intro hh; omega
      · intro hh; exact absurd hh hn
theorem had_at (ho : Ordr c) {k : α} {l : List (α × β)} (hr : Rise c l) : hadL c k l = true ↔ ∃ h : rankL c k l < l.length, l[rankL c k l].1 = k := by
  simp only [hadL, List.any_eq_true, decide_eq_true_eq]
  constructor
  · rintro ⟨y, hy, e⟩
    obtain ⟨i, hi, rfl⟩ := List.mem_iff_getElem.1 hy
    have hk := (ho.eq _ _).1 e
    have h1 : ¬ i < rankL c k l := by rw [rank_at ho hr i hi, ← hk]; have := (ho.eq k k).2 rfl; omega
    have h2 : ¬ rankL c k l < i := fun hlt => by
      have h3 : ¬ c l[rankL c k l].1 k < 0 := fun e => by have := (rank_at ho hr (rankL c k l) (by omega) (k := k)).2 e; omega
      have h4 : c l[rankL c k l].1 l[i].1 < 0 := List.pairwise_iff_getElem.1 hr _ _ (by omega) hi hlt
      rw [← hk] at h4
      exact h3 h4
    have : i = rankL c k l := by omega
    subst this
    exact ⟨hi, hk.symm⟩
  · rintro ⟨h, e⟩
    exact ⟨_, List.getElem_mem h, (ho.eq _ _).2 e.symm⟩
/-- The list's parts at a key's place. -/
theorem put_at (ho : Ordr c) {k : α} {v : β} {l : List (α × β)} (hr : Rise c l) : putL c k v l = l.take (rankL c k l) ++ (k, v) :: l.drop (if hadL c k l then rankL c k l + 1 else rankL c k l) := by
  induction l with
  | nil => rfl
  | cons x l ih =>
    obtain ⟨h1, h2⟩ := List.pairwise_cons.1 hr
    have ih := ih h2
    rcases Int.lt_trichotomy (c k x.1) 0 with hx | hx | hx
    · have hall : ∀ y ∈ x :: l, c k y.1 < 0 := by
        intro y hy
        rcases List.mem_cons.1 hy with rfl | hy
        · exact hx
        · exact ho.trans _ _ _ hx (h1 y hy)
      have e1 : rankL c k (x :: l) = 0 := List.countP_eq_zero.2 fun y hy => by have := (ho.flip _ _).1 (hall y hy); simp; omega
      have e2 : hadL c k (x :: l) = false := by simp only [hadL, List.any_eq_false, decide_eq_true_eq]; intro y hy; have := hall y hy; omega
      rw [e1, e2]
      simp only [putL, List.take_zero, Bool.false_eq_true, if_false, List.drop_zero, List.nil_append]
      rw [List.filter_eq_nil_iff.2 (fun y hy => by have := hall y hy; simp; omega), List.filter_eq_self.2 (fun y hy => by simpa using hall y hy)]
      rfl
    · have hk := (ho.eq _ _).1 hx
      have hall : ∀ y ∈ l, c k y.1 < 0 := fun y hy => by rw [hk]; exact h1 y hy
      have e1 : rankL c k (x :: l) = 0 := List.countP_eq_zero.2 fun y hy => by
        rcases List.mem_cons.1 hy with rfl | hy
        · have := (ho.eq y.1 k).2 hk.symm; simp; omega
        · have := (ho.flip _ _).1 (hall y hy); simp; omega
      have e2 : hadL c k (x :: l) = true := by simp [hadL, hx]
      rw [e1, e2]
      simp only [putL, List.take_zero, if_true, Nat.zero_add, List.drop_succ_cons, List.drop_zero, List.nil_append, List.filter_cons, hx, Int.lt_irrefl, decide_false, Bool.false_eq_true, if_false]
      rw [List.filter_eq_nil_iff.2 (fun y hy => by have := hall y hy; simp; omega), List.filter_eq_self.2 (fun y hy => by simpa using hall y hy)]
      rfl
    · have hx2 := (ho.flip _ _).2 hx
      have e1 : rankL c k (x :: l) = rankL c k l + 1 := by simp [rankL, hx2]
      have e2 : hadL c k (x :: l) = hadL c k l := by simp [hadL]; omega
      have e3 : putL c k v (x :: l) = x :: putL c k v l := by simp [putL, List.filter_cons, hx]; omega
      rw [e1, e2, e3, ih]
      cases hadL c k l <;> simp
theorem drop_at (ho : Ordr c) {k : α} {l : List (α × β)} (hr : Rise c l) : dropL c k l = if hadL c k l then l.take (rankL c k l) ++ l.drop (rankL c k l + 1) else l := by
  induction l with
  | nil => rfl
  | cons x l ih =>
    obtain ⟨h1, h2⟩ := List.pairwise_cons.1 hr
    have ih := ih h2
    rcases Int.lt_trichotomy (c k x.1) 0 with hx | hx | hx
    · have hall : ∀ y ∈ x :: l, c k y.1 < 0 := by
        intro y hy
        rcases List.mem_cons.1 hy with rfl | hy
        · exact hx
        · exact ho.trans _ _ _ hx (h1 y hy)
      have e2 : hadL c k (x :: l) = false := by simp only [hadL, List.any_eq_false, decide_eq_true_eq]; intro y hy; have := hall y hy; omega
      rw [e2]
      simp only [Bool.false_eq_true, if_false]
      exact List.filter_eq_self.2 fun y hy => by have := hall y hy; simp; omega
    · have hk := (ho.eq _ _).1 hx
      have hall : ∀ y ∈ l, c k y.1 < 0 := fun y hy => by rw [hk]; exact h1 y hy
      have e1 : rankL c k (x :: l) = 0 := List.countP_eq_zero.2 fun y hy => by
        rcases List.mem_cons.1 hy with rfl | hy
        · have := (ho.eq y.1 k).2 hk.symm; simp; omega
        · have := (ho.flip _ _).1 (hall y hy); simp; omega
      have e2 : hadL c k (x :: l) = true := by simp [hadL, hx]
      rw [e1, e2]
      simp only [if_true, List.take_zero, Nat.zero_add, List.drop_succ_cons, List.drop_zero, List.nil_append, dropL, List.filter_cons, hx, decide_true, Bool.not_true, Bool.false_eq_true, if_false]
      exact List.filter_eq_self.2 fun y hy => by have := hall y hy; simp; omega
    · have hx2 := (ho.flip _ _).2 hx
      have e1 : rankL c k (x :: l) = rankL c k l + 1 := by simp [rankL, hx2]
      have e2 : hadL c k (x :: l) = hadL c k l := by simp [hadL]; omega
      have e3 : dropL c k (x :: l) = x :: dropL c k l := by simp [dropL, List.filter_cons]; omega
      rw [e1, e2, e3, ih]
      cases hadL c k l <;> simp
theorem get_had {k : α} {l : List (α × β)} : (getL c k l).isSome = hadL c k l := by
  rw [Bool.eq_iff_iff]
  simp only [getL, hadL, Option.isSome_map, List.find?_isSome, List.any_eq_true]
theorem rank_own (ho : Ordr c) {l : List (α × β)} (hr : Rise c l) {k : Nat} (hk : k < l.length) : rankL c l[k].1 l = k := by
  have h1 : ¬ k < rankL c l[k].1 l := by rw [rank_at ho hr k hk]; have := (ho.eq l[k].1 l[k].1).2 rfl; omega
  have h2 := rank_le (c := c) l[k].1 l
  rcases Nat.lt_or_ge (rankL c l[k].1 l) k with h | h
  · exfalso
    have h3 := rank_at ho hr (rankL c l[k].1 l) (by omega) (k := l[k].1)
    have h4 : c l[rankL c l[k].1 l].1 l[k].1 < 0 := List.pairwise_iff_getElem.1 hr _ _ (by omega) hk h
    have := h3.2 h4
    omega
  · omega

theorem rank_put (ho : Ordr c) {k : α} {v : β} {l : List (α × β)} : rankL c k (putL c k v l) = rankL c k l := by
  have h0 : ¬ c k k < 0 := by have := (ho.eq k k).2 rfl; omega
  simp only [rankL, putL, List.countP_append, List.countP_cons, h0, decide_false, Bool.false_eq_true, if_false, Nat.add_zero, List.countP_filter]
  have e1 : l.countP (fun a => decide (c a.1 k < 0) && decide (c k a.1 < 0)) = 0 := List.countP_eq_zero.2 fun y _ => by
    simp only [Bool.and_eq_true, decide_eq_true_eq, not_and]
    intro h1 h2
    exact h0 (ho.trans _ _ _ h2 h1)
  rw [e1, Nat.add_zero]
  refine List.countP_congr fun y _ => ?_
  simp only [Bool.and_eq_true, decide_eq_true_eq]
  exact ⟨fun h => h.1, fun h => ⟨h, (ho.flip _ _).1 h⟩⟩
theorem rank_drop (ho : Ordr c) {k : α} {l : List (α × β)} : rankL c k (dropL c k l) = rankL c k l := by
  simp only [rankL, dropL, List.countP_filter]
  refine List.countP_congr fun y _ => ?_
  simp only [Bool.and_eq_true, decide_eq_true_eq, Bool.not_eq_true', decide_eq_false_iff_not]
  exact ⟨fun h => h.1, fun h => ⟨h, fun e => by have := (ho.eq _ _).1 e; subst this; have := (ho.eq y.1 y.1).2 rfl; omega⟩⟩
theorem get_at (ho : Ordr c) {k : α} {l : List (α × β)} (hr : Rise c l) (h : hadL c k l = true) : ∃ hlt : rankL c k l < l.length, getL c k l = some l[rankL c k l].2 := by
  obtain ⟨hlt, e⟩ := (had_at ho hr).1 h
  refine ⟨hlt, ?_⟩
  have hs : (getL c k l).isSome = true := by rw [get_had]; exact h
  obtain ⟨u, hu⟩ := Option.isSome_iff_exists.1 hs
  simp only [getL, Option.map_eq_some_iff] at hu ⊢
  obtain ⟨y, hy, rfl⟩ := hu
  have h1 := List.find?_some hy
  simp only [decide_eq_true_eq] at h1
  have h2 := (ho.eq _ _).1 h1
  obtain ⟨i, hi, hyi⟩ := List.mem_iff_getElem.1 (List.mem_of_find?_eq_some hy)
  have h3 : i = rankL c k l := by
    have := rank_own ho hr hi
    rw [hyi, ← h2] at this
    exact this.symm
  subst h3
  exact ⟨y, hy, by rw [hyi]⟩
theorem get_none {k : α} {l : List (α × β)} (h : hadL c k l = false) : getL c k l = none := by
  rw [← get_had (c := c), Option.isSome_eq_false_iff] at h
  simpa using h
theorem behind_drop (ho : Ordr c) {k : α} {l : List (α × β)} (hr : Rise c l) : behindL (fun a => decide (c a k < 0)) l = l.drop (rankL c k l) := by
  unfold behindL
  induction l with
  | nil => rfl
  | cons x l ih =>
    obtain ⟨h1, h2⟩ := List.pairwise_cons.1 hr
    by_cases hx : c x.1 k < 0
    · have e : rankL c k (x :: l) = rankL c k l + 1 := by simp [rankL, hx]
      rw [e, List.drop_succ_cons, ← ih h2]
      simp [hx]
    · have e : rankL c k (x :: l) = 0 := List.countP_eq_zero.2 fun y hy => by
        simp only [decide_eq_true_eq]
        rcases List.mem_cons.1 hy with rfl | hy
        · exact hx
        · exact fun h => hx (ho.trans _ _ _ (h1 y hy) h)
      rw [e, List.drop_zero]
      simp only [List.filter_cons, hx, decide_false, Bool.not_false, if_true]
      congr 1
      exact List.filter_eq_self.2 fun y hy => by
        have hn := fun h => hx (ho.trans _ _ _ (h1 y hy) h)
        simp only [Bool.not_eq_true', decide_eq_false_iff_not]
        exact hn
end
end Go.Proofs.Ytadeechoknpjhaa

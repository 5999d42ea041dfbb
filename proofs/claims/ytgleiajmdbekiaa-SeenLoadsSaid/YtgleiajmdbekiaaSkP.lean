/- BAGS: how often each thing is in a list, in the order of the things. -/
import Derived.Test.YtgleiajmdbekiaaBase
import Derived.Test.YtgleiajmdbekiaaTr
import Derived.Test.YtgleiajmdbekiaaTrL
namespace Go.Proofs.Ytgleiajmdbekiaa
open Go.RowKit Go.Shelf

section
variable {α : Type} {c : α → α → Int}
def cnt (c : α → α → Int) (x : α) (ls : List α) : Nat := ls.countP (fun y => decide (c x y = 0))
theorem cnt_nil (x : α) : cnt c x [] = 0 := rfl
theorem cnt_cons (x y : α) (ls : List α) : cnt c x (y :: ls) = cnt c x ls + (if c x y = 0 then 1 else 0) := by simp [cnt, List.countP_cons]
theorem cnt_append (x : α) (l m : List α) : cnt c x (l ++ m) = cnt c x l + cnt c x m := by simp [cnt]
theorem cnt_le (x : α) (l : List α) : cnt c x l ≤ l.length := List.countP_le_length ..
theorem cnt_pos (ho : Ordr c) {x : α} {l : List α} : 0 < cnt c x l ↔ x ∈ l := by
  simp only [cnt, List.countP_pos_iff, decide_eq_true_eq]
  exact ⟨fun ⟨y, h1, h2⟩ => by rw [(ho.eq _ _).1 h2]; exact h1, fun h => ⟨x, h, (ho.eq _ _).2 rfl⟩⟩
/-- lr: each thing of ls once, with how often it is there. -/
def Bag (c : α → α → Int) (lr : List (α × Int)) (ls : List α) : Prop := Rise c lr ∧ ∀ y, y ∈ lr ↔ (0 < cnt c y.1 ls ∧ y.2 = cnt c y.1 ls)
theorem Bag.nil : Bag c [] [] := ⟨List.Pairwise.nil, fun y => by simp [cnt]⟩
theorem Bag.same {lr : List (α × Int)} {ls ls' : List α} (h : Bag c lr ls) (hc : ∀ x, cnt c x ls = cnt c x ls') : Bag c lr ls' := ⟨h.1, fun y => by rw [h.2, hc]⟩
theorem Bag.had (ho : Ordr c) {lr : List (α × Int)} {ls : List α} (h : Bag c lr ls) (x : α) : hadL c x lr = decide (0 < cnt c x ls) := by
  rw [Bool.eq_iff_iff, hadL_iff ho, decide_eq_true_eq]
  exact ⟨fun ⟨y, hy, e⟩ => by rw [← e]; exact ((h.2 y).1 hy).1, fun hp => ⟨(x, (cnt c x ls : Int)), (h.2 _).2 ⟨hp, rfl⟩, rfl⟩⟩
theorem Bag.get (ho : Ordr c) {lr : List (α × Int)} {ls : List α} (h : Bag c lr ls) (x : α) : (getL c x lr).getD 0 = cnt c x ls := by
  cases hb : hadL c x lr with
  | false =>
    rw [get_none hb]
    have := h.had ho x
    rw [hb] at this
    have : ¬ 0 < cnt c x ls := by simpa using this.symm
    simp; omega
  | true =>
    obtain ⟨hlt, hg⟩ := get_at ho h.1 hb
    obtain ⟨_, he⟩ := (had_at ho h.1).1 hb
    rw [hg]
    have := ((h.2 _).1 (List.getElem_mem hlt)).2
    rw [he] at this
    simpa using this
theorem cnt_ext (ho : Ordr c) {x y : α} (h : c x y = 0) (l : List α) : cnt c x l = cnt c y l := by rw [(ho.eq _ _).1 h]
theorem Bag.add (ho : Ordr c) {lr : List (α × Int)} {ls : List α} (h : Bag c lr ls) (x : α) : Bag c (putL c x ((cnt c x ls : Int) + 1) lr) (x :: ls) := by
  refine ⟨putL_rise ho h.1 _ _, fun y => ?_⟩
  rw [mem_putL, h.2, cnt_cons]
  constructor
  · rintro (rfl | ⟨⟨h1, h2⟩, h3⟩)
    · simp [(ho.eq x x).2 rfl]
    · have : ¬ c y.1 x = 0 := fun e => h3 ((ho.eq _ _).2 ((ho.eq _ _).1 e).symm)
      simp [this, h1, h2]
  · rintro ⟨h1, h2⟩
    by_cases e : c y.1 x = 0
    · have hyx := (ho.eq _ _).1 e
      left
      rw [if_pos e, hyx] at h2
      exact Prod.ext hyx (by push_cast at h2; exact h2)
    · rw [if_neg e] at h1 h2
      exact .inr ⟨⟨by simpa using h1, by simpa using h2⟩, fun e2 => e ((ho.eq _ _).2 ((ho.eq _ _).1 e2).symm)⟩
/-- Once less. -/
theorem Bag.less (ho : Ordr c) {lr : List (α × Int)} {ls ls' : List α} (h : Bag c lr ls) (x : α) (hx : cnt c x ls = cnt c x ls' + 1) (hy : ∀ y, c y x ≠ 0 → cnt c y ls = cnt c y ls') :
    Bag c (if cnt c x ls = 1 then dropL c x lr else putL c x ((cnt c x ls : Int) - 1) lr) ls' := by
  split
  · rename_i h1
    refine ⟨dropL_rise h.1 x, fun y => ?_⟩
    simp only [dropL, List.mem_filter, Bool.not_eq_true', decide_eq_false_iff_not, h.2]
    constructor
    · rintro ⟨⟨h2, h3⟩, h4⟩
      rw [← hy y.1 fun e => h4 ((ho.eq _ _).2 ((ho.eq _ _).1 e).symm)]
      exact ⟨h2, h3⟩
    · rintro ⟨h2, h3⟩
      have hne : ¬ c x y.1 = 0 := fun e => by
        rw [← cnt_ext ho e] at h2
        omega
      rw [hy y.1 fun e => hne ((ho.eq _ _).2 ((ho.eq _ _).1 e).symm)]
      exact ⟨⟨h2, h3⟩, hne⟩
  · rename_i h1
    refine ⟨putL_rise ho h.1 _ _, fun y => ?_⟩
    rw [mem_putL, h.2]
    constructor
    · rintro (rfl | ⟨⟨h2, h3⟩, h4⟩)
      · simp only; omega
      · rw [← hy y.1 fun e => h4 ((ho.eq _ _).2 ((ho.eq _ _).1 e).symm)]
        exact ⟨h2, h3⟩
    · rintro ⟨h2, h3⟩
      by_cases e : c x y.1 = 0
      · left
        have := (ho.eq _ _).1 e
        rw [← cnt_ext ho e] at h3
        exact Prod.ext this.symm (by simp only; omega)
      · rw [hy y.1 fun e2 => e ((ho.eq _ _).2 ((ho.eq _ _).1 e2).symm)]
        exact .inr ⟨⟨h2, h3⟩, e⟩

/-- Each so often as it is told. -/
def expand (lr : List (α × Int)) : List α := lr.flatMap fun e => List.replicate e.2.toNat e.1
/-- Not falling. -/
def Srt (c : α → α → Int) (l : List α) : Prop := l.Pairwise fun a b => ¬ c b a < 0
theorem cnt_replicate (x y : α) (n : Nat) : cnt c x (List.replicate n y) = if c x y = 0 then n else 0 := by
  simp only [cnt, List.countP_replicate, decide_eq_true_eq]
theorem cnt_expand (ho : Ordr c) (x : α) : ∀ {lr : List (α × Int)}, Rise c lr → cnt c x (expand lr) = ((getL c x lr).getD 0).toNat
  | [], _ => rfl
  | y :: lr, h => by
    obtain ⟨h1, h2⟩ := List.pairwise_cons.1 h
    have ih := cnt_expand ho x h2
    have e : expand (y :: lr) = List.replicate y.2.toNat y.1 ++ expand lr := rfl
    rw [e, cnt_append, cnt_replicate, ih]
    by_cases hx : c x y.1 = 0
    · have hn : hadL c x lr = false := by
        simp only [hadL, List.any_eq_false, decide_eq_true_eq]
        intro z hz e
        have := h1 z hz
        rw [← (ho.eq _ _).1 hx] at this
        omega
      rw [get_none hn]
      simp [hx, getL]
    · simp [hx, getL]
theorem srt_expand (ho : Ordr c) : ∀ {lr : List (α × Int)}, Rise c lr → Srt c (expand lr)
  | [], _ => List.Pairwise.nil
  | y :: lr, h => by
    obtain ⟨h1, h2⟩ := List.pairwise_cons.1 h
    have e : expand (y :: lr) = List.replicate y.2.toNat y.1 ++ expand lr := rfl
    rw [e]
    refine List.pairwise_append.2 ⟨?_, srt_expand ho h2, fun a ha b hb => ?_⟩
    · refine List.pairwise_replicate.2 (.inr ?_)
      have := (ho.eq y.1 y.1).2 rfl; omega
    · obtain rfl := List.eq_of_mem_replicate ha
      obtain ⟨z, hz, hzb⟩ := List.mem_flatMap.1 hb
      obtain rfl := List.eq_of_mem_replicate hzb
      have := (ho.flip _ _).1 (h1 z hz); omega
theorem srt_ext (ho : Ordr c) : ∀ {l m : List α}, Srt c l → Srt c m → (∀ x, cnt c x l = cnt c x m) → l = m
  | [], [], _, _, _ => rfl
  | [], y :: m, _, _, h => by have := h y; rw [cnt_cons, if_pos ((ho.eq y y).2 rfl), cnt_nil] at this; omega
  | x :: l, [], _, _, h => by have := h x; rw [cnt_cons, if_pos ((ho.eq x x).2 rfl), cnt_nil] at this; omega
  | x :: l, y :: m, hl, hm, h => by
    obtain ⟨l1, l2⟩ := List.pairwise_cons.1 hl
    obtain ⟨m1, m2⟩ := List.pairwise_cons.1 hm
    have e : x = y := by
      have hx : x ∈ y :: m := (cnt_pos ho).1 (by rw [← h]; exact (cnt_pos ho).2 (List.mem_cons_self ..))
      have hy : y ∈ x :: l := (cnt_pos ho).1 (by rw [h]; exact (cnt_pos ho).2 (List.mem_cons_self ..))
      rcases List.mem_cons.1 hx with e | hx
      · exact e
      · rcases List.mem_cons.1 hy with e | hy
        · exact e.symm
        · have h1 := m1 x hx
          have h2 := l1 y hy
          rcases Int.lt_trichotomy (c x y) 0 with h3 | h3 | h3
          · exact absurd h3 h1
          · exact (ho.eq _ _).1 h3
          · exact absurd ((ho.flip _ _).2 h3) h2
    subst e
    rw [srt_ext ho l2 m2 fun z => by have := h z; rw [cnt_cons, cnt_cons] at this; omega]
/-- Gone through each so often, it is the list in order. -/
theorem Bag.expand (ho : Ordr c) {lr : List (α × Int)} {ls : List α} (h : Bag c lr ls) (hs : Srt c ls) : Go.Proofs.Ytgleiajmdbekiaa.expand lr = ls :=
  srt_ext ho (srt_expand ho h.1) hs fun x => by rw [cnt_expand ho x h.1, h.get ho]; rfl
theorem expand_len {lr : List (α × Int)} (hp : ∀ y ∈ lr, 0 < y.2) : lr.length ≤ (expand lr).length := by
  induction lr with
  | nil => exact Nat.zero_le _
  | cons y lr ih =>
    have e : expand (y :: lr) = List.replicate y.2.toNat y.1 ++ expand lr := rfl
    have h1 := ih fun z hz => hp z (List.mem_cons_of_mem _ hz)
    have h2 := hp y (List.mem_cons_self ..)
    rw [e, List.length_append, List.length_replicate, List.length_cons]
    omega
/-- Each thing but once: no more than all. -/
theorem bag_short (ho : Ordr c) : ∀ {ls : List α} {lr : List (α × Int)}, Bag c lr ls → lr.length ≤ ls.length
  | [], lr, h => by
    cases lr with
    | nil => exact Nat.le_refl _
    | cons y lr => have := ((h.2 y).1 (List.mem_cons_self ..)).1; simp [cnt] at this
  | x :: ls, lr, h => by
    -- without x, once
    have h1 : Bag c (if cnt c x (x :: ls) = 1 then dropL c x lr else putL c x ((cnt c x (x :: ls) : Int) - 1) lr) ls :=
      h.less ho x (by rw [cnt_cons, if_pos ((ho.eq x x).2 rfl)]) (fun y hy => by rw [cnt_cons, if_neg hy, Nat.add_zero])
    have ih := bag_short ho h1
    have hd := dropL_len ho (k := x) h.1
    have hp := putL_len ho (k := x) ((cnt c x (x :: ls) : Int) - 1) h.1
    simp only [List.length_cons]
    split at ih
    · split at hd <;> omega
    · split at hp <;> omega
theorem Bag.pos {lr : List (α × Int)} {ls : List α} (h : Bag c lr ls) : ∀ y ∈ lr, 0 < y.2 ∧ y.2 ≤ ls.length := fun y hy => by
  obtain ⟨h1, h2⟩ := (h.2 y).1 hy
  have := cnt_le (c := c) y.1 ls
  omega
end
end Go.Proofs.Ytgleiajmdbekiaa

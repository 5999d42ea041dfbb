/- seen: what numbers that come make, in plain words. -/
import Derived.Test.YtgleiajmdbekiaaBase
import Derived.Test.YtgleiajmdbekiaaSeB
namespace Go.Proofs.Ytgleiajmdbekiaa
open Go.RowKit Go.Shelf

theorem getL_put_ne {α β : Type} {c : α → α → Int} (ho : Ordr c) {k k2 : α} {v : β} {l : List (α × β)} (hr : Rise c l) (hne : k2 ≠ k) : getL c k2 (putL c k v l) = getL c k2 l := by
  cases hg : getL c k2 l with
  | some u =>
    have hm : (k2, u) ∈ putL c k v l := mem_putL.2 (.inr ⟨get_mem ho hg, fun e => hne ((ho.eq _ _).1 e).symm⟩)
    exact get_of_mem ho (putL_rise ho hr k v) hm
  | none =>
    refine get_none ?_
    have h0 : hadL c k2 l = false := by rw [← get_had, hg]; rfl
    cases h1 : hadL c k2 (putL c k v l) with
    | false => rfl
    | true =>
      rcases (hadL_put ho).1 h1 with h | h
      · exact (hne h).elim
      · rw [h0] at h; cases h
theorem tru_rise {s : List Int} : Rise cmpI (tru s) ↔ s.Pairwise (· < ·) := by
  simp only [Rise, tru, List.pairwise_map, cmpI_lt]
theorem insI_sorted {q : Int} {s : List Int} (h : s.Pairwise (· < ·)) : (insI q s).Pairwise (· < ·) := by
  have h1 := putL_rise ordrI (tru_rise.2 h) q true
  rw [tru_put] at h1
  exact tru_rise.1 h1
/-- May a number come? -/
def canS (k : ByteArray) (q : Int) (ls : Srcs) : Int :=
  match getL cmpS k ls with
  | none => if 8 ≤ ls.length then 16 else 0
  | some (f, s) => if q ∈ s ∨ q ≤ f then 13 else 0
/-- With a number. -/
def noteL (k : ByteArray) (q : Int) (ls : Srcs) : Srcs := putL cmpS k (noteS q ((getL cmpS k ls).getD (0, []))) ls
def noteR (k : ByteArray) (q : Int) (ls : Srcs) : Srcs := if canS k q ls = 0 then noteL k q ls else ls
theorem canN_map (k : ByteArray) (q : Int) (es : Ents) : canN k q es = canS k q (mapV (·.2) es) := by
  simp only [canN, canS, mapV_get, mapV_len]
  cases getL cmpS k es <;> rfl
def okS (x : Src) : Prop := x.2.Pairwise (· < ·) ∧ x.2.length ≤ 32 ∧ ∀ n ∈ x.2, x.1 < n
structure OkS (ls : Srcs) : Prop where
  rise : Rise cmpS ls
  len : ls.length ≤ 8
  each : ∀ y ∈ ls, okS y.2
theorem okS_note {x : Src} {q : Int} (h : okS x) (hq : x.1 < q) : okS (noteS q x) := by
  obtain ⟨h1, h2, h3⟩ := h
  have hs := insI_sorted (q := q) h1
  have hl := insI_len_le q x.2
  unfold noteS
  by_cases hg : 32 < (insI q x.2).length
  · rw [if_pos hg]
    cases hi : insI q x.2 with
    | nil => rw [hi] at hg; simp at hg
    | cons y ys =>
      rw [hi] at hs hl
      have hp := List.pairwise_cons.1 hs
      simp only [List.headD_cons, List.tail_cons]
      exact ⟨hp.2, by simp at hl ⊢; omega, fun n hn => hp.1 n hn⟩
  · rw [if_neg hg]
    refine ⟨hs, by simp only; omega, fun n hn => ?_⟩
    rcases (insI_mem _ _ _).1 hn with rfl | h
    · exact hq
    · exact h3 n h
theorem canS_get {k : ByteArray} {q : Int} {ls : Srcs} (h : canS k q ls = 0) : (getL cmpS k ls = none ∧ ls.length < 8) ∨ ∃ f s, getL cmpS k ls = some (f, s) ∧ q ∉ s ∧ f < q := by
  unfold canS at h
  cases hg : getL cmpS k ls with
  | none =>
    rw [hg] at h
    simp only at h
    split at h
    · cases h
    · exact .inl ⟨rfl, by omega⟩
  | some x =>
    obtain ⟨f, s⟩ := x
    rw [hg] at h
    simp only at h
    split at h
    · cases h
    · rename_i hn
      exact .inr ⟨f, s, rfl, fun h => hn (.inl h), by have := fun h => hn (.inr h); omega⟩
theorem putL_len_le {α β : Type} {c : α → α → Int} (ho : Ordr c) {k : α} {v : β} : ∀ {l : List (α × β)}, Rise c l → (putL c k v l).length = if hadL c k l then l.length else l.length + 1 := by
  intro l hr
  have h := put_at ho (k := k) (v := v) hr
  have hle := rank_le (c := c) k l
  rw [h, List.length_append, List.length_cons, List.length_take, List.length_drop]
  cases hh : hadL c k l with
  | true => obtain ⟨hlt, _⟩ := (had_at ho hr).1 hh; simp only [if_true]; omega
  | false => simp only [Bool.false_eq_true, if_false]; omega
theorem OkS.note {ls : Srcs} (h : OkS ls) {k : ByteArray} {q : Int} (hq : 1 ≤ q) (hc : canS k q ls = 0) : OkS (noteL k q ls) := by
  have hcc := canS_get hc
  refine ⟨putL_rise ordrS h.rise _ _, ?_, fun y hy => ?_⟩
  · rw [noteL, putL_len_le ordrS h.rise]
    have := h.len
    rcases hcc with ⟨hg, hl⟩ | ⟨f, s, hg, _⟩
    · rw [← get_had, hg]; simp; omega
    · rw [← get_had, hg]; simp; omega
  · rcases mem_putL.1 hy with rfl | ⟨hy, _⟩
    · rcases hcc with ⟨hg, hl⟩ | ⟨f, s, hg, hn, hf⟩
      · rw [hg]; exact okS_note ⟨List.Pairwise.nil, by simp, by simp⟩ (by show (0 : Int) < q; omega)
      · rw [hg]; exact okS_note (h.each _ (get_mem ordrS hg)) hf
    · exact h.each y hy
theorem OkS.noteR {ls : Srcs} (h : OkS ls) {k : ByteArray} {q : Int} (hq : 1 ≤ q) : OkS (noteR k q ls) := by
  unfold Go.Proofs.Ytgleiajmdbekiaa.noteR
  split
  · exact h.note hq ‹_›
  · exact h
theorem OkS.nil : OkS [] := ⟨List.Pairwise.nil, by simp, fun y hy => by simp at hy⟩

/-! ### No number is noted twice -/
abbrev Noted := List (ByteArray × Int)
def manyK (k : ByteArray) (l : Noted) : Nat := l.countP fun x => decide (x.1 = k)
structure OnceInv (no : Noted) (ls : Srcs) : Prop where
  a : ∀ x ∈ no, ∃ f s, getL cmpS x.1 ls = some (f, s) ∧ (x.2 ∈ s ∨ x.2 ≤ f)
  b : ∀ k, manyK k no ≤ 32 → ∀ f s, getL cmpS k ls = some (f, s) → f = 0 ∧ s.length = manyK k no ∧ ∀ q ∈ s, (k, q) ∈ no
  c : ∀ k, getL cmpS k ls = none → manyK k no = 0
theorem OnceInv.nil : OnceInv [] [] := ⟨fun x hx => by simp at hx, fun k _ f s h => by simp [getL] at h, fun k _ => rfl⟩
theorem canS_vals (k : ByteArray) (q : Int) (ls : Srcs) : canS k q ls = 0 ∨ canS k q ls = 13 ∨ canS k q ls = 16 := by
  unfold canS
  split <;> split <;> simp
theorem OnceInv.twice {no : Noted} {ls : Srcs} (h : OnceInv no ls) {k : ByteArray} {q : Int} (hm : (k, q) ∈ no) : canS k q ls = 13 := by
  obtain ⟨f, s, hg, hh⟩ := h.a _ hm
  simp only at hg hh
  simp [canS, hg, hh]
theorem OnceInv.first {no : Noted} {ls : Srcs} (h : OnceInv no ls) {k : ByteArray} {q : Int} (hq : 1 ≤ q) (hm : (k, q) ∉ no) (h1 : 0 < manyK k no) (h2 : manyK k no ≤ 32) : canS k q ls = 0 := by
  cases hg : getL cmpS k ls with
  | none => have := h.c k hg; omega
  | some x =>
    obtain ⟨f, s⟩ := x
    obtain ⟨rfl, _, h3⟩ := h.b k h2 f s hg
    have hn : ¬ (q ∈ s ∨ q ≤ 0) := fun hh => hh.elim (fun h => hm (h3 q h)) fun h => by omega
    simp only [canS, hg, if_neg hn]
theorem manyK_snoc (k k2 : ByteArray) (q : Int) (no : Noted) : manyK k (no ++ [(k2, q)]) = manyK k no + if k2 = k then 1 else 0 := by
  simp [manyK, List.countP_append, List.countP_cons]
theorem OnceInv.note {no : Noted} {ls : Srcs} (h : OnceInv no ls) (ho : OkS ls) {k : ByteArray} {q : Int} (hq : 1 ≤ q) (hc : canS k q ls = 0) : OnceInv (no ++ [(k, q)]) (noteL k q ls) := by
  have hcc := canS_get hc
  have hgk : getL cmpS k (noteL k q ls) = some (noteS q ((getL cmpS k ls).getD (0, []))) := getL_put ordrS ho.rise
  have hgn : ∀ k2, k2 ≠ k → getL cmpS k2 (noteL k q ls) = getL cmpS k2 ls := fun k2 hk => getL_put_ne ordrS ho.rise hk
  obtain ⟨f0, s0, hx0, hs0, hf0, hok, hb0⟩ : ∃ f0 s0, (getL cmpS k ls).getD (0, []) = (f0, s0) ∧ q ∉ s0 ∧ f0 < q ∧ okS (f0, s0) ∧ (manyK k no ≤ 32 → f0 = 0 ∧ s0.length = manyK k no ∧ ∀ p ∈ s0, (k, p) ∈ no) := by
    rcases hcc with ⟨hg, hl⟩ | ⟨f, s, hg, hn, hf⟩
    · refine ⟨0, [], by rw [hg]; rfl, by simp, by omega, ⟨List.Pairwise.nil, by simp, by simp⟩, fun _ => ⟨rfl, by rw [h.c k hg]; rfl, by simp⟩⟩
    · exact ⟨f, s, by rw [hg]; rfl, hn, hf, ho.each _ (get_mem ordrS hg), fun hm => h.b k hm f s hg⟩
  rw [hx0] at hgk
  refine ⟨fun x hx => ?_, fun k2 hm f s hg => ?_, fun k2 hg => ?_⟩
  · rw [List.mem_append, List.mem_singleton] at hx
    by_cases hk : x.1 = k
    · obtain ⟨f1, s1, hn1⟩ : ∃ f1 s1, noteS q (f0, s0) = (f1, s1) := ⟨_, _, rfl⟩
      rw [hk, hgk, hn1]
      refine ⟨f1, s1, rfl, ?_⟩
      have hin : x.2 ∈ insI q s0 ∨ x.2 ≤ f0 := by
        rcases hx with hx | rfl
        · obtain ⟨f, s, hg, hh⟩ := h.a x hx
          rw [hk] at hg
          rw [hg] at hx0
          cases hx0
          exact hh.imp (fun h => (insI_mem _ _ _).2 (.inr h)) id
        · exact .inl ((insI_mem _ _ _).2 (.inl rfl))
      have hins : ∀ n ∈ insI q s0, f0 < n := fun n hn => by
        rcases (insI_mem _ _ _).1 hn with rfl | h
        · exact hf0
        · exact hok.2.2 n h
      unfold noteS at hn1
      by_cases hgt : 32 < (insI q s0).length
      · simp only [if_pos hgt, Prod.mk.injEq] at hn1
        obtain ⟨rfl, rfl⟩ := hn1
        cases hi : insI q s0 with
        | nil => rw [hi] at hgt; simp at hgt
        | cons y ys =>
          rw [hi] at hin hins
          simp only [List.tail_cons, List.headD_cons]
          rcases hin with hin | hin
          · rcases List.mem_cons.1 hin with h | h
            · exact .inr (by omega)
            · exact .inl h
          · have := hins y (List.mem_cons_self ..)
            exact .inr (by omega)
      · simp only [if_neg hgt, Prod.mk.injEq] at hn1
        obtain ⟨rfl, rfl⟩ := hn1
        exact hin
    · rw [hgn _ hk]
      rcases hx with hx | rfl
      · exact h.a x hx
      · exact (hk rfl).elim
  · rw [manyK_snoc] at hm
    by_cases hk : k2 = k
    · subst hk
      rw [hgk] at hg
      rw [if_pos rfl] at hm
      obtain ⟨rfl, hl, hin⟩ := hb0 (by omega)
      have hil := insI_len hs0
      have hng : ¬ 32 < (insI q s0).length := by omega
      unfold noteS at hg
      simp only [if_neg hng, Option.some.injEq, Prod.mk.injEq] at hg
      obtain ⟨rfl, rfl⟩ := hg
      refine ⟨rfl, ?_, fun p hp => ?_⟩
      · rw [manyK_snoc, if_pos rfl]; omega
      · rw [List.mem_append, List.mem_singleton]
        rcases (insI_mem _ _ _).1 hp with rfl | h
        · exact .inr rfl
        · exact .inl (hin p h)
    · rw [hgn _ hk] at hg
      rw [if_neg fun e => hk e.symm] at hm
      obtain ⟨h1, h2, h3⟩ := h.b k2 (by omega) f s hg
      refine ⟨h1, ?_, fun p hp => List.mem_append.2 (.inl (h3 p hp))⟩
      rw [manyK_snoc, if_neg fun e => hk e.symm]; omega
  · by_cases hk : k2 = k
    · subst hk; rw [hgk] at hg; cases hg
    · rw [hgn _ hk] at hg
      rw [manyK_snoc, if_neg fun e => hk e.symm, h.c k2 hg]
end Go.Proofs.Ytgleiajmdbekiaa

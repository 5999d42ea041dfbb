/- MarkTurns, the plain law: what a set of events makes is the same in any order. -/
import Derived.Test.YtpljdckppmobeaaProg
import Derived.Test.YtpljdckppmobeaaBase
import Derived.Test.YtpljdckppmobeaaMkRL
import Derived.Test.YtpljdckppmobeaaMkT
namespace Go.Proofs.Ytpljdckppmobeaa
open Go.RowKit Go.Shelf

theorem getL_key {k : KSM} {ls : List (KSM × VSM)} {v : VSM} (h : getL cmpS k ls = some v) : (k, v) ∈ ls := by
  simp only [getL, Option.map_eq_some_iff] at h
  obtain ⟨y, hy, rfl⟩ := h
  have h1 := List.find?_some hy
  simp only [decide_eq_true_eq] at h1
  have e := (ordrS.eq _ _).1 h1
  rw [e]
  exact List.mem_of_find?_eq_some hy
theorem getL_none {k : KSM} {ls : List (KSM × VSM)} (h : getL cmpS k ls = none) : ∀ y ∈ ls, y.1 ≠ k := by
  simp only [getL, Option.map_eq_none_iff, List.find?_eq_none, decide_eq_true_eq] at h
  intro y hy e
  exact h y hy ((ordrS.eq _ _).2 e.symm)
theorem rise_key {ls : List (KSM × VSM)} (h : Rise cmpS ls) {k : KSM} {v v' : VSM} (h1 : (k, v) ∈ ls) (h2 : (k, v') ∈ ls) : v = v' := by
  induction ls with
  | nil => simp at h1
  | cons x ls ih =>
    obtain ⟨g1, g2⟩ := List.pairwise_cons.1 h
    have irr : cmpS k k = 0 := (ordrS.eq k k).2 rfl
    rcases List.mem_cons.1 h1 with e1 | e1 <;> rcases List.mem_cons.1 h2 with e2 | e2
    · rw [← e1] at e2; exact (Prod.mk.inj e2).2.symm
    · have := g1 _ e2; rw [← e1] at this; simp only at this; omega
    · have := g1 _ e1; rw [← e2] at this; simp only at this; omega
    · exact ih g2 e1 e2
/-- What a list of events makes. -/
structure RepT (l : List Act13) (ls : List (KSM × VSM)) : Prop where
  rise : Rise cmpS ls
  cover : ∀ a ∈ l, ∃ y ∈ ls, y.1 = a.src
  mem : ∀ y, y ∈ ls ↔ ((∃ a ∈ l, a.src = y.1 ∧ a.n = y.2.1) ∧ (∀ a ∈ l, a.src = y.1 → a.n ≤ y.2.1) ∧ y.2.2 = 0)
theorem RepT.nil : RepT [] [] := ⟨List.Pairwise.nil, fun a h => by simp at h, fun y => by simp⟩
theorem RepT.add {l : List Act13} {ls : List (KSM × VSM)} (h : RepT l ls) {a : Act13} (ha : 0 ≤ a.n) : RepT (l ++ [a]) (putL cmpS a.src (seeV a.src a.n 0 ls) ls) := by
  obtain ⟨g, hg⟩ : ∃ g, ((getL cmpS a.src ls).getD (0, 0)).1 = g := ⟨_, rfl⟩
  have hsv : seeV a.src a.n 0 ls = (max g a.n, 0) := by unfold seeV; rw [hg]
  have hmem : ∀ y, y ∈ putL cmpS a.src (seeV a.src a.n 0 ls) ls ↔ y = (a.src, (max g a.n, 0)) ∨ (y ∈ ls ∧ y.1 ≠ a.src) := by
    intro y
    rw [mem_putL, hsv]
    constructor
    · rintro (h | ⟨h1, h2⟩)
      · exact .inl h
      · exact .inr ⟨h1, fun e => h2 ((ordrS.eq _ _).2 e.symm)⟩
    · rintro (h | ⟨h1, h2⟩)
      · exact .inl h
      · exact .inr ⟨h1, fun e => h2 ((ordrS.eq _ _).1 e).symm⟩
  -- what was known of the source
  have hbound : ∀ b ∈ l, b.src = a.src → b.n ≤ g := by
    intro b hb e
    cases hv : getL cmpS a.src ls with
    | none =>
      obtain ⟨y, hy, hy2⟩ := h.cover b hb
      exact absurd (hy2.trans e) (getL_none hv y hy)
    | some v =>
      rw [hv] at hg
      have := ((h.mem _).1 (getL_key hv)).2.1 b hb e
      simpa [← hg] using this
  have hhas : a.n < g → ∃ b ∈ l, b.src = a.src ∧ b.n = g := by
    intro hlt
    cases hv : getL cmpS a.src ls with
    | none => rw [hv] at hg; simp at hg; omega
    | some v =>
      rw [hv] at hg
      obtain ⟨b, hb, e1, e2⟩ := ((h.mem _).1 (getL_key hv)).1
      exact ⟨b, hb, e1, by rw [e2]; simpa using hg⟩
  have hhas' : ∀ c : Int, (∀ b ∈ l, b.src = a.src → b.n ≤ c) → 0 ≤ c → g ≤ c := by
    intro c hc h0
    cases hv : getL cmpS a.src ls with
    | none => rw [hv] at hg; simp at hg; omega
    | some v =>
      rw [hv] at hg
      obtain ⟨b, hb, e1, e2⟩ := ((h.mem _).1 (getL_key hv)).1
      have := hc b hb e1
      rw [e2] at this
      simp at hg this
      omega
  refine ⟨putL_rise ordrS h.rise _ _, fun b hb => ?_, fun y => ?_⟩
  · by_cases e : b.src = a.src
    · exact ⟨_, (hmem _).2 (.inl rfl), e.symm⟩
    · rcases List.mem_append.1 hb with hb | hb
      · obtain ⟨y, hy, hy2⟩ := h.cover b hb
        exact ⟨y, (hmem _).2 (.inr ⟨hy, fun e2 => e (hy2.symm.trans e2)⟩), hy2⟩
      · simp at hb; rw [hb] at e; exact absurd rfl e
  · rw [hmem]
    constructor
    · rintro (rfl | ⟨h1, h2⟩)
      · refine ⟨?_, fun b hb e => ?_, rfl⟩
        · by_cases hlt : a.n < g
          · obtain ⟨b, hb, e1, e2⟩ := hhas hlt
            exact ⟨b, List.mem_append_left _ hb, e1, by rw [e2]; simp only; omega⟩
          · exact ⟨a, by simp, rfl, by simp only; omega⟩
        · rcases List.mem_append.1 hb with hb | hb
          · have := hbound b hb e; simp only; omega
          · simp at hb; rw [hb]; simp only; omega
      · obtain ⟨⟨b, hb, e1, e2⟩, h3, h4⟩ := (h.mem y).1 h1
        refine ⟨⟨b, List.mem_append_left _ hb, e1, e2⟩, fun b' hb' e => ?_, h4⟩
        rcases List.mem_append.1 hb' with hb' | hb'
        · exact h3 b' hb' e
        · simp at hb'; rw [hb'] at e; exact absurd e.symm h2
    · rintro ⟨⟨b, hb, e1, e2⟩, h3, h4⟩
      by_cases e : y.1 = a.src
      · left
        have hya := h3 a (by simp) e.symm
        have hyg := hhas' y.2.1 (fun b' hb' e' => h3 b' (List.mem_append_left _ hb') (e'.trans e.symm)) (by omega)
        have hyu : y.2.1 ≤ max g a.n := by
          rcases List.mem_append.1 hb with hb | hb
          · have := hbound b hb (e1.trans e); omega
          · simp at hb; rw [← e2, hb]; omega
        have e5 : y.2.1 = max g a.n := by omega
        refine Prod.ext e (Prod.ext ?_ ?_)
        · exact e5
        · exact h4
      · right
        refine ⟨(h.mem y).2 ⟨⟨b, ?_, e1, e2⟩, fun b' hb' e' => h3 b' (List.mem_append_left _ hb') e', h4⟩, e⟩
        rcases List.mem_append.1 hb with hb | hb
        · exact hb
        · simp at hb; rw [hb] at e1; exact absurd e1.symm e
theorem RepT.same {l l' : List Act13} {ls ls' : List (KSM × VSM)} (h : RepT l ls) (h' : RepT l' ls') (hm : ∀ a, a ∈ l ↔ a ∈ l') : ls = ls' := by
  refine rise_ext ordrS h.rise h'.rise fun y => ?_
  rw [h.mem, h'.mem]
  constructor
  · rintro ⟨⟨b, hb, e⟩, h2, h3⟩; exact ⟨⟨b, (hm b).1 hb, e⟩, fun a ha => h2 a ((hm a).2 ha), h3⟩
  · rintro ⟨⟨b, hb, e⟩, h2, h3⟩; exact ⟨⟨b, (hm b).2 hb, e⟩, fun a ha => h2 a ((hm a).1 ha), h3⟩
theorem nodup_len {α : Type} [DecidableEq α] : ∀ {l m : List α}, l.Nodup → (∀ x ∈ l, x ∈ m) → l.length ≤ m.length
  | [], _, _, _ => Nat.zero_le _
  | x :: l, m, h, hs => by
    obtain ⟨h1, h2⟩ := List.nodup_cons.1 h
    have hx := hs x (by simp)
    have := nodup_len (m := m.erase x) h2 fun y hy => (List.mem_erase_of_ne (fun (e : y = x) => h1 (e ▸ hy))).2 (hs y (by simp [hy]))
    rw [List.length_erase_of_mem hx] at this
    have := List.length_pos_of_mem hx
    simp only [List.length_cons]; omega
theorem rise_nodup {ls : List (KSM × VSM)} (h : Rise cmpS ls) : (ls.map (·.1)).Nodup := by
  unfold List.Nodup
  rw [List.pairwise_map]
  refine h.imp fun h e => ?_
  have := (ordrS.eq _ _).2 e
  omega
/-- There is room. -/
theorem RepT.room {l l' : List Act13} {ls ls' : List (KSM × VSM)} (h : RepT l ls) (h' : RepT l' ls') (hm : ∀ a, a ∈ l' → a ∈ l) (hl : ls.length ≤ 8) {x : Act13} (hx : x ∈ l) : canL x.src ls' = 0 := by
  unfold canL
  rw [if_neg]
  rintro ⟨h1, h2⟩
  have hnx : x.src ∉ ls'.map (·.1) := by
    intro hm
    obtain ⟨y, hy, e⟩ := List.mem_map.1 hm
    rw [(hadL_iff ordrS).2 ⟨y, hy, e⟩] at h1
    cases h1
  have := nodup_len (l := x.src :: ls'.map (·.1)) (m := ls.map (·.1)) (List.nodup_cons.2 ⟨hnx, rise_nodup h'.rise⟩) fun k hk => by
    rcases List.mem_cons.1 hk with rfl | hk
    · obtain ⟨y, hy, e⟩ := h.cover x hx
      exact List.mem_map.2 ⟨y, hy, e⟩
    · obtain ⟨y, hy, rfl⟩ := List.mem_map.1 hk
      obtain ⟨⟨b, hb, e, _⟩, _, _⟩ := (h'.mem y).1 hy
      obtain ⟨z, hz, ez⟩ := h.cover b (hm b hb)
      exact List.mem_map.2 ⟨z, hz, ez.trans e⟩
  simp only [List.length_cons, List.length_map] at this
  omega
/-- The places gone through. -/
def idxT (n t i : Nat) : Nat := n - 1 - (i + t) % n
def vis (l : List Act13) (t i : Nat) : List Act13 := (List.range i).filterMap fun j => l[idxT l.length t j]?
theorem vis_succ {l : List Act13} {t i : Nat} {a : Act13} (h : l[idxT l.length t i]? = some a) : vis l t (i + 1) = vis l t i ++ [a] := by
  simp [vis, List.range_succ, List.filterMap_append, h]
theorem vis_sub {l : List Act13} {t i : Nat} {a : Act13} (h : a ∈ vis l t i) : a ∈ l := by
  simp only [vis, List.mem_filterMap] at h
  obtain ⟨j, _, h⟩ := h
  exact List.mem_of_getElem? h
theorem vis_all {l : List Act13} {t : Nat} {a : Act13} (h : a ∈ l) : a ∈ vis l t l.length := by
  obtain ⟨j, hj, rfl⟩ := List.getElem_of_mem h
  simp only [vis, List.mem_filterMap, List.mem_range]
  have hn : 0 < l.length := by omega
  have ht := Nat.mod_lt t hn
  refine ⟨((l.length - 1 - j) + (l.length - t % l.length)) % l.length, Nat.mod_lt _ hn, ?_⟩
  have e1 : (((l.length - 1 - j) + (l.length - t % l.length)) % l.length + t) % l.length = l.length - 1 - j := by
    rw [Nat.mod_add_mod]
    have e2 : (l.length - 1 - j) + (l.length - t % l.length) + t = (l.length - 1 - j) + l.length * (1 + t / l.length) := by
      have := Nat.div_add_mod t l.length
      rw [Nat.mul_add, Nat.mul_one]
      omega
    rw [e2, Nat.add_mul_mod_self_left, Nat.mod_eq_of_lt (by omega)]
  unfold idxT
  rw [e1, show l.length - 1 - (l.length - 1 - j) = j by omega, List.getElem?_eq_getElem hj]
end Go.Proofs.Ytpljdckppmobeaa

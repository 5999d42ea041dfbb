/- Keys put one by one, whatever the order. -/
import Derived.Test.YtaenkjeaadmgeaaBase
import Derived.Test.YtaenkjeaadmgeaaTr
import Derived.Test.YtaenkjeaadmgeaaRkCmp
import Derived.Test.YtaenkjeaadmgeaaRkG
namespace Go.Proofs.Ytaenkjeaadmgeaa
open Go.RowKit Go.Shelf

theorem mem_putL {α β : Type} {c : α → α → Int} {k : α} {v : β} {l : List (α × β)} {y : α × β} : y ∈ putL c k v l ↔ y = (k, v) ∨ (y ∈ l ∧ c k y.1 ≠ 0) := by
  simp only [putL, List.mem_append, List.mem_filter, List.mem_cons, decide_eq_true_eq]
  constructor
  · rintro (⟨h1, h2⟩ | h | ⟨h1, h2⟩)
    · exact .inr ⟨h1, by omega⟩
    · exact .inl h
    · exact .inr ⟨h1, by omega⟩
  · rintro (h | ⟨h1, h2⟩)
    · exact .inr (.inl h)
    · rcases Int.lt_trichotomy (c k y.1) 0 with h | h | h
      · exact .inr (.inr ⟨h1, h⟩)
      · exact absurd h h2
      · exact .inl ⟨h1, h⟩
theorem rise_ext {α β : Type} {c : α → α → Int} (ho : Ordr c) : ∀ {l m : List (α × β)}, Rise c l → Rise c m → (∀ y, y ∈ l ↔ y ∈ m) → l = m
  | [], [], _, _, _ => rfl
  | [], y :: m, _, _, h => by have := (h y).2 (List.mem_cons_self ..); cases this
  | x :: l, [], _, _, h => by have := (h x).1 (List.mem_cons_self ..); cases this
  | x :: l, y :: m, hl, hm, h => by
    obtain ⟨l1, l2⟩ := List.pairwise_cons.1 hl
    obtain ⟨m1, m2⟩ := List.pairwise_cons.1 hm
    have irr : ∀ a, ¬ c a a < 0 := fun a => by have := (ho.eq a a).2 rfl; omega
    have e : x = y := by
      rcases List.mem_cons.1 ((h x).1 (List.mem_cons_self ..)) with e | hx
      · exact e
      · rcases List.mem_cons.1 ((h y).2 (List.mem_cons_self ..)) with e | hy
        · exact e.symm
        · exact absurd (ho.trans _ _ _ (m1 x hx) (l1 y hy)) (irr _)
    subst e
    have : l = m := rise_ext ho l2 m2 fun z => by
      constructor
      · intro hz
        rcases List.mem_cons.1 ((h z).1 (List.mem_cons_of_mem _ hz)) with e | h
        · subst e; exact absurd (l1 _ hz) (irr _)
        · exact h
      · intro hz
        rcases List.mem_cons.1 ((h z).2 (List.mem_cons_of_mem _ hz)) with e | h
        · subst e; exact absurd (m1 _ hz) (irr _)
        · exact h
    rw [this]

/-- A rack's entries when keys have been put, each with a value of its own. -/
def keysF (f : ByteArray → Int) (L : List ByteArray) (l : List Ent) : List Ent := L.foldl (fun l x => putL cmpS x (f x) l) l
theorem keysF_rise (f : ByteArray → Int) : ∀ (L : List ByteArray) {l : List Ent}, Rise cmpS l → Rise cmpS (keysF f L l)
  | [], _, h => h
  | x :: L, _, h => keysF_rise f L (putL_rise ordrS h x (f x))
theorem keysF_mem (f : ByteArray → Int) : ∀ (L : List ByteArray) {l : List Ent}, (∀ y ∈ l, y.2 = f y.1) → ∀ y, y ∈ keysF f L l ↔ (y ∈ l ∨ ∃ x ∈ L, y = (x, f x))
  | [], l, _, y => by simp [keysF]
  | x :: L, l, h, y => by
    have h2 : ∀ y ∈ putL cmpS x (f x) l, y.2 = f y.1 := fun y hy => by
      rcases mem_putL.1 hy with rfl | ⟨hy, _⟩
      · rfl
      · exact h y hy
    have := keysF_mem f L h2 y
    show y ∈ keysF f L (putL cmpS x (f x) l) ↔ _
    rw [this, mem_putL]
    constructor
    · rintro ((h1 | ⟨h1, _⟩) | ⟨z, hz, e⟩)
      · exact .inr ⟨x, List.mem_cons_self .., h1⟩
      · exact .inl h1
      · exact .inr ⟨z, List.mem_cons_of_mem _ hz, e⟩
    · rintro (h1 | ⟨z, hz, e⟩)
      · by_cases hk : cmpS x y.1 = 0
        · have hxy := (ordrS.eq _ _).1 hk
          exact .inl (.inl (Prod.ext hxy.symm (by rw [h y h1, hxy])))
        · exact .inl (.inr ⟨h1, hk⟩)
      · rcases List.mem_cons.1 hz with rfl | hz
        · exact .inl (.inl e)
        · exact .inr ⟨z, hz, e⟩
theorem keysF_len (f : ByteArray → Int) : ∀ (L : List ByteArray) {l : List Ent}, Rise cmpS l → (keysF f L l).length ≤ l.length + L.length
  | [], l, _ => Nat.le_refl _
  | x :: L, l, h => by
    have h1 := keysF_len f L (putL_rise ordrS h x (f x))
    have h2 := putL_le ordrS (k := x) (f x) h
    show (keysF f L (putL cmpS x (f x) l)).length ≤ _
    simp only [List.length_cons]
    omega
theorem keysF_snoc (f : ByteArray → Int) (L : List ByteArray) (l : List Ent) (x : ByteArray) : keysF f (L ++ [x]) l = putL cmpS x (f x) (keysF f L l) := by simp [keysF]
/-- The same keys make the same. -/
theorem keysF_same (f : ByteArray → Int) {L M : List ByteArray} (h : ∀ x, x ∈ L ↔ x ∈ M) : keysF f L [] = keysF f M [] := by
  refine rise_ext ordrS (keysF_rise f L List.Pairwise.nil) (keysF_rise f M List.Pairwise.nil) fun y => ?_
  rw [keysF_mem f L (by simp), keysF_mem f M (by simp)]
  simp only [List.not_mem_nil, false_or]
  exact ⟨fun ⟨x, hx, e⟩ => ⟨x, (h x).1 hx, e⟩, fun ⟨x, hx, e⟩ => ⟨x, (h x).2 hx, e⟩⟩

/-- The keys from a place on, round about. -/
def rotL (K : List ByteArray) (t k : Nat) : List ByteArray := (List.range k).map fun i => K.getD ((i + t) % K.length) ⟨#[]⟩
theorem rotL_succ (K : List ByteArray) (t k : Nat) : rotL K t (k + 1) = rotL K t k ++ [K.getD ((k + t) % K.length) ⟨#[]⟩] := by simp [rotL, List.range_succ]
theorem rotL_mem (K : List ByteArray) (t : Nat) (x : ByteArray) : x ∈ K ↔ x ∈ rotL K t K.length := by
  simp only [rotL, List.mem_map, List.mem_range]
  constructor
  · intro hx
    obtain ⟨j, hj, rfl⟩ := List.mem_iff_getElem.1 hx
    have hr : t % K.length < K.length := Nat.mod_lt _ (by omega)
    have ht := Nat.div_add_mod t K.length
    generalize hq : t / K.length = q at ht
    generalize hrr : t % K.length = r at ht hr
    have key : ∃ i, i < K.length ∧ (i + t) % K.length = j := by
      by_cases h : r ≤ j
      · refine ⟨j - r, by omega, ?_⟩
        rw [show j - r + t = j + K.length * q by omega, Nat.add_mul_mod_self_left, Nat.mod_eq_of_lt hj]
      · refine ⟨j + K.length - r, by omega, ?_⟩
        rw [show j + K.length - r + t = j + K.length + K.length * q by omega, Nat.add_mul_mod_self_left, Nat.add_mod_right, Nat.mod_eq_of_lt hj]
    obtain ⟨i, hi, e⟩ := key
    refine ⟨i, hi, ?_⟩
    rw [e, List.getD_eq_getElem?_getD, List.getElem?_eq_getElem hj]
    rfl
  · rintro ⟨i, hi, rfl⟩
    have : (i + t) % K.length < K.length := Nat.mod_lt _ (by omega)
    rw [List.getD_eq_getElem?_getD, List.getElem?_eq_getElem this]
    exact List.getElem_mem _
end Go.Proofs.Ytaenkjeaadmgeaa

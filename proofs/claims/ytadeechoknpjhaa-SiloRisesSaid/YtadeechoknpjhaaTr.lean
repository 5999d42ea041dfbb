/- SORTED TREES IN THE HEAP, over whatever program: how they lie, what their lists are. -/
import Derived.Test.YtadeechoknpjhaaBase
set_option linter.unusedSimpArgs false
set_option linter.unusedVariables false
namespace Go.Proofs.Ytadeechoknpjhaa
open Go.RowKit Go.Shelf

/-- A tree of nodes, each in a block of its own. -/
inductive Tr (α β : Type) where
  | nil
  | node (b : Nat) (k : α) (v : β) (l r : Tr α β)

namespace Tr
variable {α β : Type}
def adr : Tr α β → Option Addr
  | nil => none
  | node b _ _ _ _ => some ⟨b, 0, none⟩
theorem adr_nil : (nil : Tr α β).adr = none := rfl
theorem adr_node (b : Nat) (k : α) (v : β) (l r : Tr α β) : (node b k v l r).adr = some ⟨b, 0, none⟩ := rfl
def high : Tr α β → Nat
  | nil => 0
  | node _ _ _ l r => 1 + max l.high r.high
def many : Tr α β → Nat
  | nil => 0
  | node _ _ _ l r => 1 + l.many + r.many
def has : Tr α β → Nat → Prop
  | nil, _ => False
  | node b _ _ l r, j => j = b ∨ l.has j ∨ r.has j
def list : Tr α β → List (α × β)
  | nil => []
  | node _ k v l r => l.list ++ (k, v) :: r.list
def bal : Tr α β → Prop
  | nil => True
  | node _ _ _ l r => l.bal ∧ r.bal ∧ l.high ≤ r.high + 1 ∧ r.high ≤ l.high + 1
def apart : Tr α β → Prop
  | nil => True
  | node b _ _ l r => ¬ l.has b ∧ ¬ r.has b ∧ (∀ j, l.has j → ¬ r.has j) ∧ l.apart ∧ r.apart

theorem many_list : ∀ t : Tr α β, t.list.length = t.many
  | nil => rfl
  | node b k v l r => by simp only [list, many, List.length_append, List.length_cons, many_list l, many_list r]; omega
theorem high_le : ∀ t : Tr α β, t.high ≤ t.many
  | nil => Nat.le_refl _
  | node b k v l r => by have := high_le l; have := high_le r; simp only [high, many]; omega
theorem nil_iff (t : Tr α β) : t.many = 0 ↔ t = nil := by cases t <;> simp [many]

/-- A node's cells: key, value, the two sides, how high, how many. -/
abbrev Mk (α β : Type) := α → β → Value → Value → Int → Int → Array Value

section lies
variable (T : TypeId) (mk : Mk α β)
def lies (w : World) : Tr α β → Prop
  | nil => True
  | node b k v l r => Blk w b (mk k v (.pointer l.adr) (.pointer r.adr) ((1 + max l.high r.high : Nat) : Int) ((1 + l.many + r.many : Nat) : Int)) T ∧ lies w l ∧ lies w r
variable {T mk}
theorem lies.agree {w w' : World} : ∀ {t : Tr α β}, lies T mk w t → Agree t.has w w' → lies T mk w' t
  | nil, _, _ => trivial
  | node _ _ _ _ _, ⟨h1, h2, h3⟩, ha => ⟨h1.agree ha (.inl rfl), lies.agree h2 (ha.mono fun _ h => .inr (.inl h)), lies.agree h3 (ha.mono fun _ h => .inr (.inr h))⟩
theorem lies.lt {w : World} : ∀ {t : Tr α β}, lies T mk w t → ∀ j, t.has j → j < w.heap.size
  | nil, _, _, h => h.elim
  | node _ _ _ _ _, ⟨h1, h2, h3⟩, j, h => by
    rcases h with rfl | h | h
    · exact h1.lt
    · exact lies.lt h2 j h
    · exact lies.lt h3 j h
theorem lies.upd {M : Nat → Prop} {w w' : World} {t : Tr α β} (h : lies T mk w t) (hu : Upd M w w') (hd : ∀ j, t.has j → ¬ M j) : lies T mk w' t := lies.agree h (hu.agree fun j hj => ⟨lies.lt h j hj, hd j hj⟩)
end lies

/-- The root alone: what 'height' and 'size' read. -/
def top (T : TypeId) (mk : Mk α β) (w : World) (p : Option Addr) (h n : Nat) : Prop :=
  (p = none ∧ h = 0 ∧ n = 0) ∨ ∃ b k v x y, p = some ⟨b, 0, none⟩ ∧ Blk w b (mk k v x y h n) T
theorem lies.top {T : TypeId} {mk : Mk α β} {w : World} {t : Tr α β} (h : lies T mk w t) : top T mk w t.adr t.high t.many := by
  cases t with
  | nil => exact .inl ⟨rfl, rfl, rfl⟩
  | node b k v l r => exact .inr ⟨b, k, v, _, _, rfl, h.1⟩
/-- How many a tree has, read from its cell. -/
def manyAt (i : Nat) (u : Value) (w : World) : Nat :=
  match u with
  | .pointer (some a) => (match w.cell? ⟨a.block, i, none⟩ with | some (.int _ n) => n.toNat | _ => 0)
  | _ => 0
theorem manyAt_tr {T : TypeId} {mk : Mk α β} {i : Nat} (hi : ∀ k v x y h n, (mk k v x y h n)[i]? = some (.int .i64 n)) {w : World} {t : Tr α β} (h : lies T mk w t) : manyAt i (.pointer t.adr) w = t.many := by
  cases t with
  | nil => rfl
  | node b k v l r =>
    have := h.1.cell i
    rw [hi] at this
    simp only [manyAt, adr, this, many]
    omega
theorem top_agree {T : TypeId} {mk : Mk α β} {w w' : World} {p : Option Addr} {h n : Nat} (ht : top T mk w p h n) (ha : ∀ b, p = some ⟨b, 0, none⟩ → w'.heap[b]? = w.heap[b]?) : top T mk w' p h n := by
  rcases ht with h | ⟨b, k, v, x, y, hp, hb⟩
  · exact .inl h
  · exact .inr ⟨b, k, v, x, y, hp, (ha b hp).trans hb⟩
end Tr

namespace Tr
variable {α β : Type}
theorem adr_ne {t : Tr α β} {b : Nat} (h : ¬ t.has b) : t.adr ≠ some ⟨b, 0, none⟩ := by
  cases t with
  | nil => intro e; cases e
  | node b2 k v l r => intro e; cases e; exact h (.inl rfl)
theorem apart_l {b : Nat} {k : α} {v : β} {l l' r : Tr α β} (h : (node b k v l r).apart) (ha : l'.apart) (hh : ∀ j, l'.has j → l.has j) : (node b k v l' r).apart :=
  ⟨fun x => h.1 (hh _ x), h.2.1, fun j x => h.2.2.1 j (hh _ x), ha, h.2.2.2.2⟩
theorem apart_r {b : Nat} {k : α} {v : β} {l r r' : Tr α β} (h : (node b k v l r).apart) (ha : r'.apart) (hh : ∀ j, r'.has j → r.has j) : (node b k v l r').apart :=
  ⟨h.1, fun x => h.2.1 (hh _ x), fun j x y => h.2.2.1 j x (hh _ y), h.2.2.2.1, ha⟩
theorem apart_R {b b2 : Nat} {k k2 : α} {v v2 : β} {x y z : Tr α β} (h : (node b k v (node b2 k2 v2 x y) z).apart) : (node b2 k2 v2 x (node b k v y z)).apart := by
  obtain ⟨h1, h2, h3, ⟨h4, h5, h6, h7, h8⟩, h9⟩ := h
  refine ⟨h4, ?_, ?_, h7, fun hh => h1 (.inr (.inr hh)), h2, fun j hj => h3 j (.inr (.inr hj)), h8, h9⟩
  · rintro (e | e | e)
    · exact h1 (.inl e.symm)
    · exact h5 e
    · exact h3 b2 (.inl rfl) e
  · rintro j hj (e | e | e)
    · subst e; exact h1 (.inr (.inl hj))
    · exact h6 j hj e
    · exact h3 j (.inr (.inl hj)) e
theorem apart_L {b b2 : Nat} {k k2 : α} {v v2 : β} {x y z : Tr α β} (h : (node b2 k2 v2 x (node b k v y z)).apart) : (node b k v (node b2 k2 v2 x y) z).apart := by
  obtain ⟨h1, h2, h3, h4, ⟨h5, h6, h7, h8, h9⟩⟩ := h
  refine ⟨?_, h6, ?_, ⟨h1, fun e => h2 (.inr (.inl e)), fun j hj e => h3 j hj (.inr (.inl e)), h4, h8⟩, h9⟩
  · rintro (e | e | e)
    · exact h2 (.inl e.symm)
    · exact h3 b e (.inl rfl)
    · exact h5 e
  · rintro j (e | e | e) hj
    · subst e; exact h2 (.inr (.inr hj))
    · exact h3 j e (.inr (.inr hj))
    · exact h7 j e hj
theorem has_R {b b2 : Nat} {k k2 : α} {v v2 : β} {x y z : Tr α β} (j : Nat) : (node b2 k2 v2 x (node b k v y z)).has j ↔ (node b k v (node b2 k2 v2 x y) z).has j := by
  simp only [has]
  constructor
  · rintro (e | e | e | e | e) <;> simp [e]
  · rintro (e | (e | e | e) | e) <;> simp [e]
end Tr

/-- An order, told by a number. -/
structure Ordr {α : Type} (c : α → α → Int) : Prop where
  eq : ∀ a b, c a b = 0 ↔ a = b
  flip : ∀ a b, c a b < 0 ↔ 0 < c b a
  trans : ∀ a b d, c a b < 0 → c b d < 0 → c a d < 0

/-- A function value that compares. -/
structure CmpV (P : Program) {α : Type} (ek : α → Value) (c : α → α → Int) (cf : Fn) (ca cc : Array Value) : Prop where
  ord : Ordr c
  call : ∀ a b W, CallV P (.func cf ca cc) #[ek a, ek b] W fun v W' => v = .int .i64 (c a b) ∧ Upd (fun _ => False) W W'

section order
variable {α β : Type} {c : α → α → Int}
/-- Keys rise. -/
def Rise (c : α → α → Int) (l : List (α × β)) : Prop := l.Pairwise fun x y => c x.1 y.1 < 0
/-- With a key's value. -/
def putL (c : α → α → Int) (k : α) (v : β) (l : List (α × β)) : List (α × β) := l.filter (fun x => decide (0 < c k x.1)) ++ (k, v) :: l.filter (fun x => decide (c k x.1 < 0))
/-- Without a key. -/
def dropL (c : α → α → Int) (k : α) (l : List (α × β)) : List (α × β) := l.filter (fun x => !decide (c k x.1 = 0))
def hadL (c : α → α → Int) (k : α) (l : List (α × β)) : Bool := l.any (fun x => decide (c k x.1 = 0))
def getL (c : α → α → Int) (k : α) (l : List (α × β)) : Option β := (l.find? (fun x => decide (c k x.1 = 0))).map (·.2)
def rankL (c : α → α → Int) (k : α) (l : List (α × β)) : Nat := l.countP (fun x => decide (c x.1 k < 0))

theorem Rise.parts {l r : List (α × β)} {x : α × β} (h : Rise c (l ++ x :: r)) : Rise c l ∧ Rise c r ∧ (∀ y ∈ l, c y.1 x.1 < 0) ∧ (∀ y ∈ r, c x.1 y.1 < 0) ∧ (∀ y ∈ l, ∀ z ∈ r, c y.1 z.1 < 0) := by
  obtain ⟨h1, h2, h3⟩ := List.pairwise_append.1 h
  obtain ⟨h4, h5⟩ := List.pairwise_cons.1 h2
  exact ⟨h1, h5, fun y hy => h3 y hy x (List.mem_cons_self ..), h4, fun y hy z hz => h3 y hy z (List.mem_cons_of_mem _ hz)⟩

/-- At a node: the key stands ahead of it. -/
theorem node_lt (ho : Ordr c) {l r : List (α × β)} {x : α × β} {k : α} (h : Rise c (l ++ x :: r)) (hk : c k x.1 < 0) (v : β) :
    putL c k v (l ++ x :: r) = putL c k v l ++ x :: r ∧ dropL c k (l ++ x :: r) = dropL c k l ++ x :: r ∧ hadL c k (l ++ x :: r) = hadL c k l ∧ getL c k (l ++ x :: r) = getL c k l ∧ rankL c k (l ++ x :: r) = rankL c k l := by
  obtain ⟨_, _, h3, h4, _⟩ := h.parts
  have hr : ∀ y ∈ r, c k y.1 < 0 := fun y hy => ho.trans _ _ _ hk (h4 y hy)
  have e1 : r.filter (fun y => decide (0 < c k y.1)) = [] := List.filter_eq_nil_iff.2 fun y hy => by have := hr y hy; simp; omega
  have e2 : r.filter (fun y => decide (c k y.1 < 0)) = r := List.filter_eq_self.2 fun y hy => by simpa using hr y hy
  have e3 : r.filter (fun y => !decide (c k y.1 = 0)) = r := List.filter_eq_self.2 fun y hy => by have := hr y hy; simp; omega
  have e4 : hadL c k r = false := by simp only [hadL, List.any_eq_false, decide_eq_true_eq]; intro y hy; have := hr y hy; omega
  have e5 : r.find? (fun y => decide (c k y.1 = 0)) = none := List.find?_eq_none.2 fun y hy => by have := hr y hy; simp; omega
  have e6 : rankL c k r = 0 := List.countP_eq_zero.2 fun y hy => by have := (ho.flip _ _).1 (hr y hy); simp; omega
  have hx := (ho.flip _ _).1 hk
  refine ⟨?_, ?_, ?_, ?_, ?_⟩
  · simp only [putL, List.filter_append, List.filter_cons, e1, e2, decide_eq_true_eq, if_pos hk, if_neg (show ¬ 0 < c k x.1 by omega), List.append_nil, List.append_assoc, List.cons_append]
  · simp only [dropL, List.filter_append, List.filter_cons, e3, Bool.not_eq_true', decide_eq_false_iff_not, if_pos (show ¬ c k x.1 = 0 by omega)]
  · simp only [hadL, List.any_append, List.any_cons] at e4 ⊢; simp [e4]; omega
  · simp only [getL, List.find?_append, List.find?_cons, e5]; simp [show ¬ c k x.1 = 0 by omega]
  · simp only [rankL, List.countP_append, List.countP_cons] at e6 ⊢; rw [e6]; simp; omega
/-- It stands behind. -/
theorem node_gt (ho : Ordr c) {l r : List (α × β)} {x : α × β} {k : α} (h : Rise c (l ++ x :: r)) (hk : 0 < c k x.1) (v : β) :
    putL c k v (l ++ x :: r) = l ++ x :: putL c k v r ∧ dropL c k (l ++ x :: r) = l ++ x :: dropL c k r ∧ hadL c k (l ++ x :: r) = hadL c k r ∧ getL c k (l ++ x :: r) = getL c k r ∧ rankL c k (l ++ x :: r) = l.length + 1 + rankL c k r := by
  obtain ⟨_, _, h3, h4, _⟩ := h.parts
  have hx := (ho.flip _ _).2 hk
  have hl0 : ∀ y ∈ l, c y.1 k < 0 := fun y hy => ho.trans _ _ _ (h3 y hy) hx
  have hl : ∀ y ∈ l, 0 < c k y.1 := fun y hy => (ho.flip _ _).1 (hl0 y hy)
  have e1 : l.filter (fun y => decide (0 < c k y.1)) = l := List.filter_eq_self.2 fun y hy => by simpa using hl y hy
  have e2 : l.filter (fun y => decide (c k y.1 < 0)) = [] := List.filter_eq_nil_iff.2 fun y hy => by have := hl y hy; simp; omega
  have e3 : l.filter (fun y => !decide (c k y.1 = 0)) = l := List.filter_eq_self.2 fun y hy => by have := hl y hy; simp; omega
  have e4 : hadL c k l = false := by simp only [hadL, List.any_eq_false, decide_eq_true_eq]; intro y hy; have := hl y hy; omega
  have e5 : l.find? (fun y => decide (c k y.1 = 0)) = none := List.find?_eq_none.2 fun y hy => by have := hl y hy; simp; omega
  have e6 : rankL c k l = l.length := List.countP_eq_length.2 fun y hy => by simpa using hl0 y hy
  refine ⟨?_, ?_, ?_, ?_, ?_⟩
  · simp only [putL, List.filter_append, List.filter_cons, e1, e2, decide_eq_true_eq, if_pos hk, if_neg (show ¬ c k x.1 < 0 by omega), List.nil_append, List.append_assoc, List.cons_append]
  · simp only [dropL, List.filter_append, List.filter_cons, e3, Bool.not_eq_true', decide_eq_false_iff_not, if_pos (show ¬ c k x.1 = 0 by omega)]
  · simp only [hadL, List.any_append, List.any_cons] at e4 ⊢; simp [e4]; omega
  · simp only [getL, List.find?_append, List.find?_cons, e5]; simp [show ¬ c k x.1 = 0 by omega]
  · simp only [rankL, List.countP_append, List.countP_cons] at e6 ⊢; rw [e6]; simp [hx]; omega
/-- It is the node's. -/
theorem node_eq (ho : Ordr c) {l r : List (α × β)} {x : α × β} {k : α} (h : Rise c (l ++ x :: r)) (hk : c k x.1 = 0) (v : β) :
    putL c k v (l ++ x :: r) = l ++ (k, v) :: r ∧ dropL c k (l ++ x :: r) = l ++ r ∧ hadL c k (l ++ x :: r) = true ∧ getL c k (l ++ x :: r) = some x.2 ∧ rankL c k (l ++ x :: r) = l.length := by
  obtain ⟨_, _, h3, h4, _⟩ := h.parts
  have hkx := (ho.eq _ _).1 hk
  have hl0 : ∀ y ∈ l, c y.1 k < 0 := fun y hy => by rw [hkx]; exact h3 y hy
  have hl : ∀ y ∈ l, 0 < c k y.1 := fun y hy => (ho.flip _ _).1 (hl0 y hy)
  have hr : ∀ y ∈ r, c k y.1 < 0 := fun y hy => by rw [hkx]; exact h4 y hy
  have e1 : l.filter (fun y => decide (0 < c k y.1)) = l := List.filter_eq_self.2 fun y hy => by simpa using hl y hy
  have e2 : l.filter (fun y => decide (c k y.1 < 0)) = [] := List.filter_eq_nil_iff.2 fun y hy => by have := hl y hy; simp; omega
  have e3 : l.filter (fun y => !decide (c k y.1 = 0)) = l := List.filter_eq_self.2 fun y hy => by have := hl y hy; simp; omega
  have e5 : l.find? (fun y => decide (c k y.1 = 0)) = none := List.find?_eq_none.2 fun y hy => by have := hl y hy; simp; omega
  have e6 : rankL c k l = l.length := List.countP_eq_length.2 fun y hy => by simpa using hl0 y hy
  have d1 : r.filter (fun y => decide (0 < c k y.1)) = [] := List.filter_eq_nil_iff.2 fun y hy => by have := hr y hy; simp; omega
  have d2 : r.filter (fun y => decide (c k y.1 < 0)) = r := List.filter_eq_self.2 fun y hy => by simpa using hr y hy
  have d3 : r.filter (fun y => !decide (c k y.1 = 0)) = r := List.filter_eq_self.2 fun y hy => by have := hr y hy; simp; omega
  have d6 : rankL c k r = 0 := List.countP_eq_zero.2 fun y hy => by have := (ho.flip _ _).1 (hr y hy); simp; omega
  have hxk : c x.1 k = 0 := (ho.eq _ _).2 hkx.symm
  refine ⟨?_, ?_, ?_, ?_, ?_⟩
  · simp only [putL, List.filter_append, List.filter_cons, e1, e2, d1, d2, hk, decide_eq_true_eq, Int.lt_irrefl, if_false, List.append_nil, List.nil_append]
  · simp only [dropL, List.filter_append, List.filter_cons, e3, d3, hk, decide_true, Bool.not_true, Bool.false_eq_true, if_false]
  · simp [hadL, hk]
  · simp [getL, List.find?_append, e5, hk]
  · simp only [rankL, List.countP_append, List.countP_cons] at e6 d6 ⊢; rw [e6, d6]; simp [hxk]

/-- The node isn't ahead. -/
theorem node_ge (ho : Ordr c) {l r : List (α × β)} {x : α × β} {k : α} (h : Rise c (l ++ x :: r)) (hk : ¬ c x.1 k < 0) : rankL c k (l ++ x :: r) = rankL c k l := by
  obtain ⟨_, _, _, h4, _⟩ := h.parts
  have d6 : rankL c k r = 0 := List.countP_eq_zero.2 fun y hy => by
    have := h4 y hy
    simp only [decide_eq_true_eq]
    exact fun e => hk (ho.trans _ _ _ this e)
  simp only [rankL, List.countP_append, List.countP_cons] at d6 ⊢
  rw [d6]
  simp [hk]
theorem rank_le (k : α) (l : List (α × β)) : rankL c k l ≤ l.length := List.countP_le_length ..
/-- The entry of a place. -/
def atL (l : List (α × β)) (i : Int) : Option (α × β) := if 0 ≤ i then l[i.toNat]? else none
theorem atL_nil (i : Int) : atL ([] : List (α × β)) i = none := by simp [atL]
theorem atL_lt {l r : List (α × β)} {x : α × β} {i : Int} (h : i < l.length) : atL (l ++ x :: r) i = atL l i := by
  unfold atL
  split
  · rw [List.getElem?_append_left (by omega)]
  · rfl
theorem atL_eq {l r : List (α × β)} {x : α × β} {i : Int} (h : i = l.length) : atL (l ++ x :: r) i = some x := by
  subst h
  simp [atL]
theorem atL_gt {l r : List (α × β)} {x : α × β} {i : Int} (h : (l.length : Int) < i) : atL (l ++ x :: r) i = atL r (i - (l.length + 1)) := by
  unfold atL
  rw [if_pos (by omega), if_pos (by omega), List.getElem?_append_right (by omega), show i.toNat - l.length = (i - (l.length + 1)).toNat + 1 by omega, List.getElem?_cons_succ]
/-- Those that aren't ahead. -/
def behindL (p : α → Bool) (l : List (α × β)) : List (α × β) := l.filter fun x => !p x.1
theorem behind_skip {p : α → Bool} (hp : ∀ a b, c a b < 0 → p b = true → p a = true) {l r : List (α × β)} {x : α × β} (h : Rise c (l ++ x :: r)) (hx : p x.1 = true) : behindL p (l ++ x :: r) = behindL p r := by
  obtain ⟨_, _, h3, _, _⟩ := h.parts
  have e : l.filter (fun y => !p y.1) = [] := List.filter_eq_nil_iff.2 fun y hy => by simp [hp _ _ (h3 y hy) hx]
  simp [behindL, List.filter_append, e, hx]
theorem behind_go {p : α → Bool} {l r : List (α × β)} {x : α × β} (hx : p x.1 = false) : behindL p (l ++ x :: r) = behindL p l ++ x :: behindL p r := by
  simp [behindL, List.filter_append, hx]
theorem behind_all (l : List (α × β)) : behindL (fun _ => false) l = l := by simp [behindL]
/-- A part of a list, from a place on. -/
def Part {γ : Type} (xs : List γ) (i : Nat) (m : List γ) : Prop := ∃ rest, xs.drop i = m ++ rest
theorem Part.left {γ : Type} {xs m n : List γ} {i : Nat} (h : Part xs i (m ++ n)) : Part xs i m := by obtain ⟨r, h⟩ := h; exact ⟨n ++ r, by rw [h, List.append_assoc]⟩
theorem Part.right {γ : Type} {xs m n : List γ} {i : Nat} (h : Part xs i (m ++ n)) : Part xs (i + m.length) n := by
  obtain ⟨r, h⟩ := h
  exact ⟨r, by rw [← List.drop_drop, h, List.append_assoc, List.drop_left]⟩
theorem Part.head {γ : Type} {xs n : List γ} {x : γ} {i : Nat} (h : Part xs i (x :: n)) : ∃ hi : i < xs.length, xs[i] = x := by
  obtain ⟨r, h⟩ := h
  have hi : i < xs.length := by
    apply Nat.lt_of_not_le
    intro hle
    rw [List.drop_eq_nil_of_le hle] at h
    simp at h
  rw [List.drop_eq_getElem_cons hi] at h
  exact ⟨hi, by simpa using (List.cons.inj h).1⟩
theorem Part.tail {γ : Type} {xs n : List γ} {x : γ} {i : Nat} (h : Part xs i (x :: n)) : Part xs (i + 1) n := Part.right (m := [x]) h
theorem Part.whole {γ : Type} (xs : List γ) : Part xs 0 xs := ⟨[], by simp⟩
theorem putL_nil (k : α) (v : β) : putL c k v [] = [(k, v)] := rfl
theorem rise_filter {l : List (α × β)} (h : Rise c l) (p : α × β → Bool) : Rise c (l.filter p) := List.Pairwise.filter p h
theorem putL_rise (ho : Ordr c) {l : List (α × β)} (h : Rise c l) (k : α) (v : β) : Rise c (putL c k v l) := by
  refine List.pairwise_append.2 ⟨rise_filter h _, List.pairwise_cons.2 ⟨fun y hy => ?_, rise_filter h _⟩, fun y hy z hz => ?_⟩
  · simpa using (List.mem_filter.1 hy).2
  · have h1 : c y.1 k < 0 := (ho.flip _ _).2 (by simpa using (List.mem_filter.1 hy).2)
    rcases List.mem_cons.1 hz with rfl | hz
    · exact h1
    · exact ho.trans _ _ _ h1 (by simpa using (List.mem_filter.1 hz).2)
theorem dropL_rise {l : List (α × β)} (h : Rise c l) (k : α) : Rise c (dropL c k l) := rise_filter h _
theorem putL_len (ho : Ordr c) {k : α} (v : β) : ∀ {l : List (α × β)}, Rise c l → (putL c k v l).length + (if hadL c k l then 1 else 0) = l.length + 1 := by
  intro l hl
  have hc : l.countP (fun x => decide (c k x.1 = 0)) = if hadL c k l then 1 else 0 := by
    induction l with
    | nil => rfl
    | cons x xs ih =>
      obtain ⟨h1, h2⟩ := List.pairwise_cons.1 hl
      by_cases hx : c k x.1 = 0
      · have hn : ∀ y ∈ xs, ¬ c k y.1 = 0 := fun y hy e => by
          have := h1 y hy
          rw [← (ho.eq _ _).1 hx] at this
          omega
        have : xs.countP (fun x => decide (c k x.1 = 0)) = 0 := List.countP_eq_zero.2 fun y hy => by simpa using hn y hy
        simp [hx, this, hadL]
      · have := ih h2
        simp only [hadL] at this ⊢
        rw [List.countP_cons, this]
        simp only [List.any_cons, decide_eq_false hx, Bool.false_or, Bool.false_eq_true, if_false]
        rfl
  have hs : ∀ l : List (α × β), (l.filter (fun x => decide (0 < c k x.1))).length + (l.filter (fun x => decide (c k x.1 < 0))).length + l.countP (fun x => decide (c k x.1 = 0)) = l.length := by
    intro l
    induction l with
    | nil => rfl
    | cons x xs ih =>
      rcases Int.lt_trichotomy (c k x.1) 0 with h | h | h
      · simp [h, show ¬ 0 < c k x.1 by omega, show ¬ c k x.1 = 0 by omega]; omega
      · simp [h]; omega
      · simp [h, show ¬ c k x.1 < 0 by omega, show ¬ c k x.1 = 0 by omega]; omega
  have := hs l
  simp only [putL, List.length_append, List.length_cons]
  omega
theorem putL_le (ho : Ordr c) {k : α} (v : β) {l : List (α × β)} (h : Rise c l) : (putL c k v l).length ≤ l.length + 1 := by have := putL_len ho (k := k) v h; omega
theorem dropL_le (k : α) (l : List (α × β)) : (dropL c k l).length ≤ l.length := List.length_filter_le _ _
end order
end Go.Proofs.Ytadeechoknpjhaa

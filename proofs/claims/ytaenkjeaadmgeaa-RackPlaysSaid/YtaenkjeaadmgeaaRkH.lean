/- RackHigh: rising or falling keys. -/
import Derived.Test.YtaenkjeaadmgeaaProg
import Derived.Test.YtaenkjeaadmgeaaBase
import Derived.Test.YtaenkjeaadmgeaaRkCmp
import Derived.Test.YtaenkjeaadmgeaaRkKeys
import Derived.Test.YtaenkjeaadmgeaaRkN
import Derived.Test.YtaenkjeaadmgeaaRkIID
import Derived.Test.YtaenkjeaadmgeaaRkIIE
namespace Go.Proofs.Ytaenkjeaadmgeaa
open Go.RowKit Go.Shelf
attribute [local go_sem] Oper.semAt_some

/-! ### How high -/
def digN (n : Nat) : Nat := if h : n = 0 then 0 else 1 + digN (n / 2)
termination_by n
decreasing_by omega
theorem digN_zero : digN 0 = 0 := by rw [digN]; rfl
theorem digN_pos {n : Nat} (h : 0 < n) : digN n = 1 + digN (n / 2) := by rw [digN, dif_neg (by omega)]
theorem digN_le : ∀ n, digN n ≤ n := fun n => by
  induction n using Nat.strongRecOn with
  | _ n ih =>
    by_cases h : n = 0
    · subst h; rw [digN_zero]; exact Nat.le_refl _
    · rw [digN_pos (by omega)]; have := ih (n / 2) (by omega); omega
theorem digN_mono : ∀ {a b : Nat}, a ≤ b → digN a ≤ digN b := fun {a b} => by
  induction a using Nat.strongRecOn generalizing b with
  | _ a ih =>
    intro h
    by_cases ha : a = 0
    · subst ha; rw [digN_zero]; exact Nat.zero_le _
    · rw [digN_pos (n := a) (by omega), digN_pos (n := b) (by omega)]
      have := ih (a / 2) (by omega) (b := b / 2) (by omega)
      omega
theorem digN_four {n : Nat} (h : 0 < n) : digN (4 * n) = 2 + digN n := by
  rw [digN_pos (by omega), show 4 * n / 2 = 2 * n by omega, digN_pos (by omega), show 2 * n / 2 = n by omega]
  omega
/-- The fewest entries of a tree so high, and one. -/
def leastN : Nat → Nat
  | 0 => 1
  | 1 => 2
  | n + 2 => leastN (n + 1) + leastN n
theorem leastN_pos : ∀ n, 0 < leastN n
  | 0 => by decide
  | 1 => by decide
  | n + 2 => by have := leastN_pos (n + 1); simp only [leastN]; omega
theorem leastN_le : ∀ n, leastN n ≤ leastN (n + 1)
  | 0 => by decide
  | n + 1 => by have := leastN_pos (n); show leastN (n + 1) ≤ leastN (n + 1) + leastN n; omega
theorem leastN_mono {a b : Nat} (h : a ≤ b) : leastN a ≤ leastN b := by
  induction h with
  | refl => exact Nat.le_refl _
  | step _ ih => exact Nat.le_trans ih (leastN_le _)
theorem leastN_half : ∀ n, 3 * leastN (n + 1) ≤ 2 * leastN (n + 2)
  | 0 => by decide
  | n + 1 => by
    show 3 * (leastN (n + 1) + leastN n) ≤ 2 * ((leastN (n + 1) + leastN n) + leastN (n + 1))
    cases n with
    | zero => simp only [leastN]; omega
    | succ n => have := leastN_le n; show 3 * (leastN (n + 2) + leastN (n + 1)) ≤ 2 * ((leastN (n + 2) + leastN (n + 1)) + leastN (n + 2)); simp only [leastN]; omega
theorem leastN_four (n : Nat) : 4 * leastN (n + 1) ≤ leastN (n + 4) := by
  have h := leastN_half n
  have : leastN (n + 4) = leastN (n + 2) + leastN (n + 1) + leastN (n + 2) := rfl
  omega
theorem leastN_dig : ∀ n, 2 * n ≤ 3 * digN (leastN n) + 2
  | 0 => by omega
  | 1 => by omega
  | 2 => by have : digN (leastN 2) = 2 := by simp [leastN, digN_pos, digN_zero]
            omega
  | 3 => by have : digN (leastN 3) = 3 := by simp [leastN, digN_pos, digN_zero]
            omega
  | n + 4 => by
    have h1 := leastN_dig (n + 1)
    have h2 := digN_mono (leastN_four n)
    rw [digN_four (leastN_pos _)] at h2
    omega
theorem bal_least {α β : Type} : ∀ t : Tr α β, t.bal → leastN t.high ≤ t.many + 1
  | .nil, _ => by simp [Tr.high, Tr.many, leastN]
  | .node _ _ _ l r, ⟨h1, h2, h3, h4⟩ => by
    have i1 := bal_least l h1
    have i2 := bal_least r h2
    simp only [Tr.high, Tr.many]
    rcases Nat.lt_trichotomy l.high r.high with h | h | h
    · rw [show 1 + max l.high r.high = l.high + 2 by omega]
      rw [show r.high = l.high + 1 by omega] at i2
      simp only [leastN]; omega
    · rw [show 1 + max l.high r.high = r.high + 1 by omega]
      cases hr : r.high with
      | zero => simp only [leastN]; omega
      | succ m =>
        rw [h] at i1
        rw [hr] at i1 i2
        have := leastN_le m
        show leastN (m + 1) + leastN m ≤ _
        omega
    · rw [show 1 + max l.high r.high = r.high + 2 by omega]
      rw [show l.high = r.high + 1 by omega] at i1
      simp only [leastN]; omega
theorem bal_high {α β : Type} {t : Tr α β} (h : t.bal) : 2 * t.high ≤ 3 * digN (t.many + 1) + 2 :=
  Nat.le_trans (leastN_dig _) (by have := digN_mono (bal_least t h); omega)

set_option maxHeartbeats 1000000 in
theorem digits_c {n : Nat} {m : Nat} {w : World} (hm : m ≤ 9223372036854775807) : CallsIn Fence.wide n Try.prog 20 #[.int .i64 m] w fun e w' => e = .returned (.int .i64 (digN m : Nat)) ∧ w' = w := by
  refine callsIn_any (n := 0) (callsIn_of_wp Try.func20 rfl trivial ?_)
  simp only [Try.ntmps20, List.size_toArray, List.length_cons, List.length_nil, Nat.reduceAdd, Nat.reduceSub, Array.replicate_succ, Array.replicate_zero, List.push_toArray, List.append_toArray, List.nil_append, List.cons_append]
  gi_wp2
  gi_loopw [0, 3] (fun u v wr => ∃ a d : Nat, u = .int .i64 a ∧ v = .int .i64 d ∧ d + digN a = digN m ∧ a ≤ m ∧ wr = w) (fun u v _ => (intOf u).toNat)
  case atStart => exact ⟨m, 0, rfl, rfl, by omega, Nat.le_refl _, rfl⟩
  case round =>
    obtain ⟨a, d, rfl, rfl, hd, ha, hwr⟩ := hrel
    subst hwr
    have hdm := digN_le m
    by_cases h0 : 0 < a
    · rw [digN_pos h0] at hd
      have hw1 : IntKind.i64.wrap ((d : Int) + 1) = (d : Int) + 1 := Go.IntWalk.i64_in _ ⟨by omega, by omega⟩
      have hq2 : a / 2 < a := by omega
      obtain ⟨q, hq⟩ : ∃ q, q = a / 2 := ⟨_, rfl⟩
      rw [← hq] at hd hq2
      have hw2 : (a : Int).tdiv 2 = (q : Int) := by rw [Int.tdiv_eq_ediv_of_nonneg (by omega)]; omega
      have hw3 : (a : Int) / 2 = (q : Int) := by omega
      have hw4 : IntKind.i64.wrap (q : Int) = (q : Int) := Go.IntWalk.i64_in _ ⟨by omega, by omega⟩
      clear hq
      replace hd := Lib.hid hd
      gi_wp2
      exact ⟨⟨q, d + 1, by go_num, by go_num, by have := hd.out; omega, by omega, trivial⟩, by simp [intOf]; omega⟩
    · obtain rfl : a = 0 := by omega
      rw [digN_zero] at hd
      replace hd := Lib.hid hd
      gi_wp2
      go_ret
      exact ⟨by rw [← hd.out]; simp, rfl⟩

/-! ### What is put and dropped -/
section keys
variable {α β : Type} {c : α → α → Int}
theorem hadL_iff (ho : Ordr c) {x : α} {l : List (α × β)} : hadL c x l = true ↔ ∃ y ∈ l, y.1 = x := by
  simp only [hadL, List.any_eq_true, decide_eq_true_eq]
  exact ⟨fun ⟨y, h1, h2⟩ => ⟨y, h1, ((ho.eq _ _).1 h2).symm⟩, fun ⟨y, h1, h2⟩ => ⟨y, h1, (ho.eq _ _).2 h2.symm⟩⟩
theorem hadL_put (ho : Ordr c) {x k : α} {v : β} {l : List (α × β)} : hadL c x (putL c k v l) = true ↔ x = k ∨ hadL c x l = true := by
  rw [hadL_iff ho, hadL_iff ho]
  constructor
  · rintro ⟨y, hy, rfl⟩
    rcases mem_putL.1 hy with rfl | ⟨h, _⟩
    · exact .inl rfl
    · exact .inr ⟨y, h, rfl⟩
  · rintro (rfl | ⟨y, hy, rfl⟩)
    · exact ⟨_, mem_putL.2 (.inl rfl), rfl⟩
    · by_cases h : c k y.1 = 0
      · exact ⟨_, mem_putL.2 (.inl rfl), (ho.eq _ _).1 h⟩
      · exact ⟨y, mem_putL.2 (.inr ⟨hy, h⟩), rfl⟩
theorem hadL_drop (ho : Ordr c) {x k : α} {l : List (α × β)} : hadL c x (dropL c k l) = true ↔ x ≠ k ∧ hadL c x l = true := by
  rw [hadL_iff ho, hadL_iff ho]
  simp only [dropL, List.mem_filter, Bool.not_eq_true', decide_eq_false_iff_not]
  constructor
  · rintro ⟨y, ⟨h1, h2⟩, rfl⟩
    exact ⟨fun e => h2 ((ho.eq _ _).2 e.symm), y, h1, rfl⟩
  · rintro ⟨h1, y, hy, rfl⟩
    exact ⟨y, ⟨hy, fun e => h1 ((ho.eq _ _).1 e).symm⟩, rfl⟩
theorem dropL_len (ho : Ordr c) {k : α} : ∀ {l : List (α × β)}, Rise c l → (dropL c k l).length + (if hadL c k l then 1 else 0) = l.length
  | [], _ => rfl
  | x :: l, h => by
    obtain ⟨h1, h2⟩ := List.pairwise_cons.1 h
    have ih := dropL_len ho (k := k) h2
    by_cases hx : c k x.1 = 0
    · have hn : hadL c k l = false := by
        simp only [hadL, List.any_eq_false, decide_eq_true_eq]
        intro y hy e
        have := h1 y hy
        rw [← (ho.eq _ _).1 hx] at this
        omega
      have e1 : hadL c k (x :: l) = true := by simp [hadL, hx]
      have e2 : dropL c k (x :: l) = dropL c k l := by simp [dropL, hx]
      rw [hn] at ih
      rw [e1, e2]
      simp only [Bool.false_eq_true, if_false, Nat.add_zero] at ih
      simp [ih]
    · have e1 : hadL c k (x :: l) = hadL c k l := by simp [hadL, hx]
      have e2 : dropL c k (x :: l) = x :: dropL c k l := by simp [dropL, hx]
      rw [e1, e2, List.length_cons, List.length_cons]
      omega
end keys

abbrev RackI (rb : Nat) (t : Tr KII VII) (l : List (KII × VII)) (w : World) : Prop := RackII cmpI (.func 16) #[] #[] rb t l w
theorem cmpII : CmpV Try.prog ekII cmpI (.func 16) #[] #[] := cmpV_int
def hiKey (fall : Bool) (j : Nat) : Int := if fall then -(j : Int) else j
theorem hiKey_inj {fall : Bool} {i j : Nat} (h : hiKey fall i = hiKey fall j) : i = j := by cases fall <;> simp [hiKey] at h <;> omega
/-- The rack has the keys of p, so many. -/
def Hi (fall : Bool) (w : World) (p : Nat → Prop) (m : Nat) (W : World) : Prop :=
  ∃ t l, RackI w.heap.size t l W ∧ (∀ j, t.has j → w.heap.size ≤ j) ∧ l.length = m ∧ m ≤ 255 ∧ (∀ x, hadL cmpI x l = true ↔ ∃ j, p j ∧ x = hiKey fall j) ∧ Upd (fun _ => False) w W
theorem Hi.had {fall : Bool} {p : Nat → Prop} {l : List (KII × VII)} (h : ∀ x, hadL cmpI x l = true ↔ ∃ j, p j ∧ x = hiKey fall j) (k : Nat) : hadL cmpI (hiKey fall k) l = true ↔ p k := by
  rw [h]
  exact ⟨fun ⟨j, h1, h2⟩ => by rw [hiKey_inj h2]; exact h1, fun h => ⟨k, h, rfl⟩⟩
theorem Hi.put {fall : Bool} {w : World} {p : Nat → Prop} {m : Nat} {W : World} (h : Hi fall w p m W) {k : Nat} {v : Int} (hk : ¬ p k) (hm : m < 255) :
    CallsIn Fence.wide 0 Try.prog 17 #[.pointer (some ⟨w.heap.size, 0, none⟩), .int .i64 (hiKey fall k), .int .i64 v] W fun e W2 => (∃ b, e = .returned (.bool b)) ∧ Hi fall w (fun j => p j ∨ j = k) (m + 1) W2 := by
  obtain ⟨t, l, h1, h2, h3, h4, h5, h6⟩ := h
  refine (rackPutII (n := 0) cmpII (k := hiKey fall k) (v := v) h1 (by omega)).mono ?_
  rintro e W2 ⟨rfl, t2, g1, g2, g3⟩
  have hn : hadL cmpI (hiKey fall k) l = false := by
    cases hh : hadL cmpI (hiKey fall k) l with
    | false => rfl
    | true => exact absurd ((Hi.had h5 k).1 hh) hk
  have hlen := putL_len ordrI (k := hiKey fall k) v h1.rise
  rw [hn] at hlen
  refine ⟨⟨_, rfl⟩, t2, _, g1, fun j hj => (g2 j hj).elim (h2 j) (fun h => Nat.le_trans h6.size h), by simp at hlen; omega, by omega, fun x => ?_, h6.trans g3 fun j hj => .inr (hj.elim (fun e => by omega) (h2 j))⟩
  rw [hadL_put ordrI, h5]
  constructor
  · rintro (rfl | ⟨j, hj, rfl⟩)
    · exact ⟨k, .inr rfl, rfl⟩
    · exact ⟨j, .inl hj, rfl⟩
  · rintro ⟨j, hj | rfl, rfl⟩
    · exact .inr ⟨j, hj, rfl⟩
    · exact .inl rfl
theorem Hi.drop {fall : Bool} {w : World} {p : Nat → Prop} {m : Nat} {W : World} (h : Hi fall w p m W) {k : Nat} :
    CallsIn Fence.wide 0 Try.prog 18 #[.pointer (some ⟨w.heap.size, 0, none⟩), .int .i64 (hiKey fall k)] W fun e W2 => ∃ b : Bool, e = .returned (.bool b) ∧ (b = true ↔ p k) ∧ Hi fall w (fun j => p j ∧ j ≠ k) (m - (if b then 1 else 0)) W2 ∧ (b = true → 0 < m) := by
  obtain ⟨t, l, h1, h2, h3, h4, h5, h6⟩ := h
  refine (rackDropII (n := 0) cmpII (k := hiKey fall k) h1 (by omega)).mono ?_
  rintro e W2 ⟨rfl, t2, g1, g2, g3⟩
  have hlen := dropL_len ordrI (k := hiKey fall k) h1.rise
  refine ⟨_, rfl, Hi.had h5 k, ⟨t2, _, g1, fun j hj => (g2 j hj).elim (h2 j) (fun h => Nat.le_trans h6.size h), by omega, by omega, fun x => ?_, h6.trans g3 fun j hj => .inr (hj.elim (fun e => by omega) (h2 j))⟩, fun hb => ?_⟩
  · rw [hadL_drop ordrI, h5]
    constructor
    · rintro ⟨h, j, hj, rfl⟩
      exact ⟨j, ⟨hj, fun e => h (by rw [e])⟩, rfl⟩
    · rintro ⟨j, ⟨hj, hne⟩, rfl⟩
      exact ⟨fun e => hne (hiKey_inj e), j, hj, rfl⟩
  · rw [hb] at hlen
    simp only [if_true] at hlen
    omega
theorem Hi.congr {fall : Bool} {w : World} {p q : Nat → Prop} {m : Nat} {W : World} (h : Hi fall w p m W) (hpq : ∀ j, p j ↔ q j) : Hi fall w q m W := by
  have : p = q := funext fun j => propext (hpq j)
  rwa [this] at h
theorem Hi.le {fall : Bool} {w : World} {p : Nat → Prop} {m : Nat} {W : World} (h : Hi fall w p m W) : m ≤ 255 := by
  obtain ⟨t, l, h1, h2, h3, h4, h5, h6⟩ := h
  exact h4
theorem Hi.height {fall : Bool} {w : World} {p : Nat → Prop} {m : Nat} {W : World} (h : Hi fall w p m W) :
    ∃ hh : Nat, hh ≤ 255 ∧ 2 * hh ≤ 3 * digN (m + 1) + 2 ∧ CallsIn Fence.wide 0 Try.prog 19 #[.pointer (some ⟨w.heap.size, 0, none⟩)] W fun e W2 => e = .returned (.int .i64 hh) ∧ W2 = W := by
  obtain ⟨t, l, h1, h2, h3, h4, h5, h6⟩ := h
  have hm := h1.many
  refine ⟨t.high, by have := Tr.high_le t; omega, ?_, rackHeightII h1⟩
  have := bal_high h1.bal
  rwa [hm, h3] at this
theorem Hi.len {fall : Bool} {w : World} {p : Nat → Prop} {m : Nat} {W : World} (h : Hi fall w p m W) : CallsIn Fence.wide 0 Try.prog 21 #[.pointer (some ⟨w.heap.size, 0, none⟩)] W fun e W2 => e = .returned (.int .i64 m) ∧ Upd (fun _ => False) w W2 := by
  obtain ⟨t, l, h1, h2, h3, h4, h5, h6⟩ := h
  refine (rackLenII (n := 0) h1).mono ?_
  rintro e W2 ⟨rfl, rfl⟩
  exact ⟨by rw [h3], h6⟩
end Go.Proofs.Ytaenkjeaadmgeaa

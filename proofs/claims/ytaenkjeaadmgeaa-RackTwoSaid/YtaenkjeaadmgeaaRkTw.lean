/- RackTwo: what two racks have, put into a third one. -/
import Derived.Test.YtaenkjeaadmgeaaProg
import Derived.Test.YtaenkjeaadmgeaaBase
import Derived.Test.YtaenkjeaadmgeaaRkT3
import Derived.Test.YtaenkjeaadmgeaaRkH
import Derived.Test.YtaenkjeaadmgeaaRkRef2
namespace Go.Proofs.Ytaenkjeaadmgeaa
open Go.RowKit Go.Shelf
attribute [local go_sem] Oper.semAt_some

abbrev oneF (_ : ByteArray) : Int := 1
/-- A key of one is dropped, if the other one hasn't it. -/
def stepD (ly l : List Ent) (x : ByteArray) : List Ent := if hadL cmpS x ly then l else dropL cmpS x l
theorem stepD_rise (ly : List Ent) : ∀ (L : List ByteArray) {l : List Ent}, Rise cmpS l → Rise cmpS (L.foldl (stepD ly) l)
  | [], _, h => h
  | x :: L, l, h => by
    refine stepD_rise ly L ?_
    unfold stepD
    split
    · exact h
    · exact dropL_rise h x
theorem stepD_len (ly : List Ent) : ∀ (L : List ByteArray) (l : List Ent), (L.foldl (stepD ly) l).length ≤ l.length
  | [], _ => Nat.le_refl _
  | x :: L, l => by
    refine Nat.le_trans (stepD_len ly L _) ?_
    unfold stepD
    split
    · exact Nat.le_refl _
    · exact dropL_le x l
theorem stepD_mem (ly : List Ent) : ∀ (L : List ByteArray) (l : List Ent) (y : Ent), y ∈ L.foldl (stepD ly) l ↔ y ∈ l ∧ (y.1 ∈ L → hadL cmpS y.1 ly = true)
  | [], l, y => by simp
  | x :: L, l, y => by
    rw [List.foldl_cons, stepD_mem ly L]
    unfold stepD
    by_cases hx : hadL cmpS x ly = true
    · rw [if_pos hx]
      constructor
      · rintro ⟨h1, h2⟩
        refine ⟨h1, fun h => ?_⟩
        rcases List.mem_cons.1 h with rfl | h
        · exact hx
        · exact h2 h
      · rintro ⟨h1, h2⟩
        exact ⟨h1, fun h => h2 (List.mem_cons_of_mem _ h)⟩
    · rw [if_neg hx]
      simp only [dropL, List.mem_filter, Bool.not_eq_true', decide_eq_false_iff_not, ordrS.eq]
      constructor
      · rintro ⟨⟨h1, h2⟩, h3⟩
        refine ⟨h1, fun h => ?_⟩
        rcases List.mem_cons.1 h with e | h
        · exact absurd e.symm h2
        · exact h3 h
      · rintro ⟨h1, h2⟩
        exact ⟨⟨h1, fun e => hx (by rw [e]; exact h2 (by rw [e]; exact List.mem_cons_self ..))⟩, fun h => h2 (List.mem_cons_of_mem _ h)⟩
/-- What is left are the other one's. -/
theorem two_left (a b : List ByteArray) : a.foldl (stepD (keysF oneF b [])) (keysF oneF (a ++ b) []) = keysF oneF b [] := by
  refine rise_ext ordrS (stepD_rise _ a (keysF_rise _ _ List.Pairwise.nil)) (keysF_rise _ _ List.Pairwise.nil) fun y => ?_
  rw [stepD_mem, keysF_mem _ _ (by simp), keysF_mem _ _ (by simp)]
  simp only [List.not_mem_nil, false_or, List.mem_append]
  have hh : hadL cmpS y.1 (keysF oneF b []) = true ↔ y.1 ∈ b := by
    rw [hadL_iff ordrS]
    constructor
    · rintro ⟨z, hz, e⟩
      rw [keysF_mem _ _ (by simp)] at hz
      simp only [List.not_mem_nil, false_or] at hz
      obtain ⟨x, hx, rfl⟩ := hz
      rw [← e]; exact hx
    · intro h
      exact ⟨(y.1, 1), (keysF_mem _ _ (by simp) _).2 (.inr ⟨y.1, h, rfl⟩), rfl⟩
  rw [hh]
  constructor
  · rintro ⟨⟨x, hx, rfl⟩, h2⟩
    rcases hx with hx | hx
    · exact ⟨x, h2 hx, rfl⟩
    · exact ⟨x, hx, rfl⟩
  · rintro ⟨x, hx, rfl⟩
    exact ⟨⟨x, .inr hx, rfl⟩, fun _ => hx⟩

/-- The first loop's state, k keys having been put. -/
def Two1 (w : World) (p q r na : Nat) (K : List ByteArray) (AK : Option Addr) (k : Nat) (v8 : Value) (W : World) : Prop :=
  ∃ F A cap, T3 w p q r (keysF oneF (K.take (min k na)) []) (keysF oneF ((K.take k).drop na) []) (keysF oneF (K.take k) []) F W ∧ v8 = .slice A (keysF oneF (K.take k) []).length cap ∧ (keysF oneF (K.take k) []).length ≤ cap ∧
    Reads1 W A (flat (keysF oneF (K.take k) [])) ∧ (∀ j, blkOf' A (flat (keysF oneF (K.take k) [])).length j → ¬ F j) ∧ Reads1 W AK (K.map Value.string) ∧ (∀ j, blkOf' AK (K.map Value.string).length j → ¬ F j)
theorem Two1.base {w : World} {p q r na : Nat} {K : List ByteArray} {AK : Option Addr} {k : Nat} {v8 : Value} {W : World} (h : Two1 w p q r na K AK k v8 W) : Upd (fun _ => False) w W := by
  obtain ⟨F, A, cap, h1, _⟩ := h
  exact h1.base
/-- What a rack's turn leaves of a list. -/
theorem reads_step {w : World} {p q r : Nat} {la lb lc : List Ent} {F F' : Nat → Prop} {W W2 : World} {A : Option Addr} {xs : List Value} (h : T3 w p q r la lb lc F W) (hr : Reads1 W A xs) (hd : ∀ j, blkOf' A xs.length j → ¬ F j) (hF : ∀ j, F' j → F j ∨ W.heap.size ≤ j) (hu : Upd F W W2) :
    Reads1 W2 A xs ∧ ∀ j, blkOf' A xs.length j → ¬ F' j :=
  ⟨hr.agree' (hu.agree fun j hj => ⟨hr.lt' j hj, hd j hj⟩), fun j hj hh => (hF j hh).elim (hd j hj) (fun h => by have := hr.lt' j hj; omega)⟩
theorem keysF_take_len (K : List ByteArray) (k : Nat) : (keysF oneF (K.take k) []).length ≤ K.length := by
  have := keysF_len oneF (K.take k) (l := []) List.Pairwise.nil
  simp at this; omega
theorem keysF_keys (K : List ByteArray) (e : Ent) (h : e ∈ keysF oneF K []) : e.1 ∈ K := by
  rw [keysF_mem _ _ (by simp)] at h
  simp only [List.not_mem_nil, false_or] at h
  obtain ⟨x, hx, rfl⟩ := h
  exact hx

theorem Two1.round {w : World} {p q r na : Nat} {K : List ByteArray} {AK : Option Addr} {k : Nat} {v8 : Value} {W : World} (h : Two1 w p q r na K AK k v8 W) (hk : k < K.length) (hK : K.length ≤ 1000) (hsz : ∀ x ∈ K.take k, x.size ≤ 100) :
    CallsIn Fence.wide 0 Try.prog 10 #[.pointer (some ⟨if k < na then p else q, 0, none⟩), .string K[k], .int .i64 1] W fun e W2 => (∃ b, e = .returned (.bool b)) ∧
      CallsIn Fence.wide 0 Try.prog 10 #[.pointer (some ⟨r, 0, none⟩), .string K[k], .int .i64 1] W2 fun e W3 => (∃ b, e = .returned (.bool b)) ∧
        CallsIn Fence.wide 0 Try.prog 22 #[v8, .string K[k], .int .i64 1] W3 fun e W4 => ∃ v, e = .returned v ∧ Two1 w p q r na K AK (k + 1) v W4 := by
  obtain ⟨F, A, cap, h1, rfl, hcap, hr, hd, hr2, hd2⟩ := h
  have hlen := keysF_take_len K k
  have etk : K.take (k + 1) = K.take k ++ [K[k]] := List.take_succ_eq_append_getElem hk
  have e3 : keysF oneF (K.take (k + 1)) [] = putL cmpS K[k] 1 (keysF oneF (K.take k) []) := by rw [etk, keysF_snoc]
  have fin : ∀ {la lb : List Ent} {F2 : Nat → Prop} {W2 : World}, la = keysF oneF (K.take (min (k + 1) na)) [] → lb = keysF oneF ((K.take (k + 1)).drop na) [] → T3 w p q r la lb (keysF oneF (K.take k) []) F2 W2 → (∀ j, F2 j → F j ∨ W.heap.size ≤ j) → Upd F W W2 →
      CallsIn Fence.wide 0 Try.prog 10 #[.pointer (some ⟨r, 0, none⟩), .string K[k], .int .i64 1] W2 fun e W3 => (∃ b, e = .returned (.bool b)) ∧
        CallsIn Fence.wide 0 Try.prog 22 #[.slice A (keysF oneF (K.take k) []).length cap, .string K[k], .int .i64 1] W3 fun e W4 => ∃ v, e = .returned v ∧ Two1 w p q r na K AK (k + 1) v W4 := by
    intro la lb F2 W2 ela elb g1 g2 g3
    obtain ⟨r2, d2⟩ := reads_step h1 hr hd g2 g3
    obtain ⟨r3, d3⟩ := reads_step h1 hr2 hd2 g2 g3
    refine (g1.rot.rot.put K[k] 1 (by omega)).mono ?_
    rintro e W3 ⟨hb, F3, g4, g5, g6⟩
    obtain ⟨r4, d4⟩ := reads_step g1.rot.rot r2 d2 g5 g6
    obtain ⟨r5, d5⟩ := reads_step g1.rot.rot r3 d3 g5 g6
    refine ⟨hb, ?_⟩
    refine (put05_c (n := 0) (k := K[k]) (v := 1) r4 hcap g1.rot.rot.rise (by omega) (fun e he => Nat.le_trans (hsz _ (keysF_keys _ _ he)) (by decide))).mono ?_
    rintro e W4 ⟨A', cap', rfl, hc', r6, hb6, u6⟩
    have hlt := g4.lt
    refine ⟨_, rfl, F3, A', cap', ?_, by rw [e3], by rw [e3]; exact hc', by rw [e3]; exact r6, fun j hj hF => ?_, r5.agree' (u6.agree fun j hj => ⟨r5.lt' j hj, id⟩), d5⟩
    · have := (g4.upd u6 fun j hj => hj.elim).rot
      rw [e3, ← ela, ← elb]
      exact this
    · have := hb6 j hj.2
      have := (hlt j hF).1
      omega
  by_cases hka : k < na
  · rw [if_pos hka]
    refine (h1.put K[k] 1 (by have := keysF_take_len K (min k na); omega)).mono ?_
    rintro e W2 ⟨hb, F2, g1, g2, g3⟩
    refine ⟨hb, fin ?_ ?_ g1 g2 g3⟩
    · rw [show min (k + 1) na = k + 1 by omega, show min k na = k by omega, e3]
    · rw [List.drop_eq_nil_of_le (by simp; omega), List.drop_eq_nil_of_le (by simp; omega)]
  · rw [if_neg hka]
    refine (h1.rot.put K[k] 1 ?_).mono ?_
    · have := keysF_len oneF ((K.take k).drop na) (l := []) List.Pairwise.nil
      simp at this; omega
    rintro e W2 ⟨hb, F2, g1, g2, g3⟩
    refine ⟨hb, fin ?_ ?_ g1.rot.rot g2 g3⟩
    · rw [show min (k + 1) na = na by omega, show min k na = na by omega]
    · rw [etk, List.drop_append_of_le_length (by simp; omega), keysF_snoc]
end Go.Proofs.Ytaenkjeaadmgeaa

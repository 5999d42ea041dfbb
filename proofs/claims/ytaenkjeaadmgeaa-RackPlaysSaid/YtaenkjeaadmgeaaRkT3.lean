/- Three racks side by side. -/
import Derived.Test.YtaenkjeaadmgeaaProg
import Derived.Test.YtaenkjeaadmgeaaBase
import Derived.Test.YtaenkjeaadmgeaaRkCmp
import Derived.Test.YtaenkjeaadmgeaaRkKeys
import Derived.Test.YtaenkjeaadmgeaaRkG
import Derived.Test.YtaenkjeaadmgeaaRkPush
import Derived.Test.YtaenkjeaadmgeaaRkN
import Derived.Test.YtaenkjeaadmgeaaRkSID
import Derived.Test.YtaenkjeaadmgeaaRkSIE
import Derived.Test.YtaenkjeaadmgeaaRkSIF
namespace Go.Proofs.Ytaenkjeaadmgeaa
open Go.RowKit Go.Shelf
attribute [local go_sem] Oper.semAt_some

/-- Three racks of the call's own; F: their blocks. -/
def T3 (w : World) (p q r : Nat) (la lb lc : List Ent) (F : Nat → Prop) (W : World) : Prop :=
  ∃ ta tb tc, RackS p ta la W ∧ RackS q tb lb W ∧ RackS r tc lc W ∧ (∀ j, (j = p ∨ ta.has j) → w.heap.size ≤ j ∧ ¬ (j = q ∨ tb.has j) ∧ ¬ (j = r ∨ tc.has j)) ∧ (∀ j, (j = q ∨ tb.has j) → w.heap.size ≤ j ∧ ¬ (j = r ∨ tc.has j)) ∧ (∀ j, (j = r ∨ tc.has j) → w.heap.size ≤ j) ∧
    (∀ j, F j ↔ (j = p ∨ ta.has j) ∨ (j = q ∨ tb.has j) ∨ (j = r ∨ tc.has j)) ∧ Upd (fun _ => False) w W
theorem T3.rot {w : World} {p q r : Nat} {la lb lc : List Ent} {F : Nat → Prop} {W : World} (h : T3 w p q r la lb lc F W) : T3 w q r p lb lc la F W := by
  obtain ⟨ta, tb, tc, h1, h2, h3, h4, h5, h6, h7, h8⟩ := h
  refine ⟨tb, tc, ta, h2, h3, h1, fun j hj => ⟨(h5 j hj).1, (h5 j hj).2, fun hh => (h4 j hh).2.1 hj⟩, fun j hj => ⟨h6 j hj, fun hh => (h4 j hh).2.2 hj⟩, fun j hj => (h4 j hj).1, fun j => ?_, h8⟩
  rw [h7]
  constructor
  · rintro (h | h | h)
    · exact .inr (.inr h)
    · exact .inl h
    · exact .inr (.inl h)
  · rintro (h | h | h)
    · exact .inr (.inl h)
    · exact .inr (.inr h)
    · exact .inl h
theorem T3.upd {w : World} {p q r : Nat} {la lb lc : List Ent} {F : Nat → Prop} {W W2 : World} (h : T3 w p q r la lb lc F W) {M : Nat → Prop} (hu : Upd M W W2) (hM : ∀ j, M j → ¬ F j ∧ w.heap.size ≤ j) : T3 w p q r la lb lc F W2 := by
  obtain ⟨ta, tb, tc, h1, h2, h3, h4, h5, h6, h7, h8⟩ := h
  exact ⟨ta, tb, tc, h1.upd hu fun j hj hm => (hM j hm).1 ((h7 j).2 (.inl hj)), h2.upd hu fun j hj hm => (hM j hm).1 ((h7 j).2 (.inr (.inl hj))), h3.upd hu fun j hj hm => (hM j hm).1 ((h7 j).2 (.inr (.inr hj))), h4, h5, h6, h7, h8.trans hu fun j hj => .inr (hM j hj).2⟩
theorem T3.lt {w : World} {p q r : Nat} {la lb lc : List Ent} {F : Nat → Prop} {W : World} (h : T3 w p q r la lb lc F W) : ∀ j, F j → j < W.heap.size ∧ w.heap.size ≤ j := by
  obtain ⟨ta, tb, tc, h1, h2, h3, h4, h5, h6, h7, h8⟩ := h
  intro j hj
  rcases (h7 j).1 hj with h | h | h
  · exact ⟨h1.lt j h, (h4 j h).1⟩
  · exact ⟨h2.lt j h, (h5 j h).1⟩
  · exact ⟨h3.lt j h, h6 j h⟩
theorem T3.base {w : World} {p q r : Nat} {la lb lc : List Ent} {F : Nat → Prop} {W : World} (h : T3 w p q r la lb lc F W) : Upd (fun _ => False) w W := by
  obtain ⟨ta, tb, tc, h1, h2, h3, h4, h5, h6, h7, h8⟩ := h
  exact h8
theorem T3.rise {w : World} {p q r : Nat} {la lb lc : List Ent} {F : Nat → Prop} {W : World} (h : T3 w p q r la lb lc F W) : Rise cmpS la := by
  obtain ⟨ta, tb, tc, h1, _⟩ := h
  exact h1.rise
/-- The first one turns. -/
theorem T3.step {w : World} {p q r : Nat} {la la' lb lc : List Ent} {F : Nat → Prop} {W : World} (h : T3 w p q r la lb lc F W) {fn : FuncId} {args : Array Value} {R : Ending → Prop}
    (hop : ∀ ta, RackS p ta la W → CallsIn Fence.wide 0 Try.prog fn args W fun e W2 => R e ∧ ∃ t', RackS p t' la' W2 ∧ (∀ j, t'.has j → ta.has j ∨ W.heap.size ≤ j) ∧ Upd (fun j => j = p ∨ ta.has j) W W2) :
    CallsIn Fence.wide 0 Try.prog fn args W fun e W2 => R e ∧ ∃ F', T3 w p q r la' lb lc F' W2 ∧ (∀ j, F' j → F j ∨ W.heap.size ≤ j) ∧ Upd F W W2 := by
  have hz := h.base.size
  obtain ⟨ta, tb, tc, h1, h2, h3, h4, h5, h6, h7, h8⟩ := h
  refine (hop ta h1).mono ?_
  rintro e W2 ⟨hR, t', g1, g2, g3⟩
  have hnew : ∀ j, (j = p ∨ t'.has j) → (j = p ∨ ta.has j) ∨ W.heap.size ≤ j := by
    rintro j (rfl | hj)
    · exact .inl (.inl rfl)
    · exact (g2 j hj).imp .inr id
  have l2 := h2.lt
  have l3 := h3.lt
  refine ⟨hR, fun j => (j = p ∨ t'.has j) ∨ (j = q ∨ tb.has j) ∨ (j = r ∨ tc.has j), ⟨t', tb, tc, g1, h2.upd g3 fun j hj hh => (h4 j hh).2.1 hj, h3.upd g3 fun j hj hh => (h4 j hh).2.2 hj, fun j hj => ?_, h5, h6, fun j => Iff.rfl, h8.trans g3 fun j hj => .inr (h4 j hj).1⟩, ?_, g3.mono fun j _ hj => (h7 j).2 (.inl hj)⟩
  · rcases hnew j hj with h | h
    · exact h4 j h
    · exact ⟨by omega, fun hh => by have := l2 j hh; omega, fun hh => by have := l3 j hh; omega⟩
  · rintro j (hj | hj | hj)
    · exact (hnew j hj).imp (fun h => (h7 j).2 (.inl h)) id
    · exact .inl ((h7 j).2 (.inr (.inl hj)))
    · exact .inl ((h7 j).2 (.inr (.inr hj)))
theorem T3.put {w : World} {p q r : Nat} {la lb lc : List Ent} {F : Nat → Prop} {W : World} (h : T3 w p q r la lb lc F W) (x : ByteArray) (v : Int) (hl : la.length < 100000) :
    CallsIn Fence.wide 0 Try.prog 10 #[.pointer (some ⟨p, 0, none⟩), .string x, .int .i64 v] W fun e W2 => (∃ b, e = .returned (.bool b)) ∧ ∃ F', T3 w p q r (putL cmpS x v la) lb lc F' W2 ∧ (∀ j, F' j → F j ∨ W.heap.size ≤ j) ∧ Upd F W W2 :=
  h.step (R := fun e => ∃ b, e = .returned (.bool b)) fun _ h1 => (rackPutSI (n := 0) cmpSI (k := x) (v := v) h1 hl).mono fun _ _ ⟨h1, h2⟩ => ⟨⟨_, h1⟩, h2⟩
theorem T3.drop {w : World} {p q r : Nat} {la lb lc : List Ent} {F : Nat → Prop} {W : World} (h : T3 w p q r la lb lc F W) (x : ByteArray) (hl : la.length < 100000) :
    CallsIn Fence.wide 0 Try.prog 24 #[.pointer (some ⟨p, 0, none⟩), .string x] W fun e W2 => (e = .returned (.bool (hadL cmpS x la))) ∧ ∃ F', T3 w p q r (dropL cmpS x la) lb lc F' W2 ∧ (∀ j, F' j → F j ∨ W.heap.size ≤ j) ∧ Upd F W W2 :=
  h.step (R := fun e => e = .returned (.bool (hadL cmpS x la))) fun _ h1 => (rackDropSI (n := 0) cmpSI (k := x) h1 hl).mono fun _ _ ⟨h1, h2⟩ => ⟨h1, h2⟩
theorem get_had {α β : Type} {c : α → α → Int} {k : α} {l : List (α × β)} : (getL c k l).isSome = hadL c k l := by
  rw [Bool.eq_iff_iff]
  simp only [getL, hadL, Option.isSome_map, List.find?_isSome, List.any_eq_true]
theorem T3.get {w : World} {p q r : Nat} {la lb lc : List Ent} {F : Nat → Prop} {W : World} (h : T3 w p q r la lb lc F W) (x : ByteArray) :
    CallsIn Fence.wide 0 Try.prog 23 #[.pointer (some ⟨p, 0, none⟩), .string x] W fun e W2 => (∃ v : Int, e = .returned (.tuple #[.int .i64 v, .bool (hadL cmpS x la)])) ∧ T3 w p q r la lb lc F W2 ∧ Upd (fun _ => False) W W2 := by
  have h0 := h
  obtain ⟨ta, tb, tc, h1, _⟩ := h
  refine (rackGetSI (n := 0) h1 cmpSI x).mono ?_
  rintro e W2 ⟨rfl, hu⟩
  exact ⟨⟨_, by rw [get_had]⟩, h0.upd hu fun _ h => h.elim, hu⟩
theorem T3.len {w : World} {p q r : Nat} {la lb lc : List Ent} {F : Nat → Prop} {W : World} (h : T3 w p q r la lb lc F W) :
    CallsIn Fence.wide 0 Try.prog 13 #[.pointer (some ⟨p, 0, none⟩)] W fun e W2 => e = .returned (.int .i64 la.length) ∧ W2 = W := by
  obtain ⟨ta, tb, tc, h1, _⟩ := h
  exact rackLenSI h1
/-- The first one is gone through, and is as a list has it. -/
theorem T3.goes {w : World} {p q r : Nat} {la lb lc : List Ent} {F : Nat → Prop} {W : World} (h : T3 w p q r la lb lc F W) {A : Option Addr} {cap : Nat} {most : Int} (hr : Reads1 W A (flat la)) (hl : la.length ≤ 100000) :
    CallsIn Fence.wide 0 Try.prog 11 #[.pointer (some ⟨p, 0, none⟩)] W fun e W2 => ∃ bv, e = .returned (.func (.func 44) #[] #[.pointer (some ⟨bv, 0, none⟩)]) ∧ Upd (fun _ => False) W W2 ∧
      CallsIn Fence.wide 0 Try.prog 14 #[.func (.func 44) #[] #[.pointer (some ⟨bv, 0, none⟩)], .slice A la.length cap, .int .i64 most] W2 fun e W3 => e = .returned (.bool true) ∧ Upd (fun _ => False) W W3 := by
  obtain ⟨ta, tb, tc, h1, _⟩ := h
  refine rackAllSI.mono ?_
  rintro e W2 ⟨bv, rfl, g1, g2, g3⟩
  refine ⟨bv, rfl, g3, ?_⟩
  have hr2 := hr.agree' (w' := W2) (g3.agree fun k hk => ⟨hr.lt' k hk, id⟩)
  refine (goes_c (allSeqSI (h1.upd g3 fun _ _ => id) g1) rfl hr2 hl).mono ?_
  rintro e V3 ⟨rfl, hu3⟩
  exact ⟨rfl, g3.trans' hu3⟩
end Go.Proofs.Ytaenkjeaadmgeaa

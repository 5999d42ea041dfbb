/- A rack beside the document's list; acts. -/
import Derived.Test.YtaenkjeaadmgeaaProg
import Derived.Test.YtaenkjeaadmgeaaBase
import Derived.Test.YtaenkjeaadmgeaaRkCmp
import Derived.Test.YtaenkjeaadmgeaaRkH
import Derived.Test.YtaenkjeaadmgeaaRkN
import Derived.Test.YtaenkjeaadmgeaaRkSID
import Derived.Test.YtaenkjeaadmgeaaRkSIE
import Derived.Test.YtaenkjeaadmgeaaRkSIF
import Derived.Test.YtaenkjeaadmgeaaRkRef2
import Derived.Test.YtaenkjeaadmgeaaRkT3
namespace Go.Proofs.Ytaenkjeaadmgeaa
open Go.RowKit Go.Shelf
attribute [local go_sem] Oper.semAt_some

structure ActR where
  kind : Int
  key : ByteArray
  val : Int
def encA (a : ActR) : List Value := [.int .i64 a.kind, .string a.key, .int .i64 a.val]
theorem encA_len (a : ActR) : (encA a).length = 3 := rfl
/-- The acts' cells. -/
theorem acts_at {W : World} {A : Option Addr} {L : List ActR} (hr : Reads1 W A (L.flatMap encA)) {k : Nat} (hk : k < L.length) :
    ∃ g o, A = some ⟨g, o, none⟩ ∧ W.cell? ⟨g, o + k * 3, none⟩ = some (.int .i64 L[k].kind) ∧ W.cell? ⟨g, o + k * 3 + 1, none⟩ = some (.string L[k].key) ∧ W.cell? ⟨g, o + k * 3 + 2, none⟩ = some (.int .i64 L[k].val) := by
  have fl : ∀ (L : List ActR) (k : Nat) (h : k < L.length) (q : Nat), q < 3 → (L.flatMap encA)[k * 3 + q]? = (encA L[k])[q]? := by
    intro L
    induction L with
    | nil => intro k h; simp at h
    | cons x L ih =>
      intro k h q hq
      cases k with
      | zero => rw [List.flatMap_cons, Nat.zero_mul, Nat.zero_add, List.getElem?_append_left (by rw [encA_len]; exact hq)]; rfl
      | succ k =>
        rw [List.flatMap_cons, List.getElem?_append_right (by rw [encA_len, Nat.add_mul]; omega), encA_len, show (k + 1) * 3 + q - 3 = k * 3 + q by omega]
        exact ih k (by simpa using h) q hq
  have hl : 0 < (L.flatMap encA).length := by
    cases L with
    | nil => simp at hk
    | cons x L => simp [encA]
  obtain ⟨g, o, rfl, hc⟩ := reads_at hr hl
  refine ⟨g, o, rfl, hc _ _ ((by simpa using fl L k hk 0 (by omega) : (L.flatMap encA)[k * 3]? = (encA L[k])[0]?).trans rfl), ?_, ?_⟩
  · have := hc _ _ (fl L k hk 1 (by omega)); rwa [← Nat.add_assoc] at this
  · have := hc _ _ (fl L k hk 2 (by omega)); rwa [← Nat.add_assoc] at this

def fewB (L : List ActR) : Bool := L.all (fun a => decide (a.key.size ≤ 100)) && decide (L.length ≤ 120)

set_option maxRecDepth 100000 in
set_option maxHeartbeats 1000000 in
theorem few_c {n : Nat} {w : World} {A : Option Addr} {cap : Nat} {L : List ActR} (hr : Reads1 w A (L.flatMap encA)) (hl : L.length ≤ maxLen) : CallsIn Fence.wide n Try.prog 26 #[.slice A L.length cap] w fun e w' => e = .returned (.bool (fewB L)) ∧ Upd (fun _ => False) w w' := by
  unfold maxLen at hl
  refine callsIn_any (n := 0) (callsIn_of_wp Try.func26 rfl trivial ?_)
  simp only [Try.ntmps26, List.size_toArray, List.length_cons, List.length_nil, Nat.reduceAdd, Nat.reduceSub, Array.replicate_succ, Array.replicate_zero, List.push_toArray, List.append_toArray, List.nil_append, List.cons_append]
  gi_wp2
  gi_loopw [7] (fun u wr => ∃ k : Nat, u = .int .i64 k ∧ k ≤ L.length ∧ (∀ a ∈ L.take k, a.key.size ≤ 100) ∧ Upd (fun _ => False) w wr) (fun u _ => L.length - (intOf u).toNat)
  case atStart => exact ⟨0, rfl, Nat.zero_le _, by simp, Upd.refl _ _⟩
  case round =>
    obtain ⟨k, rfl, hk, ha, hu⟩ := hrel
    by_cases hlt : k < L.length
    · obtain ⟨g, o, rfl, c1, c2, c3⟩ := acts_at (hr.agree' (w' := wr) (hu.agree fun j hj => ⟨hr.lt' j hj, id⟩)) hlt
      have hw5 : IntKind.i64.wrap ((k : Int) + 1) = (k : Int) + 1 := Go.IntWalk.i64_in _ ⟨by omega, by omega⟩
      by_cases hbig : (100 : Int) < L[k].key.size
      · have hf : fewB L = false := by
          have : L.all (fun a => decide (a.key.size ≤ 100)) = false := by
            rw [List.all_eq_false]
            exact ⟨L[k], List.getElem_mem _, by simp; omega⟩
          simp [fewB, this]
        replace hf := Lib.hid hf
        replace hu := Lib.hid hu
        clear hr ha
        generalize L[k] = x at *
        gi_wp2_with (first | refine (⟨trivial, rfl, ?_⟩ : Fence.wide.fn _ ∧ Fence.wide.depth = none ∧ _) | refine (⟨trivial, ?_⟩ : Fence.wide.fn _ ∧ _))
        go_ret
        exact ⟨congrArg (fun b => Ending.returned (Value.bool b)) hf.out.symm, hu.out.stepAlloc _⟩
      · have ha2 : ∀ a ∈ L.take (k + 1), a.key.size ≤ 100 := by
          intro x hx
          rw [List.take_succ_eq_append_getElem hlt] at hx
          rcases List.mem_append.1 hx with hx | hx
          · exact ha x hx
          · rw [List.mem_singleton.1 hx]; omega
        replace ha2 := Lib.hid ha2
        replace hu := Lib.hid hu
        clear hr ha
        generalize L[k] = x at *
        gi_wp2_with (first | refine (⟨trivial, rfl, ?_⟩ : Fence.wide.fn _ ∧ Fence.wide.depth = none ∧ _) | refine (⟨trivial, ?_⟩ : Fence.wide.fn _ ∧ _))
        exact ⟨⟨k + 1, by go_num, by omega, ha2.out, hu.out.stepAlloc _⟩, by simp [intOf]; omega⟩
    · obtain rfl : k = L.length := by omega
      rw [List.take_length] at ha
      have hf : fewB L = decide ((L.length : Int) ≤ 120) := by
        have : L.all (fun a => decide (a.key.size ≤ 100)) = true := by simpa using ha
        simp only [fewB, this, Bool.true_and]
        exact decide_eq_decide.2 (by omega)
      replace hf := Lib.hid hf
      replace hu := Lib.hid hu
      clear hr ha
      gi_wp2
      go_ret
      exact ⟨congrArg (fun b => Ending.returned (Value.bool b)) hf.out.symm, hu.out⟩

/-- A rack of the call's own (its list lr, its blocks F) beside a list ls of the document's. -/
structure Pl (w : World) (p : Nat) (lr ls : List Ent) (v : Value) (F : Nat → Prop) (W : World) : Prop where
  rack : ∃ t, RackS p t lr W ∧ ∀ j, F j ↔ (j = p ∨ t.has j)
  list : ∃ A cap, v = .slice A ls.length cap ∧ ls.length ≤ cap ∧ Reads1 W A (flat ls) ∧ ∀ j, blkOf' A (flat ls).length j → ¬ F j
  own : ∀ j, F j → w.heap.size ≤ j
  base : Upd (fun _ => False) w W
  rise : Rise cmpS ls
  size : ∀ e ∈ ls, e.1.size ≤ 100
section Pl
variable {w W W2 : World} {p : Nat} {lr ls : List Ent} {v : Value} {F : Nat → Prop}
theorem Pl.lt (h : Pl w p lr ls v F W) : ∀ j, F j → j < W.heap.size := by
  obtain ⟨t, h1, h2⟩ := h.rack
  exact fun j hj => h1.lt j ((h2 j).1 hj)
theorem Pl.upd (h : Pl w p lr ls v F W) (hu : Upd (fun _ => False) W W2) : Pl w p lr ls v F W2 := by
  obtain ⟨t, h1, h2⟩ := h.rack
  obtain ⟨A, cap, e, hc, hr, hd⟩ := h.list
  exact ⟨⟨t, h1.upd hu fun _ _ => id, h2⟩, ⟨A, cap, e, hc, hr.agree' (hu.agree fun j hj => ⟨hr.lt' j hj, id⟩), hd⟩, h.own, h.base.trans' hu, h.rise, h.size⟩
/-- The rack turns. -/
theorem Pl.step (h : Pl w p lr ls v F W) {lr' : List Ent} {fn : FuncId} {args : Array Value} {R : Ending → Prop}
    (hop : ∀ t, RackS p t lr W → CallsIn Fence.wide 0 Try.prog fn args W fun e W2 => R e ∧ ∃ t', RackS p t' lr' W2 ∧ (∀ j, t'.has j → t.has j ∨ W.heap.size ≤ j) ∧ Upd (fun j => j = p ∨ t.has j) W W2) :
    CallsIn Fence.wide 0 Try.prog fn args W fun e W2 => R e ∧ ∃ F', Pl w p lr' ls v F' W2 ∧ (∀ j, F' j → F j ∨ W.heap.size ≤ j) ∧ Upd F W W2 := by
  have hz := h.base.size
  obtain ⟨t, h1, h2⟩ := h.rack
  obtain ⟨A, cap, e, hc, hr, hd⟩ := h.list
  refine (hop t h1).mono ?_
  rintro e2 W2 ⟨hR, t', g1, g2, g3⟩
  have hu : Upd F W W2 := g3.mono fun j _ hj => (h2 j).2 hj
  have hnew : ∀ j, (j = p ∨ t'.has j) → F j ∨ W.heap.size ≤ j := by
    rintro j (rfl | hj)
    · exact .inl ((h2 _).2 (.inl rfl))
    · exact (g2 j hj).imp (fun h => (h2 j).2 (.inr h)) id
  refine ⟨hR, fun j => j = p ∨ t'.has j, ⟨⟨t', g1, fun _ => Iff.rfl⟩, ⟨A, cap, e, hc, hr.agree' (hu.agree fun j hj => ⟨hr.lt' j hj, hd j hj⟩), fun j hj hF => ?_⟩, fun j hj => ?_, h.base.trans hu fun j hj => .inr (h.own j hj), h.rise, h.size⟩, hnew, hu⟩
  · rcases hnew j hF with h | h
    · exact hd j hj h
    · have := hr.lt' j hj; omega
  · rcases hnew j hj with h' | h'
    · exact h.own j h'
    · omega
theorem Pl.rput (h : Pl w p lr ls v F W) (x : ByteArray) (u : Int) (hl : lr.length < 100000) :
    CallsIn Fence.wide 0 Try.prog 10 #[.pointer (some ⟨p, 0, none⟩), .string x, .int .i64 u] W fun e W2 => e = .returned (.bool (hadL cmpS x lr)) ∧ ∃ F', Pl w p (putL cmpS x u lr) ls v F' W2 ∧ (∀ j, F' j → F j ∨ W.heap.size ≤ j) ∧ Upd F W W2 :=
  h.step (R := fun e => e = .returned (.bool (hadL cmpS x lr))) fun _ h1 => rackPutSI (n := 0) cmpSI (k := x) (v := u) h1 hl
theorem Pl.rdrop (h : Pl w p lr ls v F W) (x : ByteArray) (hl : lr.length < 100000) :
    CallsIn Fence.wide 0 Try.prog 24 #[.pointer (some ⟨p, 0, none⟩), .string x] W fun e W2 => e = .returned (.bool (hadL cmpS x lr)) ∧ ∃ F', Pl w p (dropL cmpS x lr) ls v F' W2 ∧ (∀ j, F' j → F j ∨ W.heap.size ≤ j) ∧ Upd F W W2 :=
  h.step (R := fun e => e = .returned (.bool (hadL cmpS x lr))) fun _ h1 => rackDropSI (n := 0) cmpSI (k := x) h1 hl
theorem Pl.rget (h : Pl w p lr ls v F W) (x : ByteArray) :
    CallsIn Fence.wide 0 Try.prog 23 #[.pointer (some ⟨p, 0, none⟩), .string x] W fun e W2 => e = .returned (.tuple #[.int .i64 ((getL cmpS x lr).getD 0), .bool (hadL cmpS x lr)]) ∧ Upd (fun _ => False) W W2 := by
  obtain ⟨t, h1, h2⟩ := h.rack
  refine (rackGetSI (n := 0) h1 cmpSI x).mono ?_
  rintro e W2 ⟨rfl, hu⟩
  exact ⟨by rw [get_had], hu⟩
theorem Pl.rlen (h : Pl w p lr ls v F W) : CallsIn Fence.wide 0 Try.prog 13 #[.pointer (some ⟨p, 0, none⟩)] W fun e W2 => e = .returned (.int .i64 lr.length) ∧ W2 = W := by
  obtain ⟨t, h1, h2⟩ := h.rack
  exact rackLenSI h1
theorem Pl.rrank (h : Pl w p lr ls v F W) (x : ByteArray) (hl : lr.length < 100000) : CallsIn Fence.wide 0 Try.prog 30 #[.pointer (some ⟨p, 0, none⟩), .string x] W fun e W2 => e = .returned (.int .i64 (rankL cmpS x lr : Nat)) ∧ Upd (fun _ => False) W W2 := by
  obtain ⟨t, h1, h2⟩ := h.rack
  exact rackRankSI h1 cmpSI x hl
theorem Pl.rat (h : Pl w p lr ls v F W) (i : Int) (hl : lr.length < 100000) (hi : i ≤ 9223372036854775807) : CallsIn Fence.wide 0 Try.prog 29 #[.pointer (some ⟨p, 0, none⟩), .int .i64 i] W fun e W2 => e = .returned (.tuple #[.string (((atL lr i).map (·.1)).getD ⟨#[]⟩), .int .i64 (((atL lr i).map (·.2)).getD 0), .bool (atL lr i).isSome]) ∧ Upd (fun _ => False) W W2 := by
  obtain ⟨t, h1, h2⟩ := h.rack
  exact rackAtSI h1 i hl hi
theorem Pl.rheight (h : Pl w p lr ls v F W) : ∃ hh : Nat, hh ≤ lr.length ∧ 2 * hh ≤ 3 * digN (lr.length + 1) + 2 ∧ (hh = 0 ↔ lr.length = 0) ∧ CallsIn Fence.wide 0 Try.prog 28 #[.pointer (some ⟨p, 0, none⟩)] W fun e W2 => e = .returned (.int .i64 hh) ∧ W2 = W := by
  obtain ⟨t, h1, h2⟩ := h.rack
  have hm := h1.many
  refine ⟨t.high, by have := Tr.high_le t; omega, ?_, ?_, rackHeightSI h1⟩
  · have := bal_high h1.bal
    rwa [hm] at this
  · rw [← hm]
    cases t <;> simp [Tr.high, Tr.many] <;> omega
/-- The list turns. -/
theorem Pl.sput (h : Pl w p lr ls v F W) (x : ByteArray) (u : Int) (hl : ls.length ≤ 100000) (hx : x.size ≤ 100) :
    CallsIn Fence.wide 0 Try.prog 22 #[v, .string x, .int .i64 u] W fun e W2 => ∃ v', e = .returned v' ∧ Pl w p lr (putL cmpS x u ls) v' F W2 ∧ Upd (fun _ => False) W W2 := by
  have hlt := h.lt
  have hu0 := h
  obtain ⟨A, cap, rfl, hc, hr, hd⟩ := h.list
  refine (put05_c (n := 0) (k := x) (v := u) hr hc h.rise hl (fun e he => Nat.le_trans (h.size e he) (by decide))).mono ?_
  rintro e W2 ⟨A', cap', rfl, g1, g2, g3, g4⟩
  have h2 := hu0.upd g4
  refine ⟨_, rfl, ⟨h2.rack, ⟨A', cap', rfl, g1, g2, fun j hj hF => by have := hlt j hF; have := g3 j hj.2; omega⟩, h2.own, h2.base, putL_rise ordrS h.rise x u, fun e he => ?_⟩, g4⟩
  rcases mem_putL.1 he with rfl | ⟨he, _⟩
  · exact hx
  · exact h.size e he
theorem Pl.sdrop (h : Pl w p lr ls v F W) (x : ByteArray) (hl : ls.length ≤ 100000) :
    CallsIn Fence.wide 0 Try.prog 27 #[v, .string x] W fun e W2 => ∃ v', e = .returned v' ∧ Pl w p lr (dropL cmpS x ls) v' F W2 ∧ Upd (fun _ => False) W W2 := by
  have hlt := h.lt
  have hu0 := h
  obtain ⟨A, cap, rfl, hc, hr, hd⟩ := h.list
  refine (drop05_c (n := 0) (k := x) hr hc h.rise hl (fun e he => Nat.le_trans (h.size e he) (by decide))).mono ?_
  rintro e W2 ⟨A', cap', rfl, g1, g2, g3, g4⟩
  have h2 := hu0.upd g4
  refine ⟨_, rfl, ⟨h2.rack, ⟨A', cap', rfl, g1, g2, fun j hj hF => ?_⟩, h2.own, h2.base, dropL_rise h.rise x, fun e he => h.size e (List.mem_filter.1 he).1⟩, g4⟩
  rcases g3 j hj.2 with h' | h'
  · exact hd j ⟨by have := hj.1; have := dropL_le (c := cmpS) x ls; rw [flat_len] at *; omega, h'⟩ hF
  · have := hlt j hF; omega
theorem Pl.sfind (h : Pl w p lr ls v F W) (x : ByteArray) (hl : ls.length ≤ 100000) :
    CallsIn Fence.wide 0 Try.prog 31 #[v, .string x] W fun e W2 => e = .returned (.tuple #[.int .i64 (rankL cmpS x ls : Nat), .bool (hadL cmpS x ls)]) ∧ Upd (fun _ => False) W W2 := by
  obtain ⟨A, cap, rfl, hc, hr, hd⟩ := h.list
  exact find_c hr h.rise hl (fun e he => Nat.le_trans (h.size e he) (by decide))
end Pl
theorem Pl.new {w W : World} {p : Nat} (h : RackS p .nil [] W) (hu : Upd (fun _ => False) w W) (hp : w.heap.size ≤ p) : Pl w p [] [] (.slice none 0 0) (fun j => j = p) W :=
  ⟨⟨.nil, h, fun j => by simp [Tr.has]⟩, ⟨none, 0, rfl, Nat.le_refl _, reads_nil, fun j hj => by simp [blkOf', flat] at hj⟩, fun j e => by rw [e]; exact hp, hu, List.Pairwise.nil, by simp⟩
end Go.Proofs.Ytaenkjeaadmgeaa

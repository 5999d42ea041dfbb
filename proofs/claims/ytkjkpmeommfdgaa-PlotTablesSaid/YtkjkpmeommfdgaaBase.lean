/- WORDS OF THIS SEAT, over whatever program: which blocks a step may turn ('Upd'), a call of a function value ('CallV'), an iterator's contract as a fold that may be stopped ('SeqO'). -/
import Derived.RangeFuncNested
import Derived.RangeFuncBound
import Derived.RangeFuncCalls
import Derived.RangeFuncLeaves
import Derived.Shelf.Abstract
import Derived.Shelf.RegionOpen
import Derived.WalkKit
import Derived.OwnWalkIn
import Derived.TacticsInMore
import Derived.LoopNIn
import Derived.LoopIn
import Derived.Lib.Hide
import Derived.StillTailTactics
import Derived.OrdersIn
import Derived.Deep.RegionHeld3
import Derived.Maps.AppendAt
set_option linter.unusedSimpArgs false
set_option linter.unusedVariables false
namespace Go.Proofs.Ytkjkpmeommfdgaa
open Go.RowKit Go.Shelf

/-- Of what lay in w only blocks of M may have turned; new blocks may have come. -/
structure Upd (M : Nat → Prop) (w w' : World) : Prop where
  os : w'.os = w.os
  tape : w'.tape = w.tape
  output : w'.output = w.output
  size : w.heap.size ≤ w'.heap.size
  block : ∀ k, k < w.heap.size → ¬ M k → w'.heap[k]? = w.heap[k]?

/-- The blocks of D read as they did. -/
def Agree (D : Nat → Prop) (w w' : World) : Prop := ∀ k, D k → w'.heap[k]? = w.heap[k]?

theorem Upd.refl (M : Nat → Prop) (w : World) : Upd M w w := ⟨rfl, rfl, rfl, Nat.le_refl _, fun _ _ _ => rfl⟩
theorem Upd.mono {M M' : Nat → Prop} {a b : World} (h : Upd M a b) (hm : ∀ k, k < a.heap.size → M k → M' k) : Upd M' a b :=
  ⟨h.os, h.tape, h.output, h.size, fun k hk hn => h.block k hk (fun hM => hn (hm k hk hM))⟩
theorem Upd.trans {M M' : Nat → Prop} {a b c : World} (h : Upd M a b) (h' : Upd M' b c) (hm : ∀ k, M' k → M k ∨ a.heap.size ≤ k) : Upd M a c :=
  ⟨h'.os.trans h.os, h'.tape.trans h.tape, h'.output.trans h.output, Nat.le_trans h.size h'.size, fun k hk hn =>
    (h'.block k (Nat.lt_of_lt_of_le hk h.size) (fun hM => (hm k hM).elim hn (fun hl => by omega))).trans (h.block k hk hn)⟩
theorem Upd.trans' {M : Nat → Prop} {a b c : World} (h : Upd M a b) (h' : Upd M b c) : Upd M a c := h.trans h' (fun _ hk => .inl hk)
theorem Upd.alloc (M : Nat → Prop) (w : World) (o : Obj) : Upd M w (w.alloc o) :=
  ⟨rfl, rfl, rfl, by simp, fun k hk _ => Below.heap_alloc w o k hk⟩
theorem Upd.drew (M : Nat → Prop) (w : World) : Upd M w w.drew := ⟨rfl, rfl, rfl, Nat.le_refl _, fun _ _ _ => rfl⟩
theorem Upd.setCell {M : Nat → Prop} {w : World} {a : Addr} (h : M a.block) (v : Value) : Upd M w (w.setCell a v) :=
  ⟨rfl, rfl, rfl, by simp, fun k _ hn => Below.heap_setCell w a v k (fun e => hn (e ▸ h))⟩
theorem Upd.putObj {M : Nat → Prop} {w : World} {r : Nat} (h : M r) (o : Obj) : Upd M w (w.putObj r o) :=
  ⟨rfl, rfl, rfl, by simp, fun k _ hn => World.putObj_heap_other (fun e => hn (e ▸ h))⟩
theorem Upd.of_below {B : Nat} {w w' : World} (h : Below B w w') : Upd (fun k => B ≤ k) w w' :=
  ⟨h.os, h.tape, h.output, h.size, fun k _ hn => h.block k (by omega)⟩
theorem Upd.below {M : Nat → Prop} {B : Nat} {w w' : World} (h : Upd M w w') (hB : B ≤ w.heap.size) (hm : ∀ k, M k → B ≤ k) : Below B w w' :=
  ⟨h.os, h.tape, h.output, h.size, fun k hk => h.block k (by omega) (fun hM => by have := hm k hM; omega)⟩
theorem Upd.agree {M D : Nat → Prop} {w w' : World} (h : Upd M w w') (hd : ∀ k, D k → k < w.heap.size ∧ ¬ M k) : Agree D w w' :=
  fun k hk => h.block k (hd k hk).1 (hd k hk).2
theorem Upd.stepAlloc {M : Nat → Prop} {a b : World} (h : Upd M a b) (o : Obj) : Upd M a (b.alloc o) := h.trans' (Upd.alloc M b o)
theorem Upd.stepDrew {M : Nat → Prop} {a b : World} (h : Upd M a b) : Upd M a b.drew := h.trans' (Upd.drew M b)
theorem Upd.stepSet {M : Nat → Prop} {a b : World} (h : Upd M a b) {p : Addr} (hp : M p.block ∨ a.heap.size ≤ p.block) (v : Value) : Upd M a (b.setCell p v) :=
  h.trans (M' := fun k => k = p.block) (Upd.setCell (M := fun k => k = p.block) rfl v) (fun k e => by cases e; exact hp)
theorem Upd.stepPut {M : Nat → Prop} {a b : World} (h : Upd M a b) {r : Nat} (hp : M r ∨ a.heap.size ≤ r) (o : Obj) : Upd M a (b.putObj r o) :=
  h.trans (M' := fun k => k = r) (Upd.putObj (M := fun k => k = r) rfl o) (fun k e => by cases e; exact hp)

theorem Agree.refl (D : Nat → Prop) (w : World) : Agree D w w := fun _ _ => rfl
theorem Agree.trans {D : Nat → Prop} {a b c : World} (h : Agree D a b) (h' : Agree D b c) : Agree D a c := fun k hk => (h' k hk).trans (h k hk)
theorem Agree.mono {D D' : Nat → Prop} {a b : World} (h : Agree D a b) (hd : ∀ k, D' k → D k) : Agree D' a b := fun k hk => h k (hd k hk)
theorem Agree.cell {D : Nat → Prop} {a b : World} (h : Agree D a b) {p : Addr} (hp : D p.block) : b.cell? p = a.cell? p := World.cell?_of_block (w := a) (h _ hp)
theorem Agree.frozen {D : Nat → Prop} {a b : World} (h : Agree D a b) {p : Addr} (hp : D p.block) : b.frozen? p = a.frozen? p := World.frozen?_of_block (w := a) (h _ hp)

/-- A block of cells, all of it, unfrozen. -/
def Blk (w : World) (b : Nat) (cs : Array Value) (t : TypeId) : Prop := w.heap[b]? = some (.cells cs t (0, 0))
theorem Blk.lt {w : World} {b : Nat} {cs : Array Value} {t : TypeId} (h : Blk w b cs t) : b < w.heap.size := (Array.getElem?_eq_some_iff.1 h).1
theorem Blk.cell {w : World} {b : Nat} {cs : Array Value} {t : TypeId} (h : Blk w b cs t) (i : Nat) : w.cell? ⟨b, i, none⟩ = cs[i]? := by simp [World.cell?, show w.heap[b]? = _ from h]
theorem Blk.cell0 {w : World} {b : Nat} {v : Value} {t : TypeId} (h : Blk w b #[v] t) : w.cell? ⟨b, 0, none⟩ = some v := h.cell 0
theorem Blk.frozen {w : World} {b : Nat} {cs : Array Value} {t : TypeId} (h : Blk w b cs t) (i : Nat) : w.frozen? ⟨b, i, none⟩ = false := by
  simp [World.frozen?, show w.heap[b]? = _ from h]
theorem Blk.new (w : World) (cs : Array Value) (t : TypeId) : Blk (w.alloc (.cells cs t)) w.heap.size cs t := World.alloc_heap_new w _
theorem Blk.new' {w : World} {b : Nat} {cs : Array Value} {t : TypeId} (h : w.heap.size = b) : Blk (w.alloc (.cells cs t)) b cs t := h ▸ Blk.new w cs t
theorem Blk.agree {D : Nat → Prop} {w w' : World} {b : Nat} {cs : Array Value} {t : TypeId} (h : Blk w b cs t) (ha : Agree D w w') (hb : D b) : Blk w' b cs t := (ha b hb).trans h
theorem Blk.upd {M : Nat → Prop} {w w' : World} {b : Nat} {cs : Array Value} {t : TypeId} (h : Blk w b cs t) (ha : Upd M w w') (hb : ¬ M b) : Blk w' b cs t := (ha.block b h.lt hb).trans h
theorem Blk.alloc {w : World} {b : Nat} {cs : Array Value} {t : TypeId} (h : Blk w b cs t) (o : Obj) : Blk (w.alloc o) b cs t := h.upd (Upd.alloc (fun _ => False) w o) id
theorem Blk.set {w : World} {b : Nat} {cs : Array Value} {t : TypeId} (h : Blk w b cs t) (i : Nat) (v : Value) : Blk (w.setCell ⟨b, i, none⟩ v) b (cs.setIfInBounds i v) t := by
  obtain ⟨hlt, hk⟩ := Array.getElem?_eq_some_iff.1 h
  show (w.heap.modify b _)[b]? = _
  rw [Array.getElem?_eq_getElem (by rw [Array.size_modify]; exact hlt), Array.getElem_modify_self, hk]
  rfl
theorem Blk.other {w : World} {b : Nat} {cs : Array Value} {t : TypeId} (h : Blk w b cs t) {p : Addr} (hne : b ≠ p.block) (v : Value) : Blk (w.setCell p v) b cs t :=
  h.upd (Upd.setCell (M := fun k => k = p.block) rfl v) hne

/-- A call that returns. -/
def Ret (R : Value → World → Prop) : Ending → World → Prop := fun e w' => ∃ v, e = .returned v ∧ R v w'

/-- A function value is called, a closure's or a loop body's. -/
def CallV (P : Program) (f : Value) (args : Array Value) (w : World) (R : Value → World → Prop) : Prop :=
  match f with
  | .func (.func k) first cap => (∀ xs W, (callFunc k xs).run P W = .ok (.enter k xs) W) ∧ CallsIn Fence.wide 0 P k (first ++ args ++ cap) w (Ret R)
  | .func (.yield l) first _ => ∃ fn tmps assign body, (Instr.yield l (first ++ args)).run P w = .ok (.round l fn tmps assign body) w ∧ RoundIn Fence.wide 0 P l fn tmps assign body w (Ret R)
  | _ => False

theorem callsIn_any {n m : Nat} {P : Program} {k : FuncId} {args : Array Value} {w : World} {R : Ending → World → Prop} (h : CallsIn Fence.wide n P k args w R) : CallsIn Fence.wide m P k args w R :=
  ⟨h.1, fun cs _ => h.2 cs (room_wide _)⟩
theorem roundIn_any {n m : Nat} {P : Program} {l : Nat} {f : FuncId} {tmps : Array Value} {assign body : Code} {w : World} {R : Ending → World → Prop}
    (h : RoundIn Fence.wide n P l f tmps assign body w R) : RoundIn Fence.wide m P l f tmps assign body w R := ⟨h.1, fun c cs _ => h.2 c cs (room_wide _)⟩

theorem CallV.mono {P : Program} {f : Value} {args : Array Value} {w : World} {R R' : Value → World → Prop} (h : CallV P f args w R) (hr : ∀ v w', R v w' → R' v w') : CallV P f args w R' := by
  unfold CallV at *
  split at h
  · exact ⟨h.1, h.2.mono fun e w' ⟨v, he, hv⟩ => ⟨v, he, hr v w' hv⟩⟩
  · obtain ⟨fn, tmps, assign, body, hy, hR⟩ := h
    exact ⟨fn, tmps, assign, body, hy, hR.mono fun e w' ⟨v, he, hv⟩ => ⟨v, he, hr v w' hv⟩⟩
  · exact h.elim

/-- A closure over a function of the program. -/
theorem CallV.of_calls {P : Program} {k : FuncId} {first cap args : Array Value} {w : World} {R : Value → World → Prop} {n : Nat}
    (eg : ∀ xs W, (callFunc k xs).run P W = .ok (.enter k xs) W) (h : CallsIn Fence.wide n P k (first ++ args ++ cap) w (Ret R)) : CallV P (.func (.func k) first cap) args w R := ⟨eg, callsIn_any h⟩

/-- THE OPERATION: a call of a function value whose contract is known. -/
theorem op_callV {r : Option Nat} {n : Nat} {P : Program} {o : Oper} {f : Operand} {xs : Array Operand} {tys : Array TypeId} {a : Act} {w : World} {next : Act → World → Prop} {Q : Exit → Act → World → Prop}
    (ho : o.op = .call { callee := .value f, args := xs, argTypes := tys }) (h : CallV P (a.eval f) (xs.map a.eval) w (fun v w' => next (a.put o.dst v) w')) :
    o.wpIn { Fence.wide with round := r } n P a w next Q := by
  refine ⟨fun _ _ => trivial, ?_⟩
  rw [Oper.semAt_eq _ _ _ (by rw [ho]; intro c hc; cases hc)]
  unfold execOp
  rw [ho]
  simp only [resolve]
  unfold CallV at h
  split at h
  · rename_i k first cap he
    rw [he]
    simp only [Deferred.ofValue, Sem.run_bind, Sem.run_pure, Result.andThen, invoke, h.1]
    exact ⟨fun hd => (by cases hd), (callsIn_any h.2).mono fun e w' ⟨v, he, hv⟩ => by subst he; exact hv⟩
  · rename_i l first cap he
    rw [he]
    obtain ⟨fn, tmps, assign, body, hy, hR⟩ := h
    simp only [Deferred.ofValue, Sem.run_bind, Sem.run_pure, Result.andThen, invoke, hy]
    exact ⟨fun hd => (by cases hd), (roundIn_any hR).mono fun e w' ⟨v, he, hv⟩ => by subst he; exact hv⟩
  · exact h.elim

/-- The two fences of this text: an activation of a function, a round of a loop. -/
class IsWide (F : Fence) : Prop where
  ex : ∃ r, F = { Fence.wide with round := r }
instance : IsWide Fence.wide := ⟨none, rfl⟩
instance (l : Nat) : IsWide (Fence.wide.inRound l) := ⟨some l, rfl⟩

section
variable {F : Fence} [IsWide F] {n : Nat} {P : Program} {f x1 x2 : Operand} {tys : Array TypeId} {a : Act} {w : World} {next : Act → World → Prop} {Q : Exit → Act → World → Prop} {dst : Option Tmp} {ty : TypeId} {pos : String} {aft : Array Edge} {gd : Option (Nat × Bool)}
  {ops : Array Oper} {rest : List Oper} {fv v1 v2 : Value} {R : Value → World → Prop} {j : Nat} {b : Bool}

theorem opVF {xs : Array Operand} (h : CallV P (a.eval f) (xs.map a.eval) w (fun v w' => next (a.put dst v) w')) :
    Oper.wpIn F n P (Oper.mk dst (.call (Call.mk (.value f) xs tys)) ty pos aft gd) a w next Q := by
  obtain ⟨⟨r, rfl⟩⟩ := (inferInstance : IsWide F)
  exact op_callV (r := r) rfl h

/-- AT A LIST OF OPERATIONS: a function value is called with one argument, with two, with none. -/
theorem listV1 (c : CallV P fv #[v1] w R) (hf : a.eval f = fv) (h1 : a.eval x1 = v1) (hK : ∀ v w', R v w' → wpListIn F n P ops Q rest (a.put dst v) w') :
    wpListIn F n P ops Q (Oper.mk dst (.call (Call.mk (.value f) #[x1] tys)) ty pos aft none :: rest) a w :=
  wpListIn_plain rfl fun _ hn => opVF (by simp only [List.map_toArray, List.map_cons, List.map_nil, hf, h1]; exact c.mono fun v w' h => hn _ _ (hK v w' h))
theorem listV1g (c : CallV P fv #[v1] w R) (hg : yielded ops a.tmps j = some b) (hf : a.eval f = fv) (h1 : a.eval x1 = v1) (hK : ∀ v w', R v w' → wpListIn F n P ops Q rest (a.put dst v) w') :
    wpListIn F n P ops Q (Oper.mk dst (.call (Call.mk (.value f) #[x1] tys)) ty pos aft (some (j, b)) :: rest) a w := by
  refine wpListIn_step fun _ hn => ?_
  rw [if_pos (by simp [Region.wanted, hg])]
  exact opVF (by simp only [List.map_toArray, List.map_cons, List.map_nil, hf, h1]; exact c.mono fun v w' h => hn _ _ (hK v w' h))
theorem listV2 (c : CallV P fv #[v1, v2] w R) (hf : a.eval f = fv) (h1 : a.eval x1 = v1) (h2 : a.eval x2 = v2) (hK : ∀ v w', R v w' → wpListIn F n P ops Q rest (a.put dst v) w') :
    wpListIn F n P ops Q (Oper.mk dst (.call (Call.mk (.value f) #[x1, x2] tys)) ty pos aft none :: rest) a w :=
  wpListIn_plain rfl fun _ hn => opVF (by simp only [List.map_toArray, List.map_cons, List.map_nil, hf, h1, h2]; exact c.mono fun v w' h => hn _ _ (hK v w' h))
theorem listV2g (c : CallV P fv #[v1, v2] w R) (hg : yielded ops a.tmps j = some b) (hf : a.eval f = fv) (h1 : a.eval x1 = v1) (h2 : a.eval x2 = v2) (hK : ∀ v w', R v w' → wpListIn F n P ops Q rest (a.put dst v) w') :
    wpListIn F n P ops Q (Oper.mk dst (.call (Call.mk (.value f) #[x1, x2] tys)) ty pos aft (some (j, b)) :: rest) a w := by
  refine wpListIn_step fun _ hn => ?_
  rw [if_pos (by simp [Region.wanted, hg])]
  exact opVF (by simp only [List.map_toArray, List.map_cons, List.map_nil, hf, h1, h2]; exact c.mono fun v w' h => hn _ _ (hK v w' h))
/-- A guarded call of a function value is passed over. -/
theorem listSkipV {xs : Array Operand} (hg : (yielded ops a.tmps j == some b) = false) (hp : a.put dst undef = a) (h : wpListIn F n P ops Q rest a w) :
    wpListIn F n P ops Q (Oper.mk dst (.call (Call.mk (.value f) xs tys)) ty pos aft (some (j, b)) :: rest) a w := by
  obtain ⟨⟨r, rfl⟩⟩ := (inferInstance : IsWide F)
  refine wpListIn_step fun _ hn => ?_
  rw [if_neg (by simp only [Region.wanted, hg]; simp)]
  exact ⟨fun _ _ => trivial, hn _ _ (by rw [hp]; exact h)⟩
theorem listV0 (c : CallV P fv #[] w R) (hf : a.eval f = fv) (hK : ∀ v w', R v w' → wpListIn F n P ops Q rest (a.put dst v) w') :
    wpListIn F n P ops Q (Oper.mk dst (.call (Call.mk (.value f) #[] tys)) ty pos aft none :: rest) a w :=
  wpListIn_plain rfl fun _ hn => opVF (by simp only [List.map_toArray, List.map_nil, hf]; exact c.mono fun v w' h => hn _ _ (hK v w' h))
end

/-! ### Folds that may be stopped -/

/-- Through a list, till a step says no. -/
def goF {σ α : Type} (step : σ → α → σ × Bool) : σ → List α → σ × Bool
  | s, [] => (s, true)
  | s, x :: xs => if (step s x).2 then goF step (step s x).1 xs else ((step s x).1, false)

theorem goF_snoc {σ α : Type} (step : σ → α → σ × Bool) : ∀ (pre : List α) (s : σ) (x : α), goF step s (pre ++ [x]) = if (goF step s pre).2 then step (goF step s pre).1 x else goF step s pre
  | [], s, x => by
    cases h : (step s x).2 with
    | true =>
      have e : step s x = ((step s x).1, true) := by rw [← h]
      simp only [List.nil_append, goF, h, if_true]; exact e.symm
    | false =>
      have e : step s x = ((step s x).1, false) := by rw [← h]
      simp only [List.nil_append, goF, h, Bool.false_eq_true, if_false, if_true]; exact e.symm
  | y :: pre, s, x => by
    have ih := goF_snoc step pre (step s y).1 x
    by_cases h : (step s y).2 = true
    · simp only [List.cons_append, goF, if_pos h]; exact ih
    · simp [List.cons_append, goF, h]
theorem goF_append {σ α : Type} (step : σ → α → σ × Bool) : ∀ (l m : List α) (s : σ), goF step s (l ++ m) = if (goF step s l).2 then goF step (goF step s l).1 m else goF step s l
  | [], m, s => by simp [goF]
  | y :: l, m, s => by
    have ih := goF_append step l m (step s y).1
    by_cases h : (step s y).2 = true
    · simp only [List.cons_append, goF, if_pos h]; exact ih
    · simp [List.cons_append, goF, h]

/-- What the iterator's own state is in the end. -/
def goOwn {σ α ω : Type} (step : σ → α → σ × Bool) (fin : ω) : σ → List (ω × α) → ω
  | _, [] => fin
  | s, x :: xs => if (step s x.2).2 then goOwn step fin (step s x.2).1 xs else x.1

/-- WHAT AN ITERATOR IS HANDED: a yield that carries a state on, step by step, in blocks S of its own; L: all that will be given. -/
structure RunCtx (P : Program) {α σ : Type} (enc : α → Array Value) (L : List α) (step : σ → α → σ × Bool) (Rep : σ → (Nat → Prop) → World → Prop) (y : Value) (s : σ) (S E D : Nat → Prop) (w W : World) : Prop where
  shape : ∃ fn first cap, y = .func fn first cap
  size : w.heap.size ≤ W.heap.size
  agree : Agree D w W
  own : ∀ k, S k → k < W.heap.size ∧ ¬ D k ∧ ¬ E k
  stab : ∀ s S W1 W2, Rep s S W1 → Agree S W1 W2 → W1.heap.size ≤ W2.heap.size → Rep s S W2
  yield : ∀ pre x suf s1 S1 W1, L = pre ++ x :: suf → goF step s pre = (s1, true) → Rep s1 S1 W1 → Upd (fun k => S k ∨ E k) W W1 → (∀ k, S1 k → k < W1.heap.size ∧ (S k ∨ W.heap.size ≤ k)) →
      CallV P y (enc x) W1 fun v W2 => ∃ S2, v = .bool (step s1 x).2 ∧ Rep (step s1 x).1 S2 W2 ∧ Upd S1 W1 W2 ∧ (∀ k, S2 k → k < W2.heap.size ∧ (S1 k ∨ W1.heap.size ≤ k))
  rep : Rep s S W

/-- What it leaves. -/
def RunEnd {σ : Type} (Rep : σ → (Nat → Prop) → World → Prop) (sF : σ) (OwnF : World → Prop) (S E : Nat → Prop) (W : World) : Value → World → Prop :=
  fun _ W' => ∃ S', Rep sF S' W' ∧ OwnF W' ∧ Upd (fun k => S k ∨ E k) W W' ∧ (∀ k, S' k → k < W'.heap.size ∧ (S k ∨ W.heap.size ≤ k))

/-- THE CONTRACT OF AN ITERATOR VALUE fv: called with whatever yield, it gives the elements of evs one by one till yield says no. D: the blocks that it reads; E: the blocks of its own state that it turns: 'Own o': before its elements and behind them. -/
structure SeqO (P : Program) {α ω : Type} (fv : Value) (enc : α → Array Value) (evs : List (ω × α)) (init fin : ω) (Own : ω → World → Prop) (E D : Nat → Prop) (w : World) : Prop where
  fn : ∃ k cap, fv = .func (.func k) #[] cap
  dlt : ∀ k, D k → k < w.heap.size ∧ ¬ E k
  elt : ∀ k, E k → k < w.heap.size
  stable : ∀ o W W', Own o W → Agree E W W' → Own o W'
  run : ∀ (σ : Type) (step : σ → α → σ × Bool) (Rep : σ → (Nat → Prop) → World → Prop) (y : Value) (s : σ) (S : Nat → Prop) (W : World),
    RunCtx P enc (evs.map (·.2)) step Rep y s S E D w W → Own init W → CallV P fv #[y] W (RunEnd Rep (goF step s (evs.map (·.2))).1 (Own (goOwn step fin s evs)) S E W)

theorem SeqO.later {P : Program} {α ω : Type} {fv : Value} {enc : α → Array Value} {evs : List (ω × α)} {init fin : ω} {Own : ω → World → Prop} {E D : Nat → Prop} {w w' : World}
    (h : SeqO P fv enc evs init fin Own E D w) (hs : w.heap.size ≤ w'.heap.size) (ha : Agree D w w') : SeqO P fv enc evs init fin Own E D w' where
  fn := h.fn
  dlt := fun k hk => ⟨Nat.lt_of_lt_of_le (h.dlt k hk).1 hs, (h.dlt k hk).2⟩
  elt := fun k hk => Nat.lt_of_lt_of_le (h.elt k hk) hs
  stable := h.stable
  run := fun σ step Rep y s S W hx h4 => h.run σ step Rep y s S W ⟨hx.shape, Nat.le_trans hs hx.size, ha.trans hx.agree, hx.own, hx.stab, hx.yield, hx.rep⟩ h4

/-- The rest, when the first element has been given and there is to be more. -/
theorem RunCtx.next {P : Program} {α σ : Type} {enc : α → Array Value} {x : α} {L : List α} {step : σ → α → σ × Bool} {Rep : σ → (Nat → Prop) → World → Prop} {y : Value} {s : σ} {S S2 E D : Nat → Prop} {w W W2 : World}
    (hx : RunCtx P enc (x :: L) step Rep y s S E D w W) (hE : ∀ k, E k → k < w.heap.size) (hD : ∀ k, D k → k < w.heap.size ∧ ¬ E k) (hs : (step s x).2 = true) (hr : Rep (step s x).1 S2 W2) (hu : Upd S W W2) (hS : ∀ k, S2 k → k < W2.heap.size ∧ (S k ∨ W.heap.size ≤ k)) :
    RunCtx P enc L step Rep y (step s x).1 S2 E D w W2 where
  shape := hx.shape
  size := Nat.le_trans hx.size hu.size
  agree := hx.agree.trans (hu.agree fun k hk => ⟨by have := (hD k hk).1; have := hx.size; omega, fun h => (hx.own k h).2.1 hk⟩)
  own := fun k hk => by
    obtain ⟨p, q⟩ := hS k hk
    have z := hx.size
    rcases q with q | q
    · exact ⟨p, (hx.own k q).2⟩
    · exact ⟨p, fun h => by have := (hD k h).1; omega, fun h => by have := hE k h; omega⟩
  stab := hx.stab
  yield := fun pre x' suf s1 S1 W1 hL hgo hrep hu1 hS1 => by
    refine hx.yield (x :: pre) x' suf s1 S1 W1 (by rw [hL]; rfl) (by simp only [goF, hs, if_true]; exact hgo) hrep ((hu.mono fun _ _ h => .inl h).trans hu1 (fun k hk => ?_)) (fun k hk => ?_)
    · rcases hk with hk | hk
      · exact (hS k hk).2.imp .inl id
      · exact .inl (.inr hk)
    · obtain ⟨p, q⟩ := hS1 k hk
      refine ⟨p, ?_⟩
      rcases q with q | q
      · exact (hS k q).2
      · exact .inr (Nat.le_trans hu.size q)
  rep := hr
theorem RunEnd.back {σ : Type} {Rep : σ → (Nat → Prop) → World → Prop} {sF : σ} {OwnF : World → Prop} {S S2 E : Nat → Prop} {W W2 : World} {v : Value} {W' : World} (h : RunEnd Rep sF OwnF S2 E W2 v W') (hu : Upd S W W2) (hS : ∀ k, S2 k → k < W2.heap.size ∧ (S k ∨ W.heap.size ≤ k)) :
    RunEnd Rep sF OwnF S E W v W' := by
  obtain ⟨S', h1, h2, h3, h4⟩ := h
  refine ⟨S', h1, h2, (hu.mono fun _ _ h => .inl h).trans h3 (fun k hk => ?_), fun k hk => ⟨(h4 k hk).1, ?_⟩⟩
  · rcases hk with hk | hk
    · exact (hS k hk).2.imp .inl id
    · exact .inl (.inr hk)
  · rcases (h4 k hk).2 with q | q
    · exact (hS k q).2
    · exact .inr (Nat.le_trans hu.size q)
/-- A context a little later: new blocks only. -/
theorem RunCtx.grow {P : Program} {α σ : Type} {enc : α → Array Value} {L : List α} {step : σ → α → σ × Bool} {Rep : σ → (Nat → Prop) → World → Prop} {y : Value} {s : σ} {S E D : Nat → Prop} {w W W2 : World}
    (hx : RunCtx P enc L step Rep y s S E D w W) (hD : ∀ k, D k → k < w.heap.size) (hu : Upd (fun _ => False) W W2) : RunCtx P enc L step Rep y s S E D w W2 where
  shape := hx.shape
  size := Nat.le_trans hx.size hu.size
  agree := hx.agree.trans (hu.agree fun k hk => ⟨by have := hD k hk; have := hx.size; omega, id⟩)
  own := fun k hk => ⟨Nat.lt_of_lt_of_le (hx.own k hk).1 hu.size, (hx.own k hk).2⟩
  stab := hx.stab
  yield := fun pre x suf s1 S1 W1 hL hgo hr hu1 hS1 => hx.yield pre x suf s1 S1 W1 hL hgo hr ((hu.mono fun _ _ h => h.elim).trans hu1 (fun k hk => .inl hk)) (fun k hk => ⟨(hS1 k hk).1, (hS1 k hk).2.imp id (fun h => Nat.le_trans hu.size h)⟩)
  rep := hx.stab _ _ _ _ hx.rep (hu.agree fun k hk => ⟨(hx.own k hk).1, id⟩) hu.size
theorem RunEnd.back0 {σ : Type} {Rep : σ → (Nat → Prop) → World → Prop} {sF : σ} {OwnF : World → Prop} {S E : Nat → Prop} {W W2 : World} {v : Value} {W' : World} (h : RunEnd Rep sF OwnF S E W2 v W') (hu : Upd (fun _ => False) W W2) : RunEnd Rep sF OwnF S E W v W' := by
  obtain ⟨S', h1, h2, h3, h4⟩ := h
  exact ⟨S', h1, h2, (hu.mono fun _ _ h => h.elim).trans h3 (fun k hk => .inl hk), fun k hk => ⟨(h4 k hk).1, (h4 k hk).2.imp id (fun h => Nat.le_trans hu.size h)⟩⟩

/-! ### A range over an iterator -/

/-- Through a list, till a step leaves by a jump. -/
def goR {σ α : Type} (step : σ → α → σ × Option Code) : σ → List α → σ × Option Code
  | s, [] => (s, none)
  | s, x :: xs => match (step s x).2 with
    | none => goR step (step s x).1 xs
    | some c => ((step s x).1, some c)

def goOwnR {σ α ω : Type} (step : σ → α → σ × Option Code) (fin : ω) : σ → List (ω × α) → ω
  | _, [] => fin
  | s, x :: xs => match (step s x.2).2 with
    | none => goOwnR step fin (step s x.2).1 xs
    | some _ => x.1

/-- The same fold as the iterator sees it. -/
def boolOf {σ α : Type} (step : σ → α → σ × Option Code) : σ × Option Code → α → (σ × Option Code) × Bool := fun s x => (step s.1 x, (step s.1 x).2.isNone)

theorem goF_boolOf {σ α : Type} (step : σ → α → σ × Option Code) : ∀ (xs : List α) (s : σ), goF (boolOf step) (s, none) xs = (goR step s xs, (goR step s xs).2.isNone)
  | [], s => rfl
  | x :: xs, s => by
    have ih := goF_boolOf step xs (step s x).1
    cases h : (step s x).2 with
    | none =>
      have e : step s x = ((step s x).1, none) := by rw [← h]
      simp only [goF, goR, boolOf, h, Option.isNone_none, if_true]
      rw [e]; exact ih
    | some c =>
      have e : step s x = ((step s x).1, some c) := by rw [← h]
      simp only [goF, goR, boolOf, h, Option.isNone_some, Bool.false_eq_true, if_false]
      rw [← e]
theorem goOwn_boolOf {σ α ω : Type} (step : σ → α → σ × Option Code) (fin : ω) : ∀ (xs : List (ω × α)) (s : σ), goOwn (boolOf step) fin (s, none) xs = goOwnR step fin s xs
  | [], s => rfl
  | x :: xs, s => by
    have ih := goOwn_boolOf step fin xs (step s x.2).1
    cases h : (step s x.2).2 with
    | none =>
      have e : step s x.2 = ((step s x.2).1, none) := by rw [← h]
      simp only [goOwn, goOwnR, boolOf, h, Option.isNone_none, if_true]
      rw [e]; exact ih
    | some c => simp [goOwn, goOwnR, boolOf, h]

/-- What a round leaves: the state, among blocks that were its own or are new. -/
def Held {σ : Type} (Inv : σ → (Nat → Prop) → World → Prop) (s' : σ) (S : Nat → Prop) (W W' : World) : Prop :=
  ∃ S', Inv s' S' W' ∧ Upd S W W' ∧ (∀ k, S' k → k < W'.heap.size ∧ (S k ∨ W.heap.size ≤ k))

def bodyP {σ α : Type} (step : σ → α → σ × Option Code) (Inv : σ → (Nat → Prop) → World → Prop) (s : σ) (x : α) (S : Nat → Prop) (W : World) : Exit → Act → World → Prop
  | .normal, _, W' => (step s x).2 = none ∧ Held Inv (step s x).1 S W W'
  | .ret, _, W' => (step s x).2 = some .ret ∧ Held Inv (step s x).1 S W W'
  | .exit id, _, W' => (step s x).2 = some (.exit id) ∧ Held Inv (step s x).1 S W W'
  | .goto t, _, W' => (step s x).2 = some (.goto t) ∧ Held Inv (step s x).1 S W W'
  | .panic _, _, _ => False
  | .outgrown, _, _ => False

section range
variable {P : Program} {α ω : Type} {fv : Value} {enc : α → Array Value} {evs : List (ω × α)} {init fin : ω} {Own : ω → World → Prop} {E D : Nat → Prop} {w0 : World}

/-- The record of a loop, with what a round may leave in it. -/
def recOf (fn : FuncId) (tmps : Array Value) (ps : Array Tmp) (assign body : Code) (df : Nat) : Option Code → Loop
  | none => { state := .ready, pending := none, fn, tmps, params := ps, assign, body, defers := df }
  | some c => { state := .done, pending := some c, fn, tmps, params := ps, assign, body, defers := df }

/-- ONE ROUND, as the iterator's yield sees it, from the walk of the assignment and of the body. -/
theorem round_callV {fn : FuncId} {tmps : Array Value} {ps : Array Tmp} {assign body : Code} {df l : Nat} {args : Array Value} {σ : Type} {step : σ → α → σ × Option Code} {Inv : σ → (Nat → Prop) → World → Prop}
    {s1 : σ} {x : α} {S1 : Nat → Prop} {W1 : World} (hl : W1.heap[l]? = some (.loop (recOf fn tmps ps assign body df none))) (hps : args.size = ps.size) (hnl : ¬ S1 l)
    (hround : assign.wpIn (Fence.wide.inRound l) 0 P (Exit.then (fun a1 Wa => Upd (fun _ => False) W1 Wa ∧ ∀ Wb, Upd (fun k => k = l) Wa Wb → Wb.heap.size = Wa.heap.size → (∃ r, Wb.heap[l]? = some (.loop r)) →
        body.wpIn (Fence.wide.inRound l) 0 P (bodyP step Inv s1 x (fun k => S1 k ∨ W1.heap.size ≤ k) Wb) a1 Wb) (fun _ _ _ => False))
      { tmps := (ps.zip args).foldl (fun t (p, v) => t.setIfInBounds p v) tmps, defers := [] } W1) :
    CallV P (.func (.yield l) #[] #[]) args W1 fun v W2 => v = .bool (step s1 x).2.isNone ∧ ∃ W3 S3, Inv (step s1 x).1 S3 W3 ∧ Upd (fun k => S1 k ∨ k = l) W1 W3 ∧ (∀ k, S3 k → k < W3.heap.size ∧ k ≠ l ∧ (S1 k ∨ W1.heap.size ≤ k)) ∧
      W2 = W3.putObj l (.loop (recOf fn tmps ps assign body df (step s1 x).2)) ∧ l < W3.heap.size := by
  have hlt : l < W1.heap.size := (Array.getElem?_eq_some_iff.1 hl).1
  have hy := run_yield (P := P) (args := args) hl hps
  refine ⟨fn, _, assign, body, by rw [Array.empty_append]; exact hy, roundIn_of_wpIn trivial ?_⟩
  refine wpIn_mono hround ?_
  rintro e a1 Wa hp
  cases e with
  | normal =>
    obtain ⟨hu, hb⟩ := hp
    have hla : Wa.heap[l]? = some (.loop (recOf fn tmps ps assign body df none)) := (hu.block l hlt id).trans hl
    refine ⟨_, run_beginRound hla rfl, ?_⟩
    have hub : Upd (fun k => k = l) Wa (Wa.putObj l (.loop { recOf fn tmps ps assign body df none with state := .busy })) := Upd.putObj (M := fun k => k = l) rfl _
    have hlb : (Wa.putObj l (.loop { recOf fn tmps ps assign body df none with state := .busy })).heap[l]? = some (.loop { recOf fn tmps ps assign body df none with state := .busy }) :=
      World.putObj_heap_same (Array.getElem?_eq_some_iff.1 hla).1
    have hsz : (Wa.putObj l (.loop { recOf fn tmps ps assign body df none with state := .busy })).heap.size = Wa.heap.size := World.putObj_size
    refine wpIn_mono (hb _ hub hsz ⟨_, hlb⟩) ?_
    have fin : ∀ (W3 : World) (jump : Option Code), (step s1 x).2 = jump → Held Inv (step s1 x).1 (fun k => S1 k ∨ W1.heap.size ≤ k) (Wa.putObj l (.loop { recOf fn tmps ps assign body df none with state := .busy })) W3 →
        ∃ v w', (Instr.endRound l jump).run P W3 = .ok v w' ∧ Ret (fun v W2 => v = .bool (step s1 x).2.isNone ∧ ∃ W3 S3, Inv (step s1 x).1 S3 W3 ∧ Upd (fun k => S1 k ∨ k = l) W1 W3 ∧ (∀ k, S3 k → k < W3.heap.size ∧ k ≠ l ∧ (S1 k ∨ W1.heap.size ≤ k)) ∧
      W2 = W3.putObj l (.loop (recOf fn tmps ps assign body df (step s1 x).2)) ∧ l < W3.heap.size) (.returned v) w' := by
      rintro W3 jump hj ⟨S3, hI3, hu3, hS3⟩
      have hl3 : W3.heap[l]? = some (.loop { recOf fn tmps ps assign body df none with state := .busy }) :=
        (hu3.block l (by rw [hsz]; exact (Array.getElem?_eq_some_iff.1 hla).1) (by rintro (h | h); exact hnl h; omega)).trans hlb
      refine ⟨_, _, run_endRound jump hl3, _, rfl, by rw [hj], W3, S3, hI3, ?_, ?_, ?_, (Array.getElem?_eq_some_iff.1 hl3).1⟩
      · exact ((hu.mono (fun _ _ h => h.elim)).trans hub (fun k hk => .inl (.inr hk))).trans hu3 (fun k hk => hk.elim (fun h => .inl (.inl h)) .inr)
      · intro k hk
        obtain ⟨h1, h2⟩ := hS3 k hk
        have h3 := hu.size
        have h4 : S1 k ∨ W1.heap.size ≤ k := h2.elim id (fun h => .inr (by rw [hsz] at h; omega))
        exact ⟨h1, fun e => by subst e; exact h4.elim hnl (fun h => by omega), h4⟩
      · rw [hj]; cases jump <;> rfl
    rintro e2 a2 W3 hp2
    cases e2 with
    | normal => exact fin W3 none hp2.1 hp2.2
    | ret => exact fin W3 (some .ret) hp2.1 hp2.2
    | exit id => exact fin W3 (some (.exit id)) hp2.1 hp2.2
    | goto t => exact fin W3 (some (.goto t)) hp2.1 hp2.2
    | panic ch => exact hp2.elim
    | outgrown => exact hp2.elim
  | exit id => exact hp.elim
  | goto t => exact hp.elim
  | ret => exact hp.elim
  | panic ch => exact hp.elim
  | outgrown => exact hp.elim

/-- THE CALL OF THE ITERATOR WITH A LOOP's yield, the loop's record lying at l. -/
theorem range_call (hseq : SeqO P fv enc evs init fin Own E D w0) {fn : FuncId} {tmps : Array Value} {ps : Array Tmp} {assign body : Code} {df l : Nat} {W : World}
    (hl : W.heap[l]? = some (.loop (recOf fn tmps ps assign body df none))) (hl0 : w0.heap.size ≤ l) (ha0 : Agree D w0 W) (hO : Own init W) (hps : ∀ x, (enc x).size = ps.size)
    {σ : Type} (step : σ → α → σ × Option Code) (Inv : σ → (Nat → Prop) → World → Prop) (s : σ) (S : Nat → Prop) (hS : ∀ k, S k → k < W.heap.size ∧ k ≠ l ∧ ¬ D k ∧ ¬ E k)
    (hstab : ∀ s S W1 W2, Inv s S W1 → Agree S W1 W2 → W1.heap.size ≤ W2.heap.size → Inv s S W2) (hI : Inv s S W)
    (hround : ∀ pre x suf s1 S1 W1, evs.map (·.2) = pre ++ x :: suf → goR step s pre = (s1, none) → Inv s1 S1 W1 → Upd (fun k => S k ∨ k = l ∨ E k) W W1 → (∀ k, S1 k → k < W1.heap.size ∧ k ≠ l ∧ (S k ∨ W.heap.size ≤ k)) →
      assign.wpIn (Fence.wide.inRound l) 0 P (Exit.then (fun a1 Wa => Upd (fun _ => False) W1 Wa ∧ ∀ Wb, Upd (fun k => k = l) Wa Wb → Wb.heap.size = Wa.heap.size → (∃ r, Wb.heap[l]? = some (.loop r)) →
        body.wpIn (Fence.wide.inRound l) 0 P (bodyP step Inv s1 x (fun k => S1 k ∨ W1.heap.size ≤ k) Wb) a1 Wb) (fun _ _ _ => False))
      { tmps := (ps.zip (enc x)).foldl (fun t (p, v) => t.setIfInBounds p v) tmps, defers := [] } W1) :
    CallV P fv #[.func (.yield l) #[] #[]] W fun _ W' => ∃ S', Inv (goR step s (evs.map (·.2))).1 S' W' ∧ Own (goOwnR step fin s evs) W' ∧ Upd (fun k => S k ∨ k = l ∨ E k) W W' ∧
      (∀ k, S' k → k < W'.heap.size ∧ k ≠ l ∧ (S k ∨ W.heap.size ≤ k)) ∧ W'.heap[l]? = some (.loop (recOf fn tmps ps assign body df (goR step s (evs.map (·.2))).2)) := by
  have hlt : l < W.heap.size := (Array.getElem?_eq_some_iff.1 hl).1
  have hw0 : w0.heap.size ≤ W.heap.size := by omega
  have hDl : ∀ k, D k → k ≠ l := fun k hk e => by have := (hseq.dlt k hk).1; omega
  have hEl : ∀ k, E k → k ≠ l := fun k hk e => by have := hseq.elt k hk; omega
  refine (hseq.run (σ × Option Code) (boolOf step)
    (fun s' S' W' => W'.heap[l]? = some (.loop (recOf fn tmps ps assign body df s'.2)) ∧ S' l ∧ ∃ S1 : Nat → Prop, (∀ k, S1 k → S' k ∧ k ≠ l) ∧ Inv s'.1 S1 W')
    (.func (.yield l) #[] #[]) (s, none) (fun k => S k ∨ k = l) W ⟨⟨_, _, _, rfl⟩, hw0, ha0, ?_, ?_, ?_, ?_⟩ hO).mono ?_
  · rintro k (hk | rfl)
    · exact ⟨(hS k hk).1, (hS k hk).2.2⟩
    · exact ⟨hlt, fun h => hDl k h rfl, fun h => hEl k h rfl⟩
  · rintro s' S' W1 W2 ⟨h1, h2, S1, h3, h4⟩ hA hsz
    exact ⟨(hA l h2).trans h1, h2, S1, h3, hstab _ _ _ _ h4 (fun k hk => hA k (h3 k hk).1) hsz⟩
  · rintro pre x suf s1 S1' W1 he hgo ⟨h1, h2, S1, h3, h4⟩ hu1 hS1
    rw [goF_boolOf] at hgo
    have hgo1 : goR step s pre = s1 := (Prod.mk.inj hgo).1
    have hgo2 : s1.2 = none := by have := (Prod.mk.inj hgo).2; rw [hgo1] at this; simpa using this
    obtain ⟨s1, c1⟩ := s1
    simp only at hgo2
    subst hgo2
    have hcall := round_callV (P := P) (args := enc x) (step := step) (Inv := Inv) (s1 := s1) (x := x) (S1 := S1) h1 (hps x) (fun h => (h3 l h).2 rfl)
      (hround pre x suf s1 S1 W1 he hgo1 h4 (hu1.mono (fun k _ h => h.elim (fun h => h.elim .inl (fun e => .inr (.inl e))) (fun h => .inr (.inr h)))) (fun k hk => by
        obtain ⟨a, b⟩ := h3 k hk
        obtain ⟨c, d⟩ := hS1 k a
        exact ⟨c, b, d.elim (fun h => h.elim .inl (fun e => (b e).elim)) .inr⟩))
    refine hcall.mono ?_
    rintro v W2 ⟨rfl, W3, S3, hI3, hu3, hS3, rfl, hl3⟩
    refine ⟨fun k => S3 k ∨ k = l, rfl, ⟨World.putObj_heap_same hl3, .inr rfl, S3, fun k hk => ⟨.inl hk, (hS3 k hk).2.1⟩, hstab _ _ _ _ hI3 (fun k hk => World.putObj_heap_other (hS3 k hk).2.1) (by simp)⟩, ?_, ?_⟩
    · refine (hu3.mono (M' := S1') ?_).stepPut (.inl h2) _
      rintro k - (hk | rfl)
      · exact (h3 k hk).1
      · exact h2
    · rintro k (hk | rfl)
      · obtain ⟨a, b, c⟩ := hS3 k hk
        exact ⟨by simpa using a, c.elim (fun h => .inl (h3 k h).1) .inr⟩
      · exact ⟨by simpa using hl3, .inl h2⟩
  · exact ⟨hl, .inr rfl, S, fun k hk => ⟨.inl hk, (hS k hk).2.1⟩, hI⟩
  · rintro v W' ⟨S', ⟨h1, h2, S1, h3, h4⟩, hOw, hu, hS'⟩
    rw [goF_boolOf] at h1 h4
    rw [goOwn_boolOf] at hOw
    refine ⟨S1, h4, hOw, hu.mono (fun k _ h => h.elim (fun h => h.elim .inl (fun e => .inr (.inl e))) (fun h => .inr (.inr h))), fun k hk => ?_, h1⟩
    obtain ⟨a, b⟩ := h3 k hk
    obtain ⟨c, d⟩ := hS' k a
    exact ⟨c, b, d.elim (fun h => h.elim .inl (fun e => (b e).elim)) .inr⟩

/-- **THE STATEMENT 'for .. := range fv { .. }' OUTSIDE OF ANY OTHER SUCH LOOP.** -/
theorem wpIn_range_out {g : Operand} {ps : Array Tmp} {assign body : Code} {Q : Exit → Act → World → Prop} {a : Act} {w : World}
    (hseq : SeqO P fv enc evs init fin Own E D w0) (hg : a.eval g = fv) (hs0 : w0.heap.size ≤ w.heap.size) (ha0 : Agree D w0 w) (hO : Own init w) (hps : ∀ x, (enc x).size = ps.size)
    {σ : Type} (step : σ → α → σ × Option Code) (Inv : σ → (Nat → Prop) → World → Prop) (s : σ) (S : Nat → Prop) (hS : ∀ k, S k → k < w.heap.size ∧ ¬ D k ∧ ¬ E k)
    (hstab : ∀ s S W1 W2, Inv s S W1 → Agree S W1 W2 → W1.heap.size ≤ W2.heap.size → Inv s S W2) (hI : Inv s S w)
    (hround : ∀ l pre x suf s1 S1 W1, w.heap.size ≤ l → evs.map (·.2) = pre ++ x :: suf → goR step s pre = (s1, none) → Inv s1 S1 W1 → w.heap.size + 2 ≤ W1.heap.size → Upd (fun k => S k ∨ E k) w W1 → (∀ k, S1 k → k < W1.heap.size ∧ k ≠ l ∧ (S k ∨ w.heap.size ≤ k)) →
      assign.wpIn (Fence.wide.inRound l) 0 P (Exit.then (fun a1 Wa => Upd (fun _ => False) W1 Wa ∧ ∀ Wb, Upd (fun k => k = l) Wa Wb → Wb.heap.size = Wa.heap.size → (∃ r, Wb.heap[l]? = some (.loop r)) →
        body.wpIn (Fence.wide.inRound l) 0 P (bodyP step Inv s1 x (fun k => S1 k ∨ W1.heap.size ≤ k) Wb) a1 Wb) (fun _ _ _ => False))
      { tmps := (ps.zip (enc x)).foldl (fun t (p, v) => t.setIfInBounds p v) a.tmps, defers := [] } W1)
    (hend : ∀ S' W', Inv (goR step s (evs.map (·.2))).1 S' W' → Own (goOwnR step fin s evs) W' → Upd (fun k => S k ∨ E k) w W' → w.heap.size + 2 ≤ W'.heap.size →
      (∀ k, S' k → k < W'.heap.size ∧ k ≠ w.heap.size ∧ (S k ∨ w.heap.size ≤ k)) → W'.heap[w.heap.size]? = some (.deferred (some [])) →
      match (goR step s (evs.map (·.2))).2 with
      | none => Q .normal { a with defers := { target := .collected w.heap.size, args := #[] } :: a.defers } W'
      | some c => c.wpIn Fence.wide 0 P Q { a with defers := { target := .collected w.heap.size, args := #[] } :: a.defers } W') :
    (Code.rangeFunc g ps assign body).wpIn Fence.wide 0 P Q a w := by
  refine wpIn_rangeFunc ?_
  intro fn _
  obtain ⟨k, cap, rfl⟩ := hseq.fn
  obtain ⟨W1, hW1⟩ : ∃ W1, (w.alloc (.deferred (some []))).alloc (.loop (recOf fn a.tmps ps assign body w.heap.size none)) = W1 := ⟨_, rfl⟩
  have hsz : W1.heap.size = w.heap.size + 2 := by rw [← hW1]; simp
  have hL1 : W1.heap[w.heap.size + 1]? = some (.loop (recOf fn a.tmps ps assign body w.heap.size none)) := by
    rw [← hW1]; have := World.alloc_heap_new (w.alloc (.deferred (some []))) (.loop (recOf fn a.tmps ps assign body w.heap.size none)); rwa [World.size_alloc] at this
  have hK1 : W1.heap[w.heap.size]? = some (.deferred (some [])) := by
    rw [← hW1]; exact (Below.heap_alloc _ _ _ (by simp)).trans (World.alloc_heap_new w _)
  have hu1 : Upd (fun _ => False) w W1 := by rw [← hW1]; exact ((Upd.refl _ w).stepAlloc _).stepAlloc _
  have hA1 : ∀ T : Nat → Prop, (∀ k, T k → k < w.heap.size) → Agree T w W1 := fun T hT k hk => hu1.block k (hT k hk) id
  have hDw : ∀ k, D k → k < w.heap.size := fun k hk => Nat.lt_of_lt_of_le (hseq.dlt k hk).1 hs0
  have hEw : ∀ k, E k → k < w.heap.size := fun k hk => Nat.lt_of_lt_of_le (hseq.elt k hk) hs0
  have hcall := range_call hseq (W := W1) hL1 (by omega) (ha0.trans (hA1 D hDw)) (hseq.stable _ _ _ hO (hA1 E hEw)) hps step Inv s
    (fun k => S k) (fun k hk => ⟨by have := (hS k hk).1; omega, by have := (hS k hk).1; omega, (hS k hk).2⟩) hstab
    (hstab _ _ _ _ hI (hA1 S (fun k hk => (hS k hk).1)) (by omega))
    (fun pre x suf s1 S1 W2 e1 e2 e3 e5 e6 => hround _ pre x suf s1 S1 W2 (by omega) e1 e2 e3 (by have := e5.size; omega) ((hu1.mono (fun _ _ h => h.elim)).trans e5 (fun k hk => by
      rcases hk with h | h | h
      · exact .inl (.inl h)
      · exact .inr (by omega)
      · exact .inl (.inr h))) (fun k hk => by
      obtain ⟨p, q, r⟩ := e6 k hk
      exact ⟨p, q, r.elim .inl (fun h => .inr (by omega))⟩))
  refine ⟨w.heap.size + 1, [{ target := .collected w.heap.size, args := #[] }], W1, { target := .fn (.func k) cap, args := #[.func (.yield (w.heap.size + 1)) #[] #[]] }, W1, k,
    #[.func (.yield (w.heap.size + 1)) #[] #[]] ++ cap, W1, ?_, ?_, fun _ _ => trivial, ?_, fun h => (by cases h), ?_⟩
  · rw [← hW1]; exact run_enterLoop_outer _ _ _ _ _
  · simp only [resolve, hg, Deferred.ofValue, Sem.run_pure, Array.empty_append, List.map_toArray, List.map_cons, List.map_nil]; rfl
  · simp only [invoke]; exact hcall.1 _ _
  · refine (callsIn_any (by simpa using hcall.2)).mono ?_
    rintro e W' ⟨v, rfl, S', hI', hOw, hu, hS', hrec⟩
    have hD2 : W'.heap[w.heap.size]? = some (.deferred (some [])) := by
      refine (hu.block w.heap.size (by omega) ?_).trans hK1
      rintro (h | h | h)
      · have := (hS _ h).1; omega
      · omega
      · have := hEw _ h; omega
    have hne : ∀ k, S' k → k ≠ w.heap.size + 1 := fun k hk => (hS' k hk).2.1
    have hst : (recOf fn a.tmps ps assign body w.heap.size (goR step s (evs.map (·.2))).2).state ≠ .busy := by cases (goR step s (evs.map (·.2))).2 <;> simp [recOf]
    have hend' := run_endLoop (P := P) hrec hst
    have hpend : (recOf fn a.tmps ps assign body w.heap.size (goR step s (evs.map (·.2))).2).pending = (goR step s (evs.map (·.2))).2 := by cases (goR step s (evs.map (·.2))).2 <;> rfl
    rw [hpend] at hend'
    have hE2 : ∀ k, E k → k ≠ w.heap.size + 1 := fun k hk e => by have := hEw k hk; omega
    refine ⟨_, _, hend', ?_⟩
    refine hend S' _ (hstab _ _ _ _ hI' (fun k hk => World.putObj_heap_other (hne k hk)) (by simp)) (hseq.stable _ _ _ hOw (fun k hk => World.putObj_heap_other (hE2 k hk))) ?_ (by have := hu.size; simp; omega) ?_ ?_
    · refine ((hu1.mono (fun _ _ h => h.elim)).trans hu (fun k hk => ?_)).stepPut (.inr (by omega)) _
      rcases hk with h | h | h
      · exact .inl (.inl h)
      · exact .inr (by omega)
      · exact .inl (.inr h)
    · intro k hk
      obtain ⟨p, q, r⟩ := hS' k hk
      refine ⟨by simpa using p, fun e => ?_, r.elim .inl (fun h => .inr (by omega))⟩
      subst e
      rcases r with h | h
      · have := (hS _ h).1; omega
      · omega
    · exact (World.putObj_heap_other (by omega)).trans hD2
end range

/-! ### A region that draws its order, within a round or not -/
section still
variable {P : Program} {ops : Array Oper} {md : Region.Mode} {w : World} {r : Option Nat} {n : Nat}

theorem wpInStill_op {o : Oper} {a : Act} {K : Act → Prop} {K' : Act → World → Prop} {Q' : Exit → Act → World → Prop} (h : ∀ a, K a → K' a w) (hh : o.still P a w K) :
    o.wpIn { Fence.wide with round := r } n P a w K' Q' := by
  refine ⟨fun _ _ => trivial, ?_⟩
  have hd : ∀ c, o.op ≠ .defer c := by
    intro c hc
    unfold Oper.still at hh
    unfold execOp at hh
    rw [hc] at hh
    simp only [Sem.run_bind] at hh
    cases hx : Sem.run P (resolve a.eval c o.type) w with
    | ok d w' => simp only [hx, Result.andThen, Sem.run_pure, Oper.stillUpon] at hh
    | halt x w' => simp only [hx, Result.andThen, Oper.stillUpon] at hh
  rw [Oper.semAt_eq _ _ _ hd]
  unfold Oper.still at hh
  generalize (execOp a.eval o).run P w = rr at *
  cases rr with
  | ok x w' =>
    cases x <;> simp only [Oper.stillUpon] at hh <;> simp only [Oper.uponIn]
    case enter f args =>
      obtain ⟨rfl, v, hc, hn⟩ := hh
      refine ⟨fun hd => (by cases hd), (callsIn_wide.2 hc).mono ?_⟩
      rintro e w'' ⟨rfl, rfl⟩
      exact h _ hn
    all_goals (obtain ⟨rfl, h2⟩ := hh; exact h _ h2)
  | halt x w' => simp only [Oper.stillUpon] at hh

theorem wpOpIn_of_stOp {i : Nat} {a : Act} {K : Act → Prop} {K' : Act → World → Prop} {Q' : Exit → Act → World → Prop} (h : ∀ a, K a → K' a w) (hh : stOp P ops w i K a) :
    wpOpIn { Fence.wide with round := r } n P ops Q' i K' a w := by
  unfold stOp at hh
  unfold wpOpIn
  split
  · rename_i ho; simp only [ho] at hh; exact h _ hh
  · rename_i o ho
    simp only [ho] at hh
    split
    · rename_i hw; simp only [hw, if_true] at hh; exact wpInStill_op h hh
    · rename_i hw; simp only [hw] at hh; exact ⟨fun _ _ => trivial, h _ hh⟩

theorem wpAnyIn_of_still {Q : Act → Prop} {Q' : Exit → Act → World → Prop} (hQ : ∀ a, Q a → Q' .normal a w) : ∀ (fuel : Nat) (listed : Array Bool) (a : Act),
    wpAnyS P md ops w Q fuel listed a → wpAnyIn { Fence.wide with round := r } n P md ops Q' fuel listed a w
  | 0, _, _, h => ⟨h.1, hQ _ h.2⟩
  | fuel + 1, _, _, h => ⟨fun h0 => hQ _ (h.1 h0), fun i hi => wpOpIn_of_stOp (fun a' => wpAnyIn_of_still hQ fuel _ a') (h.2 i hi)⟩

theorem wpAnyIn_of_head {m g : Nat} {L : Array Bool → Act → Prop} {Q' : Exit → Act → World → Prop} (hL : ∀ listed a, L listed a → wpAnyIn { Fence.wide with round := r } n P md ops Q' g listed a w) :
    ∀ (f : Nat) (listed : Array Bool) (a : Act), wpAnyL P md ops w m L f listed a → wpAnyIn { Fence.wide with round := r } n P md ops Q' (f + g) listed a w
  | 0, listed, a, h => by rw [Nat.zero_add]; exact hL _ _ h
  | f + 1, listed, a, h => by
    rw [show f + 1 + g = (f + g) + 1 by omega]
    exact ⟨fun h0 => absurd h0 h.1, fun i hi => wpOpIn_of_stOp (fun a' h' => wpAnyIn_of_head hL f _ a' h') (h.2 i hi).2⟩

theorem wpAnyIn_of_seq {F : Fence} {Q' : Exit → Act → World → Prop} : ∀ (l : List Oper) (k : Nat) (listed : Array Bool) (a : Act) (w : World), (∀ j, l[j]? = ops[k + j]?) →
    Region.seqB md ops l.length k listed = true → wpListIn F n P ops Q' l a w → wpAnyIn F n P md ops Q' l.length listed a w
  | [], _, _, _, _, _, hB, h => ⟨by simpa [Region.seqB] using hB, h⟩
  | o :: l, k, listed, a, w, hl, hB, h => by
    have h0 : ops[k]? = some o := by simpa using (hl 0).symm
    simp only [List.length_cons, Region.seqB, Bool.and_eq_true, decide_eq_true_eq] at hB
    refine ⟨fun h1 => (by rw [hB.1] at h1; cases h1), fun i hi => ?_⟩
    rw [hB.1] at hi
    have hik : i = k := by simpa using hi
    subst hik
    have hw : wpOpIn F n P ops Q' i (wpListIn F n P ops Q' l) a w := by unfold wpOpIn; simp only [h0]; exact h
    exact wpOpIn_mono (fun a' w' h' => wpAnyIn_of_seq l (i + 1) _ a' w' (fun j => by have := hl (j + 1); simpa [Nat.add_assoc, Nat.add_comm 1 j] using this) hB.2 h') hw

/-- A region that draws its order, all of whose operations leave the world as it is: in the order of the text. -/
theorem wpIn_still {id : Nat} {Q : Exit → Act → World → Prop} {a : Act} {w : World} {l : List Oper} (hm : P.follows .mixedOrders = true) (hB : Region.lexB .any l.toArray = true)
    (h : wpStill P l.toArray w.drew (fun a' => Q .normal a' w.drew) l a) : (Code.region id l.toArray true).wpIn { Fence.wide with round := r } n P Q a w := by
  simp only [Region.lexB, Bool.and_eq_true] at hB
  refine wpIn_region_any hm (wpAnyIn_of_still (Q := fun a' => Q .normal a' w.drew) (fun _ h => h) _ _ _ ?_)
  have := wpAnyS_lex (md := .any) hB.1 l 0 (Array.replicate l.toArray.size false) a (by simp) (by simpa using hB.2) h
  simpa using this

/-- The same but for its last operations, which can only come one by one behind all others. -/
theorem wpIn_still_tail {id : Nat} {Q : Exit → Act → World → Prop} {a : Act} {w : World} {l : List Oper} (m : Nat) (hm : P.follows .mixedOrders = true) (hB : Region.lexTailB .any l.toArray m = true)
    (h : wpStill P l.toArray w.drew (fun a' => wpListIn { Fence.wide with round := r } n P l.toArray Q (l.drop m) a' w.drew) (l.take m) a) :
    (Code.region id l.toArray true).wpIn { Fence.wide with round := r } n P Q a w := by
  simp only [Region.lexTailB, Bool.and_eq_true, decide_eq_true_eq] at hB
  obtain ⟨⟨⟨⟨hsel, hn⟩, hs⟩, hc⟩, hlex⟩ := hB
  have hn' : m < l.length := by simpa using hn
  have htl : (l.take m).length = m := by simp; omega
  have hdl : (l.drop m).length = l.toArray.size - m := by simp
  have inv0 : HeadInv .any l.toArray m (Array.replicate l.toArray.size false) :=
    ⟨by simp, fun j oj _ hl => (by rw [getD_replicate_false] at hl; cases hl), fun t _ ht => getD_in (by simpa using ht) (getD_replicate_false _ _)⟩
  have H := wpAnyL_lex (md := .any) (g := l.toArray.size - m) hsel hs hc hn (l.take m) 0 _ a (fun j hj => by
    have hj' : j < m := by rw [htl] at hj; exact hj
    simp [hj']) (by simpa using htl) inv0 (by rw [htl]; exact hlex) h
  refine wpIn_region_any hm ?_
  have := wpAnyIn_of_head (r := r) (n := n) (Q' := Q) (g := l.toArray.size - m) (fun listed a' hL => by
    have := wpAnyIn_of_seq (F := { Fence.wide with round := r }) (n := n) (md := .any) (Q' := Q) (l.drop m) m listed a' w.drew (fun j => by simp [List.getElem?_drop]) (by rw [hdl]; exact hL.1) hL.2
    rwa [hdl] at this) _ _ _ H
  rw [htl, show m + (l.toArray.size - m) = l.toArray.size by omega] at this
  exact this
end still

/-! ### A region that draws its order and holds calls that make memory: what is loaded holds in every world on the way ('Hold') -/
section held
variable {F : Fence} [IsWide F] {n : Nat} {P : Program} {ops : Array Oper} {md : Region.Mode} {Hold : World → Prop} {Q : Exit → Act → World → Prop}

def wpAnyH (F : Fence) (n : Nat) (P : Program) (md : Region.Mode) (ops : Array Oper) (Hold : World → Prop) (Q : Exit → Act → World → Prop) : Nat → Array Bool → Act → World → Prop
  | 0, listed, a, w => Region.ready md ops listed = [] ∧ Q .normal a w
  | fuel + 1, listed, a, w =>
    (Region.ready md ops listed = [] → Q .normal a w) ∧
    ∀ i ∈ Region.ready md ops listed, wpOpIn F n P ops Q i (fun a' w' => Hold w' ∧ wpAnyH F n P md ops Hold Q fuel (listed.setIfInBounds i true) a' w') a w

omit [IsWide F] in
theorem wpAnyIn_of_H : ∀ (fuel : Nat) (listed : Array Bool) (a : Act) (w : World), wpAnyH F n P md ops Hold Q fuel listed a w → wpAnyIn F n P md ops Q fuel listed a w
  | 0, _, _, _, h => h
  | fuel + 1, _, _, _, h => ⟨h.1, fun i hi => wpOpIn_mono (fun a' w' h' => wpAnyIn_of_H fuel _ a' w' h'.2) (h.2 i hi)⟩

def YieldsH (P : Program) (ops : Array Oper) (Hold : World → Prop) (o : Oper) (v : Value) (a : Act) : Prop :=
  (Region.wanted o (yielded ops a.tmps) = true ∧ ∀ w, Hold w → (execOp a.eval o).run P w = .ok (.value v) w) ∨ (Region.wanted o (yielded ops a.tmps) = false ∧ v = undef)

theorem not_defer_of_value {o : Oper} {a : Act} {w w' : World} {v : Value} (h : (execOp a.eval o).run P w = .ok (.value v) w') (c : Call) : o.op ≠ .defer c := by
  intro hc
  unfold execOp at h
  rw [hc] at h
  simp only [Sem.run_bind] at h
  cases hx : Sem.run P (resolve a.eval c o.type) w with
  | ok d w' => simp [hx, Result.andThen, Sem.run_pure] at h
  | halt x w' => simp [hx, Result.andThen] at h

theorem YieldsH.wpOpIn {i : Nat} {o : Oper} {v : Value} {a : Act} {K : Act → World → Prop} {w : World} (hi : ops[i]? = some o) (hy : YieldsH P ops Hold o v a) (hw : Hold w) (h : K (a.put o.dst v) w) : wpOpIn F n P ops Q i K a w := by
  obtain ⟨⟨r, rfl⟩⟩ := (inferInstance : IsWide F)
  unfold Go.wpOpIn
  simp only [hi]
  rcases hy with ⟨h1, h2⟩ | ⟨h1, rfl⟩
  · simp only [h1, if_true]
    refine ⟨fun _ _ => trivial, ?_⟩
    rw [Oper.semAt_eq _ _ _ (not_defer_of_value (h2 w hw)), h2 w hw]
    exact h
  · simp only [h1, Bool.false_eq_true, if_false]; exact ⟨fun _ _ => trivial, h⟩

theorem YieldsH.of_same {o : Oper} {v : Value} {a a' : Act} (hy : YieldsH P ops Hold o v a) (he : execOp a'.eval o = execOp a.eval o)
    (hw : Region.wanted o (yielded ops a'.tmps) = Region.wanted o (yielded ops a.tmps)) : YieldsH P ops Hold o v a' := by
  unfold YieldsH at *
  rw [he, hw]
  exact hy

omit [IsWide F] in
theorem wpOpIn_putH {j : Nat} {oi oj : Oper} {v : Value} (hj : ops[j]? = some oj) (hap : oi.apart ops oj = true) (hdf : ∀ c, oj.op ≠ .defer c)
    (hsi : ∀ cs b, oi.op ≠ .select cs b) (hsj : ∀ cs b, oj.op ≠ .select cs b)
    {K : Act → World → Prop} {a : Act} {w : World} (hF : ∀ f, F.fn f)
    (hy : YieldsH P ops Hold oi v a) (h : wpOpIn F n P ops (NoPanic Q) j K (a.put oi.dst v) w) :
    wpOpIn F n P ops (NoPanic Q) j (fun a' w' => YieldsH P ops Hold oi v a' ∧ K (a'.put oi.dst v) w') a w := by
  obtain ⟨h1, h2, h3⟩ := Oper.apart_spec hap
  have keep : ∀ (a : Act), YieldsH P ops Hold oi v a → ∀ u, YieldsH P ops Hold oi v (a.put oj.dst u) := fun a hy u =>
    hy.of_same (execOp_put oi hsi a oj.dst u h3) (wanted_put oi a oj.dst u h3)
  unfold wpOpIn at *
  simp only [hj] at *
  rw [wanted_put oj a oi.dst v h1] at h
  split
  · rename_i hw
    simp only [hw, if_true] at h
    unfold Oper.wpIn at *
    refine ⟨fun f _ => hF f, ?_⟩
    have h := h.2
    rw [Oper.semAt_eq _ _ _ hdf, execOp_put oj hsj a oi.dst v h1] at h
    rw [Oper.semAt_eq _ _ _ hdf]
    generalize (execOp a.eval oj).run P w = r at *
    cases r with
    | ok x w' =>
      cases x <;> simp only [Oper.uponIn] at h ⊢
      case value u => exact ⟨keep a hy u, by rw [← Act.put_comm a v u h2]; exact h⟩
      case skip => exact ⟨keep a hy _, by rw [← Act.put_comm a v undef h2]; exact h⟩
      case defer d =>
        refine ⟨keep { a with defers := d :: a.defers } (hy.of_same rfl rfl) _, ?_⟩
        rw [← Act.put_comm _ v undef h2, ← Act.put_defers]
        exact h
      case enter f args =>
        refine ⟨h.1, CallsIn.mono h.2 fun e w'' he => ?_⟩
        cases e with
        | returned u => exact ⟨keep a hy u, by rw [← Act.put_comm a v u h2]; exact he⟩
        | panicked c => exact he
        | outgrown => exact he
      case row row args => exact ⟨h.1, RowsIn.mono h.2 fun u w'' he => ⟨keep a hy u, by rw [← Act.put_comm a v u h2]; exact he⟩⟩
      case round l f tmps assign body =>
        refine ⟨h.1, RoundIn.mono h.2 fun e w'' he => ?_⟩
        cases e with
        | returned u => exact ⟨keep a hy u, by rw [← Act.put_comm a v u h2]; exact he⟩
        | panicked c => exact he
        | outgrown => exact he
    | halt x w' =>
      cases x <;> simp only [Oper.uponIn] at h ⊢
      case panic u => exact h
  · rename_i hw
    simp only [hw] at h
    exact ⟨fun f _ => hF f, keep a hy _, by rw [← Act.put_comm a v undef h2]; exact h.2⟩

theorem wpAnyH_first {i : Nat} {oi : Oper} {v : Value} (hi : ops[i]? = some oi) (hsel : ∀ (j : Nat) (o : Oper) cs b, ops[j]? = some o → o.op ≠ .select cs b) (hdf : ∀ (j : Nat) (o : Oper) c, ops[j]? = some o → o.op ≠ .defer c) :
    ∀ (fuel : Nat) (listed : Array Bool) (a : Act) (w : World),
      (∀ j oj, ops[j]? = some oj → j ≠ i → listed.getD j true = false → (∀ e ∈ oj.after, Region.binds md e = true → e.on ≠ i) → oi.apart ops oj = true) →
      i ∈ Region.ready md ops listed → YieldsH P ops Hold oi v a → Hold w →
      wpAnyH F n P md ops Hold (NoPanic Q) fuel (listed.setIfInBounds i true) (a.put oi.dst v) w → wpAnyH F n P md ops Hold (NoPanic Q) (fuel + 1) listed a w := by
  have hFn : ∀ f, F.fn f := by obtain ⟨⟨r, rfl⟩⟩ := (inferInstance : IsWide F); exact fun _ => trivial
  intro fuel
  induction fuel with
  | zero =>
    intro listed a w _ hr hy hh H
    refine ⟨fun h => (by rw [h] at hr; cases hr), fun j hj => ?_⟩
    by_cases hji : j = i
    · subst hji; exact hy.wpOpIn hi hh ⟨hh, H⟩
    · have := ready_mono hj hji
      rw [H.1] at this
      cases this
  | succ fuel ih =>
    intro listed a w hfree hr hy hh H
    refine ⟨fun h => (by rw [h] at hr; cases hr), fun j hj => ?_⟩
    by_cases hji : j = i
    · subst hji; exact hy.wpOpIn hi hh ⟨hh, H⟩
    · have h1 := H.2 j (ready_mono hj hji)
      obtain ⟨hjun, oj, hoj, hall⟩ := mem_ready.1 hj
      have hnot : ∀ e ∈ oj.after, Region.binds md e = true → e.on ≠ i := fun e he hb heq => by
        have h1 := hall e he hb
        have h0 := (mem_ready.1 hr).1
        rw [heq] at h1
        rcases Nat.lt_or_ge i listed.size with h' | h'
        · simp [h'] at h0 h1; rw [h0] at h1; cases h1
        · simp [Array.getElem?_eq_none h'] at h1
      have h2 := wpOpIn_putH hoj (hfree j oj hoj hji hjun hnot) (fun c => hdf j oj c hoj) (fun cs b => hsel i oi cs b hi) (fun cs b => hsel j oj cs b hoj) hFn hy h1
      have hfree' : ∀ k ok, ops[k]? = some ok → k ≠ i → (listed.setIfInBounds j true).getD k true = false →
          (∀ e ∈ ok.after, Region.binds md e = true → e.on ≠ i) → oi.apart ops ok = true := fun k ok hk hki hun hno => by
        refine hfree k ok hk hki ?_ hno
        by_cases hjk : j = k
        · subst hjk; exact hjun
        · rw [getD_set_ne true hjk] at hun; exact hun
      refine wpOpIn_mono (fun a' w' h3 => ⟨h3.2.1, ih (listed.setIfInBounds j true) a' w' hfree' (ready_mono hr (Ne.symm hji)) h3.1 h3.2.1 ?_⟩) h2
      rw [Array.setIfInBounds_comm _ _ hji]
      exact h3.2.2

/-- An order in which each operation is free to come first (true), or the only one that may come (false). -/
def Region.eagerOk (md : Region.Mode) (ops : Array Oper) : List (Nat × Bool) → Array Bool → Bool
  | [], listed => (Region.ready md ops listed).isEmpty
  | (i, true) :: L, listed => (Region.ready md ops listed).contains i && Region.free md ops listed i && Region.eagerOk md ops L (listed.setIfInBounds i true)
  | (j, false) :: L, listed => decide (Region.ready md ops listed = [j]) && Region.eagerOk md ops L (listed.setIfInBounds j true)
def Region.noDefer (ops : Array Oper) : Bool := ops.all fun o => match o.op with | .defer .. => false | _ => true
def Region.eagerB (md : Region.Mode) (ops : Array Oper) (L : List (Nat × Bool)) : Bool := Region.noSelect ops && Region.noDefer ops && Region.eagerOk md ops L (Array.replicate ops.size false) && decide (L.length = ops.size)

def wpE (F : Fence) (n : Nat) (P : Program) (ops : Array Oper) (Hold : World → Prop) (Q : Exit → Act → World → Prop) : List (Nat × Bool) → Act → World → Prop
  | [], a, w => Q .normal a w
  | (i, true) :: L, a, w => ∃ o v, ops[i]? = some o ∧ YieldsH P ops Hold o v a ∧ wpE F n P ops Hold Q L (a.put o.dst v) w
  | (j, false) :: L, a, w => wpOpIn F n P ops (NoPanic Q) j (fun a' w' => Hold w' ∧ wpE F n P ops Hold Q L a' w') a w

theorem wpAnyH_of_E (hsel : ∀ (j : Nat) (o : Oper) cs b, ops[j]? = some o → o.op ≠ .select cs b) (hdf : ∀ (j : Nat) (o : Oper) c, ops[j]? = some o → o.op ≠ .defer c) :
    ∀ (L : List (Nat × Bool)) (listed : Array Bool) (a : Act) (w : World), Region.eagerOk md ops L listed = true → Hold w → wpE F n P ops Hold Q L a w → wpAnyH F n P md ops Hold (NoPanic Q) L.length listed a w
  | [], listed, a, w, hB, _, h => ⟨by simpa [Region.eagerOk] using hB, h⟩
  | (i, true) :: L, listed, a, w, hB, hw, h => by
    simp only [Region.eagerOk, Bool.and_eq_true] at hB
    obtain ⟨o, v, ho, hy, h⟩ := h
    exact wpAnyH_first ho hsel hdf L.length listed a w (Region.free_spec ho hB.1.2) (by simpa using hB.1.1) hy hw (wpAnyH_of_E hsel hdf L _ _ _ hB.2 hw h)
  | (j, false) :: L, listed, a, w, hB, hw, h => by
    simp only [Region.eagerOk, Bool.and_eq_true, decide_eq_true_eq] at hB
    refine ⟨fun h0 => (by rw [h0] at hB; cases hB.1), fun i hi => ?_⟩
    rw [hB.1] at hi
    obtain rfl : i = j := by simpa using hi
    exact wpOpIn_mono (fun a' w' h' => ⟨h'.1, wpAnyH_of_E hsel hdf L _ a' w' hB.2 h'.1 h'.2⟩) h

/-- THE REGION: walk it along L. -/
theorem wpIn_eager {id : Nat} {a : Act} {w : World} {l : List Oper} (L : List (Nat × Bool)) (Hold : World → Prop) (hm : P.follows .mixedOrders = true) (hB : Region.eagerB .any l.toArray L = true) (hw : Hold w.drew)
    (h : wpE F n P l.toArray Hold Q L a w.drew) : (Code.region id l.toArray true).wpIn F n P Q a w := by
  simp only [Region.eagerB, Bool.and_eq_true, decide_eq_true_eq] at hB
  refine wpIn_mono (Q := NoPanic Q) ?_ NoPanic.imp
  refine wpIn_region_any hm ?_
  have hdf : ∀ (j : Nat) (o : Oper) c, l.toArray[j]? = some o → o.op ≠ .defer c := fun j o c ho hc => by
    have := Array.all_eq_true_iff_forall_mem.1 hB.1.1.2 o (Array.mem_of_getElem? ho)
    simp [hc] at this
  have H := wpAnyH_of_E (F := F) (n := n) (P := P) (Hold := Hold) (Q := Q) (Region.noSelect_spec hB.1.1.1) hdf L _ a _ hB.1.2 hw h
  rw [hB.2] at H
  exact wpAnyIn_of_H _ _ _ _ H

omit [IsWide F] in
theorem wpE_nil {a : Act} {w : World} (h : Q .normal a w) : wpE F n P ops Hold Q [] a w := h
omit [IsWide F] in
theorem wpE_fl {i : Nat} {o : Oper} {v : Value} {L : List (Nat × Bool)} {a : Act} {w : World} (ho : ops[i]? = some o) (hw : Region.wanted o (yielded ops a.tmps) = true)
    (hv : ∀ w', Hold w' → (execOp a.eval o).run P w' = .ok (.value v) w') (h : wpE F n P ops Hold Q L (a.put o.dst v) w) : wpE F n P ops Hold Q ((i, true) :: L) a w := ⟨o, v, ho, .inl ⟨hw, hv⟩, h⟩
omit [IsWide F] in
theorem wpE_sk {i : Nat} {o : Oper} {L : List (Nat × Bool)} {a : Act} {w : World} (ho : ops[i]? = some o) (hw : Region.wanted o (yielded ops a.tmps) = false)
    (h : wpE F n P ops Hold Q L (a.put o.dst undef) w) : wpE F n P ops Hold Q ((i, true) :: L) a w := ⟨o, undef, ho, .inr ⟨hw, rfl⟩, h⟩
theorem wpE_ef {j : Nat} {o : Oper} {L : List (Nat × Bool)} {a : Act} {w : World} (ho : ops[j]? = some o)
    (h : wpListIn F n P ops (Exit.then (fun a' w' => Hold w' ∧ wpE F n P ops Hold Q L a' w') (NoPanic Q)) [o] a w) : wpE F n P ops Hold Q ((j, false) :: L) a w := by
  obtain ⟨⟨r, rfl⟩⟩ := (inferInstance : IsWide F)
  show wpOpIn _ _ _ _ _ _ _ _ _
  unfold wpOpIn
  simp only [ho]
  unfold wpListIn at h
  split
  · rename_i hw
    rw [if_pos hw] at h
    refine ⟨fun _ _ => trivial, ?_⟩
    have h := h.2
    generalize (o.semAt _ a.eval).run P w = r at *
    cases r with
    | ok x w' =>
      cases x <;> simp only [Oper.uponIn] at h ⊢ <;>
        first
          | exact h
          | exact ⟨h.1, CallsIn.mono h.2 (fun e w'' he => by cases e <;> exact he)⟩
          | exact ⟨h.1, RowsIn.mono h.2 (fun _ _ he => he)⟩
          | exact ⟨h.1, RoundIn.mono h.2 (fun e w'' he => by cases e <;> exact he)⟩
    | halt x w' => cases x <;> simp only [Oper.uponIn] at h ⊢ <;> exact h
  · rename_i hw
    rw [if_neg hw] at h
    exact ⟨fun _ _ => trivial, h.2⟩
end held

/-! ### Iterators made of an iterator: a step for each element: what it gives, and whether it goes on -/
section trans
variable {α β τ σ ω : Type}

def outs (tr : τ → α → τ × Option β × Bool) : τ → List α → List β
  | _, [] => []
  | t, x :: xs => (tr t x).2.1.toList ++ (if (tr t x).2.2 then outs tr (tr t x).1 xs else [])
def evsT (tr : τ → α → τ × Option β × Bool) : τ → List (ω × α) → List (ω × β)
  | _, [] => []
  | t, x :: xs => ((tr t x.2).2.1.toList.map fun z => (x.1, z)) ++ (if (tr t x.2).2.2 then evsT tr (tr t x.2).1 xs else [])
def finT (tr : τ → α → τ × Option β × Bool) (fin : ω) : τ → List (ω × α) → ω
  | _, [] => fin
  | t, x :: xs => if (tr t x.2).2.2 then finT tr fin (tr t x.2).1 xs else x.1
def trSt (tr : τ → α → τ × Option β × Bool) : τ → List α → τ × Bool
  | t, [] => (t, true)
  | t, x :: xs => if (tr t x).2.2 then trSt tr (tr t x).1 xs else ((tr t x).1, false)
def stepT (tr : τ → α → τ × Option β × Bool) (step : σ → β → σ × Bool) (s : σ × τ) (x : α) : (σ × τ) × Option Code :=
  match (tr s.2 x).2.1 with
  | none => ((s.1, (tr s.2 x).1), if (tr s.2 x).2.2 then none else some .ret)
  | some z => (((step s.1 z).1, (tr s.2 x).1), if (step s.1 z).2 && (tr s.2 x).2.2 then none else some .ret)

theorem evsT_snd (tr : τ → α → τ × Option β × Bool) : ∀ (evs : List (ω × α)) (t : τ), (evsT tr t evs).map (·.2) = outs tr t (evs.map (·.2))
  | [], _ => rfl
  | x :: xs, t => by
    simp only [evsT, outs, List.map_append, List.map_map, List.map_cons]
    congr 1
    · cases (tr t x.2).2.1 <;> simp
    · cases h : (tr t x.2).2.2
      · simp
      · simpa using evsT_snd tr xs _

theorem goR_T (tr : τ → α → τ × Option β × Bool) (step : σ → β → σ × Bool) : ∀ (l : List α) (s : σ) (t : τ),
    (goR (stepT tr step) (s, t) l).1.1 = (goF step s (outs tr t l)).1 ∧ (goR (stepT tr step) (s, t) l).2 = (if (goF step s (outs tr t l)).2 && (trSt tr t l).2 then none else some .ret) ∧
    ((goF step s (outs tr t l)).2 = true → (goR (stepT tr step) (s, t) l).1.2 = (trSt tr t l).1)
  | [], s, t => ⟨rfl, rfl, fun _ => rfl⟩
  | x :: xs, s, t => by
    cases ho : (tr t x).2.1 with
    | none =>
      cases hc : (tr t x).2.2 with
      | true =>
        have ih := goR_T tr step xs s (tr t x).1
        simpa [goR, stepT, ho, hc, outs, trSt] using ih
      | false => simp [goR, stepT, ho, hc, outs, trSt, goF]
    | some z =>
      cases hs : (step s z).2 with
      | false => cases hc : (tr t x).2.2 <;> simp [goR, stepT, ho, hs, outs, trSt, goF, hc]
      | true =>
        cases hc : (tr t x).2.2 with
        | true =>
          have ih := goR_T tr step xs (step s z).1 (tr t x).1
          simpa [goR, stepT, ho, hc, hs, outs, trSt, goF] using ih
        | false => simp [goR, stepT, ho, hc, hs, outs, trSt, goF]

theorem goOwn_T (tr : τ → α → τ × Option β × Bool) (step : σ → β → σ × Bool) (fin : ω) : ∀ (l : List (ω × α)) (s : σ) (t : τ),
    goOwnR (stepT tr step) fin (s, t) l = goOwn step (finT tr fin t l) s (evsT tr t l)
  | [], s, t => rfl
  | x :: xs, s, t => by
    cases ho : (tr t x.2).2.1 with
    | none =>
      cases hc : (tr t x.2).2.2 with
      | true => simpa [goOwnR, stepT, ho, hc, evsT, finT] using goOwn_T tr step fin xs s (tr t x.2).1
      | false => simp [goOwnR, stepT, ho, hc, evsT, finT, goOwn]
    | some z =>
      cases hs : (step s z).2 with
      | false => cases hc : (tr t x.2).2.2 <;> simp [goOwnR, stepT, ho, hs, evsT, finT, goOwn, hc]
      | true =>
        cases hc : (tr t x.2).2.2 with
        | true => simpa [goOwnR, stepT, ho, hc, hs, evsT, finT, goOwn] using goOwn_T tr step fin xs (step s z).1 (tr t x.2).1
        | false => simp [goOwnR, stepT, ho, hc, hs, evsT, finT, goOwn]

theorem outs_prefix (tr : τ → α → τ × Option β × Bool) (pre : List α) (x : α) (suf : List α) : ∀ (t : τ), (trSt tr t pre).2 = true → ∀ z, (tr (trSt tr t pre).1 x).2.1 = some z →
    ∃ suf', outs tr t (pre ++ x :: suf) = outs tr t pre ++ z :: suf' := by
  induction pre with
  | nil =>
    intro t _ z hz
    simp only [trSt] at hz
    simp only [List.nil_append, outs, hz, Option.toList_some]
    exact ⟨_, rfl⟩
  | cons y pre ih =>
    intro t ht z hz
    cases hc : (tr t y).2.2 with
    | false => simp [trSt, hc] at ht
    | true =>
      simp only [trSt, hc, if_true] at ht hz
      obtain ⟨suf', h⟩ := ih _ ht z hz
      simp only [List.cons_append, outs, hc, if_true, h, List.append_assoc]
      exact ⟨suf', rfl⟩
end trans

/-- The same fold with a flag: did the last step go on? -/
def stepB {σ α : Type} (step : σ → α → σ × Option Code) (s : σ × Bool) (x : α) : (σ × Bool) × Option Code := (((step s.1 x).1, (step s.1 x).2.isNone), (step s.1 x).2)
theorem goR_B {σ α : Type} (step : σ → α → σ × Option Code) : ∀ (xs : List α) (s : σ), goR (stepB step) (s, true) xs = (((goR step s xs).1, (goR step s xs).2.isNone), (goR step s xs).2)
  | [], s => rfl
  | x :: xs, s => by
    have ih := goR_B step xs (step s x).1
    cases h : (step s x).2 with
    | none => simp only [goR, stepB, h, Option.isNone_none]; exact ih
    | some c => simp [goR, stepB, h]
theorem goOwnR_B {σ α ω : Type} (step : σ → α → σ × Option Code) (fin : ω) : ∀ (xs : List (ω × α)) (s : σ) (b : Bool), goOwnR (stepB step) fin (s, b) xs = goOwnR step fin s xs
  | [], s, b => rfl
  | x :: xs, s, b => by
    cases h : (step s x.2).2 with
    | none => simp only [goOwnR, stepB, h]; exact goOwnR_B step fin xs _ _
    | some c => simp [goOwnR, stepB, h]

/-- What the body of such a loop leaves. W1: the round's begin. -/
structure TPost {β τ : Type} (Pv : τ → World → Prop) (priv : Nat → Prop) (Rdy : World → Prop) (t' : τ) (o : Option β) (c : Bool) (W1 W' : World) : Prop where
  pv : c = true → Pv t' W'
  rep : match o with
    | none => Upd priv W1 W'
    | some _ => ∃ W3, Rdy W3 ∧ Upd priv W3 W'

def tBody {α β τ σ : Type} (tr : τ → α → τ × Option β × Bool) (step : σ → β → σ × Bool) (Pv : τ → World → Prop) (priv : Nat → Prop) (Rdy : World → Prop) (s1 : σ) (t1 : τ) (x : α) (W1 : World) : Exit → Act → World → Prop
  | .normal, _, W' => (stepT tr step (s1, t1) x).2 = none ∧ TPost Pv priv Rdy (tr t1 x).1 (tr t1 x).2.1 true W1 W'
  | .ret, _, W' => (stepT tr step (s1, t1) x).2 = some .ret ∧ TPost Pv priv Rdy (tr t1 x).1 (tr t1 x).2.1 false W1 W'
  | _, _, _ => False

section
variable {α β τ σ : Type} {tr : τ → α → τ × Option β × Bool} {step : σ → β → σ × Bool} {Pv : τ → World → Prop} {priv : Nat → Prop} {Rdy : World → Prop} {s1 : σ} {t1 t' : τ} {x : α} {z : β} {c : Bool} {W1 W3 W' : World} {a : Act}
theorem tBody_skip (ho : tr t1 x = (t', none, true)) (hp : Pv t' W') (hu : Upd priv W1 W') : tBody tr step Pv priv Rdy s1 t1 x W1 .normal a W' :=
  ⟨by simp [stepT, ho], by rw [ho]; exact fun _ => hp, by rw [ho]; exact hu⟩
theorem tBody_stop (ho : tr t1 x = (t', none, false)) (hu : Upd priv W1 W') : tBody tr step Pv priv Rdy s1 t1 x W1 .ret a W' :=
  ⟨by simp [stepT, ho], fun h => (by cases h), by rw [ho]; exact hu⟩
theorem tBody_next (ho : tr t1 x = (t', some z, true)) (hs : (step s1 z).2 = true) (hp : Pv t' W') (hr : Rdy W3) (hu : Upd priv W3 W') : tBody tr step Pv priv Rdy s1 t1 x W1 .normal a W' :=
  ⟨by simp [stepT, ho, hs], by rw [ho]; exact fun _ => hp, by rw [ho]; exact ⟨W3, hr, hu⟩⟩
theorem tBody_ret (ho : tr t1 x = (t', some z, c)) (hs : (step s1 z).2 = false) (hr : Rdy W3) (hu : Upd priv W3 W') : tBody tr step Pv priv Rdy s1 t1 x W1 .ret a W' :=
  ⟨by simp [stepT, ho, hs], fun h => (by cases h), by rw [ho]; exact ⟨W3, hr, hu⟩⟩
theorem tBody_last (ho : tr t1 x = (t', some z, false)) (hr : Rdy W3) (hu : Upd priv W3 W') : tBody tr step Pv priv Rdy s1 t1 x W1 .ret a W' :=
  ⟨by simp [stepT, ho], fun h => (by cases h), by rw [ho]; exact ⟨W3, hr, hu⟩⟩
theorem nb1 {b : Bool} (h : (!b) = true) : b = false := by simpa using h
theorem nb0 {b : Bool} (h : (!b) = false) : b = true := by simpa using h
end

/-- What yield does in such a round. -/
structure YieldOk (P : Program) {α β τ σ : Type} (tr : τ → α → τ × Option β × Bool) (step : σ → β → σ × Bool) (y : Value) (enc' : β → Array Value) (priv D' Rdy' : Nat → Prop) (Rdy : World → Prop) (s1 : σ) (t1 : τ) (x : α) (W1 : World) : Prop where
  call : ∀ z, (tr t1 x).2.1 = some z → ∀ W2, Upd priv W1 W2 → CallV P y (enc' z) W2 fun v W3 => v = .bool (step s1 z).2 ∧ Rdy W3 ∧ Upd (fun k => ¬ priv k ∧ ¬ D' k ∧ Rdy' k) W2 W3

section transwp
variable {P : Program} {α β τ σ ω : Type} {fv : Value} {enc : α → Array Value} {evs : List (ω × α)} {init fin : ω} {Own : ω → World → Prop} {E D : Nat → Prop} {wr : World}

theorem wpIn_transX {g : Operand} {ps : Array Tmp} {assign body : Code} {Q : Exit → Act → World → Prop} {a : Act} {w W wr2 : World} {step : σ → β → σ × Bool} {Rep : σ → (Nat → Prop) → World → Prop} {s s0 : σ} {S S0 D' : Nat → Prop}
    {y : Value} {enc' : β → Array Value} {L pre0 : List β}
    (hseq : SeqO P fv enc evs init fin Own E D wr2) (hAD : Agree D wr2 w) (hzD : wr2.heap.size ≤ w.heap.size) (hE : ∀ k, E k → k < wr.heap.size) (hx : RunCtx P enc' L step Rep y s0 S0 E D' wr W) (hO : Own init w) (hrep : Rep s S w) (hgo0 : goF step s0 pre0 = (s, true)) (hD' : ∀ k, D' k → k < wr.heap.size ∧ ¬ E k)
    (hu0 : Upd (fun k => S0 k ∨ E k) W w) (hg : a.eval g = fv) (hps : ∀ x, (enc x).size = ps.size)
    (tr : τ → α → τ × Option β × Bool) (Pv : τ → World → Prop) (priv : Nat → Prop) (t0 : τ) (hpv : Pv t0 w) (hpriv : ∀ k, priv k → W.heap.size ≤ k ∧ k < w.heap.size)
    (hpst : ∀ t W W', Pv t W → Agree priv W W' → Pv t W') (rest : List β) (hDn : ∀ k, D k → ¬ S k ∧ ¬ priv k) (hSS : ∀ k, S k → k < w.heap.size ∧ (S0 k ∨ W.heap.size ≤ k) ∧ ¬ priv k) (hL : L = pre0 ++ (outs tr t0 (evs.map (·.2)) ++ rest))
    (a1 : α → Act) (hassign : ∀ (l : Nat) (x : α) (W : World) (K : Act → World → Prop), K (a1 x) W →
      assign.wpIn (Fence.wide.inRound l) 0 P (Exit.then K (fun _ _ _ => False)) { tmps := (ps.zip (enc x)).foldl (fun t (p, v) => t.setIfInBounds p v) a.tmps, defers := [] } W)
    (hbody : ∀ l pre x suf s1 t1 W1 Rdy, w.heap.size ≤ l → l < W1.heap.size → (∃ r, W1.heap[l]? = some (.loop r)) → evs.map (·.2) = pre ++ x :: suf → trSt tr t0 pre = (t1, true) → Pv t1 W1 → w.heap.size ≤ W1.heap.size → Agree D' wr W1 →
      YieldOk P tr step y enc' priv D' (fun k => k < W1.heap.size) Rdy s1 t1 x W1 →
      body.wpIn (Fence.wide.inRound l) 0 P (tBody tr step Pv priv Rdy s1 t1 x W1) (a1 x) W1)
    (hend : ∀ S' W', Rep (goF step s (outs tr t0 (evs.map (·.2)))).1 S' W' → Own (goOwn step (finT tr fin t0 evs) s (evsT tr t0 evs)) W' → Upd (fun k => S k ∨ E k ∨ priv k) w W' → w.heap.size + 2 ≤ W'.heap.size →
      Agree D' wr W' → (∀ k, S' k → k < W'.heap.size ∧ k ≠ w.heap.size ∧ ¬ priv k ∧ (S k ∨ w.heap.size ≤ k)) → W'.heap[w.heap.size]? = some (.deferred (some [])) →
      ((goF step s (outs tr t0 (evs.map (·.2)))).2 = true → (trSt tr t0 (evs.map (·.2))).2 = true → Pv (trSt tr t0 (evs.map (·.2))).1 W' → Q .normal { a with defers := { target := .collected w.heap.size, args := #[] } :: a.defers } W') ∧
      ((goF step s (outs tr t0 (evs.map (·.2)))).2 = false ∨ (trSt tr t0 (evs.map (·.2))).2 = false → Q .ret { a with defers := { target := .collected w.heap.size, args := #[] } :: a.defers } W')) :
    (Code.rangeFunc g ps assign body).wpIn Fence.wide 0 P Q a w := by
  have zu := hu0.size
  have zx := hx.size
  have hDW : ∀ k, D' k → k < W.heap.size := fun k hk => by have := (hD' k hk).1; omega
  have hEW : ∀ k, E k → k < W.heap.size := fun k hk => by have := hE k hk; omega
  have hSx : ∀ k, S k → k < w.heap.size ∧ ¬ D' k ∧ ¬ E k := fun k hk => by
    obtain ⟨p, q, _⟩ := hSS k hk
    rcases q with q | q
    · exact ⟨p, (hx.own k q).2⟩
    · exact ⟨p, fun h => by have := hDW k h; omega, fun h => by have := hEW k h; omega⟩
  have hAw : Agree D' wr w := hx.agree.trans (hu0.agree (fun k hk => ⟨hDW k hk, fun h => h.elim (fun h => (hx.own k h).2.1 hk) (fun h => (hD' k hk).2 h)⟩))
  refine wpIn_range_out hseq hg hzD hAD hO hps (stepB (stepT tr step))
    (fun s' S1 W1 => ∃ S' : Nat → Prop, (∀ k, S' k → S1 k ∧ ¬ priv k) ∧ (∀ k, priv k → S1 k) ∧ Rep s'.1.1 S' W1 ∧ (s'.2 = true → Pv s'.1.2 W1)) ((s, t0), true) (fun k => S k ∨ priv k) ?_ ?_ ?_ ?_ ?_
  · rintro k (hk | hk)
    · exact ⟨by have := (hSx k hk).1; omega, fun h => (hDn k h).1 hk, (hSx k hk).2.2⟩
    · exact ⟨(hpriv k hk).2, fun h => (hDn k h).2 hk, fun h => by have := hEW k h; have := (hpriv k hk).1; omega⟩
  · rintro s' S1 W1 W2 ⟨S', h1, h2, h3, h4⟩ hA hsz
    exact ⟨S', h1, h2, hx.stab _ _ _ _ h3 (fun k hk => hA k (h1 k hk).1) hsz, fun hb => hpst _ _ _ (h4 hb) (fun k hk => hA k (h2 k hk))⟩
  · exact ⟨S, fun k hk => ⟨.inl hk, (hSS k hk).2.2⟩, fun k hk => .inr hk, hrep, fun _ => hpv⟩
  · rintro l pre x suf ⟨⟨s1, t1⟩, b1⟩ S1 W1 hl he hgo ⟨S', h1, h2, h3, h4⟩ hsz hu1 hS1
    rw [goR_B] at hgo
    obtain ⟨hgb, hgn⟩ := Prod.mk.inj hgo
    obtain ⟨hgb1, hgb2⟩ := Prod.mk.inj hgb
    clear hgo
    have hgo : goR (stepT tr step) (s, t0) pre = ((s1, t1), none) := Prod.ext hgb1 hgn
    obtain rfl : b1 = true := by rw [← hgb2, hgn]; rfl
    replace h4 := h4 rfl
    obtain ⟨g1, g2, g3⟩ := goR_T tr step pre s t0
    rw [hgo] at g1 g2 g3
    have hg2 : (goF step s (outs tr t0 pre)).2 = true ∧ (trSt tr t0 pre).2 = true := by
      by_cases hh : ((goF step s (outs tr t0 pre)).2 && (trSt tr t0 pre).2) = true
      · simpa using hh
      · rw [if_neg hh] at g2; cases g2
    have hgF : goF step s (outs tr t0 pre) = (s1, true) := Prod.ext g1.symm hg2.1
    have hgt : trSt tr t0 pre = (t1, true) := Prod.ext (g3 hg2.1).symm hg2.2
    refine hassign l x W1 _ ⟨Upd.refl _ _, ?_⟩
    intro Wb hub hbs hrec
    have hSlt : ∀ k, S' k → k < W1.heap.size ∧ k ≠ l := fun k hk => ⟨(hS1 k (h1 k hk).1).1, (hS1 k (h1 k hk).1).2.1⟩
    have hpl : ∀ k, priv k → k ≠ l := fun k hk e => by have := (hpriv k hk).2; omega
    have hAb : ∀ T : Nat → Prop, (∀ k, T k → k < W1.heap.size ∧ k ≠ l) → Agree T W1 Wb := fun T hT => hub.agree hT
    have hpw : ∀ k, priv k → k < W1.heap.size := fun k hk => by have := (hpriv k hk).2; omega
    have hRb : Rep s1 S' Wb := hx.stab _ _ _ _ h3 (hAb S' hSlt) (by omega)
    have hS'w : ∀ k, S' k → (S k ∨ w.heap.size ≤ k) ∧ ¬ priv k := fun k hk => ⟨(hS1 k (h1 k hk).1).2.2.elim (fun h => h.elim .inl (fun h => ((h1 k hk).2 h).elim)) .inr, (h1 k hk).2⟩
    have hDb : ∀ k, D' k → k < w.heap.size ∧ ¬ ((S k ∨ priv k) ∨ E k) := fun k hk => ⟨by have := hDW k hk; omega, by
      rintro ((h | h) | h)
      · exact (hSx k h).2.1 hk
      · have := hDW k hk; have := (hpriv k h).1; omega
      · exact (hD' k hk).2 h⟩
    have hADb : Agree D' wr Wb := (hAw.trans (hu1.agree hDb)).trans (hAb D' (fun k hk => ⟨by have := hDW k hk; omega, fun e => by have := hDW k hk; omega⟩))
    have huB : Upd (fun k => S0 k ∨ E k) W Wb := by
      refine (hu0.trans hu1 (fun k hk => ?_)).trans hub (fun k hk => .inr (by omega))
      rcases hk with (h | h) | h
      · exact (hSS k h).2.1.imp .inl id
      · exact .inr (hpriv k h).1
      · exact .inl (.inr h)
    have hbody' := hbody l pre x suf s1 t1 Wb
      (fun W3 => ∃ z W2 S3, (tr t1 x).2.1 = some z ∧ Upd priv Wb W2 ∧ Upd S' W2 W3 ∧ Rep (step s1 z).1 S3 W3 ∧ ∀ k, S3 k → k < W3.heap.size ∧ (S' k ∨ W2.heap.size ≤ k))
      hl (by obtain ⟨r, hr⟩ := hrec; exact (Array.getElem?_eq_some_iff.1 hr).1) hrec he hgt (hpst _ _ _ h4 (hAb priv (fun k hk => ⟨hpw k hk, hpl k hk⟩))) (by omega) hADb ⟨?_⟩
    · refine wpIn_mono hbody' ?_
      have key : ∀ (c : Bool) (W' : World), TPost Pv priv (fun W3 => ∃ z W2 S3, (tr t1 x).2.1 = some z ∧ Upd priv Wb W2 ∧ Upd S' W2 W3 ∧ Rep (step s1 z).1 S3 W3 ∧ ∀ k, S3 k → k < W3.heap.size ∧ (S' k ∨ W2.heap.size ≤ k)) (tr t1 x).1 (tr t1 x).2.1 c Wb W' →
          Held (fun (s' : (σ × τ) × Bool) S1 W1 => ∃ S' : Nat → Prop, (∀ k, S' k → S1 k ∧ ¬ priv k) ∧ (∀ k, priv k → S1 k) ∧ Rep s'.1.1 S' W1 ∧ (s'.2 = true → Pv s'.1.2 W1)) ((stepT tr step (s1, t1) x).1, c) (fun k => S1 k ∨ W1.heap.size ≤ k) Wb W' := by
        rintro c W' ⟨hp1, hp2⟩
        cases ho : (tr t1 x).2.1 with
        | none =>
          rw [ho] at hp2
          have hp2 : Upd priv Wb W' := hp2
          have e1 : (stepT tr step (s1, t1) x).1 = (s1, (tr t1 x).1) := by simp [stepT, ho]
          rw [e1]
          refine ⟨fun k => S' k ∨ priv k, ⟨S', fun k hk => ⟨.inl hk, (h1 k hk).2⟩, fun k hk => .inr hk, hx.stab _ _ _ _ hRb (hp2.agree (fun k hk => ⟨by have := (hSlt k hk).1; omega, (h1 k hk).2⟩)) hp2.size, hp1⟩,
            hp2.mono (fun k _ hk => .inl (h2 k hk)), ?_⟩
          have := hp2.size
          rintro k (hk | hk)
          · exact ⟨by have := (hSlt k hk).1; omega, .inl (.inl (h1 k hk).1)⟩
          · exact ⟨by have := hpw k hk; omega, .inl (.inl (h2 k hk))⟩
        | some z =>
          rw [ho] at hp2
          obtain ⟨W3, ⟨z', W2, S3, hz', hu2, hu3, hR3, hS3⟩, hu4⟩ := hp2
          obtain rfl := Option.some.inj hz'
          have e1 : (stepT tr step (s1, t1) x).1 = ((step s1 z).1, (tr t1 x).1) := by simp [stepT, ho]
          rw [e1]
          have z2 := hu2.size
          have z3 := hu3.size
          have z4 := hu4.size
          have hS3p : ∀ k, S3 k → ¬ priv k := fun k hk hp => by
            rcases (hS3 k hk).2 with h | h
            · exact (h1 k h).2 hp
            · have := hpw k hp; omega
          refine ⟨fun k => S3 k ∨ priv k, ⟨S3, fun k hk => ⟨.inl hk, hS3p k hk⟩, fun k hk => .inr hk, hx.stab _ _ _ _ hR3 (hu4.agree (fun k hk => ⟨(hS3 k hk).1, hS3p k hk⟩)) z4, hp1⟩, ?_, ?_⟩
          · refine ((hu2.mono (M' := fun k => S1 k ∨ W1.heap.size ≤ k) (fun k _ hk => .inl (h2 k hk))).trans hu3 (fun k hk => .inl (.inl (h1 k hk).1))).trans hu4 (fun k hk => .inl (.inl (h2 k hk)))
          · rintro k (hk | hk)
            · obtain ⟨a, b⟩ := hS3 k hk
              exact ⟨by omega, b.elim (fun h => .inl (.inl (h1 k h).1)) (fun h => .inl (.inr (by omega)))⟩
            · exact ⟨by have := hpw k hk; omega, .inl (.inl (h2 k hk))⟩
      rintro e a' W' hp
      cases e with
      | normal => exact ⟨hp.1, by
        have e : (stepB (stepT tr step) ((s1, t1), true) x).1 = ((stepT tr step (s1, t1) x).1, true) := by simp only [stepB, hp.1, Option.isNone_none]
        rw [e]; exact key true W' hp.2⟩
      | ret => exact ⟨hp.1, by
        have e : (stepB (stepT tr step) ((s1, t1), true) x).1 = ((stepT tr step (s1, t1) x).1, false) := by simp only [stepB, hp.1, Option.isNone_some]
        rw [e]; exact key false W' hp.2⟩
      | exit id => exact hp.elim
      | goto id => exact hp.elim
      | panic id => exact hp.elim
      | outgrown => exact hp.elim
    · intro z hz W2 hu2
      have z2 := hu2.size
      obtain ⟨suf', hout⟩ := outs_prefix tr pre x suf t0 (by rw [hgt]) z (by rw [hgt]; exact hz)
      have hLz : L = (pre0 ++ outs tr t0 pre) ++ z :: (suf' ++ rest) := by rw [hL, he, hout, List.append_assoc, List.append_assoc, List.cons_append]
      have hgF' : goF step s0 (pre0 ++ outs tr t0 pre) = (s1, true) := by rw [goF_append, hgo0, if_pos rfl]; exact hgF
      refine (hx.yield _ z _ s1 S' W2 hLz hgF' (hx.stab _ _ _ _ hRb (hu2.agree (fun k hk => ⟨by have := (hSlt k hk).1; omega, (h1 k hk).2⟩)) z2) (huB.trans hu2 (fun k hk => .inr (hpriv k hk).1))
        (fun k hk => ⟨by have := (hSlt k hk).1; omega, (hS'w k hk).1.elim (fun h => (hSS k h).2.1) (fun h => .inr (by omega))⟩)).mono ?_
      rintro v W3 ⟨S3, hv, hR3, hu3, hS3⟩
      refine ⟨hv, ⟨z, W2, S3, hz, hu2, hu3, hR3, hS3⟩, hu3.mono (fun k _ hk => ⟨(h1 k hk).2, fun hd => ?_, by have := (hSlt k hk).1; omega⟩)⟩
      rcases (hS'w k hk).1 with h | h
      · exact (hSx k h).2.1 hd
      · have := hDW k hd; omega
  · rintro S1 W' ⟨S', h1, h2, h3, h4⟩ hOw hu hsz hS1 hdef
    obtain ⟨g1, g2, g3⟩ := goR_T tr step (evs.map (·.2)) s t0
    rw [goR_B] at h3 h4
    simp only [] at h3 h4
    rw [g1] at h3
    rw [goOwnR_B, goOwn_T] at hOw
    rw [goR_B]
    simp only []
    rw [g2]
    have hADe : Agree D' wr W' := hAw.trans (hu.agree (fun k hk => ⟨by have := hDW k hk; omega, by
      rintro ((h | h) | h)
      · exact (hSx k h).2.1 hk
      · have := hDW k hk; have := (hpriv k h).1; omega
      · exact (hD' k hk).2 h⟩))
    obtain ⟨e1, e2⟩ := hend S' W' h3 hOw (hu.mono (fun k _ hk => by
      rcases hk with (h | h) | h
      · exact .inl h
      · exact .inr (.inr h)
      · exact .inr (.inl h))) hsz hADe (fun k hk => by
        obtain ⟨p, q⟩ := h1 k hk
        obtain ⟨u, v, x⟩ := hS1 k p
        exact ⟨u, v, q, x.elim (fun h => h.elim .inl (fun h => (q h).elim)) .inr⟩) hdef
    by_cases hh : ((goF step s (outs tr t0 (evs.map (·.2)))).2 && (trSt tr t0 (evs.map (·.2))).2) = true
    · rw [if_pos hh]
      have hh' : (goF step s (outs tr t0 (evs.map (·.2)))).2 = true ∧ (trSt tr t0 (evs.map (·.2))).2 = true := by simpa using hh
      exact e1 hh'.1 hh'.2 (by rw [← g3 hh'.1]; exact h4 (by rw [g2, if_pos hh]; rfl))
    · rw [if_neg hh]
      refine wpIn_ret (e2 ?_)
      cases h1 : (goF step s (outs tr t0 (evs.map (·.2)))).2 with
      | false => exact .inl rfl
      | true => refine .inr ?_; simpa [h1] using hh

theorem wpIn_transM {g : Operand} {ps : Array Tmp} {assign body : Code} {Q : Exit → Act → World → Prop} {a : Act} {w W : World} {step : σ → β → σ × Bool} {Rep : σ → (Nat → Prop) → World → Prop} {s s0 : σ} {S S0 D' : Nat → Prop}
    {y : Value} {enc' : β → Array Value} {L pre0 : List β}
    (hseq : SeqO P fv enc evs init fin Own E D wr) (hx : RunCtx P enc' L step Rep y s0 S0 E D' wr W) (hO : Own init w) (hrep : Rep s S w) (hgo0 : goF step s0 pre0 = (s, true)) (hDD : ∀ k, D k → D' k) (hD' : ∀ k, D' k → k < wr.heap.size ∧ ¬ E k)
    (hu0 : Upd (fun k => S0 k ∨ E k) W w) (hg : a.eval g = fv) (hps : ∀ x, (enc x).size = ps.size)
    (tr : τ → α → τ × Option β × Bool) (Pv : τ → World → Prop) (priv : Nat → Prop) (t0 : τ) (hpv : Pv t0 w) (hpriv : ∀ k, priv k → W.heap.size ≤ k ∧ k < w.heap.size)
    (hpst : ∀ t W W', Pv t W → Agree priv W W' → Pv t W') (rest : List β) (hSS : ∀ k, S k → k < w.heap.size ∧ (S0 k ∨ W.heap.size ≤ k) ∧ ¬ priv k) (hL : L = pre0 ++ (outs tr t0 (evs.map (·.2)) ++ rest))
    (a1 : α → Act) (hassign : ∀ (l : Nat) (x : α) (W : World) (K : Act → World → Prop), K (a1 x) W →
      assign.wpIn (Fence.wide.inRound l) 0 P (Exit.then K (fun _ _ _ => False)) { tmps := (ps.zip (enc x)).foldl (fun t (p, v) => t.setIfInBounds p v) a.tmps, defers := [] } W)
    (hbody : ∀ l pre x suf s1 t1 W1 Rdy, w.heap.size ≤ l → l < W1.heap.size → (∃ r, W1.heap[l]? = some (.loop r)) → evs.map (·.2) = pre ++ x :: suf → trSt tr t0 pre = (t1, true) → Pv t1 W1 → w.heap.size ≤ W1.heap.size → Agree D' wr W1 →
      YieldOk P tr step y enc' priv D' (fun k => k < W1.heap.size) Rdy s1 t1 x W1 →
      body.wpIn (Fence.wide.inRound l) 0 P (tBody tr step Pv priv Rdy s1 t1 x W1) (a1 x) W1)
    (hend : ∀ S' W', Rep (goF step s (outs tr t0 (evs.map (·.2)))).1 S' W' → Own (goOwn step (finT tr fin t0 evs) s (evsT tr t0 evs)) W' → Upd (fun k => S k ∨ E k ∨ priv k) w W' → w.heap.size + 2 ≤ W'.heap.size →
      Agree D' wr W' → (∀ k, S' k → k < W'.heap.size ∧ k ≠ w.heap.size ∧ ¬ priv k ∧ (S k ∨ w.heap.size ≤ k)) → W'.heap[w.heap.size]? = some (.deferred (some [])) →
      ((goF step s (outs tr t0 (evs.map (·.2)))).2 = true → (trSt tr t0 (evs.map (·.2))).2 = true → Pv (trSt tr t0 (evs.map (·.2))).1 W' → Q .normal { a with defers := { target := .collected w.heap.size, args := #[] } :: a.defers } W') ∧
      ((goF step s (outs tr t0 (evs.map (·.2)))).2 = false ∨ (trSt tr t0 (evs.map (·.2))).2 = false → Q .ret { a with defers := { target := .collected w.heap.size, args := #[] } :: a.defers } W')) :
    (Code.rangeFunc g ps assign body).wpIn Fence.wide 0 P Q a w := by
  have zx := hx.size
  have hEW : ∀ k, E k → k < W.heap.size := fun k hk => by have := hseq.elt k hk; omega
  have hDW : ∀ k, D k → k < W.heap.size ∧ ¬ S0 k ∧ ¬ E k := fun k hk => ⟨by have := (hD' k (hDD k hk)).1; omega, fun h => (hx.own k h).2.1 (hDD k hk), (hD' k (hDD k hk)).2⟩
  exact wpIn_transX hseq ((hx.agree.mono hDD).trans (hu0.agree fun k hk => ⟨(hDW k hk).1, fun h => h.elim (hDW k hk).2.1 (hDW k hk).2.2⟩)) (Nat.le_trans hx.size hu0.size) hseq.elt hx hO hrep hgo0 hD' hu0 hg hps tr Pv priv t0 hpv hpriv hpst rest
    (fun k hk => ⟨fun h => (hSS k h).2.1.elim (hDW k hk).2.1 (fun h => by have := (hDW k hk).1; omega), fun h => by have := (hpriv k h).1; have := (hDW k hk).1; omega⟩) hSS hL a1 hassign hbody hend

theorem wpIn_trans {g : Operand} {ps : Array Tmp} {assign body : Code} {Q : Exit → Act → World → Prop} {a : Act} {w W : World} {step : σ → β → σ × Bool} {Rep : σ → (Nat → Prop) → World → Prop} {s : σ} {S D' : Nat → Prop}
    {y : Value} {enc' : β → Array Value} {L : List β}
    (hseq : SeqO P fv enc evs init fin Own E D wr) (hx : RunCtx P enc' L step Rep y s S E D' wr W) (hO : Own init W) (hDD : ∀ k, D k → D' k) (hD' : ∀ k, D' k → k < wr.heap.size ∧ ¬ E k)
    (hu0 : Upd (fun _ => False) W w) (hg : a.eval g = fv) (hps : ∀ x, (enc x).size = ps.size)
    (tr : τ → α → τ × Option β × Bool) (Pv : τ → World → Prop) (priv : Nat → Prop) (t0 : τ) (hpv : Pv t0 w) (hpriv : ∀ k, priv k → W.heap.size ≤ k ∧ k < w.heap.size)
    (hpst : ∀ t W W', Pv t W → Agree priv W W' → Pv t W') (rest : List β) (hL : L = outs tr t0 (evs.map (·.2)) ++ rest)
    (a1 : α → Act) (hassign : ∀ (l : Nat) (x : α) (W : World) (K : Act → World → Prop), K (a1 x) W →
      assign.wpIn (Fence.wide.inRound l) 0 P (Exit.then K (fun _ _ _ => False)) { tmps := (ps.zip (enc x)).foldl (fun t (p, v) => t.setIfInBounds p v) a.tmps, defers := [] } W)
    (hbody : ∀ l pre x suf s1 t1 W1 Rdy, w.heap.size ≤ l → l < W1.heap.size → (∃ r, W1.heap[l]? = some (.loop r)) → evs.map (·.2) = pre ++ x :: suf → trSt tr t0 pre = (t1, true) → Pv t1 W1 → w.heap.size ≤ W1.heap.size → Agree D' wr W1 →
      YieldOk P tr step y enc' priv D' (fun k => k < W1.heap.size) Rdy s1 t1 x W1 →
      body.wpIn (Fence.wide.inRound l) 0 P (tBody tr step Pv priv Rdy s1 t1 x W1) (a1 x) W1)
    (hend : ∀ S' W', Rep (goF step s (outs tr t0 (evs.map (·.2)))).1 S' W' → Own (goOwn step (finT tr fin t0 evs) s (evsT tr t0 evs)) W' → Upd (fun k => S k ∨ E k ∨ priv k) w W' → w.heap.size + 2 ≤ W'.heap.size →
      Agree D' wr W' → (∀ k, S' k → k < W'.heap.size ∧ k ≠ w.heap.size ∧ ¬ priv k ∧ (S k ∨ w.heap.size ≤ k)) → W'.heap[w.heap.size]? = some (.deferred (some [])) →
      ((goF step s (outs tr t0 (evs.map (·.2)))).2 = true → (trSt tr t0 (evs.map (·.2))).2 = true → Pv (trSt tr t0 (evs.map (·.2))).1 W' → Q .normal { a with defers := { target := .collected w.heap.size, args := #[] } :: a.defers } W') ∧
      ((goF step s (outs tr t0 (evs.map (·.2)))).2 = false ∨ (trSt tr t0 (evs.map (·.2))).2 = false → Q .ret { a with defers := { target := .collected w.heap.size, args := #[] } :: a.defers } W')) :
    (Code.rangeFunc g ps assign body).wpIn Fence.wide 0 P Q a w :=
  wpIn_transM (pre0 := []) hseq hx (hseq.stable _ _ _ hO (hu0.agree (fun k hk => ⟨by have := hseq.elt k hk; have := hx.size; omega, id⟩))) (hx.stab _ _ _ _ hx.rep (hu0.agree (fun k hk => ⟨(hx.own k hk).1, id⟩)) hu0.size) rfl hDD hD' (hu0.mono fun _ _ h => h.elim) hg hps tr Pv priv t0 hpv hpriv hpst rest
    (fun k hk => ⟨Nat.lt_of_lt_of_le (hx.own k hk).1 hu0.size, .inl hk, fun h => by have := (hpriv k h).1; have := (hx.own k hk).1; omega⟩) hL a1 hassign hbody hend

/-- A function without results that holds one range over a function is left. -/
theorem leave_none {fn : Func} {R : Value → World → Prop} {a : Act} {W : World} {Dk : Nat} (hfn : fn.results = #[]) (ha : a.defers = [{ target := .collected Dk, args := #[] }])
    (hD : W.heap[Dk]? = some (.deferred (some []))) (h : R (.tuple #[]) (W.putObj Dk (.deferred none))) : LeavesInM Fence.wide 0 P fn a.tmps (Ret R) a.defers .returning W := by
  rw [ha]
  exact ⟨by simp, .inl ⟨_, _, rfl, run_takeDeferred hD, ⟨_, results_none hfn _ _ _, ⟨_, rfl, h⟩⟩⟩⟩

/-- Where the end of such a loop is the closure's end. -/
theorem trans_fnR {fn : Func} {g : Operand} {ps : Array Tmp} {assign body : Code} {Q : Exit → Act → World → Prop} {a : Act} {w W : World} {step : σ → β → σ × Bool} {Rep : σ → (Nat → Prop) → World → Prop} {s : σ} {S D' : Nat → Prop}
    {y : Value} {enc' : β → Array Value} {L : List β} {OwnF : World → Prop} {sF : σ} {R : Value → World → Prop} (hRR : ∀ v W', RunEnd Rep sF OwnF S E W v W' → R v W')
    (hseq : SeqO P fv enc evs init fin Own E D wr) (hx : RunCtx P enc' L step Rep y s S E D' wr W) (hO : Own init W) (hDD : ∀ k, D k → D' k) (hD' : ∀ k, D' k → k < wr.heap.size ∧ ¬ E k)
    (hu0 : Upd (fun _ => False) W w) (hg : a.eval g = fv) (hps : ∀ x, (enc x).size = ps.size) (hfn : fn.results = #[]) (ha : a.defers = [])
    (hQn : ∀ a' W', LeavesInM Fence.wide 0 P fn a'.tmps (Ret R) a'.defers .returning W' → Q .normal a' W' ∧ Q .ret a' W')
    (tr : τ → α → τ × Option β × Bool) (Pv : τ → World → Prop) (priv : Nat → Prop) (t0 : τ) (hpv : Pv t0 w) (hpriv : ∀ k, priv k → W.heap.size ≤ k ∧ k < w.heap.size)
    (hpst : ∀ t W W', Pv t W → Agree priv W W' → Pv t W') (hL : L = outs tr t0 (evs.map (·.2))) (hsF : sF = (goF step s L).1) (hOF : OwnF = Own (goOwn step (finT tr fin t0 evs) s (evsT tr t0 evs)))
    (a1 : α → Act) (hassign : ∀ (l : Nat) (x : α) (W : World) (K : Act → World → Prop), K (a1 x) W →
      assign.wpIn (Fence.wide.inRound l) 0 P (Exit.then K (fun _ _ _ => False)) { tmps := (ps.zip (enc x)).foldl (fun t (p, v) => t.setIfInBounds p v) a.tmps, defers := [] } W)
    (hbody : ∀ l pre x suf s1 t1 W1 Rdy, w.heap.size ≤ l → l < W1.heap.size → (∃ r, W1.heap[l]? = some (.loop r)) → evs.map (·.2) = pre ++ x :: suf → trSt tr t0 pre = (t1, true) → Pv t1 W1 → w.heap.size ≤ W1.heap.size → Agree D' wr W1 →
      YieldOk P tr step y enc' priv D' (fun k => k < W1.heap.size) Rdy s1 t1 x W1 →
      body.wpIn (Fence.wide.inRound l) 0 P (tBody tr step Pv priv Rdy s1 t1 x W1) (a1 x) W1) :
    (Code.rangeFunc g ps assign body).wpIn Fence.wide 0 P Q a w := by
  refine wpIn_trans hseq hx hO hDD hD' hu0 hg hps tr Pv priv t0 hpv hpriv hpst [] (by simp [hL]) a1 hassign hbody ?_
  intro S' W' hR hOw hu _ _ hS' hD
  have zu := hu0.size
  have zx := hx.size
  have hfin : LeavesInM Fence.wide 0 P fn a.tmps (Ret R) ({ target := .collected w.heap.size, args := #[] } :: a.defers) .returning W' := by
    rw [ha]
    refine leave_none (a := { tmps := a.tmps, defers := [{ target := .collected w.heap.size, args := #[] }] }) hfn rfl hD (hRR _ _ ⟨S', ?_, ?_, ?_, fun k hk => ?_⟩)
    · rw [hsF, hL]; exact hx.stab _ _ _ _ hR (fun k hk => World.putObj_heap_other (hS' k hk).2.1) (by simp)
    · rw [hOF]; exact hseq.stable _ _ _ hOw (fun k hk => World.putObj_heap_other (by have := hseq.elt k hk; omega))
    · refine ((hu0.mono (fun _ _ h => h.elim)).trans hu (fun k hk => ?_)).stepPut (.inr zu) _
      rcases hk with h | h | h
      · exact .inl (.inl h)
      · exact .inl (.inr h)
      · exact .inr (hpriv k h).1
    · obtain ⟨p, _, _, r⟩ := hS' k hk
      exact ⟨by simpa using p, r.imp id (fun h => by omega)⟩
  exact ⟨fun _ _ _ => (hQn { tmps := a.tmps, defers := { target := .collected w.heap.size, args := #[] } :: a.defers } W' hfin).1, fun _ => (hQn { tmps := a.tmps, defers := { target := .collected w.heap.size, args := #[] } :: a.defers } W' hfin).2⟩
theorem trans_fnM {fn : Func} {g : Operand} {ps : Array Tmp} {assign body : Code} {Q : Exit → Act → World → Prop} {a : Act} {w W : World} {step : σ → β → σ × Bool} {Rep : σ → (Nat → Prop) → World → Prop} {s s0 : σ} {S S0 D' : Nat → Prop}
    {y : Value} {enc' : β → Array Value} {L pre0 : List β} {OwnF : World → Prop} {sF : σ} {R : Value → World → Prop} (hRR : ∀ v W', RunEnd Rep sF OwnF S0 E W v W' → R v W')
    (hseq : SeqO P fv enc evs init fin Own E D wr) (hx : RunCtx P enc' L step Rep y s0 S0 E D' wr W) (hO : Own init w) (hrep : Rep s S w) (hgo0 : goF step s0 pre0 = (s, true)) (hDD : ∀ k, D k → D' k) (hD' : ∀ k, D' k → k < wr.heap.size ∧ ¬ E k)
    (hu0 : Upd (fun k => S0 k ∨ E k) W w) (hg : a.eval g = fv) (hps : ∀ x, (enc x).size = ps.size) (hfn : fn.results = #[]) (ha : a.defers = [])
    (hQn : ∀ a' W', LeavesInM Fence.wide 0 P fn a'.tmps (Ret R) a'.defers .returning W' → Q .normal a' W' ∧ Q .ret a' W')
    (tr : τ → α → τ × Option β × Bool) (Pv : τ → World → Prop) (priv : Nat → Prop) (t0 : τ) (hpv : Pv t0 w) (hpriv : ∀ k, priv k → W.heap.size ≤ k ∧ k < w.heap.size)
    (hpst : ∀ t W W', Pv t W → Agree priv W W' → Pv t W') (hSS : ∀ k, S k → k < w.heap.size ∧ (S0 k ∨ W.heap.size ≤ k) ∧ ¬ priv k) (hL : L = pre0 ++ outs tr t0 (evs.map (·.2))) (hsF : sF = (goF step s0 L).1) (hOF : OwnF = Own (goOwn step (finT tr fin t0 evs) s (evsT tr t0 evs)))
    (a1 : α → Act) (hassign : ∀ (l : Nat) (x : α) (W : World) (K : Act → World → Prop), K (a1 x) W →
      assign.wpIn (Fence.wide.inRound l) 0 P (Exit.then K (fun _ _ _ => False)) { tmps := (ps.zip (enc x)).foldl (fun t (p, v) => t.setIfInBounds p v) a.tmps, defers := [] } W)
    (hbody : ∀ l pre x suf s1 t1 W1 Rdy, w.heap.size ≤ l → l < W1.heap.size → (∃ r, W1.heap[l]? = some (.loop r)) → evs.map (·.2) = pre ++ x :: suf → trSt tr t0 pre = (t1, true) → Pv t1 W1 → w.heap.size ≤ W1.heap.size → Agree D' wr W1 →
      YieldOk P tr step y enc' priv D' (fun k => k < W1.heap.size) Rdy s1 t1 x W1 →
      body.wpIn (Fence.wide.inRound l) 0 P (tBody tr step Pv priv Rdy s1 t1 x W1) (a1 x) W1) :
    (Code.rangeFunc g ps assign body).wpIn Fence.wide 0 P Q a w := by
  refine wpIn_transM hseq hx hO hrep hgo0 hDD hD' hu0 hg hps tr Pv priv t0 hpv hpriv hpst [] hSS (by simp [hL]) a1 hassign hbody ?_
  intro S' W' hR hOw hu _ _ hS' hD
  have zu := hu0.size
  have zx := hx.size
  have hfin : LeavesInM Fence.wide 0 P fn a.tmps (Ret R) ({ target := .collected w.heap.size, args := #[] } :: a.defers) .returning W' := by
    rw [ha]
    refine leave_none (a := { tmps := a.tmps, defers := [{ target := .collected w.heap.size, args := #[] }] }) hfn rfl hD (hRR _ _ ⟨S', ?_, ?_, ?_, fun k hk => ?_⟩)
    · rw [hsF, hL, goF_append, hgo0, if_pos rfl]; exact hx.stab _ _ _ _ hR (fun k hk => World.putObj_heap_other (hS' k hk).2.1) (by simp)
    · rw [hOF]; exact hseq.stable _ _ _ hOw (fun k hk => World.putObj_heap_other (by have := hseq.elt k hk; omega))
    · refine (hu0.trans hu (fun k hk => ?_)).stepPut (.inr zu) _
      rcases hk with h | h | h
      · exact (hSS k h).2.1.imp .inl id
      · exact .inl (.inr h)
      · exact .inr (hpriv k h).1
    · obtain ⟨p, _, _, r⟩ := hS' k hk
      exact ⟨by simpa using p, r.elim (fun h => (hSS k h).2.1) (fun h => .inr (by omega))⟩
  exact ⟨fun _ _ _ => (hQn { tmps := a.tmps, defers := { target := .collected w.heap.size, args := #[] } :: a.defers } W' hfin).1, fun _ => (hQn { tmps := a.tmps, defers := { target := .collected w.heap.size, args := #[] } :: a.defers } W' hfin).2⟩
theorem trans_fnX {fn : Func} {g : Operand} {ps : Array Tmp} {assign body : Code} {Q : Exit → Act → World → Prop} {a : Act} {w W wr2 : World} {step : σ → β → σ × Bool} {Rep : σ → (Nat → Prop) → World → Prop} {s s0 : σ} {S S0 D' : Nat → Prop}
    {y : Value} {enc' : β → Array Value} {L pre0 : List β} {OwnF : World → Prop} {sF : σ} {R : Value → World → Prop} (hRR : ∀ v W', RunEnd Rep sF OwnF S0 E W v W' → R v W')
    (hseq : SeqO P fv enc evs init fin Own E D wr2) (hAD : Agree D wr2 w) (hzD : wr2.heap.size ≤ w.heap.size) (hE : ∀ k, E k → k < wr.heap.size) (hx : RunCtx P enc' L step Rep y s0 S0 E D' wr W) (hO : Own init w) (hrep : Rep s S w) (hgo0 : goF step s0 pre0 = (s, true)) (hD' : ∀ k, D' k → k < wr.heap.size ∧ ¬ E k)
    (hu0 : Upd (fun k => S0 k ∨ E k) W w) (hg : a.eval g = fv) (hps : ∀ x, (enc x).size = ps.size) (hfn : fn.results = #[]) (ha : a.defers = [])
    (hQn : ∀ a' W', LeavesInM Fence.wide 0 P fn a'.tmps (Ret R) a'.defers .returning W' → Q .normal a' W' ∧ Q .ret a' W')
    (tr : τ → α → τ × Option β × Bool) (Pv : τ → World → Prop) (priv : Nat → Prop) (t0 : τ) (hpv : Pv t0 w) (hpriv : ∀ k, priv k → W.heap.size ≤ k ∧ k < w.heap.size)
    (hpst : ∀ t W W', Pv t W → Agree priv W W' → Pv t W') (hDn : ∀ k, D k → ¬ S k ∧ ¬ priv k) (hSS : ∀ k, S k → k < w.heap.size ∧ (S0 k ∨ W.heap.size ≤ k) ∧ ¬ priv k) (hL : L = pre0 ++ outs tr t0 (evs.map (·.2))) (hsF : sF = (goF step s0 L).1) (hOF : OwnF = Own (goOwn step (finT tr fin t0 evs) s (evsT tr t0 evs)))
    (a1 : α → Act) (hassign : ∀ (l : Nat) (x : α) (W : World) (K : Act → World → Prop), K (a1 x) W →
      assign.wpIn (Fence.wide.inRound l) 0 P (Exit.then K (fun _ _ _ => False)) { tmps := (ps.zip (enc x)).foldl (fun t (p, v) => t.setIfInBounds p v) a.tmps, defers := [] } W)
    (hbody : ∀ l pre x suf s1 t1 W1 Rdy, w.heap.size ≤ l → l < W1.heap.size → (∃ r, W1.heap[l]? = some (.loop r)) → evs.map (·.2) = pre ++ x :: suf → trSt tr t0 pre = (t1, true) → Pv t1 W1 → w.heap.size ≤ W1.heap.size → Agree D' wr W1 →
      YieldOk P tr step y enc' priv D' (fun k => k < W1.heap.size) Rdy s1 t1 x W1 →
      body.wpIn (Fence.wide.inRound l) 0 P (tBody tr step Pv priv Rdy s1 t1 x W1) (a1 x) W1) :
    (Code.rangeFunc g ps assign body).wpIn Fence.wide 0 P Q a w := by
  refine wpIn_transX hseq hAD hzD hE hx hO hrep hgo0 hD' hu0 hg hps tr Pv priv t0 hpv hpriv hpst [] hDn hSS (by simp [hL]) a1 hassign hbody ?_
  intro S' W' hR hOw hu _ _ hS' hD
  have zu := hu0.size
  have zx := hx.size
  have hfin : LeavesInM Fence.wide 0 P fn a.tmps (Ret R) ({ target := .collected w.heap.size, args := #[] } :: a.defers) .returning W' := by
    rw [ha]
    refine leave_none (a := { tmps := a.tmps, defers := [{ target := .collected w.heap.size, args := #[] }] }) hfn rfl hD (hRR _ _ ⟨S', ?_, ?_, ?_, fun k hk => ?_⟩)
    · rw [hsF, hL, goF_append, hgo0, if_pos rfl]; exact hx.stab _ _ _ _ hR (fun k hk => World.putObj_heap_other (hS' k hk).2.1) (by simp)
    · rw [hOF]; exact hseq.stable _ _ _ hOw (fun k hk => World.putObj_heap_other (by have := hE k hk; omega))
    · refine (hu0.trans hu (fun k hk => ?_)).stepPut (.inr zu) _
      rcases hk with h | h | h
      · exact (hSS k h).2.1.imp .inl id
      · exact .inl (.inr h)
      · exact .inr (hpriv k h).1
    · obtain ⟨p, _, _, r⟩ := hS' k hk
      exact ⟨by simpa using p, r.elim (fun h => (hSS k h).2.1) (fun h => .inr (by omega))⟩
  exact ⟨fun _ _ _ => (hQn { tmps := a.tmps, defers := { target := .collected w.heap.size, args := #[] } :: a.defers } W' hfin).1, fun _ => (hQn { tmps := a.tmps, defers := { target := .collected w.heap.size, args := #[] } :: a.defers } W' hfin).2⟩
theorem trans_fn {fn : Func} {g : Operand} {ps : Array Tmp} {assign body : Code} {Q : Exit → Act → World → Prop} {a : Act} {w W : World} {step : σ → β → σ × Bool} {Rep : σ → (Nat → Prop) → World → Prop} {s : σ} {S D' : Nat → Prop}
    {y : Value} {enc' : β → Array Value} {L : List β} {OwnF : World → Prop} {sF : σ}
    (hseq : SeqO P fv enc evs init fin Own E D wr) (hx : RunCtx P enc' L step Rep y s S E D' wr W) (hO : Own init W) (hDD : ∀ k, D k → D' k) (hD' : ∀ k, D' k → k < wr.heap.size ∧ ¬ E k)
    (hu0 : Upd (fun _ => False) W w) (hg : a.eval g = fv) (hps : ∀ x, (enc x).size = ps.size) (hfn : fn.results = #[]) (ha : a.defers = [])
    (hQn : ∀ a' W', LeavesInM Fence.wide 0 P fn a'.tmps (Ret (RunEnd Rep sF OwnF S E W)) a'.defers .returning W' → Q .normal a' W' ∧ Q .ret a' W')
    (tr : τ → α → τ × Option β × Bool) (Pv : τ → World → Prop) (priv : Nat → Prop) (t0 : τ) (hpv : Pv t0 w) (hpriv : ∀ k, priv k → W.heap.size ≤ k ∧ k < w.heap.size)
    (hpst : ∀ t W W', Pv t W → Agree priv W W' → Pv t W') (hL : L = outs tr t0 (evs.map (·.2))) (hsF : sF = (goF step s L).1) (hOF : OwnF = Own (goOwn step (finT tr fin t0 evs) s (evsT tr t0 evs)))
    (a1 : α → Act) (hassign : ∀ (l : Nat) (x : α) (W : World) (K : Act → World → Prop), K (a1 x) W →
      assign.wpIn (Fence.wide.inRound l) 0 P (Exit.then K (fun _ _ _ => False)) { tmps := (ps.zip (enc x)).foldl (fun t (p, v) => t.setIfInBounds p v) a.tmps, defers := [] } W)
    (hbody : ∀ l pre x suf s1 t1 W1 Rdy, w.heap.size ≤ l → l < W1.heap.size → (∃ r, W1.heap[l]? = some (.loop r)) → evs.map (·.2) = pre ++ x :: suf → trSt tr t0 pre = (t1, true) → Pv t1 W1 → w.heap.size ≤ W1.heap.size → Agree D' wr W1 →
      YieldOk P tr step y enc' priv D' (fun k => k < W1.heap.size) Rdy s1 t1 x W1 →
      body.wpIn (Fence.wide.inRound l) 0 P (tBody tr step Pv priv Rdy s1 t1 x W1) (a1 x) W1) :
    (Code.rangeFunc g ps assign body).wpIn Fence.wide 0 P Q a w :=
  trans_fnR (fun _ _ h => h) hseq hx hO hDD hD' hu0 hg hps hfn ha hQn tr Pv priv t0 hpv hpriv hpst hL hsF hOF a1 hassign hbody
end transwp

/-! ### Iterators that hand memory of their own over with each element -/

/-- As 'RunCtx', an element being handed over with blocks G: 'Giv x vs G W'. -/
structure GiveCtx (P : Program) {α σ : Type} (Giv : α → Array Value → (Nat → Prop) → World → Prop) (L : List α) (step : σ → α → σ × Bool) (Rep : σ → (Nat → Prop) → World → Prop) (y : Value) (s : σ) (S E D : Nat → Prop) (w W : World) : Prop where
  shape : ∃ fn first cap, y = .func fn first cap
  size : w.heap.size ≤ W.heap.size
  agree : Agree D w W
  own : ∀ k, S k → k < W.heap.size ∧ ¬ D k ∧ ¬ E k
  stab : ∀ s S W1 W2, Rep s S W1 → Agree S W1 W2 → W1.heap.size ≤ W2.heap.size → Rep s S W2
  yield : ∀ pre x suf s1 S1 W1 vs G, L = pre ++ x :: suf → goF step s pre = (s1, true) → Rep s1 S1 W1 → Giv x vs G W1 → (∀ k, G k → W.heap.size ≤ k ∧ k < W1.heap.size ∧ ¬ S1 k) → Upd (fun k => S k ∨ E k) W W1 →
      (∀ k, S1 k → k < W1.heap.size ∧ (S k ∨ W.heap.size ≤ k)) →
      CallV P y vs W1 fun v W2 => ∃ S2, v = .bool (step s1 x).2 ∧ Rep (step s1 x).1 S2 W2 ∧ Upd (fun k => S1 k ∨ G k) W1 W2 ∧ (∀ k, S2 k → k < W2.heap.size ∧ (S1 k ∨ G k ∨ W1.heap.size ≤ k))
  rep : Rep s S W

structure SeqG (P : Program) {α ω : Type} (fv : Value) (Giv : α → Array Value → (Nat → Prop) → World → Prop) (evs : List (ω × α)) (init fin : ω) (Own : ω → World → Prop) (E D : Nat → Prop) (w : World) : Prop where
  fn : ∃ k cap, fv = .func (.func k) #[] cap
  dlt : ∀ k, D k → k < w.heap.size ∧ ¬ E k
  elt : ∀ k, E k → k < w.heap.size
  stable : ∀ o W W', Own o W → Agree E W W' → Own o W'
  run : ∀ (σ : Type) (step : σ → α → σ × Bool) (Rep : σ → (Nat → Prop) → World → Prop) (y : Value) (s : σ) (S : Nat → Prop) (W : World),
    GiveCtx P Giv (evs.map (·.2)) step Rep y s S E D w W → Own init W → CallV P fv #[y] W (RunEnd Rep (goF step s (evs.map (·.2))).1 (Own (goOwn step fin s evs)) S E W)

/-- What the body of such a loop leaves; Pr: the blocks of the iterator's own at the round's begin. -/
def TPostG {β τ : Type} (Pv : τ → (Nat → Prop) → World → Prop) (Pr : Nat → Prop) (Rdy : World → (Nat → Prop) → World → Prop) (t' : τ) (o : Option β) (c : Bool) (W1 W' : World) : Prop :=
  ∃ Pr', (c = true → Pv t' Pr' W') ∧ match o with
    | none => Upd Pr W1 W' ∧ ∀ k, Pr' k → k < W'.heap.size ∧ (Pr k ∨ W1.heap.size ≤ k)
    | some _ => ∃ W2 G W3, Rdy W2 G W3 ∧ Upd (fun k => (Pr k ∨ W1.heap.size ≤ k) ∧ k < W2.heap.size ∧ ¬ G k) W3 W' ∧ W2.heap.size ≤ W3.heap.size ∧
        ∀ k, Pr' k → k < W'.heap.size ∧ ((Pr k ∧ ¬ G k) ∨ (W1.heap.size ≤ k ∧ k < W2.heap.size ∧ ¬ G k) ∨ W3.heap.size ≤ k)

def tBodyG {α β τ σ : Type} (tr : τ → α → τ × Option β × Bool) (step : σ → β → σ × Bool) (Pv : τ → (Nat → Prop) → World → Prop) (Pr : Nat → Prop) (Rdy : World → (Nat → Prop) → World → Prop) (s1 : σ) (t1 : τ) (x : α) (W1 : World) : Exit → Act → World → Prop
  | .normal, _, W' => (stepT tr step (s1, t1) x).2 = none ∧ TPostG Pv Pr Rdy (tr t1 x).1 (tr t1 x).2.1 true W1 W'
  | .ret, _, W' => (stepT tr step (s1, t1) x).2 = some .ret ∧ TPostG Pv Pr Rdy (tr t1 x).1 (tr t1 x).2.1 false W1 W'
  | _, _, _ => False

structure YieldOkG (P : Program) {α β τ σ : Type} (tr : τ → α → τ × Option β × Bool) (step : σ → β → σ × Bool) (y : Value) (Giv : β → Array Value → (Nat → Prop) → World → Prop) (Pr D' : Nat → Prop) (Rdy : World → (Nat → Prop) → World → Prop) (s1 : σ) (t1 : τ) (x : α) (W1 : World) : Prop where
  call : ∀ z, (tr t1 x).2.1 = some z → ∀ W2 vs G, Upd Pr W1 W2 → Giv z vs G W2 → (∀ k, G k → k < W2.heap.size ∧ (Pr k ∨ W1.heap.size ≤ k)) →
    CallV P y vs W2 fun v W3 => v = .bool (step s1 z).2 ∧ Rdy W2 G W3 ∧ Upd (fun k => G k ∨ (¬ Pr k ∧ ¬ D' k ∧ k < W1.heap.size)) W2 W3

section transG
variable {P : Program} {α β τ σ ω : Type} {fv : Value} {enc : α → Array Value} {evs : List (ω × α)} {init fin : ω} {Own : ω → World → Prop} {E D : Nat → Prop} {wr : World}

theorem wpIn_transG {g : Operand} {ps : Array Tmp} {assign body : Code} {Q : Exit → Act → World → Prop} {a : Act} {w W : World} {step : σ → β → σ × Bool} {Rep : σ → (Nat → Prop) → World → Prop} {s : σ} {S D' : Nat → Prop}
    {y : Value} {Giv : β → Array Value → (Nat → Prop) → World → Prop} {L : List β}
    (hseq : SeqO P fv enc evs init fin Own E D wr) (hx : GiveCtx P Giv L step Rep y s S E D' wr W) (hO : Own init W) (hDD : ∀ k, D k → D' k) (hD' : ∀ k, D' k → k < wr.heap.size ∧ ¬ E k)
    (hu0 : Upd (fun _ => False) W w) (hg : a.eval g = fv) (hps : ∀ x, (enc x).size = ps.size)
    (tr : τ → α → τ × Option β × Bool) (Pv : τ → (Nat → Prop) → World → Prop) (Pr0 : Nat → Prop) (t0 : τ) (hpv : Pv t0 Pr0 w) (hpriv : ∀ k, Pr0 k → W.heap.size ≤ k ∧ k < w.heap.size)
    (hpst : ∀ t Pr W W', Pv t Pr W → Agree Pr W W' → W.heap.size ≤ W'.heap.size → Pv t Pr W') (rest : List β) (hL : L = outs tr t0 (evs.map (·.2)) ++ rest)
    (a1 : α → Act) (hassign : ∀ (l : Nat) (x : α) (W : World) (K : Act → World → Prop), K (a1 x) W →
      assign.wpIn (Fence.wide.inRound l) 0 P (Exit.then K (fun _ _ _ => False)) { tmps := (ps.zip (enc x)).foldl (fun t (p, v) => t.setIfInBounds p v) a.tmps, defers := [] } W)
    (hbody : ∀ l pre x suf s1 t1 Pr W1 Rdy, w.heap.size ≤ l → l < W1.heap.size → (∃ r, W1.heap[l]? = some (.loop r)) → ¬ Pr l → evs.map (·.2) = pre ++ x :: suf → trSt tr t0 pre = (t1, true) → Pv t1 Pr W1 →
      (∀ k, Pr k → W.heap.size ≤ k ∧ k < W1.heap.size) → w.heap.size ≤ W1.heap.size → Agree D' wr W1 →
      YieldOkG P tr step y Giv Pr D' Rdy s1 t1 x W1 →
      body.wpIn (Fence.wide.inRound l) 0 P (tBodyG tr step Pv Pr Rdy s1 t1 x W1) (a1 x) W1)
    (hend : ∀ S' Pr' W', Rep (goF step s (outs tr t0 (evs.map (·.2)))).1 S' W' → Own (goOwn step (finT tr fin t0 evs) s (evsT tr t0 evs)) W' → Upd (fun k => S k ∨ E k) W W' → w.heap.size + 2 ≤ W'.heap.size →
      Agree D' wr W' → (∀ k, S' k → k < W'.heap.size ∧ k ≠ w.heap.size ∧ (S k ∨ W.heap.size ≤ k)) → (∀ k, Pr' k → W.heap.size ≤ k ∧ k < W'.heap.size ∧ k ≠ w.heap.size ∧ ¬ S' k) → W'.heap[w.heap.size]? = some (.deferred (some [])) →
      ((goF step s (outs tr t0 (evs.map (·.2)))).2 = true → (trSt tr t0 (evs.map (·.2))).2 = true → Pv (trSt tr t0 (evs.map (·.2))).1 Pr' W' → Q .normal { a with defers := { target := .collected w.heap.size, args := #[] } :: a.defers } W') ∧
      ((goF step s (outs tr t0 (evs.map (·.2)))).2 = false ∨ (trSt tr t0 (evs.map (·.2))).2 = false → Q .ret { a with defers := { target := .collected w.heap.size, args := #[] } :: a.defers } W')) :
    (Code.rangeFunc g ps assign body).wpIn Fence.wide 0 P Q a w := by
  have zu := hu0.size
  have zx := hx.size
  have hDW : ∀ k, D' k → k < W.heap.size := fun k hk => by have := (hD' k hk).1; omega
  have hEW : ∀ k, E k → k < W.heap.size := fun k hk => by have := hseq.elt k hk; omega
  have hSx := hx.own
  have hAw : Agree D' wr w := hx.agree.trans (hu0.agree (fun k hk => ⟨hDW k hk, id⟩))
  refine wpIn_range_out hseq hg (by omega) (hAw.mono hDD) (hseq.stable _ _ _ hO (hu0.agree (fun k hk => ⟨hEW k hk, id⟩))) hps (stepB (stepT tr step))
    (fun s' S1 W1 => ∃ S' Pr : Nat → Prop, (∀ k, S' k → S1 k ∧ ¬ Pr k) ∧ (∀ k, Pr k → S1 k ∧ W.heap.size ≤ k) ∧ Rep s'.1.1 S' W1 ∧ (s'.2 = true → Pv s'.1.2 Pr W1) ∧ (∀ k, S' k → S k ∨ W.heap.size ≤ k)) ((s, t0), true) (fun k => S k ∨ Pr0 k) ?_ ?_ ?_ ?_ ?_
  · rintro k (hk | hk)
    · exact ⟨by have := (hSx k hk).1; omega, fun h => (hSx k hk).2.1 (hDD k h), (hSx k hk).2.2⟩
    · exact ⟨(hpriv k hk).2, fun h => by have := hDW k (hDD k h); have := (hpriv k hk).1; omega, fun h => by have := hEW k h; have := (hpriv k hk).1; omega⟩
  · rintro s' S1 W1 W2 ⟨S', Pr, h1, h2, h3, h4, h5⟩ hA hsz
    exact ⟨S', Pr, h1, h2, hx.stab _ _ _ _ h3 (fun k hk => hA k (h1 k hk).1) hsz, fun hb => hpst _ _ _ _ (h4 hb) (fun k hk => hA k (h2 k hk).1) hsz, h5⟩
  · exact ⟨S, Pr0, fun k hk => ⟨.inl hk, fun h => by have := (hpriv k h).1; have := (hSx k hk).1; omega⟩, fun k hk => ⟨.inr hk, (hpriv k hk).1⟩, hx.stab _ _ _ _ hx.rep (hu0.agree (fun k hk => ⟨(hSx k hk).1, id⟩)) zu, fun _ => hpv, fun k hk => .inl hk⟩
  · rintro l pre x suf ⟨⟨s1, t1⟩, b1⟩ S1 W1 hl he hgo ⟨S', Pr, h1, h2, h3, h4, h5⟩ hsz hu1 hS1
    rw [goR_B] at hgo
    obtain ⟨hgb, hgn⟩ := Prod.mk.inj hgo
    obtain ⟨hgb1, hgb2⟩ := Prod.mk.inj hgb
    clear hgo
    have hgo : goR (stepT tr step) (s, t0) pre = ((s1, t1), none) := Prod.ext hgb1 hgn
    obtain rfl : b1 = true := by rw [← hgb2, hgn]; rfl
    replace h4 := h4 rfl
    obtain ⟨g1, g2, g3⟩ := goR_T tr step pre s t0
    rw [hgo] at g1 g2 g3
    have hg2 : (goF step s (outs tr t0 pre)).2 = true ∧ (trSt tr t0 pre).2 = true := by
      by_cases hh : ((goF step s (outs tr t0 pre)).2 && (trSt tr t0 pre).2) = true
      · simpa using hh
      · rw [if_neg hh] at g2; cases g2
    have hgF : goF step s (outs tr t0 pre) = (s1, true) := Prod.ext g1.symm hg2.1
    have hgt : trSt tr t0 pre = (t1, true) := Prod.ext (g3 hg2.1).symm hg2.2
    refine hassign l x W1 _ ⟨Upd.refl _ _, ?_⟩
    intro Wb hub hbs hrec
    have hSlt : ∀ k, S' k → k < W1.heap.size ∧ k ≠ l := fun k hk => ⟨(hS1 k (h1 k hk).1).1, (hS1 k (h1 k hk).1).2.1⟩
    have hPlt : ∀ k, Pr k → k < W1.heap.size ∧ k ≠ l := fun k hk => ⟨(hS1 k (h2 k hk).1).1, (hS1 k (h2 k hk).1).2.1⟩
    have hAb : ∀ T : Nat → Prop, (∀ k, T k → k < W1.heap.size ∧ k ≠ l) → Agree T W1 Wb := fun T hT => hub.agree hT
    have hRb : Rep s1 S' Wb := hx.stab _ _ _ _ h3 (hAb S' hSlt) (by omega)
    have hDb : ∀ k, D' k → k < w.heap.size ∧ ¬ ((S k ∨ Pr0 k) ∨ E k) := fun k hk => ⟨by have := hDW k hk; omega, by
      rintro ((h | h) | h)
      · exact (hSx k h).2.1 hk
      · have := hDW k hk; have := (hpriv k h).1; omega
      · exact (hD' k hk).2 h⟩
    have hADb : Agree D' wr Wb := (hAw.trans (hu1.agree hDb)).trans (hAb D' (fun k hk => ⟨by have := hDW k hk; omega, fun e => by have := hDW k hk; omega⟩))
    have huB : Upd (fun k => S k ∨ E k) W Wb := by
      refine ((hu0.mono (fun _ _ h => h.elim)).trans hu1 (fun k hk => ?_)).trans hub (fun k hk => .inr (by omega))
      rcases hk with (h | h) | h
      · exact .inl (.inl h)
      · exact .inr (hpriv k h).1
      · exact .inl (.inr h)
    have hbody' := hbody l pre x suf s1 t1 Pr Wb
      (fun W2 G W3 => ∃ z S3, (tr t1 x).2.1 = some z ∧ Upd Pr Wb W2 ∧ (∀ k, G k → k < W2.heap.size ∧ (Pr k ∨ Wb.heap.size ≤ k)) ∧ Upd (fun k => S' k ∨ G k) W2 W3 ∧ Rep (step s1 z).1 S3 W3 ∧ ∀ k, S3 k → k < W3.heap.size ∧ (S' k ∨ G k ∨ W2.heap.size ≤ k))
      hl (by obtain ⟨r, hr⟩ := hrec; exact (Array.getElem?_eq_some_iff.1 hr).1) hrec (fun h => (hPlt _ h).2 rfl) he hgt (hpst _ _ _ _ h4 (hAb Pr hPlt) (by omega)) (fun k hk => ⟨(h2 k hk).2, by have := (hPlt k hk).1; omega⟩) (by omega) hADb ⟨?_⟩
    · refine wpIn_mono hbody' ?_
      have key : ∀ (c : Bool) (W' : World), TPostG Pv Pr (fun W2 G W3 => ∃ z S3, (tr t1 x).2.1 = some z ∧ Upd Pr Wb W2 ∧ (∀ k, G k → k < W2.heap.size ∧ (Pr k ∨ Wb.heap.size ≤ k)) ∧ Upd (fun k => S' k ∨ G k) W2 W3 ∧ Rep (step s1 z).1 S3 W3 ∧ ∀ k, S3 k → k < W3.heap.size ∧ (S' k ∨ G k ∨ W2.heap.size ≤ k)) (tr t1 x).1 (tr t1 x).2.1 c Wb W' →
          Held (fun (s' : (σ × τ) × Bool) S1 W1 => ∃ S' Pr : Nat → Prop, (∀ k, S' k → S1 k ∧ ¬ Pr k) ∧ (∀ k, Pr k → S1 k ∧ W.heap.size ≤ k) ∧ Rep s'.1.1 S' W1 ∧ (s'.2 = true → Pv s'.1.2 Pr W1) ∧ (∀ k, S' k → S k ∨ W.heap.size ≤ k)) ((stepT tr step (s1, t1) x).1, c) (fun k => S1 k ∨ W1.heap.size ≤ k) Wb W' := by
        rintro c W' ⟨Pr', hp1, hp2⟩
        cases ho : (tr t1 x).2.1 with
        | none =>
          rw [ho] at hp2
          obtain ⟨hp2, hp3⟩ : Upd Pr Wb W' ∧ ∀ k, Pr' k → k < W'.heap.size ∧ (Pr k ∨ Wb.heap.size ≤ k) := hp2
          have e1 : (stepT tr step (s1, t1) x).1 = (s1, (tr t1 x).1) := by simp [stepT, ho]
          rw [e1]
          have z2 := hp2.size
          refine ⟨fun k => S' k ∨ Pr' k, ⟨S', Pr', fun k hk => ⟨.inl hk, fun h => ?_⟩, fun k hk => ⟨.inr hk, ?_⟩, hx.stab _ _ _ _ hRb (hp2.agree (fun k hk => ⟨by have := (hSlt k hk).1; omega, (h1 k hk).2⟩)) z2, hp1, h5⟩, ?_, ?_⟩
          · rcases (hp3 k h).2 with h' | h'
            · exact (h1 k hk).2 h'
            · have := (hSlt k hk).1; omega
          · rcases (hp3 k hk).2 with h' | h'
            · exact (h2 k h').2
            · omega
          · exact hp2.mono (fun k _ hk => .inl (h2 k hk).1)
          · rintro k (hk | hk)
            · exact ⟨by have := (hSlt k hk).1; omega, .inl (.inl (h1 k hk).1)⟩
            · obtain ⟨p, q⟩ := hp3 k hk
              exact ⟨p, q.elim (fun h => .inl (.inl (h2 k h).1)) (fun h => .inr h)⟩
        | some z =>
          rw [ho] at hp2
          obtain ⟨W2, G, W3, ⟨z', S3, hz', hu2, hG, hu3, hR3, hS3⟩, hu4, z23, hp3⟩ := hp2
          obtain rfl := Option.some.inj hz'
          have e1 : (stepT tr step (s1, t1) x).1 = ((step s1 z).1, (tr t1 x).1) := by simp [stepT, ho]
          rw [e1]
          have z2 := hu2.size
          have z4 := hu4.size
          have hS3p : ∀ k, S3 k → ¬ Pr' k := fun k hk hp => by
            obtain ⟨p, q⟩ := hS3 k hk
            rcases (hp3 k hp).2 with h | h | h
            · rcases q with q | q | q
              · exact (h1 k q).2 h.1
              · exact h.2 q
              · have := (hPlt k h.1).1; omega
            · rcases q with q | q | q
              · have := (hSlt k q).1; omega
              · exact h.2.2 q
              · omega
            · omega
          refine ⟨fun k => S3 k ∨ Pr' k, ⟨S3, Pr', fun k hk => ⟨.inl hk, hS3p k hk⟩, fun k hk => ⟨.inr hk, ?_⟩, hx.stab _ _ _ _ hR3 (hu4.agree (fun k hk => ⟨(hS3 k hk).1, ?_⟩)) z4, hp1, fun k hk => ?_⟩, ?_, ?_⟩
          · rcases (hp3 k hk).2 with h | h | h
            · exact (h2 k h.1).2
            · omega
            · omega
          · rintro ⟨q1, q2, q3⟩
            rcases (hS3 k hk).2 with q | q | q
            · rcases q1 with q1 | q1
              · exact (h1 k q).2 q1
              · have := (hSlt k q).1; omega
            · exact q3 q
            · omega
          · rcases (hS3 k hk).2 with q | q | q
            · exact h5 k q
            · rcases (hG k q).2 with q' | q'
              · exact .inr (h2 k q').2
              · exact .inr (by omega)
            · exact .inr (by omega)
          · refine ((hu2.mono (M' := fun k => S1 k ∨ W1.heap.size ≤ k) (fun k _ hk => .inl (h2 k hk).1)).trans hu3 (fun k hk => ?_)).trans hu4 (fun k hk => ?_)
            · rcases hk with h | h
              · exact .inl (.inl (h1 k h).1)
              · rcases (hG k h).2 with q' | q'
                · exact .inl (.inl (h2 k q').1)
                · exact .inr q'
            · rcases hk.1 with h | h
              · exact .inl (.inl (h2 k h).1)
              · exact .inr h
          · rintro k (hk | hk)
            · obtain ⟨p, q⟩ := hS3 k hk
              refine ⟨by omega, ?_⟩
              rcases q with q | q | q
              · exact .inl (.inl (h1 k q).1)
              · rcases (hG k q).2 with q' | q'
                · exact .inl (.inl (h2 k q').1)
                · exact .inr q'
              · exact .inr (by omega)
            · obtain ⟨p, q⟩ := hp3 k hk
              refine ⟨p, ?_⟩
              rcases q with q | q | q
              · exact .inl (.inl (h2 k q.1).1)
              · exact .inr q.1
              · exact .inr (by omega)
      rintro e a' W' hp
      cases e with
      | normal => exact ⟨hp.1, by
        have e : (stepB (stepT tr step) ((s1, t1), true) x).1 = ((stepT tr step (s1, t1) x).1, true) := by simp only [stepB, hp.1, Option.isNone_none]
        rw [e]; exact key true W' hp.2⟩
      | ret => exact ⟨hp.1, by
        have e : (stepB (stepT tr step) ((s1, t1), true) x).1 = ((stepT tr step (s1, t1) x).1, false) := by simp only [stepB, hp.1, Option.isNone_some]
        rw [e]; exact key false W' hp.2⟩
      | exit id => exact hp.elim
      | goto id => exact hp.elim
      | panic id => exact hp.elim
      | outgrown => exact hp.elim
    · intro z hz W2 vs G hu2 hgiv hG
      have z2 := hu2.size
      obtain ⟨suf', hout⟩ := outs_prefix tr pre x suf t0 (by rw [hgt]) z (by rw [hgt]; exact hz)
      have hLz : L = outs tr t0 pre ++ z :: (suf' ++ rest) := by rw [hL, he, hout, List.append_assoc, List.cons_append]
      refine (hx.yield _ z _ s1 S' W2 vs G hLz hgF (hx.stab _ _ _ _ hRb (hu2.agree (fun k hk => ⟨by have := (hSlt k hk).1; omega, (h1 k hk).2⟩)) z2) hgiv (fun k hk => ?_) (huB.trans hu2 (fun k hk => .inr (h2 k hk).2))
        (fun k hk => ⟨by have := (hSlt k hk).1; omega, h5 k hk⟩)).mono ?_
      · obtain ⟨p, q⟩ := hG k hk
        refine ⟨q.elim (fun h => (h2 k h).2) (fun h => by omega), p, fun h => ?_⟩
        rcases q with q | q
        · exact (h1 k h).2 q
        · have := (hSlt k h).1; omega
      · rintro v W3 ⟨S3, hv, hR3, hu3, hS3⟩
        refine ⟨hv, ⟨z, S3, hz, hu2, hG, hu3, hR3, hS3⟩, hu3.mono (fun k _ hk => ?_)⟩
        rcases hk with h | h
        · refine .inr ⟨(h1 k h).2, fun hd => ?_, by have := (hSlt k h).1; omega⟩
          rcases h5 k h with q | q
          · exact (hSx k q).2.1 hd
          · have := hDW k hd; omega
        · exact .inl h
  · rintro S1 W' ⟨S', Pr', h1, h2, h3, h4, h5⟩ hOw hu hsz hS1 hdef
    obtain ⟨g1, g2, g3⟩ := goR_T tr step (evs.map (·.2)) s t0
    rw [goR_B] at h3 h4
    simp only [] at h3 h4
    rw [g1] at h3
    rw [goOwnR_B, goOwn_T] at hOw
    rw [goR_B]
    rw [g2]
    have hADe : Agree D' wr W' := hAw.trans (hu.agree (fun k hk => ⟨by have := hDW k hk; omega, by
      rintro ((h | h) | h)
      · exact (hSx k h).2.1 hk
      · have := hDW k hk; have := (hpriv k h).1; omega
      · exact (hD' k hk).2 h⟩))
    have huW : Upd (fun k => S k ∨ E k) W W' := (hu0.mono (fun _ _ h => h.elim)).trans hu (fun k hk => by
      rcases hk with (h | h) | h
      · exact .inl (.inl h)
      · exact .inr (hpriv k h).1
      · exact .inl (.inr h))
    obtain ⟨e1, e2⟩ := hend S' Pr' W' h3 hOw huW hsz hADe (fun k hk => by
        obtain ⟨p, q⟩ := h1 k hk
        obtain ⟨u, v, _⟩ := hS1 k p
        exact ⟨u, v, h5 k hk⟩) (fun k hk => by
        obtain ⟨p, q⟩ := h2 k hk
        obtain ⟨u, v, _⟩ := hS1 k p
        exact ⟨q, u, v, fun h => (h1 k h).2 hk⟩) hdef
    by_cases hh : ((goF step s (outs tr t0 (evs.map (·.2)))).2 && (trSt tr t0 (evs.map (·.2))).2) = true
    · rw [if_pos hh]
      have hh' : (goF step s (outs tr t0 (evs.map (·.2)))).2 = true ∧ (trSt tr t0 (evs.map (·.2))).2 = true := by simpa using hh
      exact e1 hh'.1 hh'.2 (by rw [← g3 hh'.1]; exact h4 (by rw [g2, if_pos hh]; rfl))
    · rw [if_neg hh]
      refine wpIn_ret (e2 ?_)
      cases h1 : (goF step s (outs tr t0 (evs.map (·.2)))).2 with
      | false => exact .inl rfl
      | true => refine .inr ?_; simpa [h1] using hh
end transG

/-! ### Behind such a loop -/
section giveEnd
variable {P : Program} {α β τ σ ω : Type}
theorem goOwn_append {σ α ω : Type} (step : σ → α → σ × Bool) (fin : ω) : ∀ (l m : List (ω × α)) (s : σ), goOwn step fin s (l ++ m) = if (goF step s (l.map (·.2))).2 then goOwn step fin (goF step s (l.map (·.2))).1 m else goOwn step fin s l
  | [], m, s => by simp [goF]
  | x :: l, m, s => by
    have ih := goOwn_append step fin l m (step s x.2).1
    cases h : (step s x.2).2 with
    | true => simpa [goOwn, goF, h] using ih
    | false => simp [goOwn, goF, h]

/-- The function's end: nothing is given any more. -/
theorem give_stop {fn : Func} {Giv : β → Array Value → (Nat → Prop) → World → Prop} {L : List β} {step : σ → β → σ × Bool} {Rep : σ → (Nat → Prop) → World → Prop} {y : Value} {s s2 : σ} {S S' E D' : Nat → Prop} {wr W W' : World} {OwnF : World → Prop} {d : Nat} {tmps : Array Value}
    (hx : GiveCtx P Giv L step Rep y s S E D' wr W) (hstable : ∀ W1 W2, OwnF W1 → Agree E W1 W2 → OwnF W2) (hE : ∀ k, E k → k < wr.heap.size) (hR : Rep s2 S' W') (hOw : OwnF W') (hu : Upd (fun k => S k ∨ E k) W W')
    (hS' : ∀ k, S' k → k < W'.heap.size ∧ k ≠ d ∧ (S k ∨ W.heap.size ≤ k)) (hd : W.heap.size ≤ d) (hdef : W'.heap[d]? = some (.deferred (some []))) (hfn : fn.results = #[]) :
    LeavesInM Fence.wide 0 P fn tmps (Ret (RunEnd Rep s2 OwnF S E W)) [{ target := .collected d, args := #[] }] .returning W' := by
  have zx := hx.size
  refine leave_none (a := { tmps := tmps, defers := [{ target := .collected d, args := #[] }] }) hfn rfl hdef ⟨S', ?_, ?_, hu.stepPut (.inr hd) _, fun k hk => ?_⟩
  · exact hx.stab _ _ _ _ hR (fun k hk => World.putObj_heap_other (hS' k hk).2.1) (by simp)
  · exact hstable _ _ hOw (fun k hk => World.putObj_heap_other (by have := hE k hk; omega))
  · obtain ⟨p, _, r⟩ := hS' k hk
    exact ⟨by simpa using p, r⟩

/-- One is given behind the loop, and the function ends. -/
theorem give_last {fn : Func} {Giv : β → Array Value → (Nat → Prop) → World → Prop} {L pre suf : List β} {x : β} {step : σ → β → σ × Bool} {Rep : σ → (Nat → Prop) → World → Prop} {y : Value} {s s1 : σ} {S S' E D' : Nat → Prop} {wr W W' : World} {OwnF : World → Prop} {d : Nat} {vs : Array Value} {G : Nat → Prop}
    (hx : GiveCtx P Giv L step Rep y s S E D' wr W) (hstable : ∀ W1 W2, OwnF W1 → Agree E W1 W2 → OwnF W2) (hE : ∀ k, E k → k < wr.heap.size) (hR : Rep s1 S' W') (hOw : OwnF W') (hu : Upd (fun k => S k ∨ E k) W W')
    (hS' : ∀ k, S' k → k < W'.heap.size ∧ k ≠ d ∧ (S k ∨ W.heap.size ≤ k)) (hd : W.heap.size ≤ d) (hdef : W'.heap[d]? = some (.deferred (some []))) (hfn : fn.results = #[])
    (hES : ∀ k, E k → ¬ S k) (hL : L = pre ++ x :: suf) (hgo : goF step s pre = (s1, true)) (hgiv : Giv x vs G W') (hG : ∀ k, G k → W.heap.size ≤ k ∧ k < W'.heap.size ∧ ¬ S' k ∧ k ≠ d) :
    CallV P y vs W' fun _ W2 => ∀ tmps, LeavesInM Fence.wide 0 P fn tmps (Ret (RunEnd Rep (step s1 x).1 OwnF S E W)) [{ target := .collected d, args := #[] }] .returning W2 := by
  have zx := hx.size
  have hdl : d < W'.heap.size := (Array.getElem?_eq_some_iff.1 hdef).1
  refine (hx.yield pre x suf s1 S' W' vs G hL hgo hR hgiv (fun k hk => ⟨(hG k hk).1, (hG k hk).2.1, (hG k hk).2.2.1⟩) hu (fun k hk => ⟨(hS' k hk).1, (hS' k hk).2.2⟩)).mono ?_
  rintro v W2 ⟨S2, rfl, hR2, hu2, hS2⟩ tmps
  refine give_stop (D' := D') hx hstable hE hR2 (hstable _ _ hOw (hu2.agree fun k hk => ⟨by have := hE k hk; have := hu.size; omega, ?_⟩)) (hu.trans hu2 ?_) ?_ hd ((hu2.block d hdl ?_).trans hdef) hfn
  · rintro (h | h)
    · rcases (hS' k h).2.2 with q | q
      · exact hES k hk q
      · have := hE k hk; omega
    · have := (hG k h).1; have := hE k hk; omega
  · rintro k (h | h)
    · exact (hS' k h).2.2.imp .inl id
    · exact .inr (hG k h).1
  · intro k hk
    obtain ⟨p, q⟩ := hS2 k hk
    have z := hu.size
    refine ⟨p, ?_, ?_⟩
    · rintro rfl
      rcases q with q | q | q
      · exact (hS' k q).2.1 rfl
      · exact (hG k q).2.2.2 rfl
      · omega
    · rcases q with q | q | q
      · exact (hS' k q).2.2
      · exact .inr (hG k q).1
      · exact .inr (by omega)
  · rintro (h | h)
    · exact (hS' d h).2.1 rfl
    · exact (hG d h).2.2.2 rfl
end giveEnd

/-! ### Iterators that go through a list themselves -/
section leaf
variable {P : Program} {α σ : Type} {enc : α → Array Value} {xs : List α} {step : σ → α → σ × Bool} {Rep : σ → (Nat → Prop) → World → Prop} {y : Value} {s : σ} {S E D : Nat → Prop} {w W : World}

/-- k elements have been given, yield has said yes to each. -/
def LeafRel (step : σ → α → σ × Bool) (Rep : σ → (Nat → Prop) → World → Prop) (s : σ) (S E : Nat → Prop) (W : World) (xs : List α) (k : Nat) (wr : World) : Prop :=
  ∃ s1 S1, goF step s (xs.take k) = (s1, true) ∧ Rep s1 S1 wr ∧ Upd (fun k => S k ∨ E k) W wr ∧ (∀ j, S1 j → j < wr.heap.size ∧ (S j ∨ W.heap.size ≤ j))

theorem LeafRel.start (hx : RunCtx P enc xs step Rep y s S E D w W) : LeafRel step Rep s S E W xs 0 W :=
  ⟨s, S, by simp [goF], hx.rep, Upd.refl _ _, fun j hj => ⟨(hx.own j hj).1, .inl hj⟩⟩
theorem LeafRel.agree (hx : RunCtx P enc xs step Rep y s S E D w W) (hD : ∀ k, D k → k < w.heap.size ∧ ¬ E k) {k : Nat} {wr : World} (h : LeafRel step Rep s S E W xs k wr) : Agree D w wr := by
  obtain ⟨s1, S1, _, _, hu, _⟩ := h
  have := hx.size
  exact hx.agree.trans (hu.agree (fun j hj => ⟨by have := (hD j hj).1; omega, fun h => h.elim (fun h => (hx.own j h).2.1 hj) (hD j hj).2⟩))
theorem LeafRel.size {k : Nat} {wr : World} (h : LeafRel step Rep s S E W xs k wr) : W.heap.size ≤ wr.heap.size := by
  obtain ⟨s1, S1, _, _, hu, _⟩ := h
  exact hu.size

theorem goF_take_stop (step : σ → α → σ × Bool) {s s1 : σ} {xs : List α} {k : Nat} (hk : k < xs.length) (h : goF step s (xs.take k) = (s1, true)) :
    (goF step s (xs.take (k + 1)) = step s1 xs[k]) ∧ ((step s1 xs[k]).2 = false → goF step s xs = ((step s1 xs[k]).1, false)) := by
  have e1 : goF step s (xs.take (k + 1)) = step s1 xs[k] := by
    rw [List.take_succ_eq_append_getElem hk, goF_snoc, h]; simp
  refine ⟨e1, fun hf => ?_⟩
  have h2 := goF_append step (xs.take (k + 1)) (xs.drop (k + 1)) s
  rw [List.take_append_drop] at h2
  rw [h2, e1, hf]
  simp only [Bool.false_eq_true, if_false]
  rw [← hf]

/-- Yield is called with the next one. -/
theorem LeafRel.call (hx : RunCtx P enc xs step Rep y s S E D w W) {k : Nat} {wr : World} (h : LeafRel step Rep s S E W xs k wr) (hk : k < xs.length) :
    CallV P y (enc xs[k]) wr fun v W2 => ∃ b, v = .bool b ∧ Upd (fun j => S j ∨ W.heap.size ≤ j) wr W2 ∧ (b = true → LeafRel step Rep s S E W xs (k + 1) W2) ∧ (b = false → RunEnd Rep (goF step s xs).1 (fun _ => True) S E W undef W2) := by
  obtain ⟨s1, S1, hgo, hrep, hu, hS1⟩ := h
  obtain ⟨e1, e2⟩ := goF_take_stop step hk hgo
  have hz := hu.size
  refine (hx.yield (xs.take k) xs[k] (xs.drop (k + 1)) s1 S1 wr (by rw [← List.drop_eq_getElem_cons hk, List.take_append_drop]) hgo hrep hu hS1).mono ?_
  rintro v W2 ⟨S2, rfl, hr2, hu2, hS2⟩
  have hu3 : Upd (fun k => S k ∨ E k) W W2 := hu.trans hu2 (fun j hj => (hS1 j hj).2.imp .inl id)
  have hS3 : ∀ j, S2 j → j < W2.heap.size ∧ (S j ∨ W.heap.size ≤ j) := fun j hj => ⟨(hS2 j hj).1, (hS2 j hj).2.elim (fun h => (hS1 j h).2) (fun h => .inr (by omega))⟩
  refine ⟨_, rfl, hu2.mono (fun j _ hj => (hS1 j hj).2), fun hb => ?_, fun hb => ?_⟩
  · exact ⟨_, S2, by rw [e1]; exact Prod.ext rfl hb, hr2, hu3, hS3⟩
  · exact ⟨S2, by rw [e2 hb]; exact hr2, trivial, hu3, hS3⟩
theorem goOwn_stop {ω : Type} (step : σ → α → σ × Bool) (fin : ω) : ∀ (evs : List (ω × α)) (k : Nat) (s s1 : σ) (hk : k < evs.length), goF step s ((evs.take k).map (·.2)) = (s1, true) → (step s1 evs[k].2).2 = false → goOwn step fin s evs = evs[k].1
  | [], _, _, _, hk, _, _ => by simp at hk
  | e :: evs, 0, s, s1, _, h, hs => by
    simp only [List.take_zero, List.map_nil, goF, Prod.mk.injEq, and_true] at h
    subst h
    simp only [List.getElem_cons_zero] at hs ⊢
    simp [goOwn, hs]
  | e :: evs, k + 1, s, s1, hk, h, hs => by
    simp only [List.take_succ_cons, List.map_cons, goF] at h
    cases hb : (step s e.2).2 with
    | false => simp [hb] at h
    | true =>
      simp only [hb, if_true] at h
      simp only [goOwn, hb, if_true, List.getElem_cons_succ] at hs ⊢
      exact goOwn_stop step fin evs k _ s1 (by simpa using hk) h hs
theorem goOwn_done {ω : Type} (step : σ → α → σ × Bool) (fin : ω) : ∀ (evs : List (ω × α)) (s : σ), (goF step s (evs.map (·.2))).2 = true → goOwn step fin s evs = fin
  | [], _, _ => rfl
  | e :: evs, s, h => by
    simp only [List.map_cons, goF] at h
    cases hb : (step s e.2).2 with
    | false => simp [hb] at h
    | true =>
      simp only [hb, if_true] at h
      simp only [goOwn, hb, if_true]
      exact goOwn_done step fin evs _ h

/-- Yield is called with the next one, the iterator's own state having been turned: what that is in the end. -/
theorem LeafRel.callO {ω : Type} {evs : List (ω × α)} {fin : ω} (hx : RunCtx P enc (evs.map (·.2)) step Rep y s S E D w W) {k : Nat} {wr : World} (h : LeafRel step Rep s S E W (evs.map (·.2)) k wr) (hk : k < evs.length) :
    CallV P y (enc evs[k].2) wr fun v W2 => ∃ b, v = .bool b ∧ Upd (fun j => S j ∨ W.heap.size ≤ j) wr W2 ∧ (b = true → LeafRel step Rep s S E W (evs.map (·.2)) (k + 1) W2) ∧
      (b = false → goOwn step fin s evs = evs[k].1 ∧ RunEnd Rep (goF step s (evs.map (·.2))).1 (fun _ => True) S E W undef W2) := by
  have hk' : k < (evs.map (·.2)).length := by simpa using hk
  have h' := h
  obtain ⟨s1, S1, hgo, hrep, hu, hS1⟩ := h
  obtain ⟨e1, e2⟩ := goF_take_stop step hk' hgo
  have hz := hu.size
  have hel : (evs.map (·.2))[k] = evs[k].2 := by simp
  rw [hel] at e1 e2
  refine (hx.yield ((evs.map (·.2)).take k) evs[k].2 ((evs.map (·.2)).drop (k + 1)) s1 S1 wr (by rw [← hel, ← List.drop_eq_getElem_cons hk', List.take_append_drop]) hgo hrep hu hS1).mono ?_
  rintro v W2 ⟨S2, rfl, hr2, hu2, hS2⟩
  have hu3 : Upd (fun k => S k ∨ E k) W W2 := hu.trans hu2 (fun j hj => (hS1 j hj).2.imp .inl id)
  have hS3 : ∀ j, S2 j → j < W2.heap.size ∧ (S j ∨ W.heap.size ≤ j) := fun j hj => ⟨(hS2 j hj).1, (hS2 j hj).2.elim (fun h => (hS1 j h).2) (fun h => .inr (by omega))⟩
  refine ⟨_, rfl, hu2.mono (fun j _ hj => (hS1 j hj).2), fun hb => ?_, fun hb => ⟨?_, ?_⟩⟩
  · exact ⟨_, S2, by rw [e1]; exact Prod.ext rfl hb, hr2, hu3, hS3⟩
  · exact goOwn_stop step fin evs k s s1 hk (by rw [List.map_take]; exact hgo) hb
  · exact ⟨S2, by rw [e2 hb]; exact hr2, trivial, hu3, hS3⟩
theorem LeafRel.setE (hx : RunCtx P enc xs step Rep y s S E D w W) (hE : ∀ k, E k → k < w.heap.size) {k : Nat} {wr : World} (h : LeafRel step Rep s S E W xs k wr) {b : Nat} (hb : E b) (i : Nat) (v : Value) :
    LeafRel step Rep s S E W xs k (wr.setCell ⟨b, i, none⟩ v) := by
  obtain ⟨s1, S1, hgo, hrep, hu, hS1⟩ := h
  have hu2 : Upd (fun k => k = b) wr (wr.setCell ⟨b, i, none⟩ v) := Upd.setCell (M := fun k => k = b) rfl v
  refine ⟨s1, S1, hgo, hx.stab _ _ _ _ hrep (hu2.agree (fun j hj => ⟨(hS1 j hj).1, fun e => ?_⟩)) (by simp), hu.trans hu2 (fun j hj => by subst hj; exact .inl (.inr hb)), fun j hj => by simpa using hS1 j hj⟩
  subst e
  rcases (hS1 _ hj).2 with h | h
  · exact (hx.own _ h).2.2 hb
  · have := hE _ hb; have := hx.size; omega
theorem RunEnd.own {sF : σ} {OwnF : World → Prop} {v : Value} {W' : World} (h : RunEnd Rep sF (fun _ => True) S E W v W') (ho : OwnF W') : RunEnd Rep sF OwnF S E W v W' := by
  obtain ⟨S', h1, _, h3, h4⟩ := h
  exact ⟨S', h1, ho, h3, h4⟩
theorem LeafRel.doneGo {k : Nat} {wr : World} (h : LeafRel step Rep s S E W xs k wr) (hk : xs.length ≤ k) : (goF step s xs).2 = true := by
  obtain ⟨s1, S1, hgo, hrep, hu, hS1⟩ := h
  rw [List.take_of_length_le hk] at hgo
  rw [hgo]
theorem LeafRel.done {k : Nat} {wr : World} (h : LeafRel step Rep s S E W xs k wr) (hk : xs.length ≤ k) (v : Value) : RunEnd Rep (goF step s xs).1 (fun _ => True) S E W v wr := by
  obtain ⟨s1, S1, hgo, hrep, hu, hS1⟩ := h
  rw [List.take_of_length_le hk] at hgo
  exact ⟨S1, by rw [hgo]; exact hrep, trivial, hu, hS1⟩
end leaf

/-! ### Slices that read as lists -/

/-- A slice's cells: element i lies at A's i-th place. -/
def Reads1 (w : World) (A : Option Addr) (xs : List Value) : Prop := ∀ i v, xs[i]? = some v → ∃ ad, A = some ad ∧ w.cell? (ad.add i) = some v
/-- The block that such a slice reads. -/
def blkOf (A : Option Addr) : Nat → Prop := fun k => ∃ ad, A = some ad ∧ k = ad.block

theorem block_of_add (a : Addr) (n : Nat) : (a.add n).block = a.block := by unfold Addr.add; split <;> rfl
theorem Reads1.agree {w w' : World} {A : Option Addr} {xs : List Value} (h : Reads1 w A xs) (ha : Agree (blkOf A) w w') : Reads1 w' A xs := fun i v hv => by
  obtain ⟨ad, rfl, hc⟩ := h i v hv
  exact ⟨ad, rfl, (ha.cell (p := ad.add i) ⟨ad, rfl, block_of_add ad i⟩).trans hc⟩
theorem Reads1.lt {w : World} {A : Option Addr} {xs : List Value} (h : Reads1 w A xs) (h0 : 0 < xs.length) : ∀ k, blkOf A k → k < w.heap.size := by
  rintro k ⟨ad, rfl, rfl⟩
  obtain ⟨ad', e, hc⟩ := h 0 xs[0] (List.getElem?_eq_getElem h0)
  obtain rfl := Option.some.inj e
  have := World.block_lt_of_cell? w _ hc
  rwa [block_of_add] at this
/-- The block, if anything is read there. -/
def blkOf' (A : Option Addr) (n : Nat) : Nat → Prop := fun k => 0 < n ∧ blkOf A k
theorem Reads1.agree' {w w' : World} {A : Option Addr} {xs : List Value} (h : Reads1 w A xs) (ha : Agree (blkOf' A xs.length) w w') : Reads1 w' A xs := fun i v hv => by
  obtain ⟨ad, rfl, hc⟩ := h i v hv
  have hl := (List.getElem?_eq_some_iff.1 hv).1
  exact ⟨ad, rfl, (ha.cell (p := ad.add i) ⟨by omega, ad, rfl, block_of_add ad i⟩).trans hc⟩
theorem Reads1.lt' {w : World} {A : Option Addr} {xs : List Value} (h : Reads1 w A xs) : ∀ k, blkOf' A xs.length k → k < w.heap.size := fun k hk => h.lt hk.1 k hk.2

theorem Reads1.of_own {w : World} {base : Nat} {e : TypeId} {v : Value} {n : Nat} {xs : List Value} (h : w.ownsRow base e 1 v n xs) (hn : n = xs.length) :
    ∃ A c, v = .slice A n c ∧ Reads1 w A xs ∧ (∀ k, blkOf' A xs.length k → base ≤ k) := by
  rcases h.2 with ⟨rfl, rfl⟩ | ⟨g, cap, cur, rfl, hb, hg, hnc, _, hsz, htk⟩
  · have : xs = [] := List.eq_nil_of_length_eq_zero hn.symm
    subst this
    exact ⟨none, 0, rfl, fun i v hv => by simp at hv, fun k hk => by simp [blkOf'] at hk⟩
  · refine ⟨_, _, rfl, fun i v hv => ⟨_, rfl, ?_⟩, fun k hk => ?_⟩
    · have hi := (List.getElem?_eq_some_iff.1 hv).1
      have : w.cell? ⟨g, i, none⟩ = cur[i]? := by simp [World.cell?, hg]
      have e1 : (⟨g, 0, none⟩ : Addr).add i = ⟨g, i, none⟩ := by unfold Addr.add; split <;> simp_all
      rw [e1, this, ← hv, ← htk, List.getElem?_take, if_pos (by omega)]
      simp
    · obtain ⟨_, ad, e, rfl⟩ := hk
      cases e
      exact hb

/-- 'out = append(out, x)', x of the cells news, onto a slice of the call's own: T the slice's type, E the element's. -/
theorem appE {F : Fence} {n : Nat} {P : Program} {T E : TypeId} {z : Value} {size bytes : Nat} (hT : P.underlying T = some (.slice E)) (hI : (P.info? E).map (fun i => (i.zero, i.size, i.bytes)) = some (some z, size, bytes)) (hz : z.cells.size = size) (hsz : 0 < size) (hby : bytes ≤ 1024)
    {ops : Array Oper} {rest : List Oper} {a : Act} {Q : Exit → Act → World → Prop} {s x : Operand} {dst : Option Tmp} {ty : TypeId} {pos : String} {aft : Array Edge} {wr : World} {base k : Nat} {v : Value} {news xs : List Value}
    (hown : wr.ownsRow base E size v k xs) (hb : base ≤ wr.heap.size) (hk : k < 1073741824) (hn : news.length = size) (hu : ∀ u ∈ news, u.oneCell' = true) (hs : a.eval s = v) (hx : a.eval x = .slice (some ⟨wr.heap.size, 0, none⟩) 1 1)
    (hK : ∀ g cap w', w'.ownsRow base E size (.slice (some ⟨g, 0, none⟩) (k + 1) cap) (k + 1) (xs ++ news) → Upd (fun j => v.ownBlock = some j) wr w' → (v.ownBlock = some g ∨ wr.heap.size ≤ g) → g < w'.heap.size →
      wpListIn F n P ops Q rest (a.put dst (.slice (some ⟨g, 0, none⟩) (k + 1) cap)) w') :
    wpListIn F n P ops Q (Oper.mk dst (.call (Call.mk (.builtin .append) #[s, x] #[T, T])) ty pos aft none :: rest) a (wr.alloc (.cells news.toArray E)) := by
  obtain ⟨i0, hi, hz0, hz1, hz2⟩ := info_parts hI
  have hcell : ∀ j u, news[j]? = some u → (wr.alloc (.cells news.toArray E)).cell? ((⟨wr.heap.size, 0, none⟩ : Addr).add j) = some u := fun j u hj => by
    have e1 : (⟨wr.heap.size, 0, none⟩ : Addr).add j = ⟨wr.heap.size, j, none⟩ := by unfold Addr.add; split <;> simp_all
    rw [e1, World.cell?_alloc_new]; simpa using hj
  obtain ⟨v', w', hrun, h2, h3, h4, h5⟩ := run_append_own_at (P := P) (wr.alloc (.cells news.toArray E)) base T ty E i0 z size bytes hT hi hz0 hz1 hz2 hz hsz v k xs (hown.alloc _) ⟨wr.heap.size, 0, none⟩ 1 1 news (by simpa using hn) hcell hu
    (by simp only [maxLen]; omega) (Nat.le_trans (Nat.mul_le_mul_left _ hby) (by omega)) (by simp; omega)
  obtain ⟨g, cap, rfl⟩ := ownsRow_succ h2
  refine wpListIn_plain rfl fun K hK' => ?_
  unfold Oper.wpIn
  refine ⟨?_, ?_⟩
  · simp [Oper.about, resolve, Target.leads, Sem.run_pure]
  · rw [Oper.semAt_plain F _ _ (by intro c hc'; cases hc')]
    have hs1 := h3.size
    simp only [World.size_alloc] at hs1
    simp [execOp, resolve, invoke, builtin, hs, hx, hrun, Result.andThen]
    refine hK' _ _ (hK g cap w' h2 ?_ ?_ (h2.lt g (by simp [Value.ownBlock])).2)
    · refine ⟨h3.os, h3.tape, h3.output, by omega, fun j hj hne => (h3.block j (by simp; omega) (fun e => hne e.symm)).trans (Below.heap_alloc _ _ _ hj)⟩
    · rcases h5 with h5 | h5
      · exact .inl (by rw [← h5]; rfl)
      · simp [Value.ownBlock] at h5; exact .inr (by omega)

/-- The same, of one cell. -/
theorem app1 {F : Fence} {n : Nat} {P : Program} {T E : TypeId} {z : Value} {bytes : Nat} (hT : P.underlying T = some (.slice E)) (hI : (P.info? E).map (fun i => (i.zero, i.size, i.bytes)) = some (some z, 1, bytes)) (hz : z.cells.size = 1) (hby : bytes ≤ 1024)
    {ops : Array Oper} {rest : List Oper} {a : Act} {Q : Exit → Act → World → Prop} {s x : Operand} {dst : Option Tmp} {ty : TypeId} {pos : String} {aft : Array Edge} {wr : World} {base k : Nat} {v u : Value} {xs : List Value}
    (hown : wr.ownsRow base E 1 v k xs) (hb : base ≤ wr.heap.size) (hk : k < 1073741824) (hu : u.oneCell' = true) (hs : a.eval s = v) (hx : a.eval x = .slice (some ⟨wr.heap.size, 0, none⟩) 1 1)
    (hK : ∀ g cap w', w'.ownsRow base E 1 (.slice (some ⟨g, 0, none⟩) (k + 1) cap) (k + 1) (xs ++ [u]) → Upd (fun j => v.ownBlock = some j) wr w' → (v.ownBlock = some g ∨ wr.heap.size ≤ g) → g < w'.heap.size →
      wpListIn F n P ops Q rest (a.put dst (.slice (some ⟨g, 0, none⟩) (k + 1) cap)) w') :
    wpListIn F n P ops Q (Oper.mk dst (.call (Call.mk (.builtin .append) #[s, x] #[T, T])) ty pos aft none :: rest) a (wr.alloc (.cells #[u] E)) :=
  appE (news := [u]) hT hI hz (by omega) hby hown hb hk rfl (by simpa using hu) hs hx hK

/-- What a slice of the call's own leaves alone stays below. -/
theorem below_upd {B : Nat} {a b c : World} (h : Below B a b) {M : Nat → Prop} (hu : Upd M b c) (hm : ∀ k, M k → B ≤ k) (hB : B ≤ b.heap.size) : Below B a c := h.trans (hu.below hB hm)
theorem own_base {w : World} {base : Nat} {e : TypeId} {size : Nat} {v : Value} {n : Nat} {xs : List Value} (h : w.ownsRow base e size v n xs) : ∀ k, v.ownBlock = some k → base ≤ k := fun k hk => (h.lt k hk).1
theorem own_shape {w : World} {base : Nat} {e : TypeId} {size : Nat} {v : Value} {n : Nat} {xs : List Value} (h : w.ownsRow base e size v n xs) : ∃ A cap, v = .slice A n cap := by
  rcases h.2 with hn | ⟨g, cap, cur, rfl, _⟩
  · obtain ⟨rfl, rfl, _⟩ := hn; exact ⟨none, 0, rfl⟩
  · exact ⟨_, _, rfl⟩
/-- What a slice owns it owns where its own block reads as it did. -/
theorem own_agree {w w' : World} {base : Nat} {e : TypeId} {size : Nat} {v : Value} {n : Nat} {xs : List Value} (h : w.ownsRow base e size v n xs) (ha : Agree (fun k => v.ownBlock = some k) w w') : w'.ownsRow base e size v n xs := by
  refine ⟨h.1, ?_⟩
  rcases h.2 with hn | ⟨g, cap, cur, rfl, hb, hg, r⟩
  · exact .inl hn
  · exact .inr ⟨g, cap, cur, rfl, hb, (ha g (by simp [Value.ownBlock])).trans hg, r⟩
theorem own_rebase {w : World} {base b' : Nat} {e : TypeId} {size : Nat} {v : Value} {n : Nat} {xs : List Value} (h : w.ownsRow base e size v n xs) (hb : ∀ k, v.ownBlock = some k → b' ≤ k) : w.ownsRow b' e size v n xs := by
  refine ⟨h.1, ?_⟩
  rcases h.2 with hn | ⟨g, cap, cur, rfl, _, hg, r⟩
  · exact .inl hn
  · exact .inr ⟨g, cap, cur, rfl, hb g (by simp [Value.ownBlock]), hg, r⟩
/-- A slice's own block is no block of cells of another type. -/
theorem own_ne {w : World} {base b : Nat} {e t : TypeId} {size : Nat} {v : Value} {n : Nat} {xs : List Value} {cs : Array Value} (h : w.ownsRow base e size v n xs) (hb : Blk w b cs t) (hne : t ≠ e) : v.ownBlock ≠ some b := by
  rcases h.2 with ⟨rfl, _⟩ | ⟨g, cap, cur, rfl, _, hg, _⟩
  · simp [Value.ownBlock]
  · intro he
    obtain rfl : g = b := by simpa [Value.ownBlock] using he
    have := hb.symm.trans hg
    simp at this
    exact hne this.2

end Go.Proofs.Ytkjkpmeommfdgaa

/- 'append(s, t...)' of elements of several cells; parts of slices. -/
import Derived.Test.YtkjkpmeommfdgaaBase
set_option linter.unusedSimpArgs false
set_option linter.unusedVariables false
namespace Go.Proofs.Ytkjkpmeommfdgaa
open Go.RowKit Go.Shelf

theorem appS {F : Fence} {n : Nat} {P : Program} {T E : TypeId} {z : Value} {size bytes : Nat} (hT : P.underlying T = some (.slice E)) (hI : (P.info? E).map (fun i => (i.zero, i.size, i.bytes)) = some (some z, size, bytes)) (hz : z.cells.size = size) (hsz : 0 < size) (hby : bytes ≤ 1024)
    {ops : Array Oper} {rest : List Oper} {a : Act} {Q : Exit → Act → World → Prop} {s x : Operand} {dst : Option Tmp} {ty : TypeId} {pos : String} {aft : Array Edge} {wr : World} {base k m c : Nat} {A : Option Addr} {v : Value} {xs news : List Value}
    (hown : wr.ownsRow base E size v k xs) (hs : a.eval s = v) (hx : a.eval x = .slice A m c) (hb : base ≤ wr.heap.size) (hm : news.length = m * size) (hk : k + m < 1073741824) (hr : Reads1 wr A news) (hu : ∀ u ∈ news, u.oneCell' = true)
    (hK : ∀ v' w', w'.ownsRow base E size v' (k + m) (xs ++ news) → Upd (fun j => v.ownBlock = some j) wr w' → (v'.ownBlock = v.ownBlock ∨ v'.ownBlock = some wr.heap.size) →
      wpListIn F n P ops Q rest (a.put dst v') w') :
    wpListIn F n P ops Q (Oper.mk dst (.call (Call.mk (.builtin .append) #[s, x] #[T, T])) ty pos aft none :: rest) a wr := by
  obtain ⟨i0, hi, hz0, hz1, hz2⟩ := info_parts hI
  refine wpListIn_plain rfl fun K hK' => ?_
  unfold Oper.wpIn
  refine ⟨by simp [Oper.about, resolve, Target.leads, Sem.run_pure], ?_⟩
  rw [Oper.semAt_plain F _ _ (by intro c hc'; cases hc')]
  cases A with
  | some ad =>
    have hcell : ∀ j u, news[j]? = some u → wr.cell? (ad.add j) = some u := fun j u hj => by
      obtain ⟨ad', e, h⟩ := hr j u hj
      obtain rfl := Option.some.inj e
      exact h
    obtain ⟨v', w', hrun, h2, h3, h4, h5⟩ := run_append_own_at (P := P) wr base T ty E i0 z size bytes hT hi hz0 hz1 hz2 hz hsz v k xs hown ad m c news hm hcell hu
      (by simp only [maxLen]; omega) (Nat.le_trans (Nat.mul_le_mul_left _ hby) (by omega)) hb
    simp [execOp, resolve, invoke, builtin, hs, hx, hrun, Result.andThen]
    exact hK' _ _ (hK v' w' h2 ⟨h3.os, h3.tape, h3.output, h3.size, fun j hj hne => h3.block j hj (fun e => hne e.symm)⟩ h5)
  | none =>
    have hn : news = [] := by
      cases news with
      | nil => rfl
      | cons u l => obtain ⟨_, e, _⟩ := hr 0 u rfl; cases e
    subst hn
    have hm0 : m = 0 := by
      rcases Nat.eq_zero_or_pos m with h | h
      · exact h
      · have := Nat.mul_pos h hsz; simp at hm; omega
    subst hm0
    have hrun : (Builtin.append_ #[T, T] ty #[v, .slice none 0 c]).run P wr = .ok v wr := by
      rcases hown.2 with ⟨rfl, rfl⟩ | ⟨g, cap, cur, rfl, _, _, hnc, _⟩ <;> simp [Builtin.append_, run_underlying hT, sizeOf, typeInfo, Builtin.lenOf, Builtin.firstCells, loadCells, storeCells, *]
    simp [execOp, resolve, invoke, builtin, hs, hx, hrun, Result.andThen]
    exact hK' _ _ (hK v wr (by simpa using hown) (Upd.refl _ _) (.inl rfl))

/-- 'append([]T{}, ..)' begins with this. -/
theorem own_emptyS (w : World) (e : TypeId) (size : Nat) : (w.alloc (.cells #[] e)).ownsRow w.heap.size e size (.slice (some ⟨w.heap.size, 0, none⟩) 0 0) 0 [] :=
  ⟨by simp, .inr ⟨w.heap.size, 0, #[], rfl, Nat.le_refl _, World.alloc_heap_new w _, Nat.le_refl _, by simp, by simp, by simp⟩⟩

theorem add_plain' (g o n : Nat) : (⟨g, o, none⟩ : Addr).add n = ⟨g, o + n, none⟩ := by unfold Addr.add; split <;> simp_all
theorem add_add' (a : Addr) (m n : Nat) : (a.add m).add n = a.add (m + n) := by
  unfold Addr.add
  by_cases h1 : m = 0 <;> by_cases h2 : n = 0 <;> simp [h1, h2, Nat.add_assoc]
/-- Where something is read, the place is a cell of a block. -/
theorem reads_at {W : World} {A : Option Addr} {cells : List Value} (h : Reads1 W A cells) (h0 : 0 < cells.length) : ∃ g o, A = some ⟨g, o, none⟩ ∧ ∀ i v, cells[i]? = some v → W.cell? ⟨g, o + i, none⟩ = some v := by
  obtain ⟨a, rfl, hc⟩ := h 0 _ (List.getElem?_eq_getElem h0)
  have ha : a.spot = none := by
    simp only [Addr.add, if_true] at hc
    unfold World.cell? at hc
    split at hc
    · split at hc
      · cases hc
      · rename_i h; simpa using h
    · cases hc
  obtain ⟨g, o, sp⟩ := a
  obtain rfl : sp = none := ha
  refine ⟨g, o, rfl, fun i v hv => ?_⟩
  obtain ⟨a, e, hc⟩ := h i v hv
  cases e
  rwa [add_plain'] at hc
theorem reads_from {W : World} {A : Option Addr} {cells : List Value} {n cap k size : Nat} (h : Reads1 W A cells) (hn : cells.length = n * size) (hc : n ≤ cap) :
    Reads1 W (if cap = k then A else A.map (·.add (k * size))) (cells.drop (k * size)) := by
  intro i v hv
  rw [List.getElem?_drop] at hv
  obtain ⟨a, rfl, hc'⟩ := h _ v hv
  split
  · rename_i e
    have hi := (List.getElem?_eq_some_iff.1 hv).1
    have := Nat.mul_le_mul_right size (show n ≤ k by omega)
    omega
  · exact ⟨a.add (k * size), rfl, by rw [add_add']; exact hc'⟩
theorem reads_to {W : World} {A : Option Addr} {cells : List Value} {cap k size : Nat} (h : Reads1 W A cells) : Reads1 W (if cap = 0 then A else A.map (·.add (0 * size))) (cells.take k) := by
  intro i v hv
  have hv' : cells[i]? = some v := by
    rw [List.getElem?_take] at hv
    split at hv
    · exact hv
    · cases hv
  obtain ⟨a, rfl, hc'⟩ := h i v hv'
  split
  · exact ⟨a, rfl, hc'⟩
  · exact ⟨a.add (0 * size), rfl, by rw [add_add', Nat.zero_mul, Nat.zero_add]; exact hc'⟩
/-- A slice that the call owns reads as its list. -/
theorem own_readsS {w : World} {base : Nat} {e : TypeId} {size n : Nat} {v : Value} {xs : List Value} (h : w.ownsRow base e size v n xs) :
    ∃ A cap, v = .slice A n cap ∧ n ≤ cap ∧ Reads1 w A xs ∧ (∀ a, A = some a → ∃ g, a = ⟨g, 0, none⟩ ∧ v.ownBlock = some g) ∧ ∀ k, blkOf A k → v.ownBlock = some k := by
  have hl := h.1
  rcases h.2 with ⟨rfl, rfl, rfl⟩ | ⟨g, cap, cur, rfl, hb, hg, hnc, _, hsz, htk⟩
  · exact ⟨none, 0, rfl, Nat.le_refl _, fun i v hv => (by simp at hl; simp [hl] at hv), fun a e => (by cases e), fun k hk => by obtain ⟨_, e, _⟩ := hk; cases e⟩
  · refine ⟨_, _, rfl, hnc, fun i v hv => ⟨_, rfl, ?_⟩, fun a e => ⟨g, by cases e; rfl, by simp [Value.ownBlock]⟩, fun k hk => ?_⟩
    · have hi := (List.getElem?_eq_some_iff.1 hv).1
      have : w.cell? ⟨g, i, none⟩ = cur[i]? := by simp [World.cell?, hg]
      rw [add_plain', Nat.zero_add, this, ← hv, ← htk, List.getElem?_take, if_pos (by omega)]
      simp
    · obtain ⟨_, e, rfl⟩ := hk
      cases e
      simp [Value.ownBlock]

/-- 'x[k:]'. -/
theorem sliceFrom {F : Fence} {n : Nat} {P : Program} {T E : TypeId} {z : Value} {size bytes : Nat} (hT : P.underlying T = some (.slice E)) (hI : (P.info? E).map (fun i => (i.zero, i.size, i.bytes)) = some (some z, size, bytes))
    {ops : Array Oper} {rest : List Oper} {a : Act} {Q : Exit → Act → World → Prop} {x lo : Operand} {dst : Option Tmp} {ty : TypeId} {pos : String} {aft : Array Edge} {wr : World} {k m c : Nat} {A : Option Addr} (hx : a.eval x = .slice A m c) (hl : a.eval lo = .int .i64 k) (hc : m ≤ c) (hk : k ≤ m)
    (hK : ∀ A' c', m - k ≤ c' → (∀ W cells, Reads1 W A cells → cells.length = m * size → Reads1 W A' (cells.drop (k * size))) → (∀ j, blkOf A' j → blkOf A j) → wpListIn F n P ops Q rest (a.put dst (.slice A' (m - k) c')) wr) :
    wpListIn F n P ops Q (Oper.mk dst (.slice T x (some lo) none none) ty pos aft none :: rest) a wr := by
  obtain ⟨i0, hi, hz0, hz1, hz2⟩ := info_parts hI
  have hT' : P.underlying T = some (.slice (P.elem T)) := by simp [Program.elem, hT]
  have hE : P.elem T = E := by simp [Program.elem, hT]
  refine wpListIn_plain rfl fun K hK' => ?_
  unfold Oper.wpIn
  refine ⟨by simp [Oper.about], ?_⟩
  rw [Oper.semAt_plain F _ _ (by intro c hc'; cases hc')]
  have hrun : (Instr.sliceAt T (.slice A m c) (some (.int .i64 (k : Int))) none none).run P wr = .ok (.slice (if c = k then A else A.map (·.add (k * size))) (m - k) (c - k)) wr := by
    rw [run_sliceAt_slice, run_slice_l _ _ _ _ _ hT' .i64 k (by omega) (by omega), hE]
    · simp [sizeOf, typeInfo, hi, hz1, Result.andThen, sliced]
    · exact hT'
  simp only [execOp, hx, hl, Option.map_some, Option.map_none, Sem.run_bind, hrun, Result.andThen, Sem.run_pure, Oper.uponIn]
  refine hK' _ _ (hK _ _ (by omega) (fun W cells h hn => reads_from h hn hc) ?_)
  rintro j ⟨ad, e, rfl⟩
  split at e
  · exact ⟨ad, e, rfl⟩
  · cases A with
    | none => cases e
    | some a0 => cases e; exact ⟨a0, rfl, block_of_add a0 _⟩
/-- 'x[k:]', under a guard. -/
theorem sliceFromG {F : Fence} {n : Nat} {P : Program} {T E : TypeId} {z : Value} {size bytes : Nat} (hT : P.underlying T = some (.slice E)) (hI : (P.info? E).map (fun i => (i.zero, i.size, i.bytes)) = some (some z, size, bytes))
    {ops : Array Oper} {rest : List Oper} {a : Act} {Q : Exit → Act → World → Prop} {x lo : Operand} {dst : Option Tmp} {ty : TypeId} {pos : String} {aft : Array Edge} {wr : World} {k m c j : Nat} {b : Bool} {A : Option Addr} (hg : yielded ops a.tmps j = some b) (hx : a.eval x = .slice A m c) (hl : a.eval lo = .int .i64 k) (hc : m ≤ c) (hk : k ≤ m)
    (hK : ∀ A' c', m - k ≤ c' → (∀ W cells, Reads1 W A cells → cells.length = m * size → Reads1 W A' (cells.drop (k * size))) → (∀ i, blkOf A' i → blkOf A i) → wpListIn F n P ops Q rest (a.put dst (.slice A' (m - k) c')) wr) :
    wpListIn F n P ops Q (Oper.mk dst (.slice T x (some lo) none none) ty pos aft (some (j, b)) :: rest) a wr := by
  obtain ⟨i0, hi, hz0, hz1, hz2⟩ := info_parts hI
  have hT' : P.underlying T = some (.slice (P.elem T)) := by simp [Program.elem, hT]
  have hE : P.elem T = E := by simp [Program.elem, hT]
  refine wpListIn_step fun K hK' => ?_
  rw [if_pos (by simp [Region.wanted, hg])]
  unfold Oper.wpIn
  refine ⟨by simp [Oper.about], ?_⟩
  rw [Oper.semAt_plain F _ _ (by intro c hc'; cases hc')]
  have hrun : (Instr.sliceAt T (.slice A m c) (some (.int .i64 (k : Int))) none none).run P wr = .ok (.slice (if c = k then A else A.map (·.add (k * size))) (m - k) (c - k)) wr := by
    rw [run_sliceAt_slice, run_slice_l _ _ _ _ _ hT' .i64 k (by omega) (by omega), hE]
    · simp [sizeOf, typeInfo, hi, hz1, Result.andThen, sliced]
    · exact hT'
  simp only [execOp, hx, hl, Option.map_some, Option.map_none, Sem.run_bind, hrun, Result.andThen, Sem.run_pure, Oper.uponIn]
  refine hK' _ _ (hK _ _ (by omega) (fun W cells h hn => reads_from h hn hc) ?_)
  rintro i ⟨ad, e, rfl⟩
  split at e
  · exact ⟨ad, e, rfl⟩
  · cases A with
    | none => cases e
    | some a0 => cases e; exact ⟨a0, rfl, block_of_add a0 _⟩
/-- 'x[:k]'. -/
theorem sliceTo {F : Fence} {n : Nat} {P : Program} {T E : TypeId} {z : Value} {size bytes : Nat} (hT : P.underlying T = some (.slice E)) (hI : (P.info? E).map (fun i => (i.zero, i.size, i.bytes)) = some (some z, size, bytes))
    {ops : Array Oper} {rest : List Oper} {a : Act} {Q : Exit → Act → World → Prop} {x hi : Operand} {dst : Option Tmp} {ty : TypeId} {pos : String} {aft : Array Edge} {wr : World} {k m c : Nat} {A : Option Addr} (hx : a.eval x = .slice A m c) (hl : a.eval hi = .int .i64 k) (hk : k ≤ c)
    (hK : ∀ A' c', k ≤ c' → (∀ W cells, Reads1 W A cells → Reads1 W A' (cells.take (k * size))) → (∀ j, blkOf A' j → blkOf A j) → wpListIn F n P ops Q rest (a.put dst (.slice A' k c')) wr) :
    wpListIn F n P ops Q (Oper.mk dst (.slice T x none (some hi) none) ty pos aft none :: rest) a wr := by
  obtain ⟨i0, hi0, hz0, hz1, hz2⟩ := info_parts hI
  have hT' : P.underlying T = some (.slice (P.elem T)) := by simp [Program.elem, hT]
  have hE : P.elem T = E := by simp [Program.elem, hT]
  refine wpListIn_plain rfl fun K hK' => ?_
  unfold Oper.wpIn
  refine ⟨by simp [Oper.about], ?_⟩
  rw [Oper.semAt_plain F _ _ (by intro c hc'; cases hc')]
  have hA : (if c = 0 then A else A.map (·.add (0 * size))) = A := by
    split
    · rfl
    · cases A <;> simp [Addr.add]
  have hrun : (Instr.sliceAt T (.slice A m c) none (some (.int .i64 (k : Int))) none).run P wr = .ok (.slice A k c) wr := by
    rw [run_sliceAt_slice, run_slice_h _ _ _ _ _ hT' .i64 k (by omega) (by omega), hE]
    · simp [sizeOf, typeInfo, hi0, hz1, Result.andThen, sliced]
      simpa using hA
    · exact hT'
  simp only [execOp, hx, hl, Option.map_some, Option.map_none, Sem.run_bind, hrun, Result.andThen, Sem.run_pure, Oper.uponIn]
  exact hK' _ _ (hK A c hk (fun W cells h => by simpa using reads_to (cap := 0) (size := size) (k := k * size) h) (fun _ h => h))
/-- The same, told of the instruction: for a walk that finds it among its facts. -/
theorem run_from {P : Program} {T E : TypeId} {z : Value} {size bytes k m c : Nat} {A : Option Addr} (hT : P.underlying T = some (.slice E)) (hI : (P.info? E).map (fun i => (i.zero, i.size, i.bytes)) = some (some z, size, bytes)) (hc : m ≤ c) (hk : k ≤ m) :
    ∃ A' c', (∀ w, (Instr.sliceAt T (.slice A m c) (some (.int .i64 (k : Int))) none none).run P w = .ok (.slice A' (m - k) c') w) ∧ (∀ w, (Instr.slice T (.slice A m c) (some (.int .i64 (k : Int))) none none).run P w = .ok (.slice A' (m - k) c') w) ∧
      m - k ≤ c' ∧ (∀ W cells, Reads1 W A cells → cells.length = m * size → Reads1 W A' (cells.drop (k * size))) ∧ (∀ j, blkOf A' j → blkOf A j) := by
  obtain ⟨i0, hi, hz0, hz1, hz2⟩ := info_parts hI
  have hT' : P.underlying T = some (.slice (P.elem T)) := by simp [Program.elem, hT]
  have hE : P.elem T = E := by simp [Program.elem, hT]
  have h2 : ∀ w, (Instr.slice T (.slice A m c) (some (.int .i64 (k : Int))) none none).run P w = .ok (.slice (if c = k then A else A.map (·.add (k * size))) (m - k) (c - k)) w := fun w => by
    rw [run_slice_l _ _ _ _ _ hT' .i64 k (by omega) (by omega), hE]
    simp [sizeOf, typeInfo, hi, hz1, Result.andThen, sliced]
  refine ⟨_, _, fun w => ?_, h2, by omega, fun W cells h hn => reads_from h hn hc, ?_⟩
  · rw [run_sliceAt_slice]
    · exact h2 w
    · exact hT'
  · rintro j ⟨ad, e, rfl⟩
    split at e
    · exact ⟨ad, e, rfl⟩
    · cases A with
      | none => cases e
      | some a0 => cases e; exact ⟨a0, rfl, block_of_add a0 _⟩
theorem run_to {P : Program} {T E : TypeId} {z : Value} {size bytes k m c : Nat} {A : Option Addr} (hT : P.underlying T = some (.slice E)) (hI : (P.info? E).map (fun i => (i.zero, i.size, i.bytes)) = some (some z, size, bytes)) (hk : k ≤ c) :
    (∀ w, (Instr.sliceAt T (.slice A m c) none (some (.int .i64 (k : Int))) none).run P w = .ok (.slice A k c) w) ∧ (∀ w, (Instr.slice T (.slice A m c) none (some (.int .i64 (k : Int))) none).run P w = .ok (.slice A k c) w) := by
  obtain ⟨i0, hi0, hz0, hz1, hz2⟩ := info_parts hI
  have hT' : P.underlying T = some (.slice (P.elem T)) := by simp [Program.elem, hT]
  have hE : P.elem T = E := by simp [Program.elem, hT]
  have hA : (if c = 0 then A else A.map (·.add (0 * size))) = A := by
    split
    · rfl
    · cases A <;> simp [Addr.add]
  have h2 : ∀ w, (Instr.slice T (.slice A m c) none (some (.int .i64 (k : Int))) none).run P w = .ok (.slice A k c) w := fun w => by
    rw [run_slice_h _ _ _ _ _ hT' .i64 k (by omega) (by omega), hE]
    simp [sizeOf, typeInfo, hi0, hz1, Result.andThen, sliced]
    simpa using hA
  refine ⟨fun w => ?_, h2⟩
  rw [run_sliceAt_slice]
  · exact h2 w
  · exact hT'
theorem reads_take {W : World} {A : Option Addr} {cells : List Value} {k : Nat} (h : Reads1 W A cells) : Reads1 W A (cells.take k) := fun i v hv => by
  rw [List.getElem?_take] at hv
  split at hv
  · exact h i v hv
  · cases hv
theorem own_ge {w : World} {base : Nat} {e : TypeId} {size n : Nat} {v : Value} {xs : List Value} (h : w.ownsRow base e size v n xs) : ∀ j, v.ownBlock = some j → base ≤ j := fun j hj => (h.lt j hj).1
end Go.Proofs.Ytkjkpmeommfdgaa

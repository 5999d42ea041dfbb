/- 'append(s, t...)' onto a slice of the call's own, t any slice that reads as a list. -/
import Derived.Test.YtkjkpmeommfdgaaBase
namespace Go.Proofs.Ytkjkpmeommfdgaa
open Go.RowKit Go.Shelf

/-- Each value a cell of its own. -/
theorem appL {F : Fence} {n : Nat} {P : Program} {T E : TypeId} {z : Value} {bytes : Nat} (hT : P.underlying T = some (.slice E)) (hI : (P.info? E).map (fun i => (i.zero, i.size, i.bytes)) = some (some z, 1, bytes)) (hz : z.cells.size = 1) (hby : bytes ≤ 1024)
    {ops : Array Oper} {rest : List Oper} {a : Act} {Q : Exit → Act → World → Prop} {s x : Operand} {dst : Option Tmp} {ty : TypeId} {pos : String} {aft : Array Edge} {wr : World} {base k m c : Nat} {A : Option Addr} {v : Value} {xs news : List Value}
    (hown : wr.ownsRow base E 1 v k xs) (hb : base ≤ wr.heap.size) (hm : news.length = m) (hk : k + m < 1073741824) (hr : Reads1 wr A news) (hu : ∀ u ∈ news, u.oneCell' = true) (hs : a.eval s = v) (hx : a.eval x = .slice A m c)
    (hK : ∀ v' w', w'.ownsRow base E 1 v' (k + m) (xs ++ news) → Upd (fun j => v.ownBlock = some j) wr w' → (v'.ownBlock = v.ownBlock ∨ v'.ownBlock = some wr.heap.size) →
      wpListIn F n P ops Q rest (a.put dst v') w') :
    wpListIn F n P ops Q (Oper.mk dst (.call (Call.mk (.builtin .append) #[s, x] #[T, T])) ty pos aft none :: rest) a wr := by
  subst hm
  obtain ⟨i0, hi, hz0, hz1, hz2⟩ := info_parts hI
  refine wpListIn_plain rfl fun K hK' => ?_
  unfold Oper.wpIn
  refine ⟨by simp [Oper.about, resolve, Target.leads, Sem.run_pure], ?_⟩
  rw [Oper.semAt_plain F _ _ (by intro c hc'; cases hc')]
  cases A with
  | some ad =>
    have hcell : ∀ j u, news[j]? = some u → wr.cell? (ad.add j) = some u := fun j u hj => by
      obtain ⟨ad', e, h⟩ := hr j u hj
      obtain rfl := Option.some.inj e
      exact h
    obtain ⟨v', w', hrun, h2, h3, h4, h5⟩ := run_append_own_at (P := P) wr base T ty E i0 z 1 bytes hT hi hz0 hz1 hz2 hz (by omega) v k xs hown ad news.length c news (by omega) hcell hu
      (by simp only [maxLen]; omega) (Nat.le_trans (Nat.mul_le_mul_left _ hby) (by omega)) hb
    simp [execOp, resolve, invoke, builtin, hs, hx, hrun, Result.andThen]
    exact hK' _ _ (hK v' w' h2 ⟨h3.os, h3.tape, h3.output, h3.size, fun j hj hne => h3.block j hj (fun e => hne e.symm)⟩ h5)
  | none =>
    have hn : news = [] := by
      cases news with
      | nil => rfl
      | cons u l => obtain ⟨_, e, _⟩ := hr 0 u rfl; cases e
    subst hn
    have hrun : (Builtin.append_ #[T, T] ty #[v, .slice none 0 c]).run P wr = .ok v wr := by
      rcases hown.2 with ⟨rfl, rfl⟩ | ⟨g, cap, cur, rfl, _, _, hnc, _⟩ <;> simp [Builtin.append_, run_underlying hT, sizeOf, typeInfo, Builtin.lenOf, Builtin.firstCells, loadCells, storeCells, *]
    simp [execOp, resolve, invoke, builtin, hs, hx, hrun, Result.andThen]
    exact hK' _ _ (hK v wr (by simpa using hown) (Upd.refl _ _) (.inl rfl))

/-- 'append([]T{}, ..)' begins with this. -/
theorem own_empty (w : World) (e : TypeId) : (w.alloc (.cells #[] e)).ownsRow w.heap.size e 1 (.slice (some ⟨w.heap.size, 0, none⟩) 0 0) 0 [] :=
  ⟨rfl, .inr ⟨w.heap.size, 0, #[], rfl, Nat.le_refl _, World.alloc_heap_new w _, Nat.le_refl _, Nat.zero_le _, rfl, rfl⟩⟩
theorem own_reads {w : World} {base : Nat} {e : TypeId} {A : Option Addr} {n c : Nat} {xs : List Value} (h : w.ownsRow base e 1 (.slice A n c) n xs) (hn : n = xs.length) : Reads1 w A xs ∧ ∀ k, blkOf' A xs.length k → base ≤ k := by
  obtain ⟨A4, c4, e4, h4, h5⟩ := Reads1.of_own h hn
  cases e4
  exact ⟨h4, h5⟩

/-- What lies behind is kept: the grown slice's block is the elder one's or new. -/
theorem own_fresh {w : World} {base b : Nat} {e : TypeId} {size : Nat} {v : Value} {n : Nat} {xs : List Value} (h : w.ownsRow base e size v n xs) (hb : b < base) : v.ownBlock ≠ some b := fun he => by have := (h.lt b he).1; omega
end Go.Proofs.Ytkjkpmeommfdgaa

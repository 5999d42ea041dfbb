/- Closures that gather entries. -/
import Derived.Test.YtaenkjeaadmgeaaProg
import Derived.Test.YtaenkjeaadmgeaaBase
import Derived.Test.YtaenkjeaadmgeaaRkG
namespace Go.Proofs.Ytaenkjeaadmgeaa
open Go.RowKit Go.Shelf
attribute [local go_sem] Oper.semAt_some

/-- 'l = append(l, e)', e of two cells, onto a slice of the call's own. -/
theorem app2 {F : Fence} {n : Nat} {P : Program} {T E : TypeId} {z : Value} {bytes : Nat} (hT : P.underlying T = some (.slice E)) (hI : (P.info? E).map (fun i => (i.zero, i.size, i.bytes)) = some (some z, 2, bytes)) (hz : z.cells.size = 2) (hby : bytes ≤ 1024)
    {ops : Array Oper} {rest : List Oper} {a : Act} {Q : Exit → Act → World → Prop} {s x : Operand} {dst : Option Tmp} {ty : TypeId} {pos : String} {aft : Array Edge} {wr : World} {base k : Nat} {v u1 u2 : Value} {xs : List Value}
    (hown : wr.ownsRow base E 2 v k xs) (hb : base ≤ wr.heap.size) (hk : k < 1073741824) (hu1 : u1.oneCell' = true) (hu2 : u2.oneCell' = true) (hs : a.eval s = v) (hx : a.eval x = .slice (some ⟨wr.heap.size, 0, none⟩) 1 1)
    (hK : ∀ g cap w', w'.ownsRow base E 2 (.slice (some ⟨g, 0, none⟩) (k + 1) cap) (k + 1) (xs ++ [u1, u2]) → Upd (fun j => v.ownBlock = some j) wr w' → (v.ownBlock = some g ∨ wr.heap.size ≤ g) → g < w'.heap.size →
      wpListIn F n P ops Q rest (a.put dst (.slice (some ⟨g, 0, none⟩) (k + 1) cap)) w') :
    wpListIn F n P ops Q (Oper.mk dst (.call (Call.mk (.builtin .append) #[s, x] #[T, T])) ty pos aft none :: rest) a (wr.alloc (.cells #[u1, u2] E)) :=
  appE (news := [u1, u2]) hT hI hz (by omega) hby hown hb hk rfl (by simp [hu1, hu2]) hs hx hK

theorem infoE : (Try.prog.info? 32).map (fun i => (i.zero, i.size, i.bytes)) = some (some (.agg #[.string ⟨#[]⟩, .int .i64 0]), 2, 24) := by kernel_rfl
theorem zEnt : (Value.agg #[.string ⟨#[]⟩, .int .i64 0]).cells.size = 2 := rfl

/-- The variable of a slice that the call owns. -/
def Gath (bl base : Nat) (s : List Ent) (W : World) (v : Value) : Prop := Blk W bl #[v] 27 ∧ W.ownsRow base 32 2 v s.length (flat s) ∧ v.ownBlock ≠ some bl
theorem Gath.agree {bl base : Nat} {s : List Ent} {W W' : World} {v : Value} (h : Gath bl base s W v) (ha : Agree (fun j => j = bl ∨ v.ownBlock = some j) W W') : Gath bl base s W' v :=
  ⟨h.1.agree ha (.inl rfl), own_agree h.2.1 (ha.mono fun _ h => .inr h), h.2.2⟩
theorem Gath.new {bl base : Nat} {W : World} (h : Blk W bl #[.slice none 0 0] 27) : Gath bl base [] W (.slice none 0 0) := ⟨h, World.ownsRow_nil W base _ 2, by simp [Value.ownBlock]⟩
theorem Gath.shape {bl base : Nat} {s : List Ent} {W : World} {v : Value} (h : Gath bl base s W v) : ∃ A cap, v = .slice A s.length cap ∧ Reads1 W A (flat s) ∧ Plain A ∧ ∀ k, blkOf' A (flat s).length k → v.ownBlock = some k := by
  have h2 := h.2.1.2
  rcases h2 with ⟨hv0, hn⟩ | ⟨g, cap, cur, rfl, hb, hg, hnc, _, hsz, htk⟩
  · subst hv0
    have : s = [] := List.eq_nil_of_length_eq_zero hn
    subst this
    exact ⟨none, 0, rfl, fun i v hv => (by simp [flat] at hv), fun _ e => (by cases e), fun k hk => by simp [blkOf', flat] at hk⟩
  · refine ⟨_, _, rfl, fun i v hv => ⟨_, rfl, ?_⟩, fun a e => ⟨g, 0, (by cases e; rfl)⟩, fun k hk => ?_⟩
    · have hi := (List.getElem?_eq_some_iff.1 hv).1
      rw [flat_len] at hi
      have : W.cell? ⟨g, i, none⟩ = cur[i]? := by simp [World.cell?, hg]
      rw [add_plain, Nat.zero_add, this, ← hv, ← htk, List.getElem?_take, if_pos hi]
      simp
    · obtain ⟨_, _, e, rfl⟩ := hk
      cases e
      simp [Value.ownBlock]
/-- The closure's state: the list so far. -/
abbrev gathStep : List Ent → Ent → List Ent × Bool := fun s x => (s ++ [x], true)
theorem gathStep_go : ∀ (l s : List Ent), goF gathStep s l = (s ++ l, true)
  | [], s => by simp [goF]
  | x :: l, s => by simp only [goF, if_true, gathStep_go l (s ++ [x])]; simp
def GathRep (bl base : Nat) (s : List Ent) (S : Nat → Prop) (W : World) : Prop := ∃ v, Gath bl base s W v ∧ ∀ j, (j = bl ∨ v.ownBlock = some j) → S j

set_option maxRecDepth 100000 in
set_option maxHeartbeats 1000000 in
theorem pushO {W : World} {bl base : Nat} {v : Value} {s : List Ent} {x : Ent} (h : Gath bl base s W v) (hb : base ≤ W.heap.size) (hl : s.length ≤ 100000) :
    CallV Try.prog (.func (.func 12) #[] #[.pointer (some ⟨bl, 0, none⟩)]) (encE x) W
      fun r W' => r = .bool true ∧ ∃ v2, Gath bl base (s ++ [x]) W' v2 ∧ Upd (fun j => j = bl ∨ v.ownBlock = some j) W W' ∧ ∀ j, (j = bl ∨ v2.ownBlock = some j) → (j = bl ∨ v.ownBlock = some j) ∨ W.heap.size ≤ j := by
  obtain ⟨h1, h2, h3⟩ := h
  refine CallV.of_calls (n := 0) (enters_of Try.func12 (by kernel_rfl) rfl) ?_
  obtain ⟨A, cap, rfl⟩ := own_shape h2
  have c1 := h1.cell0
  have l1 := h1.lt
  refine callsIn_of_wp Try.func12 rfl trivial ?_
  simp only [Try.ntmps12, List.size_toArray, List.length_cons, List.length_nil, Nat.reduceAdd, Nat.reduceSub, Array.replicate_succ, Array.replicate_zero, List.push_toArray, List.append_toArray, List.nil_append, List.cons_append]
  have fin : ∀ g cap' w', w'.ownsRow base 32 2 (.slice (some ⟨g, 0, none⟩) (s.length + 1) cap') (s.length + 1) (flat s ++ [.string x.1, .int .i64 x.2]) → Upd (fun j => (Value.slice A s.length cap).ownBlock = some j) W w' → ((Value.slice A s.length cap).ownBlock = some g ∨ W.heap.size ≤ g) → g < w'.heap.size →
      w'.cell? ⟨bl, 0, none⟩ = some (.slice A s.length cap) ∧ w'.frozen? ⟨bl, 0, none⟩ = false ∧ bl < w'.heap.size ∧
      Gath bl base (s ++ [x]) (w'.setCell ⟨bl, 0, none⟩ (.slice (some ⟨g, 0, none⟩) (s.length + 1) cap')) (.slice (some ⟨g, 0, none⟩) (s.length + 1) cap') ∧ Upd (fun j => j = bl ∨ (Value.slice A s.length cap).ownBlock = some j) W (w'.setCell ⟨bl, 0, none⟩ (.slice (some ⟨g, 0, none⟩) (s.length + 1) cap')) ∧
      ∀ j, (j = bl ∨ (Value.slice (some ⟨g, 0, none⟩) (s.length + 1) cap').ownBlock = some j) → (j = bl ∨ (Value.slice A s.length cap).ownBlock = some j) ∨ W.heap.size ≤ j := by
    intro g cap' w' ho hu hg hlt
    have hb1 := h1.upd hu h3
    have hgb : g ≠ bl := by
      rintro rfl
      rcases hg with h | h
      · exact h3 h
      · omega
    have hfl : flat (s ++ [x]) = flat s ++ [.string x.1, .int .i64 x.2] := by rw [flat_append]; rfl
    refine ⟨hb1.cell0, hb1.frozen 0, hb1.lt, ⟨by simpa using hb1.set 0 _, ?_, ?_⟩, (hu.mono fun _ _ h => .inr h).stepSet (.inl (.inl rfl)) _, ?_⟩
    · rw [hfl, List.length_append]
      exact own_agree ho (fun j hj => Below.heap_setCell _ _ _ _ (fun e => hgb (by simp [Value.ownBlock] at hj; rw [hj]; exact e)))
    · simpa [Value.ownBlock] using hgb
    · rintro j (rfl | hj)
      · exact .inl (.inl rfl)
      · have hj' : g = j := by simpa [Value.ownBlock] using hj
        subst hj'
        exact hg.elim (fun h => .inl (.inr h)) .inr
  replace fin := Lib.hid fin
  gi_wp2_with ((with_reducible refine app2 Try.underlying27 infoE zEnt (by omega) h2 ?_ ?_ ?_ ?_ ?_ ?_ ?_); exact hb; omega; rfl; rfl; rfl; rfl; intro g cap' w' ho hu hg hlt; obtain ⟨k1, k2, k3, k4⟩ := fin.out g cap' w' ho hu hg hlt; (replace k4 := Lib.hid k4))
  go_ret
  exact ⟨_, rfl, rfl, _, k4.out⟩

/-- All that a sequence gives is gathered. -/
theorem gathO {fv : Value} {l : List Ent} {D : Nat → Prop} {w W : World} {bl base : Nat} {v : Value} (hseq : SeqO Try.prog fv encE (l.map fun x => ((), x)) () () (fun _ _ => True) (fun _ => False) D w) (hs : w.heap.size ≤ W.heap.size) (hag : Agree D w W)
    (h : Gath bl base [] W v) (hbase : base ≤ W.heap.size) (hD : ∀ k, (k = bl ∨ v.ownBlock = some k) → ¬ D k) (hl : l.length ≤ 100000) :
    CallV Try.prog fv #[.func (.func 12) #[] #[.pointer (some ⟨bl, 0, none⟩)]] W fun _ W' => ∃ v', Gath bl base l W' v' ∧ Upd (fun k => k = bl ∨ v.ownBlock = some k) W W' ∧ ∀ j, (j = bl ∨ v'.ownBlock = some j) → (j = bl ∨ v.ownBlock = some j) ∨ W.heap.size ≤ j := by
  have hlt : ∀ k, (k = bl ∨ v.ownBlock = some k) → k < W.heap.size := by
    rintro k (rfl | hk)
    · exact h.1.lt
    · exact (h.2.1.lt k hk).2
  refine (feed (S0 := fun k => k = bl ∨ v.ownBlock = some k) (step := gathStep) (Rep := GathRep bl base) (s0 := []) hseq hs hag (fun k hk => ⟨hlt k hk, hD k hk⟩) ?_ ⟨v, h, fun _ h => h⟩ ?_).mono ?_
  · rintro s S W1 W2 ⟨v, h1, h2⟩ hA _
    exact ⟨v, h1.agree (hA.mono h2), h2⟩
  · rintro pre x suf s1 S1 W1 he hgo ⟨v1, h1, h2⟩ hu hS1
    have e1 : s1 = pre := by rw [gathStep_go] at hgo; simpa using (Prod.mk.inj hgo).1.symm
    refine (pushO h1 (Nat.le_trans hbase hu.size) (by rw [e1]; rw [he] at hl; simp at hl; omega)).mono ?_
    rintro r W2 ⟨rfl, v2, g1, g2, g3⟩
    refine ⟨fun j => j = bl ∨ v2.ownBlock = some j, rfl, ⟨v2, g1, fun _ h => h⟩, g2.mono fun k _ hk => h2 k hk, fun k hk => ⟨?_, (g3 k hk).imp (h2 k) id⟩⟩
    rcases hk with rfl | hk
    · exact g1.1.lt
    · exact (g1.2.1.lt k hk).2
  · rintro r W' ⟨S', ⟨v', g1, g2⟩, hu, hS'⟩
    rw [gathStep_go, List.nil_append] at g1
    exact ⟨v', g1, hu, fun j hj => (hS' j (g2 j hj)).2⟩

set_option maxRecDepth 100000 in
set_option maxHeartbeats 1000000 in
theorem pushT {W : World} {bl base : Nat} {v : Value} {s : List Ent} {x : Ent} (h : Gath bl base s W v) (hb : base ≤ W.heap.size) (hl : s.length ≤ 100000) :
    CallV Try.prog (.func (.func 25) #[] #[.pointer (some ⟨bl, 0, none⟩)]) (encE x) W
      fun r W' => r = .bool true ∧ ∃ v2, Gath bl base (s ++ [x]) W' v2 ∧ Upd (fun j => j = bl ∨ v.ownBlock = some j) W W' ∧ ∀ j, (j = bl ∨ v2.ownBlock = some j) → (j = bl ∨ v.ownBlock = some j) ∨ W.heap.size ≤ j := by
  obtain ⟨h1, h2, h3⟩ := h
  refine CallV.of_calls (n := 0) (enters_of Try.func25 (by kernel_rfl) rfl) ?_
  obtain ⟨A, cap, rfl⟩ := own_shape h2
  have c1 := h1.cell0
  have l1 := h1.lt
  refine callsIn_of_wp Try.func25 rfl trivial ?_
  simp only [Try.ntmps25, List.size_toArray, List.length_cons, List.length_nil, Nat.reduceAdd, Nat.reduceSub, Array.replicate_succ, Array.replicate_zero, List.push_toArray, List.append_toArray, List.nil_append, List.cons_append]
  have fin : ∀ g cap' w', w'.ownsRow base 32 2 (.slice (some ⟨g, 0, none⟩) (s.length + 1) cap') (s.length + 1) (flat s ++ [.string x.1, .int .i64 x.2]) → Upd (fun j => (Value.slice A s.length cap).ownBlock = some j) W w' → ((Value.slice A s.length cap).ownBlock = some g ∨ W.heap.size ≤ g) → g < w'.heap.size →
      w'.cell? ⟨bl, 0, none⟩ = some (.slice A s.length cap) ∧ w'.frozen? ⟨bl, 0, none⟩ = false ∧ bl < w'.heap.size ∧
      Gath bl base (s ++ [x]) (w'.setCell ⟨bl, 0, none⟩ (.slice (some ⟨g, 0, none⟩) (s.length + 1) cap')) (.slice (some ⟨g, 0, none⟩) (s.length + 1) cap') ∧ Upd (fun j => j = bl ∨ (Value.slice A s.length cap).ownBlock = some j) W (w'.setCell ⟨bl, 0, none⟩ (.slice (some ⟨g, 0, none⟩) (s.length + 1) cap')) ∧
      ∀ j, (j = bl ∨ (Value.slice (some ⟨g, 0, none⟩) (s.length + 1) cap').ownBlock = some j) → (j = bl ∨ (Value.slice A s.length cap).ownBlock = some j) ∨ W.heap.size ≤ j := by
    intro g cap' w' ho hu hg hlt
    have hb1 := h1.upd hu h3
    have hgb : g ≠ bl := by
      rintro rfl
      rcases hg with h | h
      · exact h3 h
      · omega
    have hfl : flat (s ++ [x]) = flat s ++ [.string x.1, .int .i64 x.2] := by rw [flat_append]; rfl
    refine ⟨hb1.cell0, hb1.frozen 0, hb1.lt, ⟨by simpa using hb1.set 0 _, ?_, ?_⟩, (hu.mono fun _ _ h => .inr h).stepSet (.inl (.inl rfl)) _, ?_⟩
    · rw [hfl, List.length_append]
      exact own_agree ho (fun j hj => Below.heap_setCell _ _ _ _ (fun e => hgb (by simp [Value.ownBlock] at hj; rw [hj]; exact e)))
    · simpa [Value.ownBlock] using hgb
    · rintro j (rfl | hj)
      · exact .inl (.inl rfl)
      · have hj' : g = j := by simpa [Value.ownBlock] using hj
        subst hj'
        exact hg.elim (fun h => .inl (.inr h)) .inr
  replace fin := Lib.hid fin
  gi_wp2_with ((with_reducible refine app2 Try.underlying27 infoE zEnt (by omega) h2 ?_ ?_ ?_ ?_ ?_ ?_ ?_); exact hb; omega; rfl; rfl; rfl; rfl; intro g cap' w' ho hu hg hlt; obtain ⟨k1, k2, k3, k4⟩ := fin.out g cap' w' ho hu hg hlt; (replace k4 := Lib.hid k4))
  go_ret
  exact ⟨_, rfl, rfl, _, k4.out⟩

/-- All that a sequence gives is gathered. -/
theorem gathT {fv : Value} {l : List Ent} {D : Nat → Prop} {w W : World} {bl base : Nat} {v : Value} (hseq : SeqO Try.prog fv encE (l.map fun x => ((), x)) () () (fun _ _ => True) (fun _ => False) D w) (hs : w.heap.size ≤ W.heap.size) (hag : Agree D w W)
    (h : Gath bl base [] W v) (hbase : base ≤ W.heap.size) (hD : ∀ k, (k = bl ∨ v.ownBlock = some k) → ¬ D k) (hl : l.length ≤ 100000) :
    CallV Try.prog fv #[.func (.func 25) #[] #[.pointer (some ⟨bl, 0, none⟩)]] W fun _ W' => ∃ v', Gath bl base l W' v' ∧ Upd (fun k => k = bl ∨ v.ownBlock = some k) W W' ∧ ∀ j, (j = bl ∨ v'.ownBlock = some j) → (j = bl ∨ v.ownBlock = some j) ∨ W.heap.size ≤ j := by
  have hlt : ∀ k, (k = bl ∨ v.ownBlock = some k) → k < W.heap.size := by
    rintro k (rfl | hk)
    · exact h.1.lt
    · exact (h.2.1.lt k hk).2
  refine (feed (S0 := fun k => k = bl ∨ v.ownBlock = some k) (step := gathStep) (Rep := GathRep bl base) (s0 := []) hseq hs hag (fun k hk => ⟨hlt k hk, hD k hk⟩) ?_ ⟨v, h, fun _ h => h⟩ ?_).mono ?_
  · rintro s S W1 W2 ⟨v, h1, h2⟩ hA _
    exact ⟨v, h1.agree (hA.mono h2), h2⟩
  · rintro pre x suf s1 S1 W1 he hgo ⟨v1, h1, h2⟩ hu hS1
    have e1 : s1 = pre := by rw [gathStep_go] at hgo; simpa using (Prod.mk.inj hgo).1.symm
    refine (pushT h1 (Nat.le_trans hbase hu.size) (by rw [e1]; rw [he] at hl; simp at hl; omega)).mono ?_
    rintro r W2 ⟨rfl, v2, g1, g2, g3⟩
    refine ⟨fun j => j = bl ∨ v2.ownBlock = some j, rfl, ⟨v2, g1, fun _ h => h⟩, g2.mono fun k _ hk => h2 k hk, fun k hk => ⟨?_, (g3 k hk).imp (h2 k) id⟩⟩
    rcases hk with rfl | hk
    · exact g1.1.lt
    · exact (g1.2.1.lt k hk).2
  · rintro r W' ⟨S', ⟨v', g1, g2⟩, hu, hS'⟩
    rw [gathStep_go, List.nil_append] at g1
    exact ⟨v', g1, hu, fun j hj => (hS' j (g2 j hj)).2⟩
end Go.Proofs.Ytaenkjeaadmgeaa

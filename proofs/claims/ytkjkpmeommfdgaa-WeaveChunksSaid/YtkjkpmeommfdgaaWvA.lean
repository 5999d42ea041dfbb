/- awake of law27: three numbers, two by two. -/
import Derived.Test.YtkjkpmeommfdgaaProg
import Derived.Test.YtkjkpmeommfdgaaBase
import Derived.Test.YtkjkpmeommfdgaaWvI
import Derived.Test.YtkjkpmeommfdgaaWvL
import Derived.Test.YtkjkpmeommfdgaaWvC
namespace Go.Proofs.Ytkjkpmeommfdgaa
open Go.RowKit Go.Shelf
attribute [local go_sem] Oper.semAt_some

theorem infoSl : (Try.prog.info? 22).map (fun i => (i.zero, i.size, i.bytes)) = some (some (.slice none 0 0), 1, 24) := by kernel_rfl
theorem zSl : (Value.slice none 0 0).cells.size = 1 := rfl
theorem le_24 : 24 ≤ 1024 := by omega
theorem und55 : Try.prog.underlying 55 = some (.slice 22) := by kernel_rfl

theorem chunks_c {n : Nat} {f1 : Fn} {a1 c1 : Array Value} {k : Int} {w : World} :
    CallsIn Fence.wide n Try.prog 33 #[.func f1 a1 c1, .int .i64 k] w fun e w' => e = .returned (.func (.func 80) #[] #[.pointer (some ⟨w.heap.size + 1, 0, none⟩), .pointer (some ⟨w.heap.size, 0, none⟩)]) ∧
      w' = (w.alloc (.cells #[.func f1 a1 c1] 32)).alloc (.cells #[.int .i64 k] 3) := by
  refine callsIn_any (n := 0) (callsIn_of_wp Try.func33 rfl trivial ?_)
  simp only [Try.ntmps33, List.size_toArray, List.length_cons, List.length_nil, Nat.reduceAdd, Nat.reduceSub, Array.replicate_succ, Array.replicate_zero, List.push_toArray, List.append_toArray, List.nil_append, List.cons_append]
  gi_wp2
  go_ret
  exact ⟨rfl, rfl⟩

/-- awake's yield: one more list behind out. -/
theorem out_c {bo base k len cap : Nat} {A : Option Addr} {w : World} {vo : Value} {vals : List Value} (hb : Blk w bo #[vo] 55) (ho : w.ownsRow base 22 1 vo k vals) (hbase : base ≤ w.heap.size) (hk : k < 1000) :
    CallV Try.prog (.func (.func 71) #[] #[.pointer (some ⟨bo, 0, none⟩)]) #[.slice A len cap] w fun v w' => v = .bool true ∧ ∃ vo', Blk w' bo #[vo'] 55 ∧ w'.ownsRow base 22 1 vo' (k + 1) (vals ++ [.slice A len cap]) ∧
      Upd (fun j => j = bo ∨ vo.ownBlock = some j) w w' ∧ ∀ j, vo'.ownBlock = some j → j < w'.heap.size ∧ (vo.ownBlock = some j ∨ w.heap.size ≤ j) := by
  refine CallV.of_calls (n := 0) (enters_of Try.func71 (by kernel_rfl) rfl) ?_
  refine callsIn_of_wp Try.func71 rfl trivial ?_
  have c := hb.cell0
  have n2 := own_ne ho hb (by decide)
  replace hb := Lib.hid hb
  simp only [Try.ntmps71, List.size_toArray, List.length_cons, List.length_nil, Nat.reduceAdd, Nat.reduceSub, Array.replicate_succ, Array.replicate_zero, List.push_toArray, List.append_toArray, List.nil_append, List.cons_append]
  gi_wp2_with ((with_reducible refine app1 und55 infoSl zSl le_24 ho hbase ?_ ?_ ?_ ?_ ?_); omega; rfl; rfl; rfl; intro g cap' w' ho' hu hg hlt; have f2 := hb.out.upd hu n2; have d1 := f2.cell0; have d2 := f2.lt; have d3 := f2.frozen 0; (replace f2 := Lib.hid f2))
  go_ret
  refine ⟨_, rfl, rfl, _, by simpa using f2.out.set 0 _, ?_, (hu.mono fun _ _ h => .inr h).stepSet (.inl (.inl rfl)) _, ?_⟩
  · exact own_agree ho' ((Upd.setCell (M := fun k => k = bo) rfl _).agree (fun j hj => by
      obtain rfl : g = j := by simpa [Value.ownBlock] using hj
      exact ⟨hlt, fun e => own_ne ho' f2.out (by decide) (by simp [Value.ownBlock, e])⟩))
  · intro j hj
    obtain rfl : g = j := by simpa [Value.ownBlock] using hj
    exact ⟨by simpa using hlt, hg⟩

/-- What awake's out holds. -/
def OutRep (base bo : Nat) : List (List Int) → (Nat → Prop) → World → Prop := fun st S W => ∃ vo vals, Blk W bo #[vo] 55 ∧ W.ownsRow base 22 1 vo st.length vals ∧ vals.length = st.length ∧
  (∀ (i : Nat) v l, vals[i]? = some v → st[i]? = some l → W.ownsRow 0 3 1 v l.length (l.map (Value.int .i64))) ∧ ∀ k, S k ↔ (k = bo ∨ vo.ownBlock = some k ∨ ∃ v ∈ vals, v.ownBlock = some k)

theorem OutRep.stab {base bo : Nat} {st : List (List Int)} {S : Nat → Prop} {W1 W2 : World} (h : OutRep base bo st S W1) (ha : Agree S W1 W2) : OutRep base bo st S W2 := by
  obtain ⟨vo, vals, h1, h2, h3, h4, h5⟩ := h
  refine ⟨vo, vals, h1.agree ha ((h5 _).2 (.inl rfl)), own_agree h2 (ha.mono fun k hk => (h5 k).2 (.inr (.inl hk))), h3, fun i v l hv hl => ?_, h5⟩
  exact own_agree (h4 i v l hv hl) (ha.mono fun k hk => (h5 k).2 (.inr (.inr ⟨v, List.mem_of_getElem? hv, hk⟩)))

theorem OutRep.yield {base bo : Nat} {st : List (List Int)} {S G : Nat → Prop} {W1 : World} {x : List Int} {vs : Array Value} (h : OutRep base bo st S W1) (hb : base ≤ W1.heap.size) (hst : st.length < 1000) (hg : givI x vs G W1) (hGS : ∀ k, G k → ¬ S k ∧ k < W1.heap.size) (hS : ∀ k, S k → k < W1.heap.size) :
    CallV Try.prog (.func (.func 71) #[] #[.pointer (some ⟨bo, 0, none⟩)]) vs W1 fun v W2 => ∃ S2, v = .bool true ∧ OutRep base bo (st ++ [x]) S2 W2 ∧ Upd (fun k => S k ∨ G k) W1 W2 ∧ (∀ k, S2 k → k < W2.heap.size ∧ (S k ∨ G k ∨ W1.heap.size ≤ k)) := by
  obtain ⟨vo, vals, h1, h2, h3, h4, h5⟩ := h
  obtain ⟨v, rfl, hv, hG⟩ := hg
  obtain ⟨A, cap, rfl⟩ := own_shape hv
  refine (out_c h1 h2 hb hst).mono ?_
  rintro _ W2 ⟨rfl, vo', b1, b2, b3, b4⟩
  have z := b3.size
  refine ⟨fun k => k = bo ∨ vo'.ownBlock = some k ∨ ∃ v ∈ vals ++ [.slice A x.length cap], v.ownBlock = some k, rfl, ⟨vo', _, b1, by simpa using b2, by simp [h3], ?_, fun k => Iff.rfl⟩, b3.mono (fun k _ hk => ?_), fun k hk => ?_⟩
  · intro i v l hv' hl'
    have keep : ∀ u (m : List Int), W1.ownsRow 0 3 1 u m.length (m.map (Value.int .i64)) → (∀ k, u.ownBlock = some k → k < W1.heap.size) → W2.ownsRow 0 3 1 u m.length (m.map (Value.int .i64)) := by
      intro u m hu hlt
      refine own_agree hu (b3.agree fun k hk => ⟨hlt k hk, ?_⟩)
      rintro (rfl | hk')
      · exact own_ne hu h1 (by decide) hk
      · rcases h2.2 with ⟨rfl, _⟩ | ⟨g, cap, cur, rfl, _, hg, _⟩
        · simp [Value.ownBlock] at hk'
        · obtain rfl : g = k := by simpa [Value.ownBlock] using hk'
          rcases hu.2 with ⟨rfl, _⟩ | ⟨g', cap', cur', rfl, _, hg', _⟩
          · simp [Value.ownBlock] at hk
          · obtain rfl : g' = g := by simpa [Value.ownBlock] using hk
            have := hg.symm.trans hg'
            simp at this
    by_cases hi : i < st.length
    · rw [List.getElem?_append_left (by omega)] at hv' hl'
      exact keep v l (h4 i v l hv' hl') (fun k hk => hS k ((h5 k).2 (.inr (.inr ⟨v, List.mem_of_getElem? hv', hk⟩))))
    · have hi' : i < (st ++ [x]).length := (List.getElem?_eq_some_iff.1 hl').1
      simp at hi'
      obtain rfl : i = st.length := by omega
      rw [List.getElem?_append_right (by omega)] at hv' hl'
      simp [h3] at hv' hl'
      subst hv' hl'
      exact keep _ _ hv (fun k hk => (hGS k ((hG k).2 hk)).2)
  · rcases hk with rfl | hk
    · exact .inl ((h5 _).2 (.inl rfl))
    · exact .inl ((h5 _).2 (.inr (.inl hk)))
  · rcases hk with rfl | hk | ⟨v, hv', hk⟩
    · exact ⟨b1.lt, .inl ((h5 _).2 (.inl rfl))⟩
    · obtain ⟨p, q⟩ := b4 k hk
      exact ⟨p, q.elim (fun h => .inl ((h5 _).2 (.inr (.inl h)))) (fun h => .inr (.inr h))⟩
    · rw [List.mem_append] at hv'
      rcases hv' with hv' | hv'
      · have hs := (h5 k).2 (.inr (.inr ⟨v, hv', hk⟩))
        exact ⟨by have := hS k hs; omega, .inl hs⟩
      · rw [List.mem_singleton] at hv'
        subst hv'
        have := (hG k).2 hk
        exact ⟨by have := (hGS k this).2; omega, .inr (.inl this)⟩

set_option maxRecDepth 100000 in
theorem eqNilC {k : FuncId} {cap : Array Value} {W : World} : (binOp .eql 53 (.func (.func k) #[] cap) .nilFunc).run Try.prog W = .ok (.bool false) W := by rfl
attribute [local go_sem] eqNilC

/-- The world of awake ahead of its loop. -/
abbrev awW (w : World) : World := ((((w.alloc (.cells #[.slice none 0 0] 55)).alloc (.cells #[.int .i64 1, .int .i64 2, .int .i64 3] 3)).alloc (.cells #[.slice (some ⟨w.heap.size + 1, 0, none⟩) 3 3] 22)).alloc
  (.cells #[.func (.func 76) #[] #[.pointer (some ⟨w.heap.size + 1 + 1, 0, none⟩)]] 32)).alloc (.cells #[.int .i64 2] 3)

theorem awake_run (w : World) : CallV Try.prog (.func (.func 80) #[] #[.pointer (some ⟨w.heap.size + 1 + 1 + 1 + 1, 0, none⟩), .pointer (some ⟨w.heap.size + 1 + 1 + 1, 0, none⟩)]) #[.func (.func 71) #[] #[.pointer (some ⟨w.heap.size, 0, none⟩)]] (awW w)
    fun _ W2 => Below w.heap.size w W2 ∧ ∃ S, OutRep (w.heap.size + 1) w.heap.size [[1, 2], [3]] S W2 := by
  have hb0 : Blk (awW w) w.heap.size #[.slice none 0 0] 55 := Blk.alloc (Blk.alloc (Blk.alloc (Blk.alloc (Blk.new' rfl) _) _) _) _
  have hb1 : Blk (awW w) (w.heap.size + 1) #[.int .i64 1, .int .i64 2, .int .i64 3] 3 := Blk.alloc (Blk.alloc (Blk.alloc (Blk.new' (by simp)) _) _) _
  have hb2 : Blk (awW w) (w.heap.size + 1 + 1) #[.slice (some ⟨w.heap.size + 1, 0, none⟩) 3 3] 22 := Blk.alloc (Blk.alloc (Blk.new' (by simp)) _) _
  have hb3 : Blk (awW w) (w.heap.size + 1 + 1 + 1) #[.func (.func 76) #[] #[.pointer (some ⟨w.heap.size + 1 + 1, 0, none⟩)]] 32 := Blk.alloc (Blk.new' (by simp)) _
  have hb4 : Blk (awW w) (w.heap.size + 1 + 1 + 1 + 1) #[.int .i64 2] 3 := Blk.new' (by simp)
  have hr : Reads1 (awW w) (some ⟨w.heap.size + 1, 0, none⟩) (([1, 2, 3] : List Int).map (Value.int .i64)) := by
    intro i v hv
    refine ⟨_, rfl, ?_⟩
    have := hb1.cell i
    rw [show (Addr.add ⟨w.heap.size + 1, 0, none⟩ i) = ⟨w.heap.size + 1, i, none⟩ by simp [Addr.add, eq_comm], this]
    simpa using hv
  have hs := values_seq (xs := [1, 2, 3]) hb2 hr (by decide)
  have hg := chunks_seq (n := 2) hs hb3 hb4 id id (by decide)
  have hsz : (awW w).heap.size = w.heap.size + 5 := by simp
  have hcs : (chunkEvs 2 () (([1, 2, 3] : List Int).map fun x => ((), x))).map (·.2) = [[1, 2], [3]] := by decide
  refine (hg.run (List (List Int)) (fun st l => (st ++ [l], true)) (OutRep (w.heap.size + 1) w.heap.size) _ [] (fun k => k = w.heap.size) (awW w) ⟨⟨_, _, _, rfl⟩, Nat.le_refl _, Agree.refl _ _, ?_, ?_, ?_, ?_⟩ trivial).mono ?_
  · rintro k rfl
    refine ⟨by rw [hsz]; omega, ?_, id⟩
    rintro ((h | ⟨-, ad, h, h'⟩) | h | h)
    · omega
    · obtain rfl := Option.some.inj h; simp at h'
    · omega
    · omega
  · intro s S W1 W2 h ha _; exact h.stab ha
  · intro pre x suf s1 S1 W1 vs G hL hgo hR hgiv hG hu hS1
    have hl : s1.length ≤ 2 := by
      have h1 : ∀ (l st : List (List Int)), (goF (fun (st : List (List Int)) l => (st ++ [l], true)) st l).1 = st ++ l := by
        intro l
        induction l with
        | nil => intro st; simp [goF]
        | cons a l ih => intro st; simp only [goF, if_true]; rw [ih]; simp
      have h2 := h1 pre []
      rw [hgo] at h2
      rw [hcs] at hL
      have h3 := congrArg List.length hL
      simp at h2 h3
      subst h2; omega
    exact (hR.yield (by have := hu.size; omega) (by omega) hgiv (fun k hk => ⟨(hG k hk).2.2, (hG k hk).2.1⟩) (fun k hk => (hS1 k hk).1))
  · exact ⟨_, [], hb0, World.ownsRow_nil _ _ _ _, rfl, by simp, by simp [Value.ownBlock]⟩
  · rintro v W2 ⟨S', h1, _, h3, _⟩
    refine ⟨?_, S', ?_⟩
    · have hB : Below w.heap.size w (awW w) := ((((((Below.refl _ _).alloc (by simp) _).alloc (by simp) _).alloc (by simp; omega) _).alloc (by simp; omega) _).alloc (by simp; omega) _)
      refine hB.trans (h3.below (by omega) ?_)
      rintro k (h | h)
      · omega
      · exact h.elim
    · rw [hcs] at h1
      exact h1

theorem addr_add0 (a : Addr) : a.add 0 = a := by cases a; simp [Addr.add]
theorem OutRep.reads {base bo : Nat} {S : Nat → Prop} {W : World} (h : OutRep base bo [[1, 2], [3]] S W) : ∃ A c A0 c0 ad c1, W.cell? ⟨bo, 0, none⟩ = some (.slice (some A) 2 c) ∧ W.cell? A = some (.slice A0 2 c0) ∧ W.cell? ⟨A.block, A.off + 1, none⟩ = some (.slice (some ad) 1 c1) ∧ W.cell? ad = some (.int .i64 3) := by
  obtain ⟨vo, vals, h1, h2, h3, h4, -⟩ := h
  obtain ⟨v0, v1, rfl⟩ : ∃ v0 v1, vals = [v0, v1] := by
    match vals, h3 with
    | [a, b], _ => exact ⟨a, b, rfl⟩
  obtain ⟨A, c, rfl, hr, -⟩ := Reads1.of_own h2 rfl
  obtain ⟨A', rfl, e0⟩ := hr 0 v0 rfl
  obtain ⟨_, e, e1⟩ := hr 1 v1 rfl
  obtain rfl := Option.some.inj e
  obtain ⟨B0, d0, rfl, -, -⟩ := Reads1.of_own (h4 0 v0 _ rfl rfl) rfl
  obtain ⟨B1, d1, rfl, hr1, -⟩ := Reads1.of_own (h4 1 v1 _ rfl rfl) rfl
  obtain ⟨A2, rfl, e2⟩ := hr1 0 _ rfl
  exact ⟨_, _, _, _, _, _, h1.cell0, by rwa [addr_add0] at e0, by simpa [Addr.add] using e1, by rwa [addr_add0] at e2⟩

set_option maxRecDepth 100000 in
set_option maxHeartbeats 1000000 in
theorem awake_c {n : Nat} {w : World} :
    CallsIn Fence.wide n Try.prog 14 #[] w fun e w' => e = .returned (.bool true) ∧ Below w.heap.size w w' := by
  refine callsIn_any (n := 0) (callsIn_of_wp Try.func14 rfl trivial ?_)
  simp only [Try.ntmps14, List.size_toArray, List.length_nil, Nat.reduceSub, Array.replicate_succ, Array.replicate_zero, List.push_toArray, List.append_toArray, List.nil_append, List.cons_append]
  gi_wp2_with (first | refine (⟨trivial, rfl, ?_⟩ : Fence.wide.fn _ ∧ Fence.wide.depth = none ∧ _) | (gi_at_call 24; refine values_c.mono ?_; rintro e w' ⟨rfl, rfl⟩) | (gi_at_call 33; refine chunks_c.mono ?_; rintro e w' ⟨rfl, rfl⟩) | (gi_at_call 80; refine (awake_run w).2.mono ?_; rintro e W2 ⟨v, rfl, hB, S, hR⟩; obtain ⟨A, c, A0, c0, ad, c1, q1, q2, q3, q4⟩ := hR.reads; (replace hR := Lib.hid hR); (replace hB := Lib.hid hB)))
  go_ret
  exact ⟨rfl, hB.out⟩
end Go.Proofs.Ytkjkpmeommfdgaa

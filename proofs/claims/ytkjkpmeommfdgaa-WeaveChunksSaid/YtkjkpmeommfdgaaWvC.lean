/- weave.Chunks over ints: n by n, each in memory of its own. -/
import Derived.Test.YtkjkpmeommfdgaaProg
import Derived.Test.YtkjkpmeommfdgaaBase
import Derived.Test.YtkjkpmeommfdgaaWvI
import Derived.Test.YtkjkpmeommfdgaaWvL
namespace Go.Proofs.Ytkjkpmeommfdgaa
open Go.RowKit Go.Shelf
attribute [local go_sem] Oper.semAt_some

/-- A list of ints handed over: its slice's own block goes with it. -/
def givI : List Int → Array Value → (Nat → Prop) → World → Prop := fun x vs G W =>
  ∃ v, vs = #[v] ∧ W.ownsRow 0 3 1 v x.length (x.map (Value.int .i64)) ∧ ∀ k, G k ↔ v.ownBlock = some k

abbrev trChunk (n : Int) : List Int → Int → List Int × Option (List Int) × Bool := fun l x => if ((l ++ [x]).length : Int) < n then (l ++ [x], none, true) else ([], some (l ++ [x]), true)
def restOf (l : List Int) : List (List Int) := if l = [] then [] else [l]
/-- All chunks. -/
def chunksOf (n : Int) (xs : List Int) : List (List Int) := if n < 1 then [] else outs (trChunk n) [] xs ++ restOf (trSt (trChunk n) [] xs).1
def chunkEvs {ω : Type} (n : Int) (fin : ω) (evs : List (ω × Int)) : List (ω × List Int) := if n < 1 then [] else evsT (trChunk n) [] evs ++ (restOf (trSt (trChunk n) [] (evs.map (·.2))).1).map fun l => (fin, l)
def chunkFin {ω : Type} (n : Int) (init fin : ω) : ω := if n < 1 then init else fin

theorem trChunk_len (n : Int) : ∀ (xs : List Int) (l : List Int), (trSt (trChunk n) l xs).2 = true ∧ (trSt (trChunk n) l xs).1.length ≤ l.length + xs.length
  | [], l => by simp [trSt]
  | x :: xs, l => by
    have ih1 := trChunk_len n xs (l ++ [x])
    have ih2 := trChunk_len n xs []
    simp only [trSt, trChunk]
    split
    · rw [List.length_append] at ih1; simp only [List.length_cons, List.length_nil, if_true] at ih1 ⊢; exact ⟨ih1.1, by omega⟩
    · simp only [List.length_cons, List.length_nil, if_true] at ih2 ⊢; exact ⟨ih2.1, by omega⟩
theorem finT_chunk {ω : Type} (n : Int) (fin : ω) : ∀ (evs : List (ω × Int)) (l : List Int), finT (trChunk n) fin l evs = fin
  | [], l => rfl
  | e :: evs, l => by
    simp only [finT, trChunk]
    split
    · simpa using finT_chunk n fin evs _
    · simpa using finT_chunk n fin evs _
theorem chunkEvs_snd {ω : Type} (n : Int) (fin : ω) (evs : List (ω × Int)) : (chunkEvs n fin evs).map (·.2) = chunksOf n (evs.map (·.2)) := by
  unfold chunkEvs chunksOf
  split
  · rfl
  · rw [List.map_append, evsT_snd, List.map_map]; congr 1; simp [Function.comp_def]

/-- What Chunks keeps: the boxes of yield and of l, l's own block. -/
def ChunkPv (W0 : Nat) (yv : Value) : List Int → (Nat → Prop) → World → Prop := fun l Pr W =>
  Blk W W0 #[yv] 24 ∧ ∃ v, Blk W (W0 + 1) #[v] 22 ∧ W.ownsRow W0 3 1 v l.length (l.map (Value.int .i64)) ∧ ∀ k, Pr k ↔ (k = W0 ∨ k = W0 + 1 ∨ v.ownBlock = some k)

set_option maxRecDepth 100000 in
set_option maxHeartbeats 2000000 in
theorem chunks_seq {ω : Type} {fv : Value} {evs : List (ω × Int)} {init fin : ω} {Own : ω → World → Prop} {E D : Nat → Prop} {w : World} {n : Int} {bs bn : Nat}
    (hseq : SeqO Try.prog fv encI evs init fin Own E D w) (hbs : Blk w bs #[fv] 32) (hbn : Blk w bn #[.int .i64 n] 3) (hsE : ¬ E bs) (hnE : ¬ E bn) (hlen : evs.length ≤ 1000) :
    SeqG Try.prog (.func (.func 80) #[] #[.pointer (some ⟨bn, 0, none⟩), .pointer (some ⟨bs, 0, none⟩)]) givI
      (chunkEvs n fin evs) init (chunkFin n init fin) Own E (fun k => D k ∨ k = bs ∨ k = bn) w where
  fn := ⟨_, _, rfl⟩
  dlt := by rintro k (h | rfl | rfl); exact hseq.dlt k h; exact ⟨hbs.lt, hsE⟩; exact ⟨hbn.lt, hnE⟩
  elt := hseq.elt
  stable := hseq.stable
  run := by
    intro σ step Rep y s S W hx h4
    refine CallV.of_calls (n := 0) (enters_of Try.func80 (by kernel_rfl) rfl) ?_
    obtain ⟨yf, ya, yc, rfl⟩ := hx.shape
    obtain ⟨fk', fc', rfl⟩ := hseq.fn
    have hD' : ∀ k, (D k ∨ k = bs ∨ k = bn) → k < w.heap.size ∧ ¬ E k := by rintro k (h | rfl | rfl); exact hseq.dlt k h; exact ⟨hbs.lt, hsE⟩; exact ⟨hbn.lt, hnE⟩
    have c1 := (hbs.agree hx.agree (.inr (.inl rfl))).cell0
    have l1 := (hbs.agree hx.agree (.inr (.inl rfl))).lt
    have c2 := (hbn.agree hx.agree (.inr (.inr rfl))).cell0
    have l2 := (hbn.agree hx.agree (.inr (.inr rfl))).lt
    by_cases hn1 : n < 1
    · have e1 : chunkEvs n fin evs = [] := by simp [chunkEvs, hn1]
      have e2 : chunkFin n init fin = init := by simp [chunkFin, hn1]
      rw [e1, e2]
      have hend : RunEnd Rep (goF step s ([] : List (List Int))).1 (Own init) S E W (.tuple #[]) (W.alloc (.cells #[.func yf ya yc] 24)) := by
        have hu := Upd.alloc (fun _ => False) W (.cells #[.func yf ya yc] 24)
        exact ⟨S, hx.stab _ _ _ _ hx.rep (hu.agree (fun k hk => ⟨(hx.own k hk).1, id⟩)) hu.size, hseq.stable _ _ _ h4 (hu.agree (fun k hk => ⟨by have := hseq.elt k hk; have := hx.size; omega, id⟩)), hu.mono (fun _ _ h => h.elim), fun k hk => ⟨by have := (hx.own k hk).1; simp; omega, .inl hk⟩⟩
      clear hx hseq h4 hbs hbn hD'
      refine callsIn_of_wp Try.func80 rfl trivial ?_
      simp only [Try.ntmps80, List.size_toArray, List.length_cons, List.length_nil, Nat.reduceAdd, Nat.reduceSub, Array.replicate_succ, Array.replicate_zero, List.push_toArray, List.append_toArray, List.nil_append, List.cons_append]
      gi_wp2
      exact bodyPost_ret (results_none rfl _ _ _) rfl ⟨_, rfl, hend⟩
    have hn1' : ¬ n < 1 := hn1
    generalize hsF : (goF step s ((chunkEvs n fin evs).map (·.2))).1 = sF
    generalize hOF : Own (goOwn step (chunkFin n init fin) s (chunkEvs n fin evs)) = OwnF
    refine callsIn_of_wp_marks Try.func80 rfl trivial ?_
    simp only [Try.ntmps80, List.size_toArray, List.length_cons, List.length_nil, Nat.reduceAdd, Nat.reduceSub, Array.replicate_succ, Array.replicate_zero, List.push_toArray, List.append_toArray, List.nil_append, List.cons_append]
    gi_wp2
    have hpv0 : ChunkPv W.heap.size (.func yf ya yc) [] (fun k => k = W.heap.size ∨ k = W.heap.size + 1) ((W.alloc (.cells #[.func yf ya yc] 24)).alloc (.cells #[.slice none 0 0] 22)) :=
      ⟨(Blk.new W _ _).alloc _, _, by simpa using Blk.new (W.alloc (.cells #[.func yf ya yc] 24)) #[.slice none 0 0] 22, World.ownsRow_nil _ _ _ _, by simp [Value.ownBlock]⟩
    refine wpIn_transG hseq hx h4 (D' := fun k => D k ∨ k = bs ∨ k = bn) (fun _ h => .inl h) hD' ((Upd.alloc _ _ _).stepAlloc _) rfl (fun _ => rfl) (trChunk n) (ChunkPv W.heap.size (.func yf ya yc)) (fun k => k = W.heap.size ∨ k = W.heap.size + 1) []
      hpv0 (by rintro k (rfl | rfl) <;> simp <;> omega) ?stab (restOf (trSt (trChunk n) [] (evs.map (·.2))).1) ?hL ?a1 ?assign ?body ?hend
    case stab =>
      rintro l Pr Wa Wb ⟨q1, v, q2, q3, q4⟩ hA _
      exact ⟨q1.agree hA ((q4 _).2 (.inl rfl)), v, q2.agree hA ((q4 _).2 (.inr (.inl rfl))), own_agree q3 (hA.mono fun k hk => (q4 k).2 (.inr (.inr hk))), q4⟩
    case hL => rw [chunkEvs_snd]; rw [chunksOf, if_neg (by omega)]
    case a1 => exact fun x => { tmps := #[.func yf ya yc, .pointer (some ⟨bn, 0, none⟩), .pointer (some ⟨bs, 0, none⟩), .pointer (some ⟨W.heap.size, 0, none⟩), .pointer (some ⟨W.heap.size + 1, 0, none⟩), .int .i64 x, .int .i64 n, .bool false, .func (.func fk') #[] fc', .int .i64 x, undef, undef, undef, undef, undef, undef, undef, undef, undef, undef, undef, undef, undef, undef, undef, undef, undef, undef], defers := [] }
    case assign =>
      rename_i KK hKK
      clear hKK KK c1 l1 c2 l2 hx hseq h4 hbs hbn hpv0 hD'
      intro l x W K hK
      gi_wp2
      exact hK
    case body =>
      rename_i KK hKK
      intro l pre x suf s1 t1 Pr W1 Rdy q1 q2 q3 q4 he htr hpv hpr hsz hAK hy
      obtain ⟨hp1, v, hp2, hp3, hp4⟩ := hpv
      have hl1 : t1.length ≤ 1000 := by
        have h1 := (trChunk_len n pre []).2
        rw [htr] at h1
        have h2 := congrArg List.length he
        simp at h1 h2
        omega
      have hn2 := hbn.agree hAK (.inr (.inr rfl))
      have cb := hp2.cell0
      have cy := hp1.cell0
      have l1' := hp2.lt
      have l2' := hp1.lt
      have nb : v.ownBlock ≠ some bn := fun h => by have := (hpr _ ((hp4 _).2 (.inr (.inr h)))).1; omega
      have n1 := own_ne hp3 hp1 (by decide)
      have n2 := own_ne hp3 hp2 (by decide)
      have nbb : bn ≠ W.heap.size + 1 := by omega
      clear hKK KK c1 l1 c2 hx hseq h4 hbs hbn hpv0 hD' he htr q1 q2 q3 q4 hsz hAK hlen hsE hnE
      replace hy := Lib.hid hy
      have fin : ∀ (g cap' : Nat) (w' : World), w'.ownsRow W.heap.size 3 1 (.slice (some ⟨g, 0, none⟩) (t1.length + 1) cap') (t1.length + 1) (t1.map (Value.int .i64) ++ [.int .i64 x]) → Upd (fun j => v.ownBlock = some j) W1 w' → (v.ownBlock = some g ∨ W1.heap.size ≤ g) → g < w'.heap.size →
          Blk w' W.heap.size #[.func yf ya yc] 24 ∧ Blk w' (W.heap.size + 1) #[v] 22 ∧ Blk w' bn #[.int .i64 n] 3 ∧ Upd Pr W1 (w'.setCell ⟨W.heap.size + 1, 0, none⟩ (.slice (some ⟨g, 0, none⟩) (t1.length + 1) cap')) ∧
          Blk (w'.setCell ⟨W.heap.size + 1, 0, none⟩ (.slice (some ⟨g, 0, none⟩) (t1.length + 1) cap')) W.heap.size #[.func yf ya yc] 24 ∧ Blk (w'.setCell ⟨W.heap.size + 1, 0, none⟩ (.slice (some ⟨g, 0, none⟩) (t1.length + 1) cap')) (W.heap.size + 1) #[.slice (some ⟨g, 0, none⟩) (t1.length + 1) cap'] 22 ∧ (w'.setCell ⟨W.heap.size + 1, 0, none⟩ (.slice (some ⟨g, 0, none⟩) (t1.length + 1) cap')).ownsRow W.heap.size 3 1 (.slice (some ⟨g, 0, none⟩) (t1.length + 1) cap') (t1.length + 1) (t1.map (Value.int .i64) ++ [.int .i64 x]) := by
        intro g cap' w' ho hu hg hlt
        have hb1 := hp1.upd hu n1
        have hb2 := hp2.upd hu n2
        refine ⟨hb1, hb2, hn2.upd hu nb, (hu.mono (fun k _ hk => (hp4 k).2 (.inr (.inr hk)))).stepSet (.inl ((hp4 _).2 (.inr (.inl rfl)))) _, hb1.other (by simp) _, by simpa using hb2.set 0 _, ?_⟩
        exact own_agree ho ((Upd.setCell (M := fun k => k = W.heap.size + 1) rfl _).agree (fun k hk => by
          obtain rfl : g = k := by simpa [Value.ownBlock] using hk
          exact ⟨hlt, fun e => own_ne ho hb2 (by decide) (by simp [Value.ownBlock, e])⟩))
      replace fin := Lib.hid fin
      replace hp4 := Lib.hid hp4
      replace hpr := Lib.hid hpr
      clear hp1 hp2 hn2
      by_cases hl : ((t1 ++ [x]).length : Int) < n
      · have hT : trChunk n t1 x = (t1 ++ [x], none, true) := if_pos hl
        have hl' : (t1.length + 1 : Int) < n := by simpa using hl
        gi_wp2_with ((with_reducible refine app1 Try.underlying22 infoI zInt le_8 hp3 ?_ ?_ ?_ ?_ ?_ ?_); omega; omega; rfl; rfl; rfl; intro g cap' w' ho hu hg hlt; obtain ⟨f1, f2, f3, f4, f5⟩ := fin.out g cap' w' ho hu hg hlt; have d1 := f2.cell0; have d2 := f2.lt; have d3 := f2.frozen 0; have d4 := (f3.other (p := ⟨W.heap.size + 1, 0, none⟩) nbb (.slice (some ⟨g, 0, none⟩) (t1.length + 1) cap')).cell0; (replace f4 := Lib.hid f4); (replace f5 := Lib.hid f5))
        refine ⟨by simp [stepT, hT], ?_⟩
        rw [hT]
        refine ⟨fun k => k = W.heap.size ∨ k = W.heap.size + 1 ∨ g = k, fun _ => ⟨f5.out.1, _, f5.out.2.1, by simpa using f5.out.2.2, by simp [Value.ownBlock]⟩, f4.out, ?_⟩
        have hz := f4.out.size
        rintro k (rfl | rfl | rfl)
        · exact ⟨by omega, .inl ((hp4.out _).2 (.inl rfl))⟩
        · exact ⟨by omega, .inl ((hp4.out _).2 (.inr (.inl rfl)))⟩
        · exact ⟨by simpa using hlt, hg.elim (fun h => .inl ((hp4.out _).2 (.inr (.inr h)))) .inr⟩
      · have hT : trChunk n t1 x = ([], some (t1 ++ [x]), true) := if_neg hl
        have hl' : ¬ (t1.length + 1 : Int) < n := by simpa using hl
        have hz : ∀ (g cap' : Nat) (w' : World), (v.ownBlock = some g ∨ W1.heap.size ≤ g) → g < w'.heap.size → Hid (Upd Pr W1 (w'.setCell ⟨W.heap.size + 1, 0, none⟩ (.slice (some ⟨g, 0, none⟩) (t1.length + 1) cap'))) → Hid (Blk (w'.setCell ⟨W.heap.size + 1, 0, none⟩ (.slice (some ⟨g, 0, none⟩) (t1.length + 1) cap')) W.heap.size #[.func yf ya yc] 24 ∧ Blk (w'.setCell ⟨W.heap.size + 1, 0, none⟩ (.slice (some ⟨g, 0, none⟩) (t1.length + 1) cap')) (W.heap.size + 1) #[.slice (some ⟨g, 0, none⟩) (t1.length + 1) cap'] 22 ∧ (w'.setCell ⟨W.heap.size + 1, 0, none⟩ (.slice (some ⟨g, 0, none⟩) (t1.length + 1) cap')).ownsRow W.heap.size 3 1 (.slice (some ⟨g, 0, none⟩) (t1.length + 1) cap') (t1.length + 1) (t1.map (Value.int .i64) ++ [.int .i64 x])) →
            CallV Try.prog (.func yf ya yc) #[.slice (some ⟨g, 0, none⟩) (t1.length + 1) cap'] (w'.setCell ⟨W.heap.size + 1, 0, none⟩ (.slice (some ⟨g, 0, none⟩) (t1.length + 1) cap')) fun v W3 => v = .bool (step s1 (t1 ++ [x])).2 ∧ W3.cell? ⟨W.heap.size + 1, 0, none⟩ = some (.slice (some ⟨g, 0, none⟩) (t1.length + 1) cap') ∧ W3.frozen? ⟨W.heap.size + 1, 0, none⟩ = false ∧ W.heap.size + 1 < W3.heap.size ∧
              Hid (Rdy (w'.setCell ⟨W.heap.size + 1, 0, none⟩ (.slice (some ⟨g, 0, none⟩) (t1.length + 1) cap')) (fun k => g = k) W3 ∧ Blk W3 W.heap.size #[.func yf ya yc] 24 ∧ Blk W3 (W.heap.size + 1) #[.slice (some ⟨g, 0, none⟩) (t1.length + 1) cap'] 22 ∧ (w'.setCell ⟨W.heap.size + 1, 0, none⟩ (.slice (some ⟨g, 0, none⟩) (t1.length + 1) cap')).heap.size ≤ W3.heap.size ∧ g ≠ W.heap.size ∧ g ≠ W.heap.size + 1 ∧ W.heap.size + 1 < (w'.setCell ⟨W.heap.size + 1, 0, none⟩ (.slice (some ⟨g, 0, none⟩) (t1.length + 1) cap')).heap.size) := by
          intro g cap' w' hg hlt f4 f5
          obtain ⟨e1, e2, e3⟩ := f5.out
          have m1 : g ≠ W.heap.size := fun e => own_ne e3 e1 (by decide) (by simp [Value.ownBlock, e])
          have m2 : g ≠ W.heap.size + 1 := fun e => own_ne e3 e2 (by decide) (by simp [Value.ownBlock, e])
          refine (hy.out.call (t1 ++ [x]) (by rw [hT]) _ _ (fun k => g = k) f4.out ⟨_, rfl, own_rebase (by simpa using e3) (fun _ _ => Nat.zero_le _), by simp [Value.ownBlock]⟩ ?_).mono ?_
          · rintro k rfl
            exact ⟨by simpa using hlt, hg.elim (fun h => .inl ((hp4.out _).2 (.inr (.inr h)))) .inr⟩
          · rintro v W3 ⟨r1, r2, r3⟩
            have b1 := e1.upd r3 (by rintro (h | h); exact m1 h; exact h.1 ((hp4.out _).2 (.inl rfl)))
            have b2 := e2.upd r3 (by rintro (h | h); exact m2 h; exact h.1 ((hp4.out _).2 (.inr (.inl rfl))))
            exact ⟨r1, b2.cell0, b2.frozen 0, b2.lt, Lib.hid ⟨r2, b1, b2, r3.size, m1, m2, e2.lt⟩⟩
        replace hz := Lib.hid hz
        clear hy
        gi_wp2_with (first | ((with_reducible refine app1 Try.underlying22 infoI zInt le_8 hp3 ?_ ?_ ?_ ?_ ?_ ?_); omega; omega; rfl; rfl; rfl; intro g cap' w' ho hu hg hlt; obtain ⟨f1, f2, f3, f4, f5⟩ := fin.out g cap' w' ho hu hg hlt; have d1 := f2.cell0; have d2 := f2.lt; have d3 := f2.frozen 0; have d4 := (f3.other (p := ⟨W.heap.size + 1, 0, none⟩) nbb (.slice (some ⟨g, 0, none⟩) (t1.length + 1) cap')).cell0; (have d5 := (f1.other (p := ⟨W.heap.size + 1, 0, none⟩) (by simp) (.slice (some ⟨g, 0, none⟩) (t1.length + 1) cap')).cell0); (replace f4 := Lib.hid f4); (replace f5 := Lib.hid f5); have hc := hz.out g cap' w' hg hlt f4 f5; (replace hc := Lib.hid hc); (replace hlt := Lib.hid hlt); (replace hg := Lib.hid hg); clear ho hu f1 f2 f3) | ((with_reducible refine listV1 hc.out ?_ ?_ ?_); rfl; rfl; rintro v W3 ⟨rfl, z1, z2, z3, hr⟩))
        · refine ⟨by simp [stepT, hT, nb1 (by assumption)], ?_⟩
          obtain ⟨r1, r2, r3, r4, m1, m2, r5⟩ := hr.out
          rw [hT]
          exact ⟨fun _ => False, (fun h => by cases h), _, _, _, r1, Upd.refl _ _, r4, fun k h => h.elim⟩
        · refine ⟨by simp [stepT, hT, nb0 (by assumption)], ?_⟩
          obtain ⟨r1, r2, r3, r4, m1, m2, r5⟩ := hr.out
          have p1 := (hp4.out W.heap.size).2 (.inl rfl)
          have p2 := (hp4.out (W.heap.size + 1)).2 (.inr (.inl rfl))
          rw [hT]
          refine ⟨fun k => k = W.heap.size ∨ k = W.heap.size + 1, fun _ => ⟨r2.other (by simp) _, _, by simpa using r3.set 0 (.slice none 0 0), World.ownsRow_nil _ _ _ _, by simp [Value.ownBlock]⟩, _, _, _, r1, Upd.setCell ⟨.inl p2, r5, m2⟩ _, r4, ?_⟩
          rintro k (rfl | rfl)
          · exact ⟨by simp; omega, .inl ⟨p1, m1⟩⟩
          · exact ⟨by simp; omega, .inl ⟨p2, m2⟩⟩
    case hend =>
      rename_i KK hKK
      intro S' Pr' W' hR hOw hu hsz hAK hS' hPr' hdef
      have hsz' : W.heap.size + 4 ≤ W'.heap.size := by simpa using hsz
      have eW : ((W.alloc (.cells #[.func yf ya yc] 24)).alloc (.cells #[.slice none 0 0] 22)).heap.size = W.heap.size + 2 := by simp
      rw [eW] at hdef hS' hPr' ⊢
      have hd : W.heap.size ≤ W.heap.size + 2 := by omega
      have hES : ∀ k, E k → ¬ S k := fun k hk h => (hx.own k h).2.2 hk
      have eF : chunkFin n init fin = fin := by rw [chunkFin, if_neg (by omega)]
      have eL : (chunkEvs n fin evs).map (·.2) = outs (trChunk n) [] (evs.map (·.2)) ++ restOf (trSt (trChunk n) [] (evs.map (·.2))).1 := by rw [chunkEvs_snd, chunksOf, if_neg (by omega)]
      have eE : chunkEvs n fin evs = evsT (trChunk n) [] evs ++ (restOf (trSt (trChunk n) [] (evs.map (·.2))).1).map fun l => (fin, l) := by rw [chunkEvs, if_neg (by omega)]
      have ht := trChunk_len n (evs.map (·.2)) []
      rw [finT_chunk] at hOw
      rw [eL, goF_append] at hsF
      rw [eF, eE, goOwn_append, evsT_snd] at hOF
      have hstable : ∀ W1 W2, OwnF W1 → Agree E W1 W2 → OwnF W2 := by subst hOF; exact hseq.stable _
      generalize hlast : (trSt (trChunk n) [] (evs.map (·.2))).1 = l at *
      have hlen1 : l.length ≤ 1000 := by have := ht.2; simp at this; omega
      cases g1 : (goF step s (outs (trChunk n) [] (evs.map (·.2)))).2 with
      | true =>
        rw [if_pos g1] at hsF hOF
        refine ⟨fun _ _ hpv => ?_, fun h => ?_⟩
        · obtain ⟨p1, v, p2, p3, p4⟩ := hpv
          refine hKK _ _ ?_
          have cy := p1.cell0
          have cl := p2.cell0
          obtain ⟨A, cap, rfl⟩ := own_shape p3
          cases l with
          | nil =>
            have hOw2 : OwnF W' := by
              subst hOF
              rw [restOf, if_pos rfl, List.map_nil]
              rw [goOwn_done _ _ _ _ (by rw [evsT_snd]; exact g1)] at hOw
              exact hOw
            have hfin := fun tmps => give_stop (fn := Try.f80) (tmps := tmps) (s2 := sF) hx hstable hseq.elt (by subst hsF; exact hR) hOw2 hu hS' hd hdef rfl
            replace hfin := Lib.hid hfin
            replace p3 := Lib.hid p3
            clear hKK KK c1 l1 c2 hx hseq h4 hbs hbn hpv0 hD' hOw hR hu hS' hPr' hdef hES hstable hOF hsF eE eL ht hlast hAK
            gi_wp2
            exact hfin.out _
          | cons z l =>
            have hOw2 : OwnF W' := by
              subst hOF
              rw [restOf, if_neg (by simp)]
              rw [goOwn_done _ _ _ _ (by rw [evsT_snd]; exact g1)] at hOw
              simp only [List.map_cons, List.map_nil, goOwn]
              split <;> exact hOw
            have q3 : sF = (step (goF step s (outs (trChunk n) [] (evs.map (·.2)))).1 (z :: l)).1 := by
              rw [← hsF, restOf, if_neg (by simp)]
              simp only [goF]
              split <;> rfl
            have hz := give_last (fn := Try.f80) hx hstable hseq.elt hR hOw2 hu hS' hd hdef rfl hES (by rw [eL, restOf, if_neg (by simp)]) (Prod.ext rfl g1) (G := fun k => (Value.slice A (z :: l).length cap).ownBlock = some k)
              ⟨_, rfl, own_rebase p3 (fun _ _ => Nat.zero_le _), fun _ => Iff.rfl⟩ (fun k hk => by
                obtain ⟨r1, r2, r3, r4⟩ := hPr' k ((p4 k).2 (.inr (.inr hk)))
                exact ⟨r1, r2, r4, r3⟩)
            rw [← q3] at hz
            replace hz := Lib.hid hz
            replace p3 := Lib.hid p3
            clear hKK KK c1 l1 c2 hx hseq h4 hbs hbn hpv0 hD' hOw hR hu hS' hPr' hdef hES hstable hOF hsF eE eL ht hlast hAK hOw2 q3
            have hll : (0 : Int) < ((z :: l).length : Nat) := by simp
            gi_wp2_with ((with_reducible refine listV1 hz.out ?_ ?_ ?_); rfl; rfl; intro v W3 hfin; (replace hfin := Lib.hid hfin))
            exact hfin.out _
        · rw [ht.1] at h; rcases h with h | h <;> simp at h
      | false =>
        rw [if_neg (by rw [g1]; simp)] at hsF hOF
        refine ⟨fun h => by simp at h, fun _ => ?_⟩
        have hOw2 : OwnF W' := by subst hOF; exact hOw
        exact give_stop hx hstable hseq.elt (by subst hsF; exact hR) hOw2 hu hS' hd hdef rfl
end Go.Proofs.Ytkjkpmeommfdgaa

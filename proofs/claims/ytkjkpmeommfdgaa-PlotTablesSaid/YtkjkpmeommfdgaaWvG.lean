/- goes: a sequence that gives just what a list has, as far as is asked. -/
import Derived.Test.YtkjkpmeommfdgaaProg
import Derived.Test.YtkjkpmeommfdgaaBase
import Derived.Test.YtkjkpmeommfdgaaWvI
set_option linter.unusedSimpArgs false
set_option linter.unusedVariables false
namespace Go.Proofs.Ytkjkpmeommfdgaa
open Go.RowKit Go.Shelf
attribute [local go_sem] Oper.semAt_some

/-- The closure's own state: how many have come. -/
abbrev goStep (most : Int) : Nat → Int → Nat × Bool := fun n _ => (n + 1, decide ((n : Int) + 1 < most))

theorem goStep_go (most : Int) : ∀ (pre : List Int) (n s1 : Nat), goF (goStep most) n pre = (s1, true) → s1 = n + pre.length ∧ (pre ≠ [] → (s1 : Int) < most)
  | [], n, s1, h => by simp [goF] at h; simp [h]
  | x :: xs, n, s1, h => by
    simp only [goF] at h
    by_cases hb : (n : Int) + 1 < most
    · simp only [hb, decide_true, if_true] at h
      obtain ⟨a, b⟩ := goStep_go most xs (n + 1) s1 h
      refine ⟨by simp [a]; omega, fun _ => ?_⟩
      by_cases hx : xs = []
      · subst hx; simp at a; omega
      · exact b hx
    · simp [hb] at h

/-- Where the fold ends. -/
theorem goStep_end (most : Int) : ∀ (l : List Int) (n : Nat), (n : Int) < max most 1 → ((goF (goStep most) n l).1 : Int) = min (n + l.length : Int) (max most 1)
  | [], n, h => by simp only [goF, List.length_nil]; omega
  | x :: xs, n, h => by
    simp only [goF, List.length_cons]
    by_cases hb : (n : Int) + 1 < most
    · simp only [hb, decide_true, if_true]
      rw [goStep_end most xs (n + 1) (by omega)]
      push_cast; omega
    · simp only [hb, decide_false, Bool.false_eq_true, if_false]
      push_cast; omega

set_option maxRecDepth 100000 in
set_option maxHeartbeats 1000000 in
theorem goes1 {W : World} {bok bov bn bl bm : Nat} {A : Option Addr} {cap k : Nat} {x most : Int} {xs : List Int}
    (hok : Blk W bok #[.bool true] 4) (hov : Blk W bov #[.bool false] 4) (hn : Blk W bn #[.int .i64 k] 3) (hl : Blk W bl #[.slice A xs.length cap] 22) (hm : Blk W bm #[.int .i64 most] 3)
    (hk : k < xs.length) (hlen : xs.length ≤ maxLen) (hr : Reads1 W A (xs.map (Value.int .i64))) (hx : xs[k]? = some x) (d1 : bok ≠ bov) (d2 : bok ≠ bn) (d3 : bov ≠ bn) (d4 : bok ≠ bm) (d5 : bn ≠ bm) (d6 : bn ≠ bl) (d7 : bok ≠ bl) :
    CallV Try.prog (.func (.func 72) #[] #[.pointer (some ⟨bok, 0, none⟩), .pointer (some ⟨bov, 0, none⟩), .pointer (some ⟨bn, 0, none⟩), .pointer (some ⟨bl, 0, none⟩), .pointer (some ⟨bm, 0, none⟩)]) (encI x) W
      fun v W' => v = .bool (decide ((k : Int) + 1 < most)) ∧ Blk W' bok #[.bool true] 4 ∧ Blk W' bov #[.bool (decide (most ≤ (k : Int) + 1))] 4 ∧ Blk W' bn #[.int .i64 ((k + 1 : Nat) : Int)] 3 ∧ Upd (fun j => j = bok ∨ j = bov ∨ j = bn) W W' := by
  refine CallV.of_calls (n := 0) (enters_of Try.func72 (by kernel_rfl) rfl) ?_
  have c1 := hok.cell0
  have c2 := hov.cell0
  have c3 := hn.cell0
  have c4 := hl.cell0
  have c5 := hm.cell0
  have f1 := hok.frozen 0
  have f2 := hov.frozen 0
  have f3 := hn.frozen 0
  obtain ⟨a, rfl, hc⟩ := hr k (.int .i64 x) (by simp [hx])
  unfold maxLen at hlen
  have hsz := W.size_setCell ⟨bok, 0, none⟩ (.bool true)
  clear hr hx hsz
  refine callsIn_of_wp Try.func72 rfl trivial ?_
  simp only [Try.ntmps72, List.size_toArray, List.length_cons, List.length_nil, Nat.reduceAdd, Nat.reduceSub, Array.replicate_succ, Array.replicate_zero, List.push_toArray, List.append_toArray, List.nil_append, List.cons_append]
  gi_wp2
  go_ret
  refine ⟨_, rfl, ?_, ?_, ?_, ?_, ?_⟩
  · by_cases h : (k : Int) + 1 < most
    · rw [decide_eq_true h, decide_eq_false (by omega)]; rfl
    · rw [decide_eq_false h, decide_eq_true (by omega)]; rfl
  · exact ((hok.set 0 _).other (p := ⟨bn, 0, none⟩) d2 _).other (p := ⟨bov, 0, none⟩) d1 _
  · exact ((hov.other (p := ⟨bok, 0, none⟩) d1.symm _).other (p := ⟨bn, 0, none⟩) d3 _).set 0 _
  · exact ((hn.other (p := ⟨bok, 0, none⟩) d2.symm _).set 0 _).other (p := ⟨bov, 0, none⟩) d3.symm _
  · exact (((Upd.refl _ _).stepSet (.inl (.inl rfl)) _).stepSet (.inl (.inr (.inr rfl))) _).stepSet (.inl (.inr (.inl rfl))) _

/-- What goes' closure keeps: ok, over, n. -/
def GoesRep (bok bov bn : Nat) (most : Int) : Nat → (Nat → Prop) → World → Prop := fun n S W =>
  (∀ k, k = bok ∨ k = bov ∨ k = bn → S k) ∧ Blk W bok #[.bool true] 4 ∧ Blk W bov #[.bool (decide (0 < n ∧ most ≤ (n : Int)))] 4 ∧ Blk W bn #[.int .i64 (n : Nat)] 3

set_option maxRecDepth 100000 in
set_option maxHeartbeats 1000000 in
theorem goes_c {n : Nat} {ω : Type} {fv : Value} {evs : List (ω × Int)} {init fin : ω} {Own : ω → World → Prop} {E D : Nat → Prop} {w : World} {A : Option Addr} {cap : Nat} {xs : List Int} {most : Int}
    (hseq : SeqO Try.prog fv encI evs init fin Own E D w) (hown : Own init w) (hxs : evs.map (·.2) = xs) (hr : Reads1 w A (xs.map (Value.int .i64))) (hAE : ∀ k, blkOf' A xs.length k → ¬ E k) (hlen : xs.length ≤ maxLen) (hm0 : 0 ≤ most) (hm1 : most ≤ 1000) :
    CallsIn Fence.wide n Try.prog 18 #[fv, .slice A xs.length cap, .int .i64 most] w
      (fun e w' => e = .returned (.bool true) ∧ Own (goOwn (goStep most) fin 0 evs) w' ∧ Upd E w w') := by
  obtain ⟨fk, fc, rfl⟩ := hseq.fn
  have hlen' := hlen
  unfold maxLen at hlen
  refine callsIn_any (n := 0) ?_
  refine callsIn_of_wp Try.func18 rfl trivial ?_
  simp only [Try.ntmps18, List.size_toArray, List.length_cons, List.length_nil, Nat.reduceAdd, Nat.reduceSub, Array.replicate_succ, Array.replicate_zero, List.push_toArray, List.append_toArray, List.nil_append, List.cons_append]
  have z5 : (((((w.alloc (.cells #[.slice A xs.length cap] 22)).alloc (.cells #[.int .i64 most] 3)).alloc (.cells #[.int .i64 0] 3)).alloc (.cells #[.bool true] 4)).alloc (.cells #[.bool false] 4)).heap.size = w.heap.size + 5 := by simp
  have hrun : CallV Try.prog (.func (.func fk) #[] fc) #[.func (.func 72) #[] #[.pointer (some ⟨w.heap.size + 1 + 1 + 1, 0, none⟩), .pointer (some ⟨w.heap.size + 1 + 1 + 1 + 1, 0, none⟩), .pointer (some ⟨w.heap.size + 1 + 1, 0, none⟩), .pointer (some ⟨w.heap.size, 0, none⟩), .pointer (some ⟨w.heap.size + 1, 0, none⟩)]]
      (((((w.alloc (.cells #[.slice A xs.length cap] 22)).alloc (.cells #[.int .i64 most] 3)).alloc (.cells #[.int .i64 0] 3)).alloc (.cells #[.bool true] 4)).alloc (.cells #[.bool false] 4))
      (fun _ W' => ∃ N : Nat, (N : Int) = min (xs.length : Int) (max most 1) ∧ Blk W' (w.heap.size + 1 + 1 + 1) #[.bool true] 4 ∧ Blk W' (w.heap.size + 1 + 1) #[.int .i64 (N : Nat)] 3 ∧ Blk W' w.heap.size #[.slice A xs.length cap] 22 ∧ Blk W' (w.heap.size + 1) #[.int .i64 most] 3 ∧
        Own (goOwn (goStep most) fin 0 evs) W' ∧ Upd E w W') := by
    have b0 := ((((Blk.new w #[.slice A xs.length cap] 22).alloc (.cells #[.int .i64 most] 3)).alloc (.cells #[.int .i64 0] 3)).alloc (.cells #[.bool true] 4)).alloc (.cells #[.bool false] 4)
    have b1 := (((Blk.new (w.alloc (.cells #[.slice A xs.length cap] 22)) #[.int .i64 most] 3).alloc (.cells #[.int .i64 0] 3)).alloc (.cells #[.bool true] 4)).alloc (.cells #[.bool false] 4)
    have b2 := ((Blk.new ((w.alloc (.cells #[.slice A xs.length cap] 22)).alloc (.cells #[.int .i64 most] 3)) #[.int .i64 0] 3).alloc (.cells #[.bool true] 4)).alloc (.cells #[.bool false] 4)
    have b3 := (Blk.new (((w.alloc (.cells #[.slice A xs.length cap] 22)).alloc (.cells #[.int .i64 most] 3)).alloc (.cells #[.int .i64 0] 3)) #[.bool true] 4).alloc (.cells #[.bool false] 4)
    have b4 := Blk.new ((((w.alloc (.cells #[.slice A xs.length cap] 22)).alloc (.cells #[.int .i64 most] 3)).alloc (.cells #[.int .i64 0] 3)).alloc (.cells #[.bool true] 4)) #[.bool false] 4
    have u0 : Upd (fun _ => False) w (((((w.alloc (.cells #[.slice A xs.length cap] 22)).alloc (.cells #[.int .i64 most] 3)).alloc (.cells #[.int .i64 0] 3)).alloc (.cells #[.bool true] 4)).alloc (.cells #[.bool false] 4)) :=
      (((((Upd.refl _ w).stepAlloc _).stepAlloc _).stepAlloc _).stepAlloc _).stepAlloc _
    simp only [World.size_alloc] at b1 b2 b3 b4
    generalize (((((w.alloc (.cells #[.slice A xs.length cap] 22)).alloc (.cells #[.int .i64 most] 3)).alloc (.cells #[.int .i64 0] 3)).alloc (.cells #[.bool true] 4)).alloc (.cells #[.bool false] 4)) = W0 at *
    have hEw : ∀ k, E k → k < w.heap.size := hseq.elt
    have hDw : ∀ k, D k → k < w.heap.size := fun k hk => (hseq.dlt k hk).1
    have hAw : ∀ k, blkOf' A xs.length k → k < w.heap.size := by simpa using hr.lt'
    refine (hseq.run Nat (goStep most) (GoesRep (w.heap.size + 1 + 1 + 1) (w.heap.size + 1 + 1 + 1 + 1) (w.heap.size + 1 + 1) most) _ 0 (fun k => k = w.heap.size + 1 + 1 + 1 ∨ k = w.heap.size + 1 + 1 + 1 + 1 ∨ k = w.heap.size + 1 + 1) W0
      ⟨⟨_, _, _, rfl⟩, by omega, u0.agree (fun k hk => ⟨hDw k hk, id⟩), ?_, ?_, ?_, ?_⟩ (hseq.stable _ _ _ hown (u0.agree (fun k hk => ⟨hEw k hk, id⟩)))).mono ?_
    · rintro k (rfl | rfl | rfl) <;> refine ⟨by omega, fun h => ?_, fun h => ?_⟩ <;> first | (have := hDw _ h; omega) | (have := hEw _ h; omega)
    · rintro n S W1 W2 ⟨h1, h2, h3, h4⟩ hA _
      exact ⟨h1, h2.agree hA (h1 _ (.inl rfl)), h3.agree hA (h1 _ (.inr (.inl rfl))), h4.agree hA (h1 _ (.inr (.inr rfl)))⟩
    · rintro pre x suf s1 S1 W1 he hgo ⟨h1, h2, h3, h4⟩ hu hS1
      obtain ⟨e1, e2⟩ := goStep_go most pre 0 s1 hgo
      rw [hxs] at he
      have hk : s1 < xs.length := by rw [he, e1]; simp
      have hx : xs[s1]? = some x := by rw [he, e1]; simp
      have hov : decide (0 < s1 ∧ most ≤ (s1 : Int)) = false := by
        by_cases hp : pre = []
        · subst hp; simp at e1; simp [e1]
        · have := e2 hp; simp; omega
      rw [hov] at h3
      have hne : ∀ k, k < w.heap.size + 2 → w.heap.size ≤ k → ¬ ((k = w.heap.size + 1 + 1 + 1 ∨ k = w.heap.size + 1 + 1 + 1 + 1 ∨ k = w.heap.size + 1 + 1) ∨ E k) := by
        rintro k h1 h2 (h | h)
        · omega
        · have := hEw k h; omega
      have hrW := hr.agree' (w' := W1) (by
        refine (u0.agree (fun k hk => ⟨hAw k (by simpa using hk), id⟩)).trans (hu.agree (fun k hk => ⟨by have := hAw k (by simpa using hk); omega, ?_⟩))
        have hk' : blkOf' A xs.length k := by simpa using hk
        rintro (h | h)
        · have := hAw k hk'; omega
        · exact hAE k hk' h)
      refine (goes1 h2 h3 h4 (b0.upd hu (hne _ (by omega) (by omega))) (b1.upd hu (hne _ (by omega) (by omega))) hk hlen' hrW hx (by omega) (by omega) (by omega) (by omega) (by omega) (by omega) (by omega)).mono ?_
      rintro v W2 ⟨rfl, g1, g2, g3, g4⟩
      refine ⟨S1, rfl, ⟨h1, g1, ?_, g3⟩, g4.mono (fun k _ hk => ?_), fun k hk => ⟨by have := (hS1 k hk).1; have := g4.size; omega, .inl hk⟩⟩
      · have : decide (0 < s1 + 1 ∧ most ≤ ((s1 + 1 : Nat) : Int)) = decide (most ≤ (s1 : Int) + 1) := by
          by_cases h : most ≤ (s1 : Int) + 1 <;> simp [h]
        show Blk W2 _ #[.bool (decide (0 < s1 + 1 ∧ most ≤ ((s1 + 1 : Nat) : Int)))] 4
        rw [this]; exact g2
      · rcases hk with rfl | rfl | rfl
        · exact h1 _ (.inl rfl)
        · exact h1 _ (.inr (.inl rfl))
        · exact h1 _ (.inr (.inr rfl))
    · exact ⟨fun _ h => h, b3, by simpa using b4, by simpa using b2⟩
    · rintro v W' ⟨S', ⟨h1, h2, h3, h4⟩, ho, hu, hS'⟩
      have hne : ∀ k, k < w.heap.size + 2 → w.heap.size ≤ k → ¬ ((k = w.heap.size + 1 + 1 + 1 ∨ k = w.heap.size + 1 + 1 + 1 + 1 ∨ k = w.heap.size + 1 + 1) ∨ E k) := by
        rintro k h1 h2 (h | h)
        · omega
        · have := hEw k h; omega
      refine ⟨(goF (goStep most) 0 (evs.map (·.2))).1, ?_, h2, h4, b0.upd hu (hne _ (by omega) (by omega)), b1.upd hu (hne _ (by omega) (by omega)), ho, ?_⟩
      · rw [goStep_end most _ 0 (by simp; omega), hxs]; simp
      · refine (u0.mono (fun _ _ h => h.elim)).trans hu (fun k hk => ?_)
        rcases hk with h | h
        · exact .inr (by omega)
        · exact .inl h
  clear hseq hown hr hAE hxs z5
  replace hrun := Lib.hid hrun
  by_cases h1 : most < 1 <;> by_cases h2 : (xs.length : Int) ≤ max most 1
  all_goals
    replace h2 := Lib.hid h2
    gi_wp2_with ((with_reducible refine listV1 hrun.out ?_ ?_ ?_); rfl; rfl; rintro v W' ⟨N, hN, c1, c2, c3, c4, ho, hu⟩; (replace hN := Lib.hid hN); (replace c1 := c1.cell0); (replace c2 := c2.cell0); (replace c3 := c3.cell0); (replace c4 := c4.cell0))
    all_goals
      refine bodyPost_ret (results_tmp rfl _ _ _) rfl ⟨?_, ho, hu⟩
      have hN' := hN.out
      have h2' := h2.out
      refine congrArg (fun b => Ending.returned (Value.bool b)) ?_
      simp only [beq_iff_eq]
      omega
end Go.Proofs.Ytkjkpmeommfdgaa

/- has: a sequence that gives just what a list has, as far as is asked. -/
import Derived.Test.YtjlobcbjhnfjcaaProg
import Derived.Test.YtjlobcbjhnfjcaaBase
import Derived.Test.YtjlobcbjhnfjcaaSkRef
namespace Go.Proofs.Ytjlobcbjhnfjcaa
open Go.RowKit Go.Shelf
attribute [local go_sem] Oper.semAt_some

/-- The closure's own state: how many have come. -/
abbrev goStep (most : Int) : Nat → Int → Nat × Bool := fun n _ => (n + 1, decide ((n : Int) + 1 < most))
theorem goStep_go (most : Int) : ∀ (pre : List Int) (n s1 : Nat), goF (goStep most) n pre = (s1, true) → s1 = n + pre.length
  | [], n, s1, h => by simp [goF] at h; simp [h]
  | x :: xs, n, s1, h => by
    simp only [goF] at h
    by_cases hb : (n : Int) + 1 < most
    · simp only [hb, decide_true, if_true] at h
      have a := goStep_go most xs (n + 1) s1 h
      simp [a]; omega
    · simp [hb] at h
/-- Where the fold ends. -/
theorem goStep_end (most : Int) : ∀ (l : List Int) (n : Nat), (n : Int) < max most 1 → ((goF (goStep most) n l).1 : Int) = min (n + l.length : Int) (max most 1)
  | [], n, h => by simp only [goF, List.length_nil]; omega
  | x :: xs, n, h => by
    simp only [goF, List.length_cons]
    by_cases hb : (n : Int) + 1 < most
    · simp only [hb, decide_true, if_true]
      rw [goStep_end most xs (n + 1) (by omega)]
      push_cast; omega
    · simp only [hb, decide_false, Bool.false_eq_true, if_false]
      push_cast; omega

set_option maxRecDepth 100000 in
set_option maxHeartbeats 1000000 in
theorem has1 {W : World} {bok bn bl bm : Nat} {A : Option Addr} {cap k : Nat} {x most : Int} {xs : List Int}
    (hok : Blk W bok #[.bool true] 4) (hn : Blk W bn #[.int .i64 k] 3) (hl : Blk W bl #[.slice A xs.length cap] 22) (hm : Blk W bm #[.int .i64 most] 3)
    (hk : k < xs.length) (hlen : xs.length ≤ 100000) (hr : Reads1 W A (intsV xs)) (hx : xs[k]? = some x) (d2 : bok ≠ bn) (d4 : bok ≠ bm) (d5 : bn ≠ bm) (d6 : bn ≠ bl) (d7 : bok ≠ bl) :
    CallV Try.prog (.func (.func 35) #[] #[.pointer (some ⟨bok, 0, none⟩), .pointer (some ⟨bn, 0, none⟩), .pointer (some ⟨bl, 0, none⟩), .pointer (some ⟨bm, 0, none⟩)]) (enc1I x) W
      fun v W' => v = .bool (decide ((k : Int) + 1 < most)) ∧ Blk W' bok #[.bool true] 4 ∧ Blk W' bn #[.int .i64 ((k + 1 : Nat) : Int)] 3 ∧ Upd (fun j => j = bok ∨ j = bn) W W' := by
  refine CallV.of_calls (n := 0) (enters_of Try.func35 (by kernel_rfl) rfl) ?_
  have c1 := hok.cell0
  have c3 := hn.cell0
  have c4 := hl.cell0
  have c5 := hm.cell0
  have f1 := hok.frozen 0
  have f3 := hn.frozen 0
  obtain ⟨a, rfl, hc⟩ := hr k (.int .i64 x) (by simp [intsV, hx])
  have hw1 : IntKind.i64.wrap ((k : Int) + 1) = (k : Int) + 1 := Go.IntWalk.i64_in _ ⟨by omega, by omega⟩
  clear hr hx
  refine callsIn_of_wp Try.func35 rfl trivial ?_
  simp only [Try.ntmps35, List.size_toArray, List.length_cons, List.length_nil, Nat.reduceAdd, Nat.reduceSub, Array.replicate_succ, Array.replicate_zero, List.push_toArray, List.append_toArray, List.nil_append, List.cons_append]
  gi_wp2
  go_ret
  refine ⟨_, rfl, ?_, ?_, ?_, ?_⟩
  · rfl
  · exact (hok.set 0 _).other (p := ⟨bn, 0, none⟩) d2 _
  · exact (hn.other (p := ⟨bok, 0, none⟩) d2.symm _).set 0 _
  · exact ((Upd.refl _ _).stepSet (.inl (.inl rfl)) _).stepSet (.inl (.inr rfl)) _

/-- What has' closure keeps: ok, n. -/
def HasRep (bok bn : Nat) : Nat → (Nat → Prop) → World → Prop := fun n S W =>
  (∀ k, k = bok ∨ k = bn → S k) ∧ Blk W bok #[.bool true] 4 ∧ Blk W bn #[.int .i64 (n : Nat)] 3

set_option maxRecDepth 100000 in
set_option maxHeartbeats 1000000 in
theorem has_c {n : Nat} {fv : Value} {D : Nat → Prop} {w : World} {A : Option Addr} {cap : Nat} {xs : List Int} {most : Int}
    (hseq : SeqO Try.prog fv enc1I (xs.map fun x => ((), x)) () () (fun _ _ => True) (fun _ => False) D w) (hr : Reads1 w A (intsV xs)) (hlen : xs.length ≤ 100000) :
    CallsIn Fence.wide n Try.prog 24 #[fv, .slice A xs.length cap, .int .i64 most] w (fun e w' => e = .returned (.bool true) ∧ Upd (fun _ => False) w w') := by
  obtain ⟨fk, fc, rfl⟩ := hseq.fn
  have hxs : (xs.map fun x => ((), x)).map (·.2) = xs := by simp [Function.comp_def]
  refine callsIn_any (n := 0) (callsIn_of_wp Try.func24 rfl trivial ?_)
  simp only [Try.ntmps24, List.size_toArray, List.length_cons, List.length_nil, Nat.reduceAdd, Nat.reduceSub, Array.replicate_succ, Array.replicate_zero, List.push_toArray, List.append_toArray, List.nil_append, List.cons_append]
  have z5 : ((((w.alloc (.cells #[.slice A xs.length cap] 22)).alloc (.cells #[.int .i64 most] 3)).alloc (.cells #[.int .i64 0] 3)).alloc (.cells #[.bool true] 4)).heap.size = w.heap.size + 4 := by simp
  have hrun : CallV Try.prog (.func (.func fk) #[] fc) #[.func (.func 35) #[] #[.pointer (some ⟨w.heap.size + 1 + 1 + 1, 0, none⟩), .pointer (some ⟨w.heap.size + 1 + 1, 0, none⟩), .pointer (some ⟨w.heap.size, 0, none⟩), .pointer (some ⟨w.heap.size + 1, 0, none⟩)]]
      ((((w.alloc (.cells #[.slice A xs.length cap] 22)).alloc (.cells #[.int .i64 most] 3)).alloc (.cells #[.int .i64 0] 3)).alloc (.cells #[.bool true] 4))
      (fun _ W' => ∃ N : Nat, (N : Int) = min (xs.length : Int) (max most 1) ∧ Blk W' (w.heap.size + 1 + 1 + 1) #[.bool true] 4 ∧ Blk W' (w.heap.size + 1 + 1) #[.int .i64 (N : Nat)] 3 ∧ Blk W' w.heap.size #[.slice A xs.length cap] 22 ∧ Blk W' (w.heap.size + 1) #[.int .i64 most] 3 ∧
        Upd (fun _ => False) w W') := by
    have b0 := (((Blk.new w #[.slice A xs.length cap] 22).alloc (.cells #[.int .i64 most] 3)).alloc (.cells #[.int .i64 0] 3)).alloc (.cells #[.bool true] 4)
    have b1 := ((Blk.new (w.alloc (.cells #[.slice A xs.length cap] 22)) #[.int .i64 most] 3).alloc (.cells #[.int .i64 0] 3)).alloc (.cells #[.bool true] 4)
    have b2 := (Blk.new ((w.alloc (.cells #[.slice A xs.length cap] 22)).alloc (.cells #[.int .i64 most] 3)) #[.int .i64 0] 3).alloc (.cells #[.bool true] 4)
    have b3 := Blk.new (((w.alloc (.cells #[.slice A xs.length cap] 22)).alloc (.cells #[.int .i64 most] 3)).alloc (.cells #[.int .i64 0] 3)) #[.bool true] 4
    have u0 : Upd (fun _ => False) w ((((w.alloc (.cells #[.slice A xs.length cap] 22)).alloc (.cells #[.int .i64 most] 3)).alloc (.cells #[.int .i64 0] 3)).alloc (.cells #[.bool true] 4)) :=
      ((((Upd.refl _ w).stepAlloc _).stepAlloc _).stepAlloc _).stepAlloc _
    simp only [World.size_alloc] at b1 b2 b3
    generalize ((((w.alloc (.cells #[.slice A xs.length cap] 22)).alloc (.cells #[.int .i64 most] 3)).alloc (.cells #[.int .i64 0] 3)).alloc (.cells #[.bool true] 4)) = W0 at *
    have hDw : ∀ k, D k → k < w.heap.size := fun k hk => (hseq.dlt k hk).1
    have hAw : ∀ k, blkOf' A (intsV xs).length k → k < w.heap.size := hr.lt'
    refine (hseq.run Nat (goStep most) (HasRep (w.heap.size + 1 + 1 + 1) (w.heap.size + 1 + 1)) _ 0 (fun k => k = w.heap.size + 1 + 1 + 1 ∨ k = w.heap.size + 1 + 1) W0
      ⟨⟨_, _, _, rfl⟩, by omega, u0.agree (fun k hk => ⟨hDw k hk, id⟩), ?_, ?_, ?_, ?_⟩ trivial).mono ?_
    · rintro k (rfl | rfl) <;> refine ⟨by omega, fun h => ?_, id⟩ <;> (have := hDw _ h; omega)
    · rintro n S W1 W2 ⟨h1, h2, h4⟩ hA _
      exact ⟨h1, h2.agree hA (h1 _ (.inl rfl)), h4.agree hA (h1 _ (.inr rfl))⟩
    · rintro pre x suf s1 S1 W1 he hgo ⟨h1, h2, h4⟩ hu hS1
      have e1 := goStep_go most pre 0 s1 hgo
      rw [hxs] at he
      have hk : s1 < xs.length := by rw [he, e1]; simp
      have hx : xs[s1]? = some x := by rw [he, e1]; simp
      have hne : ∀ k, k < w.heap.size + 2 → ¬ ((k = w.heap.size + 1 + 1 + 1 ∨ k = w.heap.size + 1 + 1) ∨ False) := by
        rintro k h1 (h | h)
        · omega
        · exact h
      have hrW := hr.agree' (w' := W1) (by
        refine (u0.agree (fun k hk => ⟨hAw k hk, id⟩)).trans (hu.agree (fun k hk => ⟨by have := hAw k hk; omega, hne k (by have := hAw k hk; omega)⟩)))
      refine (has1 h2 h4 (b0.upd hu (hne _ (by omega))) (b1.upd hu (hne _ (by omega))) hk hlen hrW hx (by omega) (by omega) (by omega) (by omega) (by omega)).mono ?_
      rintro v W2 ⟨rfl, g1, g3, g4⟩
      refine ⟨S1, rfl, ⟨h1, g1, g3⟩, g4.mono (fun k _ hk => ?_), fun k hk => ⟨by have := (hS1 k hk).1; have := g4.size; omega, .inl hk⟩⟩
      rcases hk with rfl | rfl
      · exact h1 _ (.inl rfl)
      · exact h1 _ (.inr rfl)
    · exact ⟨fun _ h => h, b3, by simpa using b2⟩
    · rintro v W' ⟨S', ⟨h1, h2, h4⟩, ho, hu, hS'⟩
      have hne : ∀ k, k < w.heap.size + 2 → ¬ ((k = w.heap.size + 1 + 1 + 1 ∨ k = w.heap.size + 1 + 1) ∨ False) := by
        rintro k h1 (h | h)
        · omega
        · exact h
      refine ⟨(goF (goStep most) 0 ((xs.map fun x => ((), x)).map (·.2))).1, ?_, h2, h4, b0.upd hu (hne _ (by omega)), b1.upd hu (hne _ (by omega)), ?_⟩
      · rw [goStep_end most _ 0 (by simp; omega), hxs]; simp
      · refine (u0.mono (fun _ _ h => h.elim)).trans hu (fun k hk => ?_)
        rcases hk with h | h
        · exact .inr (by omega)
        · exact .inl h
  clear hseq hr hxs z5
  replace hrun := Lib.hid hrun
  by_cases h1 : most < 1 <;> by_cases h2 : (xs.length : Int) ≤ max most 1
  all_goals
    replace h2 := Lib.hid h2
    gi_wp2_with ((with_reducible refine listV1 hrun.out ?_ ?_ ?_); rfl; rfl; rintro v W' ⟨N, hN, c1, c2, c3, c4, hu⟩; (replace hN := Lib.hid hN); (replace c1 := c1.cell0); (replace c2 := c2.cell0); (replace c3 := c3.cell0); (replace c4 := c4.cell0))
    all_goals
      refine bodyPost_ret (results_tmp rfl _ _ _) rfl ⟨?_, hu⟩
      have hN' := hN.out
      have h2' := h2.out
      refine congrArg (fun b => Ending.returned (Value.bool b)) ?_
      simp only [beq_iff_eq]
      omega
end Go.Proofs.Ytjlobcbjhnfjcaa

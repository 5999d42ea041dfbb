/- Entries in a list; goes: a sequence that gives just what a list has, as far as is asked. -/
import Derived.Test.YtaenkjeaadmgeaaProg
import Derived.Test.YtaenkjeaadmgeaaBase
import Derived.Test.YtaenkjeaadmgeaaFeed
import Derived.Test.YtaenkjeaadmgeaaAppS
namespace Go.Proofs.Ytaenkjeaadmgeaa
open Go.RowKit Go.Shelf
attribute [local go_sem] Oper.semAt_some

abbrev Ent := ByteArray × Int
def flat (l : List Ent) : List Value := l.flatMap fun e => [.string e.1, .int .i64 e.2]
theorem flat_len (l : List Ent) : (flat l).length = l.length * 2 := by
  induction l with
  | nil => rfl
  | cons x xs ih => simp only [flat, List.flatMap_cons, List.length_append, List.length_cons, List.length_nil] at ih ⊢; omega
theorem flat_append (l m : List Ent) : flat (l ++ m) = flat l ++ flat m := by simp [flat]
theorem flat_get : ∀ (l : List Ent) (i : Nat) (h : i < l.length), (flat l)[i * 2]? = some (.string l[i].1) ∧ (flat l)[i * 2 + 1]? = some (.int .i64 l[i].2)
  | x :: xs, 0, _ => ⟨rfl, rfl⟩
  | x :: xs, i + 1, h => by
    have := flat_get xs i (by simpa using h)
    simp only [flat, List.flatMap_cons, List.cons_append, List.nil_append, List.getElem_cons_succ] at this ⊢
    rw [show (i + 1) * 2 = (i * 2 + 1) + 1 by omega, show i * 2 + 1 + 1 + 1 = ((i * 2 + 1) + 1) + 1 by omega]
    simpa using this
abbrev encE (x : Ent) : Array Value := #[.string x.1, .int .i64 x.2]

theorem add_plain (g o n : Nat) : (⟨g, o, none⟩ : Addr).add n = ⟨g, o + n, none⟩ := by unfold Addr.add; split <;> simp_all
/-- A slice's place is a cell of a block. -/
def Plain (A : Option Addr) : Prop := ∀ a, A = some a → ∃ g o, a = ⟨g, o, none⟩
/-- The closure's own state: how many have come. -/
abbrev goStep (most : Int) : Nat → Ent → Nat × Bool := fun n _ => (n + 1, decide ((n : Int) + 1 < most))
theorem goStep_go (most : Int) : ∀ (pre : List Ent) (n s1 : Nat), goF (goStep most) n pre = (s1, true) → s1 = n + pre.length
  | [], n, s1, h => by simp [goF] at h; simp [h]
  | x :: xs, n, s1, h => by
    simp only [goF] at h
    by_cases hb : (n : Int) + 1 < most
    · simp only [hb, decide_true, if_true] at h
      have a := goStep_go most xs (n + 1) s1 h
      simp [a]; omega
    · simp [hb] at h
theorem goStep_end (most : Int) : ∀ (l : List Ent) (n : Nat), (n : Int) < max most 1 → ((goF (goStep most) n l).1 : Int) = min (n + l.length : Int) (max most 1)
  | [], n, h => by simp only [goF, List.length_nil]; omega
  | x :: xs, n, h => by
    simp only [goF, List.length_cons]
    by_cases hb : (n : Int) + 1 < most
    · simp only [hb, decide_true, if_true]
      rw [goStep_end most xs (n + 1) (by omega)]
      push_cast; omega
    · simp only [hb, decide_false, Bool.false_eq_true, if_false]
      push_cast; omega

set_option maxRecDepth 100000 in
set_option maxHeartbeats 1000000 in
theorem goes1 {W : World} {bok bn bl bm : Nat} {A : Option Addr} {cap k : Nat} {x : Ent} {most : Int} {xs : List Ent}
    (hok : Blk W bok #[.bool true] 4) (hn : Blk W bn #[.int .i64 k] 3) (hl : Blk W bl #[.slice A xs.length cap] 27) (hm : Blk W bm #[.int .i64 most] 3)
    (hk : k < xs.length) (hlen : xs.length ≤ 100000) (hr : Reads1 W A (flat xs)) (hx : xs[k] = x) (d2 : bok ≠ bn) (d4 : bok ≠ bm) (d5 : bn ≠ bm) (d6 : bn ≠ bl) (d7 : bok ≠ bl) :
    CallV Try.prog (.func (.func 48) #[] #[.pointer (some ⟨bok, 0, none⟩), .pointer (some ⟨bn, 0, none⟩), .pointer (some ⟨bl, 0, none⟩), .pointer (some ⟨bm, 0, none⟩)]) (encE x) W
      fun v W' => v = .bool (decide ((k : Int) + 1 < most)) ∧ Blk W' bok #[.bool true] 4 ∧ Blk W' bn #[.int .i64 ((k + 1 : Nat) : Int)] 3 ∧ Upd (fun j => j = bok ∨ j = bn) W W' := by
  refine CallV.of_calls (n := 0) (enters_of Try.func48 (by kernel_rfl) rfl) ?_
  have c1 := hok.cell0
  have c3 := hn.cell0
  have c4 := hl.cell0
  have c5 := hm.cell0
  have f1 := hok.frozen 0
  have f3 := hn.frozen 0
  obtain ⟨g1, g2⟩ := flat_get xs k hk
  rw [hx] at g1 g2
  obtain ⟨g, o, rfl, hc⟩ := reads_at hr (by rw [flat_len]; omega)
  have hc' : W.cell? ⟨g, o + k * 2, none⟩ = some (.string x.1) := hc _ _ g1
  have hc2' : W.cell? ⟨g, o + k * 2 + 1, none⟩ = some (.int .i64 x.2) := hc _ _ g2
  have hw : IntKind.i64.wrap ((k : Int) + 1) = (k : Int) + 1 := Go.IntWalk.i64_in _ ⟨by omega, by omega⟩
  clear hr hx g1 g2 hc
  refine callsIn_of_wp Try.func48 rfl trivial ?_
  simp only [Try.ntmps48, List.size_toArray, List.length_cons, List.length_nil, Nat.reduceAdd, Nat.reduceSub, Array.replicate_succ, Array.replicate_zero, List.push_toArray, List.append_toArray, List.nil_append, List.cons_append]
  gi_wp2
  go_ret
  refine ⟨_, rfl, rfl, ?_, ?_, ?_⟩
  · exact (hok.set 0 _).other (p := ⟨bn, 0, none⟩) d2 _
  · exact (hn.other (p := ⟨bok, 0, none⟩) d2.symm _).set 0 _
  · exact ((Upd.refl _ _).stepSet (.inl (.inl rfl)) _).stepSet (.inl (.inr rfl)) _

/-- What goes' closure keeps: ok, n. -/
def GoesRep (bok bn : Nat) : Nat → (Nat → Prop) → World → Prop := fun n S W =>
  (∀ k, k = bok ∨ k = bn → S k) ∧ Blk W bok #[.bool true] 4 ∧ Blk W bn #[.int .i64 (n : Nat)] 3

set_option maxRecDepth 100000 in
set_option maxHeartbeats 1000000 in
theorem goes_c {n : Nat} {fk : FuncId} {fc : Array Value} {D : Nat → Prop} {w : World} {A : Option Addr} {cap : Nat} {xs : List Ent} {most : Int} {m : Nat}
    (hseq : SeqO Try.prog (.func (.func fk) #[] fc) encE (xs.map fun x => ((), x)) () () (fun _ _ => True) (fun _ => False) D w) (hm : m = xs.length) (hr : Reads1 w A (flat xs)) (hlen : xs.length ≤ 100000) :
    CallsIn Fence.wide n Try.prog 14 #[.func (.func fk) #[] fc, .slice A m cap, .int .i64 most] w
      (fun e w' => e = .returned (.bool true) ∧ Upd (fun _ => False) w w') := by
  subst hm
  refine callsIn_any (n := 0) ?_
  refine callsIn_of_wp Try.func14 rfl trivial ?_
  simp only [Try.ntmps14, List.size_toArray, List.length_cons, List.length_nil, Nat.reduceAdd, Nat.reduceSub, Array.replicate_succ, Array.replicate_zero, List.push_toArray, List.append_toArray, List.nil_append, List.cons_append]
  have hrun : CallV Try.prog (.func (.func fk) #[] fc) #[.func (.func 48) #[] #[.pointer (some ⟨w.heap.size + 1 + 1 + 1, 0, none⟩), .pointer (some ⟨w.heap.size + 1 + 1, 0, none⟩), .pointer (some ⟨w.heap.size, 0, none⟩), .pointer (some ⟨w.heap.size + 1, 0, none⟩)]]
      ((((w.alloc (.cells #[.slice A xs.length cap] 27)).alloc (.cells #[.int .i64 most] 3)).alloc (.cells #[.int .i64 0] 3)).alloc (.cells #[.bool true] 4))
      (fun _ W' => ∃ N : Nat, (N : Int) = min (xs.length : Int) (max most 1) ∧ Blk W' (w.heap.size + 1 + 1 + 1) #[.bool true] 4 ∧ Blk W' (w.heap.size + 1 + 1) #[.int .i64 (N : Nat)] 3 ∧ Blk W' w.heap.size #[.slice A xs.length cap] 27 ∧ Blk W' (w.heap.size + 1) #[.int .i64 most] 3 ∧ Upd (fun _ => False) w W') := by
    have b0 := (((Blk.new w #[.slice A xs.length cap] 27).alloc (.cells #[.int .i64 most] 3)).alloc (.cells #[.int .i64 0] 3)).alloc (.cells #[.bool true] 4)
    have b1 := ((Blk.new (w.alloc (.cells #[.slice A xs.length cap] 27)) #[.int .i64 most] 3).alloc (.cells #[.int .i64 0] 3)).alloc (.cells #[.bool true] 4)
    have b2 := (Blk.new ((w.alloc (.cells #[.slice A xs.length cap] 27)).alloc (.cells #[.int .i64 most] 3)) #[.int .i64 0] 3).alloc (.cells #[.bool true] 4)
    have b3 := Blk.new (((w.alloc (.cells #[.slice A xs.length cap] 27)).alloc (.cells #[.int .i64 most] 3)).alloc (.cells #[.int .i64 0] 3)) #[.bool true] 4
    have u0 : Upd (fun _ => False) w ((((w.alloc (.cells #[.slice A xs.length cap] 27)).alloc (.cells #[.int .i64 most] 3)).alloc (.cells #[.int .i64 0] 3)).alloc (.cells #[.bool true] 4)) := ((((Upd.refl _ w).stepAlloc _).stepAlloc _).stepAlloc _).stepAlloc _
    have z5 : ((((w.alloc (.cells #[.slice A xs.length cap] 27)).alloc (.cells #[.int .i64 most] 3)).alloc (.cells #[.int .i64 0] 3)).alloc (.cells #[.bool true] 4)).heap.size = w.heap.size + 4 := by simp
    simp only [World.size_alloc] at b1 b2 b3
    generalize ((((w.alloc (.cells #[.slice A xs.length cap] 27)).alloc (.cells #[.int .i64 most] 3)).alloc (.cells #[.int .i64 0] 3)).alloc (.cells #[.bool true] 4)) = W0 at *
    have hDw : ∀ k, D k → k < w.heap.size := fun k hk => (hseq.dlt k hk).1
    have hne : ∀ k, k < w.heap.size + 2 → ¬ (k = w.heap.size + 1 + 1 + 1 ∨ k = w.heap.size + 1 + 1) := by rintro k h1 (h | h) <;> omega
    refine (feed (S0 := fun k => k = w.heap.size + 1 + 1 + 1 ∨ k = w.heap.size + 1 + 1) (step := goStep most) (Rep := GoesRep (w.heap.size + 1 + 1 + 1) (w.heap.size + 1 + 1)) (s0 := 0) hseq (by omega) (u0.agree fun k hk => ⟨hDw k hk, id⟩) ?_ ?_ ⟨fun _ h => h, b3, by simpa using b2⟩ ?_).mono ?_
    · rintro k (rfl | rfl) <;> refine ⟨by omega, fun h => ?_⟩ <;> (have := hDw _ h; omega)
    · rintro n S W1 W2 ⟨h1, h2, h3⟩ hA _
      exact ⟨h1, h2.agree hA (h1 _ (.inl rfl)), h3.agree hA (h1 _ (.inr rfl))⟩
    · rintro pre x suf s1 S1 W1 he hgo ⟨h1, h2, h3⟩ hu hS1
      have e1 := goStep_go most pre 0 s1 hgo
      have hk : s1 < xs.length := by rw [he, e1]; simp
      have hx : xs[s1] = x := by simp only [he]; rw [List.getElem_append_right (by omega)]; simp [e1]
      have hrW := hr.agree' (w' := W1) ((u0.agree (fun k hk => ⟨hr.lt' k hk, id⟩)).trans (hu.agree (fun k hk => ⟨by have := hr.lt' k hk; omega, hne k (by have := hr.lt' k hk; omega)⟩)))
      refine (goes1 h2 h3 (b0.upd hu (hne _ (by omega))) (b1.upd hu (hne _ (by omega))) hk hlen hrW hx (by omega) (by omega) (by omega) (by omega) (by omega)).mono ?_
      rintro v W2 ⟨rfl, g1, g3, g4⟩
      exact ⟨S1, rfl, ⟨h1, g1, g3⟩, g4.mono (fun k _ hk => h1 k hk), fun k hk => ⟨by have := (hS1 k hk).1; have := g4.size; omega, .inl hk⟩⟩
    · rintro v W' ⟨S', ⟨h1, h2, h3⟩, hu, hS'⟩
      refine ⟨(goF (goStep most) 0 xs).1, ?_, h2, h3, b0.upd hu (hne _ (by omega)), b1.upd hu (hne _ (by omega)), (u0.trans hu fun k hk => ?_)⟩
      · rw [goStep_end most _ 0 (by simp; omega)]; simp
      · rcases hk with h | h <;> exact .inr (by omega)
  clear hseq hr
  replace hrun := Lib.hid hrun
  by_cases h1 : most < 1 <;> by_cases h2 : (xs.length : Int) ≤ max most 1
  all_goals
    replace h2 := Lib.hid h2
    gi_wp2_with ((with_reducible refine listV1 hrun.out ?_ ?_ ?_); rfl; rfl; rintro v W' ⟨N, hN, c1, c2, c3, c4, hu⟩; (replace hN := Lib.hid hN); (replace c1 := c1.cell0); (replace c2 := c2.cell0); (replace c3 := c3.cell0); (replace c4 := c4.cell0))
    all_goals
      refine bodyPost_ret (results_tmp rfl _ _ _) rfl ⟨?_, hu⟩
      have hN' := hN.out
      have h2' := h2.out
      refine congrArg (fun b => Ending.returned (Value.bool b)) ?_
      simp only [beq_iff_eq]
      omega
end Go.Proofs.Ytaenkjeaadmgeaa

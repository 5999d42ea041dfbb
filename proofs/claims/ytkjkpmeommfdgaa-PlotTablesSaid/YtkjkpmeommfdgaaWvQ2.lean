/- WeavePairs' consumer. -/
import Derived.Test.YtkjkpmeommfdgaaProg
import Derived.Test.YtkjkpmeommfdgaaBase
import Derived.Test.YtkjkpmeommfdgaaWvI
import Derived.Test.YtkjkpmeommfdgaaWvG
import Derived.Test.YtkjkpmeommfdgaaWvQ
import Derived.Test.YtkjkpmeommfdgaaWvH
set_option linter.unusedSimpArgs false
set_option linter.unusedVariables false
namespace Go.Proofs.Ytkjkpmeommfdgaa
open Go.RowKit Go.Shelf
attribute [local go_sem] Oper.semAt_some

set_option maxRecDepth 100000 in
set_option maxHeartbeats 1000000 in
theorem pair1 {W : World} {bok bn bl bm : Nat} {A : Option Addr} {cap k : Nat} {x y m : Int} {xs : List Int}
    (hok : Blk W bok #[.bool true] 4) (hn : Blk W bn #[.int .i64 k] 3) (hl : Blk W bl #[.slice A xs.length cap] 22) (hm : Blk W bm #[.int .i64 m] 3)
    (hk : k + 1 < xs.length) (hlen : xs.length ≤ 1000) (hr : Reads1 W A (xs.map (Value.int .i64))) (hx : xs[k]? = some x) (hy : xs[k + 1]? = some y) (d1 : bok ≠ bn) (d2 : bn ≠ bm) (d3 : bok ≠ bm) (d4 : bok ≠ bl) (d5 : bn ≠ bl) :
    CallV Try.prog (.func (.func 30) #[] #[.pointer (some ⟨bok, 0, none⟩), .pointer (some ⟨bn, 0, none⟩), .pointer (some ⟨bl, 0, none⟩), .pointer (some ⟨bm, 0, none⟩)]) (encQ (x, y)) W
      fun v W' => v = .bool (decide ((k : Int) + 1 < m)) ∧ Blk W' bok #[.bool true] 4 ∧ Blk W' bn #[.int .i64 ((k + 1 : Nat) : Int)] 3 ∧ Upd (fun j => j = bok ∨ j = bn) W W' := by
  refine CallV.of_calls (n := 0) (enters_of Try.func30 (by kernel_rfl) rfl) ?_
  refine callsIn_of_wp Try.func30 rfl trivial ?_
  simp only [Try.ntmps30, List.size_toArray, List.length_cons, List.length_nil, Nat.reduceAdd, Nat.reduceSub, Array.replicate_succ, Array.replicate_zero, List.push_toArray, List.append_toArray, List.nil_append, List.cons_append]
  gi_wp2
  refine wpIn_still_tail 27 (by kernel_rfl) (by kernel_rfl) ?_
  have u1 : Upd (fun _ => False) W (W.alloc (.cells #[.int .i64 x, .int .i64 y] 46)).drew := (Upd.alloc _ _ _).stepDrew
  have hp : Blk (W.alloc (.cells #[.int .i64 x, .int .i64 y] 46)).drew W.heap.size #[.int .i64 x, .int .i64 y] 46 := Blk.new W _ _
  generalize (W.alloc (.cells #[.int .i64 x, .int .i64 y] 46)).drew = W1 at *
  replace hr := hr.agree' (u1.agree fun k hk => ⟨hr.lt' k hk, id⟩)
  replace hok := hok.upd u1 id
  replace hn := hn.upd u1 id
  replace hl := hl.upd u1 id
  replace hm := hm.upd u1 id
  obtain ⟨a, rfl, hc⟩ := hr k (.int .i64 x) (by simp [hx])
  obtain ⟨_, e, hc2⟩ := hr (k + 1) (.int .i64 y) (by simp [hy])
  obtain rfl := Option.some.inj e
  have c1 := hok.cell0
  have c2 := hn.cell0
  have c3 := hl.cell0
  have c4 := hm.cell0
  have c5 := hp.cell 0
  have c6 := hp.cell 1
  have f1 := hok.frozen 0
  have f2 := hn.frozen 0
  have l1 := hok.lt
  have l2 := hn.lt
  have hw : IntKind.i64.wrap ((k : Int) + 1) = (k : Int) + 1 := Go.IntWalk.i64_in _ ⟨by omega, by omega⟩
  have hlt : (k : Int) + 1 < xs.length := by omega
  have hlt2 : k < xs.length := by omega
  have h0 : (0 : Int) ≤ (k : Int) + 1 := by omega
  have hc3 : W1.cell? ⟨a.block, a.off + (k + 1), none⟩ = some (.int .i64 y) := by simpa [Addr.add] using hc2
  replace hr := Lib.hid hr
  replace u1 := Lib.hid u1
  clear hx hy
  simp only [List.take_succ_cons, List.take_zero, List.drop_succ_cons, List.drop_zero]
  repeat still_step
  try refine wpStill_nil ?_
  gi_wp2
  go_ret
  refine ⟨_, rfl, rfl, ?_, ?_, ?_⟩
  · exact (hok.set 0 _).other (p := ⟨bn, 0, none⟩) d1 _
  · exact (hn.other (p := ⟨bok, 0, none⟩) d1.symm _).set 0 _
  · exact ((u1.out.mono fun _ _ h => h.elim).stepSet (.inl (.inl rfl)) _).stepSet (.inl (.inr rfl)) _

/-- The pairs that Pairs gives. -/
abbrev pairsOf (xs : List Int) : List (Int × Int) := outs trPair (0, 0) (outs trNum 0 xs)
theorem outs_pair : ∀ (xs : List Int) (i : Nat) (a x : Int), 0 < i → outs trPair (a, x) (outs trNum i xs) = (x :: xs).zip xs
  | [], i, a, x, h => rfl
  | y :: xs, i, a, x, h => by
    simp [outs, h, outs_pair xs (i + 1) x y (by omega)]
theorem pairsOf_eq : ∀ xs : List Int, pairsOf xs = xs.zip (xs.drop 1)
  | [] => rfl
  | x :: xs => by
    simp [pairsOf, outs, outs_pair xs 1 0 x (by omega)]

theorem pairs_u {n : Nat} {f1 : Fn} {a1 c1 : Array Value} {w : World} : CallsIn Fence.wide n Try.prog 29 #[.func f1 a1 c1] w fun e w' =>
    ∃ bs, e = .returned (.func (.func 78) #[] #[.pointer (some ⟨bs, 0, none⟩)]) ∧ Blk w' bs #[.func f1 a1 c1] 32 ∧ Upd (fun _ => False) w w' := by
  refine callsIn_any (n := 0) (callsIn_of_wp Try.func29 rfl trivial ?_)
  simp only [Try.ntmps29, List.size_toArray, List.length_cons, List.length_nil, Nat.reduceAdd, Nat.reduceSub, Array.replicate_succ, Array.replicate_zero, List.push_toArray, List.append_toArray, List.nil_append, List.cons_append]
  gi_wp2
  go_ret
  exact ⟨_, rfl, Blk.new _ _ _, Upd.alloc _ _ _⟩

/-- The consumer's state: how many have come. -/
abbrev pairStep (m : Int) : Nat → Int × Int → Nat × Bool := fun n _ => (n + 1, decide ((n : Int) + 1 < m))
theorem pairStep_go (m : Int) : ∀ (pre : List (Int × Int)) (n s1 : Nat), goF (pairStep m) n pre = (s1, true) → s1 = n + pre.length
  | [], n, s1, h => by simp [goF] at h; simp [h]
  | x :: xs, n, s1, h => by
    simp only [goF] at h
    by_cases hb : (n : Int) + 1 < m
    · simp only [hb, decide_true, if_true] at h
      have a := pairStep_go m xs (n + 1) s1 h
      simp [a]; omega
    · simp [hb] at h
theorem pairStep_end (m : Int) : ∀ (l : List (Int × Int)) (n : Nat), (n : Int) < max m 1 → ((goF (pairStep m) n l).1 : Int) = min (n + l.length : Int) (max m 1)
  | [], n, h => by simp only [goF, List.length_nil]; omega
  | x :: xs, n, h => by
    simp only [goF, List.length_cons]
    by_cases hb : (n : Int) + 1 < m
    · simp only [hb, decide_true, if_true]
      rw [pairStep_end m xs (n + 1) (by omega)]
      omega
    · simp only [hb, decide_false, Bool.false_eq_true, if_false]
      omega
def PairRep (bok bn : Nat) : Nat → (Nat → Prop) → World → Prop := fun n S W => (∀ k, k = bok ∨ k = bn → S k) ∧ Blk W bok #[.bool true] 4 ∧ Blk W bn #[.int .i64 (n : Nat)] 3

/-- The sequence gone through by that consumer. -/
theorem pairs_run {W : World} {bok bn bl bm bv bs : Nat} {A : Option Addr} {cap : Nat} {m : Int} {xs : List Int}
    (hok : Blk W bok #[.bool true] 4) (hn : Blk W bn #[.int .i64 0] 3) (hl : Blk W bl #[.slice A xs.length cap] 22) (hm : Blk W bm #[.int .i64 m] 3) (hbv : Blk W bv #[.slice A xs.length cap] 22)
    (hbs : Blk W bs #[.func (.func 76) #[] #[.pointer (some ⟨bv, 0, none⟩)]] 32) (hlen : xs.length ≤ 900) (hr : Reads1 W A (xs.map (Value.int .i64))) (d2 : bn ≠ bm) (hA : ∀ k, blkOf' A xs.length k → k ≠ bok ∧ k ≠ bn) :
    CallV Try.prog (.func (.func 78) #[] #[.pointer (some ⟨bs, 0, none⟩)]) #[.func (.func 30) #[] #[.pointer (some ⟨bok, 0, none⟩), .pointer (some ⟨bn, 0, none⟩), .pointer (some ⟨bl, 0, none⟩), .pointer (some ⟨bm, 0, none⟩)]] W
      fun _ W' => ∃ N : Nat, (N : Int) = min ((xs.length - 1 : Nat) : Int) (max m 1) ∧ Blk W' bok #[.bool true] 4 ∧ Blk W' bn #[.int .i64 (N : Nat)] 3 ∧ Upd (fun k => k = bok ∨ k = bn) W W' := by
  have hM : (1000 : Nat) ≤ maxLen := by decide
  have hseq := values_seq hbv hr (by omega)
  have hp := pairs_seq hseq hbs id (by simp; omega)
  have hL : (evsT trPair (0, 0) (evsT trNum 0 (xs.map fun x => ((), x)))).map (·.2) = pairsOf xs := by
    rw [evsT_snd, evsT_snd]; simp [Function.comp_def]
  have dk := Blk.ne hok hn (by decide)
  refine (hp.run Nat (pairStep m) (PairRep bok bn) _ 0 (fun k => k = bok ∨ k = bn) W ⟨⟨_, _, _, rfl⟩, Nat.le_refl _, Agree.refl _ _, ?_, ?_, ?_, ?_⟩ trivial).mono ?_
  · rintro k (rfl | rfl)
    · refine ⟨hok.lt, ?_, id⟩
      rintro ((h | h) | h)
      · exact Blk.ne hok hbv (by decide) h
      · exact (hA _ h).1 rfl
      · exact Blk.ne hok hbs (by decide) h
    · refine ⟨hn.lt, ?_, id⟩
      rintro ((h | h) | h)
      · exact Blk.ne hn hbv (by decide) h
      · exact (hA _ h).2 rfl
      · exact Blk.ne hn hbs (by decide) h
  · rintro s S W1 W2 ⟨h1, h2, h3⟩ ha _
    exact ⟨h1, h2.agree ha (h1 _ (.inl rfl)), h3.agree ha (h1 _ (.inr rfl))⟩
  · rintro pre x suf s1 S1 W1 he hgo ⟨h1, h2, h3⟩ hu hS1
    have e1 := pairStep_go m pre 0 s1 hgo
    rw [hL, pairsOf_eq] at he
    have hx : (xs.zip (xs.drop 1))[s1]? = some x := by rw [he, e1]; simp
    rw [List.getElem?_zip_eq_some] at hx
    obtain ⟨hx1, hx2⟩ := hx
    rw [List.getElem?_drop, Nat.add_comm] at hx2
    have hk : s1 + 1 < xs.length := (List.getElem?_eq_some_iff.1 hx2).1
    have hne : ∀ k, k ≠ bok → k ≠ bn → ¬ ((k = bok ∨ k = bn) ∨ False) := by rintro k a b ((h | h) | h); exact a h; exact b h; exact h
    have hr1 := hr.agree' (w' := W1) (hu.agree fun k hk => ⟨hr.lt' k hk, hne k (hA k (by simpa using hk)).1 (hA k (by simpa using hk)).2⟩)
    refine (pair1 h2 h3 (hl.upd hu (hne _ (Blk.ne hl hok (by decide)) (Blk.ne hl hn (by decide)))) (hm.upd hu (hne _ (Blk.ne hm hok (by decide)) d2.symm)) hk (by omega) hr1 hx1 hx2 dk d2 (Blk.ne hok hm (by decide)) (Blk.ne hok hl (by decide)) (Blk.ne hn hl (by decide))).mono ?_
    rintro v W2 ⟨rfl, g1, g2, g3⟩
    exact ⟨S1, rfl, ⟨h1, g1, g2⟩, g3.mono (fun k _ hk => h1 k hk), fun k hk => ⟨by have := (hS1 k hk).1; have := g3.size; omega, .inl hk⟩⟩
  · exact ⟨fun _ h => h, hok, hn⟩
  · rintro v W' ⟨S', ⟨h1, h2, h3⟩, _, hu, _⟩
    refine ⟨_, ?_, h2, h3, hu.mono fun k _ h => h.elim id fun h => h.elim⟩
    rw [hL, pairsOf_eq, pairStep_end m _ 0 (by omega)]
    simp
end Go.Proofs.Ytkjkpmeommfdgaa

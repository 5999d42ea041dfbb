/- law27's lists: what is given is compared, then written over. -/
import Derived.Test.YtkjkpmeommfdgaaProg
import Derived.Test.YtkjkpmeommfdgaaBase
import Derived.Test.YtkjkpmeommfdgaaApp
import Derived.Test.YtkjkpmeommfdgaaWvI
import Derived.Test.YtkjkpmeommfdgaaWvL
import Derived.Test.YtkjkpmeommfdgaaWvC
import Derived.Test.YtkjkpmeommfdgaaWvE
import Derived.Test.YtkjkpmeommfdgaaWvSH
namespace Go.Proofs.Ytkjkpmeommfdgaa
open Go.RowKit Go.Shelf
attribute [local go_sem] Oper.semAt_some if_max if_min

/-- A slice of slices that reads as lists; all that it reads lies in blocks of Dm. -/
def Reads2 (Dm : Nat → Prop) (W : World) (A2 : Option Addr) (ls : List (List Int)) : Prop :=
  ∀ i l, ls[i]? = some l → ∃ ad A c, A2 = some ad ∧ Dm ad.block ∧ W.cell? (ad.add i) = some (.slice A l.length c) ∧ Reads1 W A (l.map (Value.int .i64)) ∧ ∀ k, blkOf' A l.length k → Dm k
theorem Reads2.agree {Dm : Nat → Prop} {W W' : World} {A2 : Option Addr} {ls : List (List Int)} (h : Reads2 Dm W A2 ls) (ha : Agree Dm W W') : Reads2 Dm W' A2 ls := fun i l hl => by
  obtain ⟨ad, A, c, e, h1, h2, h3, h4⟩ := h i l hl
  exact ⟨ad, A, c, e, h1, (ha.cell (p := ad.add i) (by rw [block_of_add]; exact h1)).trans h2, h3.agree' (ha.mono fun k hk => h4 k (by simpa using hk)), h4⟩
theorem Reads2.mono {Dm Dm' : Nat → Prop} {W : World} {A2 : Option Addr} {ls : List (List Int)} (h : Reads2 Dm W A2 ls) (hd : ∀ k, Dm k → Dm' k) : Reads2 Dm' W A2 ls := fun i l hl => by
  obtain ⟨ad, A, c, e, h1, h2, h3, h4⟩ := h i l hl
  exact ⟨ad, A, c, e, hd _ h1, h2, h3, fun k hk => hd k (h4 k hk)⟩

set_option maxRecDepth 100000 in
set_option maxHeartbeats 2000000 in
theorem list1 {W : World} {bok bn bl bm : Nat} {A2 : Option Addr} {c2 k : Nat} {m : Int} {ls : List (List Int)} {x : List Int} {v : Value} {Dm : Nat → Prop}
    (hok : Blk W bok #[.bool true] 4) (hn : Blk W bn #[.int .i64 k] 3) (hl : Blk W bl #[.slice A2 ls.length c2] 55) (hm : Blk W bm #[.int .i64 m] 3)
    (hk : k < ls.length) (hlen : ls.length ≤ 1000) (hr2 : Reads2 Dm W A2 ls) (hv : W.ownsRow 0 3 1 v x.length (x.map (Value.int .i64))) (hx : ls[k]? = some x) (hxl : x.length ≤ 1000) (hne : x ≠ [])
    (hG : ∀ j, v.ownBlock = some j → j ≠ bok ∧ j ≠ bn ∧ j ≠ bl ∧ j ≠ bm) (d1 : bok ≠ bn) (d2 : bn ≠ bm) (d3 : bok ≠ bm) (d4 : bok ≠ bl) (d5 : bn ≠ bl) :
    CallV Try.prog (.func (.func 79) #[] #[.pointer (some ⟨bok, 0, none⟩), .pointer (some ⟨bn, 0, none⟩), .pointer (some ⟨bl, 0, none⟩), .pointer (some ⟨bm, 0, none⟩)]) #[v] W
      fun b W' => b = .bool (decide ((k : Int) + 1 < m)) ∧ Blk W' bok #[.bool true] 4 ∧ Blk W' bn #[.int .i64 ((k + 1 : Nat) : Int)] 3 ∧ Upd (fun j => j = bok ∨ j = bn ∨ v.ownBlock = some j) W W' := by
  refine CallV.of_calls (n := 0) (enters_of Try.func79 (by kernel_rfl) rfl) ?_
  refine callsIn_of_wp Try.func79 rfl trivial ?_
  simp only [Try.ntmps79, List.size_toArray, List.length_cons, List.length_nil, Nat.reduceAdd, Nat.reduceSub, Array.replicate_succ, Array.replicate_zero, List.push_toArray, List.append_toArray, List.nil_append, List.cons_append]
  have hx0 : x.length ≠ 0 := fun h => hne (List.eq_nil_of_length_eq_zero h)
  have hvr : ∃ g cap cur, v = .slice (some ⟨g, 0, none⟩) x.length cap ∧ Blk W g cur 3 ∧ x.length ≤ cur.size := by
    rcases hv.2 with ⟨_, h⟩ | ⟨g, cap, cur, rfl, _, hg, hnc, _, hsz, _⟩
    · exact absurd h hx0
    · exact ⟨g, cap, cur, rfl, hg, by omega⟩
  obtain ⟨g, cap, cur, rfl, hg, hcur⟩ := hvr
  obtain ⟨ad, A, c, rfl, _, hcell, hrl, _⟩ := hr2 k x hx
  have hrx := (own_reads hv (by simp)).1
  obtain ⟨g1, g2, g3, g4⟩ := hG g (by simp [Value.ownBlock])
  have c1 := hok.cell0
  have c2' := hn.cell0
  have c3 := hl.cell0
  have f1 := hok.frozen 0
  have l1 := hok.lt
  have hlt : (k : Int) < ls.length := by omega
  clear hr2 hv hG hx
  gi_wp2_with (first | refine (⟨trivial, rfl, ?_⟩ : Fence.wide.fn _ ∧ Fence.wide.depth = none ∧ _) | (gi_at_call 37; refine (equal_c hrx hrl rfl rfl (by omega)).mono ?_; rintro e W1 ⟨rfl, hu⟩; (rw [decide_eq_true rfl]); (replace hok := hok.upd hu id); (replace hn := hn.upd hu id); (replace hm := hm.upd hu id); (replace hg := hg.upd hu id); (have f1' := hok.frozen 0); (have l1' := hok.lt); (have c1' := hok.cell0); clear hrx hrl hl hcell; (replace hu := Lib.hid hu)))
  have hu2 := ((hu.out.mono (M' := fun q => q = bok ∨ q = g) fun _ _ h => h.elim).stepSet (.inl (.inl rfl)) (.bool true) : Upd (fun q => q = bok ∨ q = g) W (W1.setCell ⟨bok, 0, none⟩ (.bool true)))
  have hok2 : Blk (W1.setCell ⟨bok, 0, none⟩ (.bool true)) bok #[.bool true] 4 := by simpa using hok.set 0 (.bool true)
  have hn2 : Blk (W1.setCell ⟨bok, 0, none⟩ (.bool true)) bn #[.int .i64 k] 3 := hn.other (p := ⟨bok, 0, none⟩) d1.symm _
  have hm2 : Blk (W1.setCell ⟨bok, 0, none⟩ (.bool true)) bm #[.int .i64 m] 3 := hm.other (p := ⟨bok, 0, none⟩) d3.symm _
  have hg2 : Blk (W1.setCell ⟨bok, 0, none⟩ (.bool true)) g cur 3 := hg.other (p := ⟨bok, 0, none⟩) g1 _
  clear hok hn hm hg hu f1' l1' c1'
  generalize (W1.setCell ⟨bok, 0, none⟩ (.bool true)) = V at *
  gi_loopw [25] (fun i wr => ∃ j : Nat, j ≤ x.length ∧ i = .int .i64 j ∧ Blk wr bok #[.bool true] 4 ∧ Blk wr bn #[.int .i64 k] 3 ∧ Blk wr bm #[.int .i64 m] 3 ∧ (∃ cur', Blk wr g cur' 3 ∧ x.length ≤ cur'.size) ∧ Upd (fun q => q = bok ∨ q = g) W wr) (fun i _ => x.length - (intOf i).toNat)
  case atStart => exact ⟨0, Nat.zero_le _, rfl, hok2, hn2, hm2, ⟨cur, hg2, hcur⟩, hu2⟩
  case round =>
    clear hok2 hn2 hm2 hg2 hu2 hcur
    obtain ⟨j, hj, rfl, hok, hn, hm, ⟨cur', hg, hcur⟩, hu⟩ := hrel
    by_cases hjl : j < x.length
    · have cg : wr.cell? ⟨g, j, none⟩ = some cur'[j] := by rw [hg.cell]; simp
      have fg := hg.frozen j
      have lg := hg.lt
      replace hok := Lib.hid hok
      replace hn := Lib.hid hn
      replace hm := Lib.hid hm
      replace hg := Lib.hid hg
      replace hu := Lib.hid hu
      gi_wp2
      exact ⟨⟨j + 1, by omega, by go_num, hok.out.other (p := ⟨g, j, none⟩) g1.symm _, hn.out.other (p := ⟨g, j, none⟩) g2.symm _, hm.out.other (p := ⟨g, j, none⟩) g4.symm _, ⟨_, hg.out.set j _, by simpa using hcur⟩, hu.out.stepSet (.inl (.inr rfl)) _⟩, by simp [intOf]; omega⟩
    · have c1 := hok.cell0
      have c2' := hn.cell0
      have c4 := hm.cell0
      have f2 := hn.frozen 0
      have l2 := hn.lt
      have hw : IntKind.i64.wrap ((k : Int) + 1) = (k : Int) + 1 := Go.IntWalk.i64_in _ ⟨by omega, by omega⟩
      replace hok := Lib.hid hok
      replace hn := Lib.hid hn
      replace hu := Lib.hid hu
      clear hg hm
      gi_wp2
      refine bodyPost_ret (results_tmp (t := 6) rfl _ _ _) rfl ⟨_, rfl, rfl, hok.out.other (p := ⟨bn, 0, none⟩) d1 _, hn.out.set 0 _, (hu.out.mono ?_).stepSet (.inl (.inr (.inl rfl))) _⟩
      rintro q _ (h | h)
      · exact .inl h
      · exact .inr (.inr (by simp [Value.ownBlock, h]))

abbrev lsStep (m : Int) : Nat → List Int → Nat × Bool := fun n _ => (n + 1, decide ((n : Int) + 1 < m))
theorem lsStep_go (m : Int) : ∀ (pre : List (List Int)) (n s1 : Nat), goF (lsStep m) n pre = (s1, true) → s1 = n + pre.length
  | [], n, s1, h => by simp [goF] at h; simp [h]
  | x :: xs, n, s1, h => by
    simp only [goF] at h
    by_cases hb : (n : Int) + 1 < m
    · simp only [hb, decide_true, if_true] at h
      have a := lsStep_go m xs (n + 1) s1 h
      simp [a]; omega
    · simp [hb] at h
theorem lsStep_end (m : Int) : ∀ (l : List (List Int)) (n : Nat), (n : Int) < max m 1 → ((goF (lsStep m) n l).1 : Int) = min (n + l.length : Int) (max m 1)
  | [], n, h => by simp only [goF, List.length_nil]; omega
  | x :: xs, n, h => by
    simp only [goF, List.length_cons]
    by_cases hb : (n : Int) + 1 < m
    · simp only [hb, decide_true, if_true]
      rw [lsStep_end m xs (n + 1) (by omega)]
      omega
    · simp only [hb, decide_false, Bool.false_eq_true, if_false]
      omega
def LsRep (bok bn : Nat) : Nat → (Nat → Prop) → World → Prop := fun n S W => (∀ k, k = bok ∨ k = bn → S k) ∧ Blk W bok #[.bool true] 4 ∧ Blk W bn #[.int .i64 (n : Nat)] 3

set_option maxRecDepth 100000 in
set_option maxHeartbeats 2000000 in
theorem lists_c {n : Nat} {ω : Type} {fi : FuncId} {fc : Array Value} {evs : List (ω × List Int)} {init fin : ω} {Own : ω → World → Prop} {E D Dm : Nat → Prop} {w : World} {A2 : Option Addr} {c2 len : Nat} {ls : List (List Int)} {m : Int}
    (hseq : SeqG Try.prog (.func (.func fi) #[] fc) givI evs init fin Own E D w) (hown : Own init w) (hls : evs.map (·.2) = ls) (hne : ∀ l ∈ ls, l ≠ [] ∧ l.length ≤ 1000) (hr2 : Reads2 Dm w A2 ls) (hDm : ∀ k, Dm k → k < w.heap.size ∧ ¬ E k) (hlen : ls.length ≤ 1000) (hlen2 : len = ls.length) (hm0 : 0 ≤ m) (hm1 : m ≤ 1000) :
    CallsIn Fence.wide n Try.prog 32 #[.func (.func fi) #[] fc, .slice A2 len c2, .int .i64 m] w
      (fun e w' => e = .returned (.bool true) ∧ Own (goOwn (lsStep m) fin 0 evs) w' ∧ Upd E w w') := by
  subst hlen2
  refine callsIn_any (n := 0) (callsIn_of_wp Try.func32 rfl trivial ?_)
  simp only [Try.ntmps32, List.size_toArray, List.length_cons, List.length_nil, Nat.reduceAdd, Nat.reduceSub, Array.replicate_succ, Array.replicate_zero, List.push_toArray, List.append_toArray, List.nil_append, List.cons_append]
  have z5 : ((((w.alloc (.cells #[.slice A2 ls.length c2] 55)).alloc (.cells #[.int .i64 m] 3)).alloc (.cells #[.int .i64 0] 3)).alloc (.cells #[.bool true] 4)).heap.size = w.heap.size + 4 := by simp
  have hrun : CallV Try.prog (.func (.func fi) #[] fc) #[.func (.func 79) #[] #[.pointer (some ⟨w.heap.size + 1 + 1 + 1, 0, none⟩), .pointer (some ⟨w.heap.size + 1 + 1, 0, none⟩), .pointer (some ⟨w.heap.size, 0, none⟩), .pointer (some ⟨w.heap.size + 1, 0, none⟩)]]
      ((((w.alloc (.cells #[.slice A2 ls.length c2] 55)).alloc (.cells #[.int .i64 m] 3)).alloc (.cells #[.int .i64 0] 3)).alloc (.cells #[.bool true] 4))
      (fun _ W' => Blk W' (w.heap.size + 1 + 1 + 1) #[.bool true] 4 ∧ Blk W' (w.heap.size + 1 + 1) #[.int .i64 (min (ls.length : Int) (max m 1))] 3 ∧ Blk W' w.heap.size #[.slice A2 ls.length c2] 55 ∧ Blk W' (w.heap.size + 1) #[.int .i64 m] 3 ∧
        Own (goOwn (lsStep m) fin 0 evs) W' ∧ Upd E w W') := by
    have b0 := (((Blk.new w #[.slice A2 ls.length c2] 55).alloc (.cells #[.int .i64 m] 3)).alloc (.cells #[.int .i64 0] 3)).alloc (.cells #[.bool true] 4)
    have b1 := ((Blk.new (w.alloc (.cells #[.slice A2 ls.length c2] 55)) #[.int .i64 m] 3).alloc (.cells #[.int .i64 0] 3)).alloc (.cells #[.bool true] 4)
    have b2 := (Blk.new ((w.alloc (.cells #[.slice A2 ls.length c2] 55)).alloc (.cells #[.int .i64 m] 3)) #[.int .i64 0] 3).alloc (.cells #[.bool true] 4)
    have b3 := Blk.new (((w.alloc (.cells #[.slice A2 ls.length c2] 55)).alloc (.cells #[.int .i64 m] 3)).alloc (.cells #[.int .i64 0] 3)) #[.bool true] 4
    have u0 : Upd (fun _ => False) w ((((w.alloc (.cells #[.slice A2 ls.length c2] 55)).alloc (.cells #[.int .i64 m] 3)).alloc (.cells #[.int .i64 0] 3)).alloc (.cells #[.bool true] 4)) :=
      ((((Upd.refl _ w).stepAlloc _).stepAlloc _).stepAlloc _).stepAlloc _
    simp only [World.size_alloc] at b1 b2 b3
    generalize ((((w.alloc (.cells #[.slice A2 ls.length c2] 55)).alloc (.cells #[.int .i64 m] 3)).alloc (.cells #[.int .i64 0] 3)).alloc (.cells #[.bool true] 4)) = W0 at *
    have hEw : ∀ k, E k → k < w.heap.size := hseq.elt
    have hDw : ∀ k, D k → k < w.heap.size := fun k hk => (hseq.dlt k hk).1
    have hne0 : ∀ k, k < w.heap.size + 2 → w.heap.size ≤ k → ¬ ((k = w.heap.size + 1 + 1 + 1 ∨ k = w.heap.size + 1 + 1) ∨ E k) := by
      rintro k h1 h2 (h | h)
      · omega
      · have := hEw k h; omega
    refine (hseq.run Nat (lsStep m) (LsRep (w.heap.size + 1 + 1 + 1) (w.heap.size + 1 + 1)) _ 0 (fun k => k = w.heap.size + 1 + 1 + 1 ∨ k = w.heap.size + 1 + 1) W0
      ⟨⟨_, _, _, rfl⟩, by omega, u0.agree (fun k hk => ⟨hDw k hk, id⟩), ?_, ?_, ?_, ?_⟩ (hseq.stable _ _ _ hown (u0.agree (fun k hk => ⟨hEw k hk, id⟩)))).mono ?_
    · rintro k (rfl | rfl) <;> refine ⟨by omega, fun h => ?_, fun h => ?_⟩ <;> first | (have := hDw _ h; omega) | (have := hEw _ h; omega)
    · rintro n S W1 W2 ⟨h1, h2, h3⟩ hA _
      exact ⟨h1, h2.agree hA (h1 _ (.inl rfl)), h3.agree hA (h1 _ (.inr rfl))⟩
    · rintro pre x suf s1 S1 W1 vs G he hgo ⟨h1, h2, h3⟩ ⟨v, rfl, hv, hG⟩ hGS hu hS1
      have e1 := lsStep_go m pre 0 s1 hgo
      rw [hls] at he
      have hk : s1 < ls.length := by rw [he, e1]; simp
      have hx : ls[s1]? = some x := by rw [he, e1]; simp
      have hxm := hne x (List.mem_of_getElem? hx)
      have hrW := hr2.agree (W' := W1) ((u0.agree (fun k hk => ⟨(hDm k hk).1, id⟩)).trans (hu.agree (fun k hk => ⟨by have := (hDm k hk).1; omega, by
        rintro (h | h)
        · have := (hDm k hk).1; omega
        · exact (hDm k hk).2 h⟩)))
      refine (list1 h2 h3 (b0.upd hu (hne0 _ (by omega) (by omega))) (b1.upd hu (hne0 _ (by omega) (by omega))) hk hlen hrW hv hx hxm.2 hxm.1 ?_ (by omega) (by omega) (by omega) (by omega) (by omega)).mono ?_
      · intro j hj
        obtain ⟨q1, q2, q3⟩ := hGS j ((hG j).2 hj)
        exact ⟨fun e => q3 (h1 _ (.inl e)), fun e => q3 (h1 _ (.inr e)), by omega, by omega⟩
      · rintro b W2 ⟨rfl, g1, g2, g3⟩
        refine ⟨S1, rfl, ⟨h1, g1, g2⟩, g3.mono (fun k _ hk => ?_), fun k hk => ⟨by have := (hS1 k hk).1; have := g3.size; omega, .inl hk⟩⟩
        rcases hk with h | h | h
        · exact .inl (h1 _ (.inl h))
        · exact .inl (h1 _ (.inr h))
        · exact .inr ((hG k).2 h)
    · exact ⟨fun _ h => h, by simpa using b3, by simpa using b2⟩
    · rintro v W' ⟨S', ⟨h1, h2, h3⟩, ho, hu, hS'⟩
      rw [lsStep_end m _ 0 (by omega), hls] at h3
      refine ⟨h2, by simpa using h3, b0.upd hu (hne0 _ (by omega) (by omega)), b1.upd hu (hne0 _ (by omega) (by omega)), ho, ?_⟩
      refine (u0.mono (fun _ _ h => h.elim)).trans hu (fun k hk => ?_)
      rcases hk with h | h
      · exact .inr (by omega)
      · exact .inl h
  clear hseq hown hr2 hls z5 hne hDm
  replace hrun := Lib.hid hrun
  gi_wp2_with ((with_reducible refine listV1 hrun.out ?_ ?_ ?_); rfl; rfl; rintro v W' ⟨c1, c2, c3, c4, ho, hu⟩; (replace c1 := c1.cell0); (replace c2 := c2.cell0); (replace c3 := c3.cell0); (replace c4 := c4.cell0))
  all_goals
    refine bodyPost_ret (results_tmp (t := 6) rfl _ _ _) rfl ⟨?_, ho, hu⟩
    refine congrArg (fun b => Ending.returned (Value.bool b)) ?_
    simp only [beq_iff_eq]
    omega
end Go.Proofs.Ytkjkpmeommfdgaa

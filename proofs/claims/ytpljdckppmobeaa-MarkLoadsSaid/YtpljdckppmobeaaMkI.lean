/- goes: the awake ones are gone through, as far as is asked. -/
import Derived.Test.YtpljdckppmobeaaProg
import Derived.Test.YtpljdckppmobeaaBase
import Derived.Test.YtpljdckppmobeaaMkR
import Derived.Test.YtpljdckppmobeaaMkG
namespace Go.Proofs.Ytpljdckppmobeaa
open Go.RowKit Go.Shelf
attribute [local go_sem] Oper.semAt_some

/-- The closure's own state: how many have come. -/
abbrev goStep (most : Int) : Nat → KSM × Int → Nat × Bool := fun n _ => (n + 1, decide ((n : Int) + 1 < most))
theorem goStep_go (most : Int) : ∀ (pre : List (KSM × Int)) (n s1 : Nat), goF (goStep most) n pre = (s1, true) → s1 = n + pre.length
  | [], n, s1, h => by simp [goF] at h; simp [h]
  | x :: xs, n, s1, h => by
    simp only [goF] at h
    by_cases hb : (n : Int) + 1 < most
    · simp only [hb, decide_true, if_true] at h
      have a := goStep_go most xs (n + 1) s1 h
      simp [a]; omega
    · simp [hb] at h
theorem goStep_end (most : Int) : ∀ (l : List (KSM × Int)) (n : Nat), (n : Int) < max most 1 → ((goF (goStep most) n l).1 : Int) = min (n + l.length : Int) (max most 1)
  | [], n, h => by simp only [goF, List.length_nil]; omega
  | x :: xs, n, h => by
    simp only [goF, List.length_cons]
    by_cases hb : (n : Int) + 1 < most
    · simp only [hb, decide_true, if_true]
      rw [goStep_end most xs (n + 1) (by omega)]
      push_cast; omega
    · simp only [hb, decide_false, Bool.false_eq_true, if_false]
      push_cast; omega

abbrev goesF (bok bn bl bm : Nat) : Value := .func (.func 47) #[] #[.pointer (some ⟨bok, 0, none⟩), .pointer (some ⟨bn, 0, none⟩), .pointer (some ⟨bl, 0, none⟩), .pointer (some ⟨bm, 0, none⟩)]
set_option maxRecDepth 100000 in
set_option maxHeartbeats 1000000 in
theorem goes1 {W : World} {bok bn bl bm : Nat} {A : Option Addr} {cap k : Nat} {x : KSM × VSM} {most : Int} {xs : List (KSM × VSM)}
    (hok : Blk W bok #[.bool true] 4) (hn : Blk W bn #[.int .i64 k] 3) (hl : Blk W bl #[.slice A xs.length cap] 41) (hm : Blk W bm #[.int .i64 most] 3)
    (hk : k < xs.length) (hlen : xs.length ≤ 100000) (hr : Reads1 W A (flatS xs)) (hx : xs[k] = x) (d2 : bok ≠ bn) (d4 : bok ≠ bm) (d5 : bn ≠ bm) (d6 : bn ≠ bl) (d7 : bok ≠ bl) :
    CallV Try.prog (goesF bok bn bl bm) (encAw (x.1, x.2.1)) W
      fun v W' => v = .bool (decide ((k : Int) + 1 < most)) ∧ Blk W' bok #[.bool true] 4 ∧ Blk W' bn #[.int .i64 ((k + 1 : Nat) : Int)] 3 ∧ Upd (fun j => j = bok ∨ j = bn) W W' := by
  refine CallV.of_calls (n := 0) (enters_of Try.func47 (by kernel_rfl) rfl) ?_
  have c1 := hok.cell0
  have c3 := hn.cell0
  have c4 := hl.cell0
  have c5 := hm.cell0
  have f1 := hok.frozen 0
  have f3 := hn.frozen 0
  obtain ⟨g, o, rfl, hc⟩ := reads_at hr (by rw [flatS_len]; omega)
  have d0 := hc _ _ (flatS_get xs k hk)
  have d1 := hc _ _ (flatS_get1 xs k hk)
  rw [← Nat.add_assoc] at d1
  rw [hx] at d0 d1
  obtain ⟨nm, tm, at0⟩ := x
  simp only at d0 d1
  have hw1 : IntKind.i64.wrap ((k : Int) + 1) = (k : Int) + 1 := Go.IntWalk.i64_in _ ⟨by omega, by omega⟩
  clear hr hx hc
  refine callsIn_of_wp Try.func47 rfl trivial ?_
  simp only [Try.ntmps47, List.size_toArray, List.length_cons, List.length_nil, Nat.reduceAdd, Nat.reduceSub, Array.replicate_succ, Array.replicate_zero, List.push_toArray, List.append_toArray, List.nil_append, List.cons_append]
  gi_wp2
  go_ret
  refine ⟨_, rfl, ?_, ?_, ?_, ?_⟩
  · rfl
  · exact (hok.set 0 _).other (p := ⟨bn, 0, none⟩) d2 _
  · exact (hn.other (p := ⟨bok, 0, none⟩) d2.symm _).set 0 _
  · exact ((Upd.refl _ _).stepSet (.inl (.inl rfl)) _).stepSet (.inl (.inr rfl)) _

/-- What goes' closure keeps: ok, n. -/
def GoRep (bok bn : Nat) : Nat → (Nat → Prop) → World → Prop := fun n S W =>
  (∀ k, k = bok ∨ k = bn → S k) ∧ Blk W bok #[.bool true] 4 ∧ Blk W bn #[.int .i64 (n : Nat)] 3

set_option maxRecDepth 100000 in
set_option maxHeartbeats 1000000 in
theorem goes_c {n : Nat} {mb : Nat} {idle drain now low : Int} {ls : List (KSM × VSM)} {F : Nat → Prop} {w : World} {A : Option Addr} {cap : Nat} {most : Int} {xs : List (KSM × VSM)}
    (hI : MkI mb idle drain now low ls F w) (ho : MkOk idle drain now low ls) (hr : Reads1 w A (flatS xs)) (hxe : awS now idle ls = xs) :
    CallsIn Fence.wide n Try.prog 36 #[.pointer (some ⟨mb, 0, none⟩), .slice A xs.length cap, .int .i64 most] w (fun e w' => e = .returned (.bool true) ∧ Upd (fun _ => False) w w') := by
  have hlen : xs.length ≤ 100000 := by rw [← hxe]; have := awS_len now idle ls; have := ho.len; omega
  have hxl : awL now idle ls = xs.map fun x => (x.1, x.2.1) := by rw [awL_awS, hxe]
  have kA : CallsIn Fence.wide 0 Try.prog 14 #[.pointer (some ⟨mb, 0, none⟩)] ((((w.alloc (.cells #[.slice A xs.length cap] 41)).alloc (.cells #[.int .i64 most] 3)).alloc (.cells #[.int .i64 0] 3)).alloc (.cells #[.bool true] 4)) fun e W1 => ∃ bv, e = .returned (.func (.func 31) #[] #[.pointer (some ⟨bv, 0, none⟩)]) ∧
      CallV Try.prog (.func (.func 31) #[] #[.pointer (some ⟨bv, 0, none⟩)]) #[goesF (w.heap.size + 1 + 1 + 1) (w.heap.size + 1 + 1) w.heap.size (w.heap.size + 1)] W1
      (fun _ W' => ∃ N : Nat, (N : Int) = min (xs.length : Int) (max most 1) ∧ Blk W' (w.heap.size + 1 + 1 + 1) #[.bool true] 4 ∧ Blk W' (w.heap.size + 1 + 1) #[.int .i64 (N : Nat)] 3 ∧ Blk W' w.heap.size #[.slice A xs.length cap] 41 ∧ Blk W' (w.heap.size + 1) #[.int .i64 most] 3 ∧
        Upd (fun _ => False) w W') := by
    have b0 := (((Blk.new w #[.slice A xs.length cap] 41).alloc (.cells #[.int .i64 most] 3)).alloc (.cells #[.int .i64 0] 3)).alloc (.cells #[.bool true] 4)
    have b1 := ((Blk.new (w.alloc (.cells #[.slice A xs.length cap] 41)) #[.int .i64 most] 3).alloc (.cells #[.int .i64 0] 3)).alloc (.cells #[.bool true] 4)
    have b2 := (Blk.new ((w.alloc (.cells #[.slice A xs.length cap] 41)).alloc (.cells #[.int .i64 most] 3)) #[.int .i64 0] 3).alloc (.cells #[.bool true] 4)
    have b3 := Blk.new (((w.alloc (.cells #[.slice A xs.length cap] 41)).alloc (.cells #[.int .i64 most] 3)).alloc (.cells #[.int .i64 0] 3)) #[.bool true] 4
    have u0 : Upd (fun _ => False) w ((((w.alloc (.cells #[.slice A xs.length cap] 41)).alloc (.cells #[.int .i64 most] 3)).alloc (.cells #[.int .i64 0] 3)).alloc (.cells #[.bool true] 4)) :=
      ((((Upd.refl _ w).stepAlloc _).stepAlloc _).stepAlloc _).stepAlloc _
    have z5 : ((((w.alloc (.cells #[.slice A xs.length cap] 41)).alloc (.cells #[.int .i64 most] 3)).alloc (.cells #[.int .i64 0] 3)).alloc (.cells #[.bool true] 4)).heap.size = w.heap.size + 4 := by simp
    simp only [World.size_alloc] at b1 b2 b3
    generalize ((((w.alloc (.cells #[.slice A xs.length cap] 41)).alloc (.cells #[.int .i64 most] 3)).alloc (.cells #[.int .i64 0] 3)).alloc (.cells #[.bool true] 4)) = W0 at *
    refine (markAwake_c (n := 0)).mono ?_
    rintro e W1 ⟨bv, rfl, q1, q2, q3⟩
    have u1 := u0.trans' q3
    have hI1 := hI.upd u1 fun _ _ => id
    have hseq := awakeSeq hI1 ho q1
    have hFw := hI.lt
    replace b0 := b0.upd q3 id
    replace b1 := b1.upd q3 id
    replace b2 := b2.upd q3 id
    replace b3 := b3.upd q3 id
    have zW := q3.size
    have hbvl := q1.lt
    have hAw : ∀ k, blkOf' A (flatS xs).length k → k < w.heap.size := hr.lt'
    have hr1 := hr.agree' (w' := W1) (u1.agree fun k hk => ⟨hAw k hk, id⟩)
    rw [hxl] at hseq
    have hxs : ((xs.map fun x => (x.1, x.2.1)).map fun x => ((), x)).map (·.2) = xs.map fun x => (x.1, x.2.1) := by simp [Function.comp_def]
    clear hI hI1
    refine ⟨bv, rfl, (hseq.run Nat (goStep most) (GoRep (w.heap.size + 1 + 1 + 1) (w.heap.size + 1 + 1)) _ 0 (fun k => k = w.heap.size + 1 + 1 + 1 ∨ k = w.heap.size + 1 + 1) W1
      ⟨⟨_, _, _, rfl⟩, Nat.le_refl _, fun _ _ => rfl, ?_, ?_, ?_, ?_⟩ trivial).mono ?_⟩
    · rintro k (rfl | rfl) <;> refine ⟨by omega, fun h => ?_, id⟩ <;> (rcases h with h | h; omega; have := hFw _ h; omega)
    · rintro n S W1 W2 ⟨h1, h2, h4⟩ hA _
      exact ⟨h1, h2.agree hA (h1 _ (.inl rfl)), h4.agree hA (h1 _ (.inr rfl))⟩
    · rintro pre x suf s1 S1 W2 he hgo ⟨h1, h2, h4⟩ hu hS1
      have e1 := goStep_go most pre 0 s1 hgo
      rw [hxs] at he
      have hk : s1 < xs.length := by
        have := congrArg List.length he
        simp at this; omega
      have hx : x = (xs[s1].1, xs[s1].2.1) := by
        have h3 : (xs.map fun x => (x.1, x.2.1))[s1]? = some x := by rw [he, e1]; simp
        rw [List.getElem?_map, List.getElem?_eq_getElem hk, Option.map_some, Option.some.injEq] at h3
        exact h3.symm
      have hne : ∀ k, k < w.heap.size + 2 → ¬ ((k = w.heap.size + 1 + 1 + 1 ∨ k = w.heap.size + 1 + 1) ∨ False) := by
        rintro k h1 (h | h)
        · omega
        · exact h
      have hrW := hr1.agree' (w' := W2) (hu.agree (fun k hk => ⟨by have := hAw k hk; omega, hne k (by have := hAw k hk; omega)⟩))
      rw [hx]
      refine (goes1 h2 h4 (b0.upd hu (hne _ (by omega))) (b1.upd hu (hne _ (by omega))) hk hlen hrW rfl (by omega) (by omega) (by omega) (by omega) (by omega)).mono ?_
      rintro v W3 ⟨rfl, g1, g3, g4⟩
      refine ⟨S1, rfl, ⟨h1, g1, g3⟩, g4.mono (fun k _ hk => ?_), fun k hk => ⟨by have := (hS1 k hk).1; have := g4.size; omega, .inl hk⟩⟩
      rcases hk with rfl | rfl
      · exact h1 _ (.inl rfl)
      · exact h1 _ (.inr rfl)
    · exact ⟨fun _ h => h, b3, by simpa using b2⟩
    · rintro v W' ⟨S', ⟨h1, h2, h4⟩, ho, hu, hS'⟩
      have hne : ∀ k, k < w.heap.size + 2 → ¬ ((k = w.heap.size + 1 + 1 + 1 ∨ k = w.heap.size + 1 + 1) ∨ False) := by
        rintro k h1 (h | h)
        · omega
        · exact h
      refine ⟨(goF (goStep most) 0 (((xs.map fun x => (x.1, x.2.1)).map fun x => ((), x)).map (·.2))).1, ?_, h2, h4, b0.upd hu (hne _ (by omega)), b1.upd hu (hne _ (by omega)), ?_⟩
      · rw [goStep_end most _ 0 (by simp; omega), hxs]; simp
      · refine (u1.mono (fun _ _ h => h.elim)).trans hu (fun k hk => ?_)
        rcases hk with h | h
        · exact .inr (by omega)
        · exact .inl h
  clear hI ho hr hxl hxe
  replace kA := Lib.hid kA
  refine callsIn_any (n := 0) (callsIn_of_wp Try.func36 rfl trivial ?_)
  simp only [Try.ntmps36, List.size_toArray, List.length_cons, List.length_nil, Nat.reduceAdd, Nat.reduceSub, Array.replicate_succ, Array.replicate_zero, List.push_toArray, List.append_toArray, List.nil_append, List.cons_append]
  by_cases h1 : most < 1 <;> by_cases h2 : (xs.length : Int) ≤ max most 1
  all_goals
    replace h2 := Lib.hid h2
    gi_wp2_with (first | refine (⟨trivial, rfl, ?_⟩ : Fence.wide.fn _ ∧ Fence.wide.depth = none ∧ _) | (gi_at_call 14; (with_reducible refine kA.out.mono ?_); rintro e W1 ⟨bv, rfl, hrun⟩; (replace hrun := Lib.hid hrun)) | ((with_reducible refine listV1 hrun.out ?_ ?_ ?_); rfl; rfl; rintro v W' ⟨N, hN, c1, c2, c3, c4, hu⟩; (replace hN := Lib.hid hN); (replace c1 := c1.cell0); (replace c2 := c2.cell0); (replace c3 := c3.cell0); (replace c4 := c4.cell0)) | refine (⟨trivial, ?_⟩ : Fence.wide.fn _ ∧ _))
    all_goals
      refine bodyPost_ret (results_tmp rfl _ _ _) rfl ⟨?_, hu⟩
      have hN' := hN.out
      have h2' := h2.out
      refine congrArg (fun b => Ending.returned (Value.bool b)) ?_
      simp only [beq_iff_eq]
      omega
end Go.Proofs.Ytpljdckppmobeaa

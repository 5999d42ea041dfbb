/- SackRuns: the closure, and a sequence that drives it. -/
import Derived.Test.YtjlobcbjhnfjcaaProg
import Derived.Test.YtjlobcbjhnfjcaaBase
import Derived.Test.YtjlobcbjhnfjcaaSkCo
import Derived.Test.YtjlobcbjhnfjcaaSkPy
namespace Go.Proofs.Ytjlobcbjhnfjcaa
open Go.RowKit Go.Shelf
attribute [local go_sem] Oper.semAt_some

abbrev goStepA {α : Type} (most : Int) : Nat → α → Nat × Bool := fun n _ => (n + 1, decide ((n : Int) + 1 < most))
theorem goStepA_go {α : Type} (most : Int) : ∀ (pre : List α) (n s1 : Nat), goF (goStepA most) n pre = (s1, true) → s1 = n + pre.length
  | [], n, s1, h => by simp [goF] at h; simp [h]
  | x :: xs, n, s1, h => by
    simp only [goF] at h
    by_cases hb : (n : Int) + 1 < most
    · simp only [hb, decide_true, if_true] at h
      have a := goStepA_go most xs (n + 1) s1 h
      simp [a]; omega
    · simp [hb] at h
theorem goStepA_end {α : Type} (most : Int) : ∀ (l : List α) (n : Nat), (n : Int) < max most 1 → ((goF (goStepA most) n l).1 : Int) = min (n + l.length : Int) (max most 1)
  | [], n, h => by simp only [goF, List.length_nil]; omega
  | x :: xs, n, h => by
    simp only [goF, List.length_cons]
    by_cases hb : (n : Int) + 1 < most
    · simp only [hb, decide_true, if_true]
      rw [goStepA_end most xs (n + 1) (by omega)]
      push_cast; omega
    · simp only [hb, decide_false, Bool.false_eq_true, if_false]
      push_cast; omega
/-- The closure over its five boxes. -/
abbrev runsF (bok bn bo bs bm : Nat) : Value := .func (.func 13) #[] #[.pointer (some ⟨bok, 0, none⟩), .pointer (some ⟨bn, 0, none⟩), .pointer (some ⟨bo, 0, none⟩), .pointer (some ⟨bs, 0, none⟩), .pointer (some ⟨bm, 0, none⟩)]
section
variable {W : World} {bok bn bo bs bm : Nat} {A A2 : Option Addr} {cap cap2 : Nat} {most : Int} {once L : List Int}
set_option maxRecDepth 100000 in
set_option maxHeartbeats 1000000 in
theorem runs1 {k : Nat} {x c : Int} (hok : Blk W bok #[.bool true] 4) (hn : Blk W bn #[.int .i64 k] 3) (ho : Blk W bo #[.slice A once.length cap] 22) (hs : Blk W bs #[.slice A2 L.length cap2] 22) (hm : Blk W bm #[.int .i64 most] 3)
    (hk : k < once.length) (hlen : once.length ≤ 100000) (hr : Reads1 W A (intsV once)) (hx : once[k]? = some x) (hr2 : Reads1 W A2 (intsV L)) (hlen2 : L.length ≤ 1000) (hc : c = cnt cmpI x L)
    (d1 : bok ≠ bn) (d2 : bok ≠ bo) (d3 : bok ≠ bs) (d4 : bok ≠ bm) (d5 : bn ≠ bo) (d6 : bn ≠ bs) (d7 : bn ≠ bm) :
    CallV Try.prog (runsF bok bn bo bs bm) (encII (x, c)) W
      fun v W' => v = .bool (decide ((k : Int) + 1 < most)) ∧ Blk W' bok #[.bool true] 4 ∧ Blk W' bn #[.int .i64 ((k + 1 : Nat) : Int)] 3 ∧ Upd (fun j => j = bok ∨ j = bn) W W' := by
  refine CallV.of_calls (n := 0) (enters_of Try.func13 (by kernel_rfl) rfl) ?_
  have c1 := hok.cell0
  have c2 := hn.cell0
  have c3 := ho.cell0
  have c4 := hs.cell0
  have c5 := hm.cell0
  have f1 := hok.frozen 0
  have f2 := hn.frozen 0
  have k1 := Lib.hid ((many06_c (n := 0) (cap := cap2) (x := x) hr2 (by omega)).mono (R' := fun e W2 => e = .returned (.int .i64 c) ∧ W2 = W) (by rintro e W2 ⟨rfl, rfl⟩; exact ⟨by rw [hc], rfl⟩))
  obtain ⟨a, rfl, he⟩ := hr k (.int .i64 x) (by simp [intsV, hx])
  have hw1 : IntKind.i64.wrap ((k : Int) + 1) = (k : Int) + 1 := Go.IntWalk.i64_in _ ⟨by omega, by omega⟩
  clear hr hx hr2 hc
  refine callsIn_of_wp Try.func13 rfl trivial ?_
  simp only [Try.ntmps13, List.size_toArray, List.length_cons, List.length_nil, Nat.reduceAdd, Nat.reduceSub, Array.replicate_succ, Array.replicate_zero, List.push_toArray, List.append_toArray, List.nil_append, List.cons_append]
  gi_wp2_with (first | refine (⟨trivial, rfl, ?_⟩ : Fence.wide.fn _ ∧ Fence.wide.depth = none ∧ _) | (gi_at_call 14; (with_reducible refine k1.out.mono ?_); rintro e W1 ⟨rfl, hW1⟩; (subst hW1)) | refine (⟨trivial, ?_⟩ : Fence.wide.fn _ ∧ _))
  go_ret
  refine ⟨_, rfl, ?_, ?_, ?_, ?_⟩
  · rfl
  · exact (hok.set 0 _).other (p := ⟨bn, 0, none⟩) d1 _
  · exact (hn.other (p := ⟨bok, 0, none⟩) d1.symm _).set 0 _
  · exact ((Upd.refl _ _).stepSet (.inl (.inl rfl)) _).stepSet (.inl (.inr rfl)) _
set_option maxRecDepth 100000 in
set_option maxHeartbeats 1000000 in
/-- What the sequence leaves. -/
theorem runs_run {fv : Value} {D : Nat → Prop} {lr : List (Int × Int)} (hseq : SeqO Try.prog fv encII (lr.map fun x => ((), x)) () () (fun _ _ => True) (fun _ => False) D W) (hbag : Bag cmpI lr L)
    (hok : Blk W bok #[.bool true] 4) (hn : Blk W bn #[.int .i64 0] 3) (ho : Blk W bo #[.slice A (lr.map (·.1)).length cap] 22) (hs : Blk W bs #[.slice A2 L.length cap2] 22) (hm : Blk W bm #[.int .i64 most] 3)
    (hlen : lr.length ≤ 100000) (hr : Reads1 W A (intsV (lr.map (·.1)))) (hr2 : Reads1 W A2 (intsV L)) (hlen2 : L.length ≤ 1000)
    (hD : ¬ D bok ∧ ¬ D bn) (hA : ¬ blkOf A bok ∧ ¬ blkOf A bn) (hA2 : ¬ blkOf A2 bok ∧ ¬ blkOf A2 bn) (d1 : bok ≠ bn) (d2 : bok ≠ bo) (d3 : bok ≠ bs) (d4 : bok ≠ bm) (d5 : bn ≠ bo) (d6 : bn ≠ bs) (d7 : bn ≠ bm) :
    CallV Try.prog fv #[runsF bok bn bo bs bm] W fun _ W' => ∃ N : Nat, (N : Int) = min (lr.length : Int) (max most 1) ∧ Blk W' bok #[.bool true] 4 ∧ Blk W' bn #[.int .i64 (N : Nat)] 3 ∧ Blk W' bo #[.slice A (lr.map (·.1)).length cap] 22 ∧ Blk W' bm #[.int .i64 most] 3 ∧ Upd (fun k => k = bok ∨ k = bn) W W' := by
  have hxs : (lr.map fun x => ((), x)).map (·.2) = lr := by simp [Function.comp_def]
  have zo := hok.lt
  have zn := hn.lt
  have z1 := ho.lt
  have z2 := hs.lt
  have z3 := hm.lt
  refine (hseq.run Nat (goStepA most) (HasRep bok bn) _ 0 (fun k => k = bok ∨ k = bn) W ⟨⟨_, _, _, rfl⟩, Nat.le_refl _, fun _ _ => rfl, ?_, ?_, ?_, ?_⟩ trivial).mono ?_
  · rintro k (rfl | rfl)
    · exact ⟨zo, hD.1, id⟩
    · exact ⟨zn, hD.2, id⟩
  · rintro n S W1 W2 ⟨h1, h2, h4⟩ hA _
    exact ⟨h1, h2.agree hA (h1 _ (.inl rfl)), h4.agree hA (h1 _ (.inr rfl))⟩
  · rintro pre x suf s1 S1 W1 he hgo ⟨h1, h2, h4⟩ hu hS1
    have e1 := goStepA_go most pre 0 s1 hgo
    rw [hxs] at he
    have hk : s1 < lr.length := by rw [he, e1]; simp
    have hx : (lr.map (·.1))[s1]? = some x.1 := by rw [he, e1]; simp
    have hxc := ((hbag.2 x).1 (by rw [he]; simp)).2
    have hne : ∀ k, k ≠ bok → k ≠ bn → ¬ ((k = bok ∨ k = bn) ∨ False) := by
      rintro k h1 h2 ((h | h) | h)
      · exact h1 h
      · exact h2 h
      · exact h
    have hrW := hr.agree' (w' := W1) (hu.agree fun k hk => ⟨hr.lt' k hk, hne k (fun h => hA.1 (h ▸ hk.2)) (fun h => hA.2 (h ▸ hk.2))⟩)
    have hrW2 := hr2.agree' (w' := W1) (hu.agree fun k hk => ⟨hr2.lt' k hk, hne k (fun h => hA2.1 (h ▸ hk.2)) (fun h => hA2.2 (h ▸ hk.2))⟩)
    refine (runs1 h2 h4 (ho.upd hu (hne _ d2.symm d5.symm)) (hs.upd hu (hne _ d3.symm d6.symm)) (hm.upd hu (hne _ d4.symm d7.symm)) (by simpa using hk) (by simpa using hlen) hrW hx hrW2 hlen2 hxc d1 d2 d3 d4 d5 d6 d7).mono ?_
    rintro v W2 ⟨rfl, g1, g3, g4⟩
    refine ⟨S1, rfl, ⟨h1, g1, g3⟩, g4.mono (fun k _ hk => ?_), fun k hk => ⟨by have := (hS1 k hk).1; have := g4.size; omega, .inl hk⟩⟩
    rcases hk with rfl | rfl
    · exact h1 _ (.inl rfl)
    · exact h1 _ (.inr rfl)
  · exact ⟨fun _ h => h, hok, by simpa using hn⟩
  · rintro v W' ⟨S', ⟨h1, h2, h4⟩, _, hu, hS'⟩
    have hne : ∀ k, k ≠ bok → k ≠ bn → ¬ ((k = bok ∨ k = bn) ∨ False) := by
      rintro k h1 h2 ((h | h) | h)
      · exact h1 h
      · exact h2 h
      · exact h
    refine ⟨(goF (goStepA most) 0 ((lr.map fun x => ((), x)).map (·.2))).1, ?_, h2, h4, ho.upd hu (hne _ d2.symm d5.symm), hm.upd hu (hne _ d4.symm d7.symm), hu.mono fun k _ hk => ?_⟩
    · rw [goStepA_end most _ 0 (by simp; omega), hxs]; simp
    · rcases hk with h | h
      · exact h
      · exact h.elim
end
theorem own_empty2 (w : World) (o o' : Obj) (e : TypeId) (size : Nat) : (((w.alloc o).alloc o').alloc (.cells #[] e)).ownsRow (w.heap.size + 1 + 1) e size (.slice (some ⟨w.heap.size + 1 + 1, 0, none⟩) 0 0) 0 [] := by
  have h := own_emptyS ((w.alloc o).alloc o') e size
  rwa [World.size_alloc, World.size_alloc] at h
set_option maxRecDepth 100000 in
theorem runs_fin {w W2 W3 W4 W6 : World} {sb g cap3 c1 bv : Nat} {F : Nat → Prop} {A1 : Option Addr} {L once : List Int} {lr : List (Int × Int)} {most : Int} (h0 : Two sb L L 60 F A1 c1 w W2) (u3 : Upd (fun _ => False) W2 W3) (q6 : Blk W3 W2.heap.size #[.slice A1 L.length c1] 22) (q7 : Blk W3 (W2.heap.size + 1) #[.bool true] 4) (hg1 : W2.heap.size + 1 + 1 ≤ g) (hg2 : g < W3.heap.size)
    (g4 : Upd (fun j => j = g) W3 W4) (hr4 : Reads1 W4 (some ⟨g, 0, none⟩) (intsV once)) (honce : Lib.compact L = once) (hbag : Bag cmpI lr L) (hbv : (((W4.alloc (.cells #[.slice (some ⟨g, 0, none⟩) once.length cap3] 22)).alloc (.cells #[.int .i64 0] 3)).alloc (.cells #[.int .i64 most] 3)).heap.size ≤ bv)
    (u6 : Upd (fun _ => False) (((W4.alloc (.cells #[.slice (some ⟨g, 0, none⟩) once.length cap3] 22)).alloc (.cells #[.int .i64 0] 3)).alloc (.cells #[.int .i64 most] 3)) W6)
    (hseq : SeqO Try.prog (.func (.func 37) #[] #[.pointer (some ⟨bv, 0, none⟩)]) encII (lr.map fun x => ((), x)) () () (fun _ _ => True) (fun _ => False) (fun j => j = bv ∨ (F j ∧ j ≠ sb)) W6) :
    CallV Try.prog (.func (.func 37) #[] #[.pointer (some ⟨bv, 0, none⟩)]) #[runsF (W2.heap.size + 1) (W4.heap.size + 1) W4.heap.size W2.heap.size (W4.heap.size + 1 + 1)] W6 fun _ W7 => ∃ N : Nat, (N : Int) = min (once.length : Int) (max most 1) ∧ W7.cell? ⟨W2.heap.size + 1, 0, none⟩ = some (.bool true) ∧
      W7.cell? ⟨W4.heap.size + 1, 0, none⟩ = some (.int .i64 N) ∧ W7.cell? ⟨W4.heap.size, 0, none⟩ = some (.slice (some ⟨g, 0, none⟩) once.length cap3) ∧ W7.cell? ⟨W4.heap.size + 1 + 1, 0, none⟩ = some (.int .i64 most) ∧ Upd (fun _ => False) w W7 := by
  have hlr := h0.sack.len_le
  have hec := honce.symm.trans (compact_bag hbag h0.srt)
  have hsh := bag_short ordrI hbag
  subst hec
  have z4 := g4.size
  have z6 := u6.size
  have z3 := u3.size
  have zb := h0.base.size
  simp only [World.size_alloc] at hbv z6
  have u5 := (((Upd.refl (fun _ => False) W4).stepAlloc (.cells #[.slice (some ⟨g, 0, none⟩) (lr.map (·.1)).length cap3] 22)).stepAlloc (.cells #[.int .i64 0] 3)).stepAlloc (.cells #[.int .i64 most] 3)
  have u46 := u5.trans' u6
  have p6 := (q6.upd g4 (by omega)).upd u46 id
  have p7 := (q7.upd g4 (by omega)).upd u46 id
  have b0 := (((Blk.new W4 #[.slice (some ⟨g, 0, none⟩) (lr.map (·.1)).length cap3] 22).alloc (.cells #[.int .i64 0] 3)).alloc (.cells #[.int .i64 most] 3)).upd u6 id
  have b1 := ((Blk.new (W4.alloc (.cells #[.slice (some ⟨g, 0, none⟩) (lr.map (·.1)).length cap3] 22)) #[.int .i64 0] 3).alloc (.cells #[.int .i64 most] 3)).upd u6 id
  have b2 := (Blk.new ((W4.alloc (.cells #[.slice (some ⟨g, 0, none⟩) (lr.map (·.1)).length cap3] 22)).alloc (.cells #[.int .i64 0] 3)) #[.int .i64 most] 3).upd u6 id
  simp only [World.size_alloc] at b1 b2
  have hF := h0.sack.lt
  have u26 := (u3.trans g4 (fun j hj => .inr (by omega))).trans' u46
  have h6 := h0.upd u26
  have hr6 := hr4.agree' (w' := W6) (u46.agree fun j hj => ⟨hr4.lt' j hj, id⟩)
  refine (runs_run hseq hbag p7 b1 b0 p6 b2 (by omega) hr6 h6.list (by omega) ⟨?_, ?_⟩ ⟨?_, ?_⟩ ⟨?_, ?_⟩ (by omega) (by omega) (by omega) (by omega) (by omega) (by omega) (by omega)).mono ?_
  · rintro (h | ⟨h, _⟩)
    · omega
    · have := hF _ h; omega
  · rintro (h | ⟨h, _⟩)
    · omega
    · have := hF _ h; omega
  · rintro ⟨_, e, h⟩; cases e; simp only at h; omega
  · rintro ⟨_, e, h⟩; cases e; simp only at h; omega
  · intro h; have := (h0.own _ h).2.1; omega
  · intro h; have := (h0.own _ h).2.1; omega
  · rintro v W7 ⟨N, hN, c1, c2, c3, c5, hu⟩
    refine ⟨N, by rw [hN, List.length_map], c1.cell0, c2.cell0, c3.cell0, c5.cell0, (h0.base.trans' u26).trans hu fun j hj => .inr (by omega)⟩
end Go.Proofs.Ytjlobcbjhnfjcaa

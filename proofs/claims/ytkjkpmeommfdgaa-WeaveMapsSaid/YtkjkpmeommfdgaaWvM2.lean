/- WeaveMaps: Number gone through; Join's maker. -/
import Derived.Test.YtkjkpmeommfdgaaProg
import Derived.Test.YtkjkpmeommfdgaaBase
import Derived.Test.YtkjkpmeommfdgaaWvI
import Derived.Test.YtkjkpmeommfdgaaWvG
import Derived.Test.YtkjkpmeommfdgaaWvL
import Derived.Test.YtkjkpmeommfdgaaWvH
import Derived.Test.YtkjkpmeommfdgaaWvN
import Derived.Test.YtkjkpmeommfdgaaWvMH
namespace Go.Proofs.Ytkjkpmeommfdgaa
open Go.RowKit Go.Shelf
attribute [local go_sem] Oper.semAt_some

set_option maxRecDepth 100000 in
set_option maxHeartbeats 1000000 in
theorem num1 {W : World} {bok bn bl bm : Nat} {A : Option Addr} {cap k : Nat} {x m : Int} {xs : List Int}
    (hok : Blk W bok #[.bool true] 4) (hn : Blk W bn #[.int .i64 k] 3) (hl : Blk W bl #[.slice A xs.length cap] 22) (hm : Blk W bm #[.int .i64 m] 3)
    (hk : k < xs.length) (hlen : xs.length ≤ 1000) (hr : Reads1 W A (xs.map (Value.int .i64))) (hx : xs[k]? = some x) (d1 : bok ≠ bn) (d2 : bn ≠ bm) (d3 : bok ≠ bm) (d4 : bok ≠ bl) (d5 : bn ≠ bl) :
    CallV Try.prog (.func (.func 41) #[] #[.pointer (some ⟨bok, 0, none⟩), .pointer (some ⟨bn, 0, none⟩), .pointer (some ⟨bl, 0, none⟩), .pointer (some ⟨bm, 0, none⟩)]) (encP ((k : Int), x)) W
      fun v W' => v = .bool (decide ((k : Int) + 1 < m)) ∧ Blk W' bok #[.bool true] 4 ∧ Blk W' bn #[.int .i64 ((k + 1 : Nat) : Int)] 3 ∧ Upd (fun j => j = bok ∨ j = bn) W W' := by
  refine CallV.of_calls (n := 0) (enters_of Try.func41 (by kernel_rfl) rfl) ?_
  refine callsIn_of_wp Try.func41 rfl trivial ?_
  simp only [Try.ntmps41, List.size_toArray, List.length_cons, List.length_nil, Nat.reduceAdd, Nat.reduceSub, Array.replicate_succ, Array.replicate_zero, List.push_toArray, List.append_toArray, List.nil_append, List.cons_append]
  obtain ⟨a, rfl, hc⟩ := hr k (.int .i64 x) (by simp [hx])
  have c1 := hok.cell0
  have c2 := hn.cell0
  have c3 := hl.cell0
  have c4 := hm.cell0
  have f1 := hok.frozen 0
  have f2 := hn.frozen 0
  have l1 := hok.lt
  have l2 := hn.lt
  have hw : IntKind.i64.wrap ((k : Int) + 1) = (k : Int) + 1 := Go.IntWalk.i64_in _ ⟨by omega, by omega⟩
  have hlt : (k : Int) < xs.length := by omega
  replace hr := Lib.hid hr
  replace hok := Lib.hid hok
  replace hn := Lib.hid hn
  clear hx
  gi_wp2
  go_ret
  refine ⟨_, rfl, rfl, ?_, ?_, ?_⟩
  · exact (hok.out.set 0 _).other (p := ⟨bn, 0, none⟩) d1 _
  · exact (hn.out.other (p := ⟨bok, 0, none⟩) d1.symm _).set 0 _
  · exact ((Upd.refl _ _).stepSet (.inl (.inl rfl)) _).stepSet (.inl (.inr rfl)) _

theorem outs_num_get : ∀ (xs : List Int) (i k : Nat), (outs trNum i xs)[k]? = xs[k]?.map fun x => (((i + k : Nat) : Int), x)
  | [], _, _ => rfl
  | x :: xs, i, 0 => by simp [outs]
  | x :: xs, i, k + 1 => by
    simp only [outs, if_true, Option.toList, List.cons_append, List.nil_append, List.getElem?_cons_succ]
    rw [outs_num_get xs (i + 1) k]
    congr 1
    funext z
    exact Prod.ext (by simp; omega) rfl
theorem outs_num_len : ∀ (xs : List Int) (i : Nat), (outs trNum i xs).length = xs.length
  | [], _ => rfl
  | x :: xs, i => by simp [outs, outs_num_len xs]

abbrev numStep (m : Int) : Nat → Int × Int → Nat × Bool := fun n _ => (n + 1, decide ((n : Int) + 1 < m))
theorem numStep_go (m : Int) : ∀ (pre : List (Int × Int)) (n s1 : Nat), goF (numStep m) n pre = (s1, true) → s1 = n + pre.length
  | [], n, s1, h => by simp [goF] at h; simp [h]
  | x :: xs, n, s1, h => by
    simp only [goF] at h
    by_cases hb : (n : Int) + 1 < m
    · simp only [hb, decide_true, if_true] at h
      have a := numStep_go m xs (n + 1) s1 h
      simp [a]; omega
    · simp [hb] at h
theorem numStep_end (m : Int) : ∀ (l : List (Int × Int)) (n : Nat), (n : Int) < max m 1 → ((goF (numStep m) n l).1 : Int) = min (n + l.length : Int) (max m 1)
  | [], n, h => by simp only [goF, List.length_nil]; omega
  | x :: xs, n, h => by
    simp only [goF, List.length_cons]
    by_cases hb : (n : Int) + 1 < m
    · simp only [hb, decide_true, if_true]
      rw [numStep_end m xs (n + 1) (by omega)]
      omega
    · simp only [hb, decide_false, Bool.false_eq_true, if_false]
      omega
def NumRep (bok bn : Nat) : Nat → (Nat → Prop) → World → Prop := fun n S W => (∀ k, k = bok ∨ k = bn → S k) ∧ Blk W bok #[.bool true] 4 ∧ Blk W bn #[.int .i64 (n : Nat)] 3

/-- The sequence gone through by that consumer. -/
theorem number_run {W : World} {bok bn bl bm bv bs : Nat} {A : Option Addr} {cap : Nat} {m : Int} {xs : List Int}
    (hok : Blk W bok #[.bool true] 4) (hn : Blk W bn #[.int .i64 0] 3) (hl : Blk W bl #[.slice A xs.length cap] 22) (hm : Blk W bm #[.int .i64 m] 3) (hbv : Blk W bv #[.slice A xs.length cap] 22)
    (hbs : Blk W bs #[.func (.func 76) #[] #[.pointer (some ⟨bv, 0, none⟩)]] 32) (hlen : xs.length ≤ 900) (hr : Reads1 W A (xs.map (Value.int .i64))) (d2 : bn ≠ bm) (hA : ∀ k, blkOf' A xs.length k → k ≠ bok ∧ k ≠ bn) :
    CallV Try.prog (.func (.func 83) #[] #[.pointer (some ⟨bs, 0, none⟩)]) #[.func (.func 41) #[] #[.pointer (some ⟨bok, 0, none⟩), .pointer (some ⟨bn, 0, none⟩), .pointer (some ⟨bl, 0, none⟩), .pointer (some ⟨bm, 0, none⟩)]] W
      fun _ W' => Blk W' bok #[.bool true] 4 ∧ Blk W' bn #[.int .i64 (min (xs.length : Int) (max m 1))] 3 ∧ Upd (fun k => k = bok ∨ k = bn) W W' := by
  have hM : (1000 : Nat) ≤ maxLen := by decide
  have hseq := values_seq hbv hr (by omega)
  have hp := number_seq hseq hbs id (by simp; omega)
  have hL : (evsT trNum 0 (xs.map fun x => ((), x))).map (·.2) = outs trNum 0 xs := by
    rw [evsT_snd]; simp [Function.comp_def]
  have dk := Blk.ne hok hn (by decide)
  refine (hp.run Nat (numStep m) (NumRep bok bn) _ 0 (fun k => k = bok ∨ k = bn) W ⟨⟨_, _, _, rfl⟩, Nat.le_refl _, Agree.refl _ _, ?_, ?_, ?_, ?_⟩ trivial).mono ?_
  · rintro k (rfl | rfl)
    · refine ⟨hok.lt, ?_, id⟩
      rintro ((h | h) | h)
      · exact Blk.ne hok hbv (by decide) h
      · exact (hA _ h).1 rfl
      · exact Blk.ne hok hbs (by decide) h
    · refine ⟨hn.lt, ?_, id⟩
      rintro ((h | h) | h)
      · exact Blk.ne hn hbv (by decide) h
      · exact (hA _ h).2 rfl
      · exact Blk.ne hn hbs (by decide) h
  · rintro s S W1 W2 ⟨h1, h2, h3⟩ ha _
    exact ⟨h1, h2.agree ha (h1 _ (.inl rfl)), h3.agree ha (h1 _ (.inr rfl))⟩
  · rintro pre x suf s1 S1 W1 he hgo ⟨h1, h2, h3⟩ hu hS1
    have e1 := numStep_go m pre 0 s1 hgo
    rw [hL] at he
    have hx : (outs trNum 0 xs)[s1]? = some x := by rw [he, e1]; simp
    rw [outs_num_get, Option.map_eq_some_iff] at hx
    obtain ⟨z, hz, rfl⟩ := hx
    have hk : s1 < xs.length := (List.getElem?_eq_some_iff.1 hz).1
    have hne : ∀ k, k ≠ bok → k ≠ bn → ¬ ((k = bok ∨ k = bn) ∨ False) := by rintro k a b ((h | h) | h); exact a h; exact b h; exact h
    have hr1 := hr.agree' (w' := W1) (hu.agree fun k hk => ⟨hr.lt' k hk, hne k (hA k (by simpa using hk)).1 (hA k (by simpa using hk)).2⟩)
    rw [Nat.zero_add]
    refine (num1 h2 h3 (hl.upd hu (hne _ (Blk.ne hl hok (by decide)) (Blk.ne hl hn (by decide)))) (hm.upd hu (hne _ (Blk.ne hm hok (by decide)) d2.symm)) hk (by omega) hr1 hz dk d2 (Blk.ne hok hm (by decide)) (Blk.ne hok hl (by decide)) (Blk.ne hn hl (by decide))).mono ?_
    rintro v W2 ⟨rfl, g1, g2, g3⟩
    exact ⟨S1, rfl, ⟨h1, g1, g2⟩, g3.mono (fun k _ hk => h1 k hk), fun k hk => ⟨by have := (hS1 k hk).1; have := g3.size; omega, .inl hk⟩⟩
  · exact ⟨fun _ h => h, hok, hn⟩
  · rintro v W' ⟨S', ⟨h1, h2, h3⟩, _, hu, _⟩
    rw [hL, numStep_end m _ 0 (by omega), outs_num_len] at h3
    exact ⟨h2, by simpa using h3, hu.mono fun k _ h => h.elim id fun h => h.elim⟩

set_option maxRecDepth 100000 in
set_option maxHeartbeats 1000000 in
theorem join3_v {w : World} {bl bm : Nat} {A1 A2 : Option Addr} {c1 c2 : Nat} {xs ys : List Int} (hl : Blk w bl #[.slice A1 xs.length c1] 22) (hm : Blk w bm #[.slice A2 ys.length c2] 22)
    (hr1 : Reads1 w A1 (xs.map (Value.int .i64))) (hr2 : Reads1 w A2 (ys.map (Value.int .i64))) :
    CallV Try.prog (.func (.func 42) #[] #[.pointer (some ⟨bl, 0, none⟩), .pointer (some ⟨bm, 0, none⟩)]) #[] w fun v w' => JoinAt w' v xs ys ∧ Upd (fun _ => False) w w' := by
  refine CallV.of_calls (n := 0) (enters_of Try.func42 (by kernel_rfl) rfl) ?_
  refine callsIn_of_wp Try.func42 rfl trivial ?_
  simp only [Try.ntmps42, List.size_toArray, List.length_cons, List.length_nil, Nat.reduceAdd, Nat.reduceSub, Array.replicate_succ, Array.replicate_zero, List.push_toArray, List.append_toArray, List.nil_append, List.cons_append]
  have k1 := hl.cell0
  have k2 := hm.cell0
  gi_wp2
  have hu := Upd.drew (fun _ => False) w
  refine wpIn_eager [(0,true),(2,true),(4,true),(1,false),(3,false),(5,false),(6,false),(7,false),(8,true)] (fun W => W.cell? ⟨bl, 0, none⟩ = some (.slice A1 xs.length c1) ∧ W.cell? ⟨bm, 0, none⟩ = some (.slice A2 ys.length c2)) (by kernel_rfl) (by kernel_rfl) ⟨k1, k2⟩ ?_
  replace hl := hl.upd hu id
  replace hm := hm.upd hu id
  replace hr1 := hr1.agree' (hu.agree fun k hk => ⟨hr1.lt' k hk, id⟩)
  replace hr2 := hr2.agree' (hu.agree fun k hk => ⟨hr2.lt' k hk, id⟩)
  have hT := hu
  clear hu k1 k2
  generalize w.drew = V at *
  refine wpE_fl (v := .slice A1 xs.length c1) rfl rfl (fun W' h' => ?_) ?_
  · obtain ⟨h1, h2⟩ := h'; go_simp
  go_simp
  refine wpE_fl (v := .slice A2 ys.length c2) rfl rfl (fun W' h' => ?_) ?_
  · obtain ⟨h1, h2⟩ := h'; go_simp
  go_simp
  refine wpE_fl (v := .slice A1 xs.length c1) rfl rfl (fun W' h' => ?_) ?_
  · obtain ⟨h1, h2⟩ := h'; go_simp
  go_simp
  refine wpE_ef rfl ?_
  go_simp
  gi_wp2_with (first | refine (⟨trivial, rfl, ?_⟩ : Fence.wide.fn _ ∧ Fence.wide.depth = none ∧ _) | (gi_at_call 24; refine values_u.mono ?_; rintro e W2 ⟨b1, rfl, h1, hu⟩))
  replace hl := hl.upd hu id
  replace hm := hm.upd hu id
  replace hr1 := hr1.agree' (hu.agree fun k hk => ⟨hr1.lt' k hk, id⟩)
  replace hr2 := hr2.agree' (hu.agree fun k hk => ⟨hr2.lt' k hk, id⟩)
  replace hT := hT.trans' hu
  clear hu
  refine ⟨⟨hl.cell0, hm.cell0⟩, ?_⟩
  refine wpE_ef rfl ?_
  go_simp
  gi_wp2_with (first | refine (⟨trivial, rfl, ?_⟩ : Fence.wide.fn _ ∧ Fence.wide.depth = none ∧ _) | (gi_at_call 24; refine values_u.mono ?_; rintro e W2 ⟨b2, rfl, h2, hu⟩))
  replace hl := hl.upd hu id
  replace hm := hm.upd hu id
  replace h1 := h1.upd hu id
  replace hr1 := hr1.agree' (hu.agree fun k hk => ⟨hr1.lt' k hk, id⟩)
  replace hr2 := hr2.agree' (hu.agree fun k hk => ⟨hr2.lt' k hk, id⟩)
  replace hT := hT.trans' hu
  clear hu
  refine ⟨⟨hl.cell0, hm.cell0⟩, ?_⟩
  refine wpE_ef rfl ?_
  go_simp
  gi_wp2_with (first | refine (⟨trivial, rfl, ?_⟩ : Fence.wide.fn _ ∧ Fence.wide.depth = none ∧ _) | (gi_at_call 24; refine values_u.mono ?_; rintro e W2 ⟨b3, rfl, h3, hu⟩))
  replace hl := hl.upd hu id
  replace hm := hm.upd hu id
  replace h1 := h1.upd hu id
  replace h2 := h2.upd hu id
  replace hr1 := hr1.agree' (hu.agree fun k hk => ⟨hr1.lt' k hk, id⟩)
  replace hr2 := hr2.agree' (hu.agree fun k hk => ⟨hr2.lt' k hk, id⟩)
  replace hT := hT.trans' hu
  clear hu
  refine ⟨⟨hl.cell0, hm.cell0⟩, ?_⟩
  refine wpE_ef rfl ?_
  go_simp
  gi_wp2
  have hg : Blk (W2.alloc (.cells #[.func (.func 76) #[] #[.pointer (some ⟨b1, 0, none⟩)], .func (.func 76) #[] #[.pointer (some ⟨b2, 0, none⟩)], .func (.func 76) #[] #[.pointer (some ⟨b3, 0, none⟩)]] 32)) W2.heap.size #[.func (.func 76) #[] #[.pointer (some ⟨b1, 0, none⟩)], .func (.func 76) #[] #[.pointer (some ⟨b2, 0, none⟩)], .func (.func 76) #[] #[.pointer (some ⟨b3, 0, none⟩)]] 32 := Blk.new _ _ _
  have hu : Upd (fun _ => False) W2 (W2.alloc (.cells #[.func (.func 76) #[] #[.pointer (some ⟨b1, 0, none⟩)], .func (.func 76) #[] #[.pointer (some ⟨b2, 0, none⟩)], .func (.func 76) #[] #[.pointer (some ⟨b3, 0, none⟩)]] 32)) := Upd.alloc _ _ _
  replace hl := hl.upd hu id
  replace hm := hm.upd hu id
  replace h1 := h1.upd hu id
  replace h2 := h2.upd hu id
  replace h3 := h3.upd hu id
  replace hr1 := hr1.agree' (hu.agree fun k hk => ⟨hr1.lt' k hk, id⟩)
  replace hr2 := hr2.agree' (hu.agree fun k hk => ⟨hr2.lt' k hk, id⟩)
  replace hT := hT.trans' hu
  generalize W2.heap.size = g at *
  generalize (W2.alloc (.cells #[.func (.func 76) #[] #[.pointer (some ⟨b1, 0, none⟩)], .func (.func 76) #[] #[.pointer (some ⟨b2, 0, none⟩)], .func (.func 76) #[] #[.pointer (some ⟨b3, 0, none⟩)]] 32)) = W3 at *
  clear hu
  refine ⟨⟨hl.cell0, hm.cell0⟩, ?_⟩
  refine wpE_ef rfl ?_
  go_simp
  gi_wp2_with (first | refine (⟨trivial, rfl, ?_⟩ : Fence.wide.fn _ ∧ Fence.wide.depth = none ∧ _) | (gi_at_call 43; refine join_u.mono ?_; rintro e W2 ⟨bj, rfl, hbj, hu⟩))
  replace hl := hl.upd hu id
  replace hm := hm.upd hu id
  replace hg := hg.upd hu id
  replace h1 := h1.upd hu id
  replace h2 := h2.upd hu id
  replace h3 := h3.upd hu id
  replace hr1 := hr1.agree' (hu.agree fun k hk => ⟨hr1.lt' k hk, id⟩)
  replace hr2 := hr2.agree' (hu.agree fun k hk => ⟨hr2.lt' k hk, id⟩)
  replace hT := hT.trans' hu
  refine ⟨⟨hl.cell0, hm.cell0⟩, ?_⟩
  refine wpE_fl rfl rfl (fun _ _ => rfl) ?_
  go_simp
  refine wpE_nil ?_
  gi_wp2
  go_ret
  exact ⟨_, rfl, ⟨bj, rfl, g, b1, b2, b3, c1, c2, c1, A1, A2, hbj, hg, h1, h2, h3, hr1, hr2⟩, hT⟩
theorem join3_c {n : Nat} {w : World} {bl bm : Nat} {A1 A2 : Option Addr} {c1 c2 : Nat} {xs ys : List Int} (hl : Blk w bl #[.slice A1 xs.length c1] 22) (hm : Blk w bm #[.slice A2 ys.length c2] 22)
    (hr1 : Reads1 w A1 (xs.map (Value.int .i64))) (hr2 : Reads1 w A2 (ys.map (Value.int .i64))) :
    CallsIn Fence.wide n Try.prog 42 #[.pointer (some ⟨bl, 0, none⟩), .pointer (some ⟨bm, 0, none⟩)] w fun e w' => ∃ v, e = .returned v ∧ JoinAt w' v xs ys ∧ Upd (fun _ => False) w w' :=
  callsIn_any (n := 0) ((join3_v hl hm hr1 hr2).2.mono fun _ _ h => h)
end Go.Proofs.Ytkjkpmeommfdgaa

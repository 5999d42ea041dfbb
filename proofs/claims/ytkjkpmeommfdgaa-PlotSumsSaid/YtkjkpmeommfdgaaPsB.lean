/- plot.Sums' sequence, and PlotSums' consumer. -/
import Derived.Test.YtkjkpmeommfdgaaProg
import Derived.Test.YtkjkpmeommfdgaaBase
import Derived.Test.YtkjkpmeommfdgaaWvI
import Derived.Test.YtkjkpmeommfdgaaWvL
import Derived.Test.YtkjkpmeommfdgaaWvH
import Derived.Test.YtkjkpmeommfdgaaWvS
import Derived.Test.YtkjkpmeommfdgaaWvS2
import Derived.Test.YtkjkpmeommfdgaaWvT
import Derived.Test.YtkjkpmeommfdgaaPsA
namespace Go.Proofs.Ytkjkpmeommfdgaa
open Go.RowKit Go.Shelf
attribute [local go_sem] Oper.semAt_some

theorem skip_v {n : Nat} {f1 : Fn} {a1 c1 : Array Value} {k : Int} {w : World} : CallsIn Fence.wide n Try.prog 47 #[.func f1 a1 c1, .int .i64 k] w fun e w' =>
    ∃ bs bn, e = .returned (.func (.func 86) #[] #[.pointer (some ⟨bs, 0, none⟩), .pointer (some ⟨bn, 0, none⟩)]) ∧ Blk w' bs #[.func f1 a1 c1] 32 ∧ Blk w' bn #[.int .i64 k] 3 ∧ w.heap.size ≤ bs ∧ w.heap.size ≤ bn ∧ Upd (fun _ => False) w w' := by
  refine callsIn_any (n := 0) (callsIn_of_wp Try.func47 rfl trivial ?_)
  simp only [Try.ntmps47, List.size_toArray, List.length_cons, List.length_nil, Nat.reduceAdd, Nat.reduceSub, Array.replicate_succ, Array.replicate_zero, List.push_toArray, List.append_toArray, List.nil_append, List.cons_append]
  gi_wp2
  go_ret
  exact ⟨_, _, rfl, Blk.alloc (Blk.new' rfl) _, Blk.new' (by simp), by omega, by omega, (Upd.alloc _ _ _).stepAlloc _⟩

/-- The sums one by one. -/
abbrev sumsUp (xs : List Int) : List Int := outs (trScan satI) 0 xs
theorem sumsUp_get : ∀ (xs : List Int) (s : Int) (k : Nat), (outs (trScan satI) s xs)[k]? = if k < xs.length then some ((xs.take (k + 1)).foldl satI s) else none
  | [], s, k => by simp [outs]
  | x :: xs, s, 0 => by simp [outs]
  | x :: xs, s, k + 1 => by
    simp only [outs, if_true, Option.toList, List.cons_append, List.nil_append, List.getElem?_cons_succ, List.length_cons, List.take_succ_cons, List.foldl_cons]
    rw [sumsUp_get xs _ k]
    simp
theorem sums_in {xs : List Int} (h : ∀ x ∈ xs, -9223372036854775808 ≤ x ∧ x ≤ 9223372036854775807) : ∀ s : Int, -9223372036854775808 ≤ s ∧ s ≤ 9223372036854775807 → -9223372036854775808 ≤ xs.foldl satI s ∧ xs.foldl satI s ≤ 9223372036854775807 := by
  induction xs with
  | nil => exact fun s hs => hs
  | cons x xs ih => exact fun s hs => ih (fun y hy => h y (List.mem_cons_of_mem _ hy)) _ (satI_in hs (h x (List.mem_cons_self ..)))

set_option maxRecDepth 100000 in
set_option maxHeartbeats 1000000 in
theorem sumsP_c {n : Nat} {A : Option Addr} {cap : Nat} {xs : List Int} {w : World} (hr : Reads1 w A (xs.map (Value.int .i64))) (hl : xs.length ≤ 900) :
    CallsIn Fence.wide n Try.prog 52 #[.slice A xs.length cap] w fun e w' => ∃ (bs bn : Nat) (evs : List (Unit × Int)) (D : Nat → Prop), e = .returned (.func (.func 86) #[] #[.pointer (some ⟨bs, 0, none⟩), .pointer (some ⟨bn, 0, none⟩)]) ∧
      evs.map (·.2) = sumsUp xs ∧ SeqO Try.prog (.func (.func 86) #[] #[.pointer (some ⟨bs, 0, none⟩), .pointer (some ⟨bn, 0, none⟩)]) encI evs () () (fun _ _ => True) (fun _ => False) D w' ∧
      (∀ k, D k → blkOf' A xs.length k ∨ w.heap.size ≤ k) ∧ Upd (fun _ => False) w w' := by
  have hM : (1000 : Nat) ≤ maxLen := by decide
  refine callsIn_any (n := 0) (callsIn_of_wp Try.func52 rfl trivial ?_)
  simp only [Try.ntmps52, List.size_toArray, List.length_cons, List.length_nil, Nat.reduceAdd, Nat.reduceSub, Array.replicate_succ, Array.replicate_zero, List.push_toArray, List.append_toArray, List.nil_append, List.cons_append]
  gi_wp2_with (first | refine (⟨trivial, rfl, ?_⟩ : Fence.wide.fn _ ∧ Fence.wide.depth = none ∧ _) | (gi_at_call 24; refine values_c.mono ?_; rintro e W1 ⟨rfl, hW1⟩; have hbv : Blk W1 w.heap.size #[.slice A xs.length cap] 22 := (by rw [hW1]; exact Blk.new _ _ _); have hu : Upd (fun _ => False) w W1 := (by rw [hW1]; exact Upd.alloc _ _ _); (replace hr := hr.agree' (hu.agree fun k hk => ⟨hr.lt' k hk, id⟩)); have hseq := values_seq hbv hr (by omega); have hz1 := hu.size; clear hW1) | (gi_at_call 27; refine scan_u.mono ?_; rintro e W2 ⟨bs, bf, bk, rfl, hbs, hbf, hbk, z1, z2, z3, hu2⟩; have hseq2 := scan_seq (f := satI) (hseq.later hu2.size (hu2.agree fun k hk => ⟨(hseq.dlt k hk).1, id⟩)) hbs hbf hbk (fun x y W => addC_v) id id id; (replace hu := hu.trans' hu2); have hz2 := hu2.size; clear hu2) | (gi_at_call 47; refine skip_v.mono ?_; rintro e W3 ⟨bs2, bn, rfl, hbs2, hbn, z4, z5, hu3⟩; have hseq3 := skip_seq (hseq2.later hu3.size (hu3.agree fun k hk => ⟨(hseq2.dlt k hk).1, id⟩)) hbs2 hbn id id (by simp only [List.length_cons]; rw [← List.length_map (f := (·.2)), evsT_snd, outs_scan_len]; simp; omega); (replace hu := hu.trans' hu3); clear hu3))
  refine bodyPost_ret (results_tmp rfl _ _ _) rfl ⟨bs2, bn, _, _, rfl, ?_, hseq3, ?_, hu⟩
  · rw [evsT_snd, evsT_snd, outs_skip, List.map_cons, evsT_snd]; simp [Function.comp_def]
  · rintro k (((h | h) | h | h | h) | h | h)
    · exact .inr (by omega)
    · exact .inl h
    all_goals exact .inr (by omega)

set_option maxRecDepth 100000 in
set_option maxHeartbeats 2000000 in
theorem psum1 {W : World} {bok bn bl bm bsu : Nat} {A : Option Addr} {cap k : Nat} {S m : Int} {xs : List Int}
    (hn : Blk W bn #[.int .i64 k] 3) (hl : Blk W bl #[.slice A xs.length cap] 22) (hok : Blk W bok #[.bool true] 4) (hs : Blk W bsu #[.int .i64 S] 3) (hm : Blk W bm #[.int .i64 m] 3)
    (hk : k < xs.length) (hlen : xs.length ≤ 1000) (hr : Reads1 W A (xs.map (Value.int .i64))) (hS : -9223372036854775808 ≤ S ∧ S ≤ 9223372036854775807) (hx : -9223372036854775808 ≤ xs[k] ∧ xs[k] ≤ 9223372036854775807)
    (d1 : bok ≠ bn) (d2 : bn ≠ bm) (d3 : bok ≠ bm) (d4 : bok ≠ bl) (d5 : bn ≠ bl) (d6 : bsu ≠ bn) (d7 : bsu ≠ bok) (d8 : bsu ≠ bm) (d9 : bsu ≠ bl) (dA : ∀ k, blkOf' A xs.length k → k ≠ bsu) :
    CallV Try.prog (.func (.func 53) #[] #[.pointer (some ⟨bn, 0, none⟩), .pointer (some ⟨bl, 0, none⟩), .pointer (some ⟨bok, 0, none⟩), .pointer (some ⟨bsu, 0, none⟩), .pointer (some ⟨bm, 0, none⟩)]) (encI (satI S xs[k])) W
      fun v W' => v = .bool (decide ((k : Int) + 1 < m)) ∧ Blk W' bok #[.bool true] 4 ∧ Blk W' bn #[.int .i64 ((k + 1 : Nat) : Int)] 3 ∧ Blk W' bsu #[.int .i64 (satI S xs[k])] 3 ∧ Upd (fun j => j = bok ∨ j = bn ∨ j = bsu) W W' := by
  refine CallV.of_calls (n := 0) (enters_of Try.func53 (by kernel_rfl) rfl) ?_
  refine callsIn_of_wp Try.func53 rfl trivial ?_
  simp only [Try.ntmps53, List.size_toArray, List.length_cons, List.length_nil, Nat.reduceAdd, Nat.reduceSub, Array.replicate_succ, Array.replicate_zero, List.push_toArray, List.append_toArray, List.nil_append, List.cons_append]
  obtain ⟨a, rfl, hc⟩ := hr k (.int .i64 xs[k]) (by simp [hk])
  have hlt : (k : Int) < xs.length := by omega
  have hab : (a.add k).block ≠ bsu := by rw [block_of_add]; exact dA _ ⟨by omega, a, rfl, rfl⟩
  clear dA
  have c2 := hn.cell0
  have c3 := hl.cell0
  clear hr
  gi_wp2
  have hu := Upd.drew (fun _ => False) W
  refine wpIn_eager [(1, true), (2, true), (3, true), (4, true), (0, false), (5, false), (6, true), (7, true), (8, true), (9, false)] (fun V => V.cell? ⟨bl, 0, none⟩ = some (.slice (some a) xs.length cap) ∧ V.cell? ⟨bn, 0, none⟩ = some (.int .i64 k) ∧ V.cell? (a.add k) = some (.int .i64 xs[k])) (by kernel_rfl) (by kernel_rfl) ⟨c3, c2, hc⟩ ?_
  replace hn := hn.upd hu id
  replace hl := hl.upd hu id
  replace hok := hok.upd hu id
  replace hs := hs.upd hu id
  replace hm := hm.upd hu id
  replace hc : W.drew.cell? (a.add k) = some (.int .i64 xs[k]) := hc
  clear c2 c3
  generalize W.drew = V at *
  have cs := hs.cell0
  refine wpE_fl (v := .slice (some a) xs.length cap) rfl rfl (fun W' h' => ?_) ?_
  · obtain ⟨h1, h2, h3⟩ := h'; go_simp
  go_simp
  refine wpE_fl (v := .int .i64 k) rfl rfl (fun W' h' => ?_) ?_
  · obtain ⟨h1, h2, h3⟩ := h'; go_simp
  go_simp
  refine wpE_fl (v := .pointer (some (a.add k))) rfl rfl (fun W' h' => ?_) ?_
  · obtain ⟨h1, h2, h3⟩ := h'; go_simp
  go_simp
  refine wpE_fl (v := .int .i64 xs[k]) rfl rfl (fun W' h' => ?_) ?_
  · obtain ⟨h1, h2, h3⟩ := h'; go_simp
  go_simp
  refine wpE_ef rfl ?_
  go_simp
  gi_wp2
  refine ⟨⟨hl.cell0, hn.cell0, hc⟩, ?_⟩
  refine wpE_ef rfl ?_
  go_simp
  gi_wp2_with (first | refine (⟨trivial, rfl, ?_⟩ : Fence.wide.fn _ ∧ Fence.wide.depth = none ∧ _) | (gi_at_call 54; refine (addRef_c hS hx).mono ?_; rintro e w' ⟨⟨v, rfl⟩, rfl⟩))
  refine ⟨⟨hl.cell0, hn.cell0, hc⟩, ?_⟩
  refine wpE_fl rfl rfl (fun _ _ => rfl) ?_
  go_simp
  refine wpE_fl (v := .int .i64 (satI S xs[k])) rfl rfl (fun W' h' => ?_) ?_
  · go_simp
  go_simp
  refine wpE_fl (v := v) rfl rfl (fun W' h' => ?_) ?_
  · go_simp
  go_simp
  refine wpE_ef rfl ?_
  go_simp
  have fs := hs.frozen 0
  have ls := hs.lt
  gi_wp2
  have hu2 : Upd (fun j => j = bsu) w' (w'.setCell ⟨bsu, 0, none⟩ (.int .i64 (satI S xs[k]))) := Upd.setCell (M := fun j => j = bsu) rfl _
  have hs2 : Blk (w'.setCell ⟨bsu, 0, none⟩ (.int .i64 (satI S xs[k]))) bsu #[.int .i64 (satI S xs[k])] 3 := by simpa using hs.set 0 (.int .i64 (satI S xs[k]))
  replace hn := hn.upd hu2 d6.symm
  replace hl := hl.upd hu2 d9.symm
  replace hok := hok.upd hu2 d7.symm
  replace hm := hm.upd hu2 d8.symm
  replace hc := (World.cell?_of_block (w := w') (hu2.block _ (World.block_lt_of_cell? w' _ hc) hab)).trans hc
  replace hu := (hu.mono (M' := fun j => j = bok ∨ j = bn ∨ j = bsu) fun _ _ h => h.elim).trans hu2 (fun j hj => .inl (.inr (.inr hj)))
  clear hu2 cs fs ls hs
  generalize (w'.setCell ⟨bsu, 0, none⟩ (.int .i64 (satI S xs[k]))) = V at *
  refine ⟨⟨hl.cell0, hn.cell0, hc⟩, ?_⟩
  refine wpE_nil ?_
  have c1 := hok.cell0
  have c2 := hn.cell0
  have c3 := hs2.cell0
  have c4 := hm.cell0
  have f1 := hok.frozen 0
  have f2 := hn.frozen 0
  have l1 := hok.lt
  have l2 := hn.lt
  have hw : IntKind.i64.wrap ((k : Int) + 1) = (k : Int) + 1 := Go.IntWalk.i64_in _ ⟨by omega, by omega⟩
  replace hok := Lib.hid hok
  replace hn := Lib.hid hn
  replace hs2 := Lib.hid hs2
  replace hu := Lib.hid hu
  clear hl hm hc hS hx
  generalize hT : satI S xs[k] = T at *
  replace hT := Lib.hid hT
  gi_wp2
  go_ret
  refine ⟨_, rfl, rfl, ?_, ?_, ?_, ?_⟩
  · exact (hok.out.set 0 _).other (p := ⟨bn, 0, none⟩) d1 _
  · exact (hn.out.other (p := ⟨bok, 0, none⟩) d1.symm _).set 0 _
  · rw [hT.out]
    exact (hs2.out.other (p := ⟨bok, 0, none⟩) d7 _).other (p := ⟨bn, 0, none⟩) d6 _
  · exact (hu.out.stepSet (.inl (.inl rfl)) _).stepSet (.inl (.inr (.inl rfl))) _

abbrev cntStep (α : Type) (m : Int) : Nat → α → Nat × Bool := fun n _ => (n + 1, decide ((n : Int) + 1 < m))
theorem cntStep_go {α : Type} (m : Int) : ∀ (pre : List α) (n s1 : Nat), goF (cntStep α m) n pre = (s1, true) → s1 = n + pre.length
  | [], n, s1, h => by simp [goF] at h; simp [h]
  | x :: xs, n, s1, h => by
    simp only [goF] at h
    by_cases hb : (n : Int) + 1 < m
    · simp only [hb, decide_true, if_true] at h
      have a := cntStep_go m xs (n + 1) s1 h
      simp [a]; omega
    · simp [hb] at h
theorem cntStep_end {α : Type} (m : Int) : ∀ (l : List α) (n : Nat), (n : Int) < max m 1 → ((goF (cntStep α m) n l).1 : Int) = min (n + l.length : Int) (max m 1)
  | [], n, h => by simp only [goF, List.length_nil]; omega
  | x :: xs, n, h => by
    simp only [goF, List.length_cons]
    by_cases hb : (n : Int) + 1 < m
    · simp only [hb, decide_true, if_true]
      rw [cntStep_end m xs (n + 1) (by omega)]
      omega
    · simp only [hb, decide_false, Bool.false_eq_true, if_false]
      omega
def PsRep (bok bn bsu : Nat) (xs : List Int) : Nat → (Nat → Prop) → World → Prop := fun n S W => (∀ k, k = bok ∨ k = bn ∨ k = bsu → S k) ∧ Blk W bok #[.bool true] 4 ∧ Blk W bn #[.int .i64 (n : Nat)] 3 ∧ Blk W bsu #[.int .i64 ((xs.take n).foldl satI 0)] 3

/-- The sums gone through by that consumer. -/
theorem sums_run {W : World} {bok bn bl bm bsu z : Nat} {A : Option Addr} {cap : Nat} {m : Int} {xs : List Int} {fi : FuncId} {fc : Array Value} {evs : List (Unit × Int)} {D : Nat → Prop}
    (hok : Blk W bok #[.bool true] 4) (hn : Blk W bn #[.int .i64 0] 3) (hl : Blk W bl #[.slice A xs.length cap] 22) (hm : Blk W bm #[.int .i64 m] 3) (hs : Blk W bsu #[.int .i64 0] 3)
    (hlen : xs.length ≤ 900) (hr : Reads1 W A (xs.map (Value.int .i64))) (hin : ∀ x ∈ xs, -9223372036854775808 ≤ x ∧ x ≤ 9223372036854775807)
    (hev : evs.map (·.2) = sumsUp xs) (hseq : SeqO Try.prog (.func (.func fi) #[] fc) encI evs () () (fun _ _ => True) (fun _ => False) D W) (hD : ∀ k, D k → blkOf' A xs.length k ∨ z ≤ k) (hz : bok < z ∧ bn < z ∧ bsu < z)
    (d2 : bn ≠ bm) (d6 : bsu ≠ bn) (d8 : bsu ≠ bm) (hA : ∀ k, blkOf' A xs.length k → k ≠ bok ∧ k ≠ bn ∧ k ≠ bsu) :
    CallV Try.prog (.func (.func fi) #[] fc) #[.func (.func 53) #[] #[.pointer (some ⟨bn, 0, none⟩), .pointer (some ⟨bl, 0, none⟩), .pointer (some ⟨bok, 0, none⟩), .pointer (some ⟨bsu, 0, none⟩), .pointer (some ⟨bm, 0, none⟩)]] W
      fun _ W' => Blk W' bok #[.bool true] 4 ∧ Blk W' bn #[.int .i64 (min (xs.length : Int) (max m 1))] 3 ∧ Upd (fun k => k = bok ∨ k = bn ∨ k = bsu) W W' := by
  have dk := Blk.ne hok hn (by decide)
  have dks := Blk.ne hs hok (by decide)
  refine (hseq.run Nat (cntStep Int m) (PsRep bok bn bsu xs) _ 0 (fun k => k = bok ∨ k = bn ∨ k = bsu) W ⟨⟨_, _, _, rfl⟩, Nat.le_refl _, Agree.refl _ _, ?_, ?_, ?_, ?_⟩ trivial).mono ?_
  · have nd : ∀ k, (k = bok ∨ k = bn ∨ k = bsu) → ¬ D k := fun k hk h => by
      rcases hD k h with q | q
      · have := hA k q; rcases hk with rfl | rfl | rfl; exact this.1 rfl; exact this.2.1 rfl; exact this.2.2 rfl
      · rcases hk with rfl | rfl | rfl <;> omega
    intro k hk
    exact ⟨by rcases hk with rfl | rfl | rfl; exact hok.lt; exact hn.lt; exact hs.lt, nd k hk, id⟩
  · rintro s S W1 W2 ⟨h1, h2, h3, h4⟩ ha _
    exact ⟨h1, h2.agree ha (h1 _ (.inl rfl)), h3.agree ha (h1 _ (.inr (.inl rfl))), h4.agree ha (h1 _ (.inr (.inr rfl)))⟩
  · rintro pre x suf s1 S1 W1 he hgo ⟨h1, h2, h3, h4⟩ hu hS1
    have e1 := cntStep_go m pre 0 s1 hgo
    rw [hev] at he
    have hx : (sumsUp xs)[s1]? = some x := by rw [he, e1]; simp
    rw [sumsUp_get] at hx
    have hk : s1 < xs.length := by
      by_cases h : s1 < xs.length
      · exact h
      · rw [if_neg h] at hx; cases hx
    rw [if_pos hk] at hx
    have hxe : x = satI ((xs.take s1).foldl satI 0) xs[s1] := by
      rw [← Option.some.inj hx, List.take_succ_eq_append_getElem hk, List.foldl_append]
      rfl
    have hne : ∀ k, k ≠ bok → k ≠ bn → k ≠ bsu → ¬ ((k = bok ∨ k = bn ∨ k = bsu) ∨ False) := by rintro k a b c ((h | h | h) | h); exact a h; exact b h; exact c h; exact h
    have hr1 := hr.agree' (w' := W1) (hu.agree fun k hk => by
      have := hA k (by simpa using hk)
      exact ⟨hr.lt' k hk, hne k this.1 this.2.1 this.2.2⟩)
    have hl1 := hl.upd hu (hne _ (Blk.ne hl hok (by decide)) (Blk.ne hl hn (by decide)) (Blk.ne hl hs (by decide)))
    have hm1 := hm.upd hu (hne _ (Blk.ne hm hok (by decide)) d2.symm d8.symm)
    subst hxe
    refine (psum1 h3 hl1 h2 h4 hm1 hk (by omega) hr1 (sums_in (fun y hy => hin y (List.mem_of_mem_take hy)) 0 (by omega)) (hin _ (List.getElem_mem hk)) dk d2 (Blk.ne hok hm (by decide)) (Blk.ne hok hl (by decide)) (Blk.ne hn hl (by decide)) d6 dks d8 (Blk.ne hs hl (by decide)) (fun k hk => (hA k hk).2.2)).mono ?_
    rintro v W2 ⟨rfl, g1, g2, g3, g4⟩
    refine ⟨S1, rfl, ⟨h1, g1, g2, ?_⟩, g4.mono (fun k _ hk => h1 k hk), fun k hk => ⟨by have := (hS1 k hk).1; have := g4.size; omega, .inl hk⟩⟩
    rw [List.take_succ_eq_append_getElem hk, List.foldl_append]
    exact g3
  · exact ⟨fun _ h => h, hok, hn, hs⟩
  · rintro v W' ⟨S', ⟨h1, h2, h3, _⟩, _, hu, _⟩
    rw [hev, cntStep_end m _ 0 (by omega), outs_scan_len] at h3
    exact ⟨h2, by simpa using h3, hu.mono fun k _ h => h.elim id fun h => h.elim⟩
end Go.Proofs.Ytkjkpmeommfdgaa

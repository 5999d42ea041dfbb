/- plot.Bars. -/
import Derived.Test.YtkjkpmeommfdgaaProg
import Derived.Test.YtkjkpmeommfdgaaBase
import Derived.Test.YtkjkpmeommfdgaaWvS2
import Derived.Test.YtkjkpmeommfdgaaPmM
import Derived.Test.YtkjkpmeommfdgaaPmB
set_option linter.unusedSimpArgs false
set_option linter.unusedVariables false
namespace Go.Proofs.Ytkjkpmeommfdgaa
open Go.RowKit Go.Shelf
attribute [local go_sem] Oper.semAt_some

abbrev castL (ks : List Nat) : List Int := ks.map Int.ofNat
/-- The greatest. -/
def maxN (ks : List Nat) : Nat := ks.foldl max 0
theorem foldl_max_ge : ∀ (ks : List Nat) (a k : Nat), (k = a ∨ k ∈ ks) → k ≤ ks.foldl max a
  | [], a, k, h => by
    rcases h with rfl | h
    · exact Nat.le_refl _
    · simp at h
  | x :: ks, a, k, h => by
    simp only [List.foldl_cons]
    rcases h with rfl | h
    · exact Nat.le_trans (Nat.le_max_left k x) (foldl_max_ge ks _ _ (.inl rfl))
    · rcases List.mem_cons.1 h with rfl | h
      · exact Nat.le_trans (Nat.le_max_right a k) (foldl_max_ge ks _ _ (.inl rfl))
      · exact foldl_max_ge ks _ _ (.inr h)
theorem maxN_ge {ks : List Nat} {k : Nat} (h : k ∈ ks) : k ≤ maxN ks := foldl_max_ge ks 0 k (.inr h)
theorem foldl_max_le : ∀ (ks : List Nat) (a b : Nat), a ≤ b → (∀ k ∈ ks, k ≤ b) → ks.foldl max a ≤ b
  | [], _, _, h, _ => h
  | x :: ks, a, b, h, hh => by
    simp only [List.foldl_cons]
    exact foldl_max_le ks _ _ (Nat.max_le.2 ⟨h, hh x (by simp)⟩) fun k hk => hh k (by simp [hk])
theorem maxN_le {ks : List Nat} {b : Nat} (h : ∀ k ∈ ks, k ≤ b) : maxN ks ≤ b := foldl_max_le ks 0 b (Nat.zero_le _) h
theorem foldl_cast : ∀ (ks : List Nat) (a : Nat), (castL ks).foldl (fun x y : Int => max x y) (a : Int) = ((ks.foldl max a : Nat) : Int)
  | [], _ => rfl
  | x :: ks, a => by
    simp only [List.map_cons, List.foldl_cons]
    rw [show max (a : Int) (Int.ofNat x) = ((max a x : Nat) : Int) by simp only [Int.ofNat_eq_natCast]; omega]
    exact foldl_cast ks _
theorem mem_castL {ks : List Nat} {x : Int} (h : x ∈ castL ks) : ∃ k : Nat, x = k ∧ k ∈ ks := by
  obtain ⟨k, hk, rfl⟩ := List.mem_map.1 h
  exact ⟨k, rfl, hk⟩
abbrev ReadsN (W : World) (A : Option Addr) (ks : List Nat) : Prop := Reads1 W A ((castL ks).map (Value.int .i64))
abbrev barsL (ks : List Nat) (width : Nat) : List ByteArray := ks.map fun k => hashB (barN k (maxN ks) width)
section
variable {ks : List Nat} {A : Option Addr} {cap width bm bw : Nat} {V W : World}
theorem fold_most (hr : ReadsN V A ks) (hl : ks.length ≤ 1000) : CallsIn Fence.wide 0 Try.prog 24 #[.slice A ks.length cap] V fun e V2 => ∃ fc, e = .returned (.func (.func 76) #[] fc) ∧
    CallsIn Fence.wide 0 Try.prog 28 #[.func (.func 76) #[] fc, .int .i64 0, .func (.func 100) #[] #[]] V2 fun e V3 => e = .returned (.int .i64 (maxN ks)) ∧ Upd (fun _ => False) V V3 := by
  refine values_c.mono ?_
  rintro e V2 ⟨rfl, rfl⟩
  have u := Upd.alloc (fun _ => False) V (.cells #[.slice A ks.length cap] 22)
  have hr2 := hr.agree' (w' := V.alloc (.cells #[.slice A ks.length cap] 22)) (u.agree fun j hj => ⟨hr.lt' j hj, id⟩)
  have hlen : (castL ks).length = ks.length := by simp
  have hb := Blk.new V #[.slice A (castL ks).length cap] 22
  rw [hlen] at hb
  have hs := values_seq (xs := castL ks) (cap := cap) (by rw [hlen]; exact hb) hr2 (by rw [hlen]; unfold maxLen; omega)
  refine ⟨_, rfl, (fold_c (f := fun x y => max x y) (xs := castL ks) hs trivial (by simp [Function.comp_def]) fun x y W => most_c).mono ?_⟩
  rintro e V3 ⟨rfl, u2⟩
  exact ⟨by rw [show (0 : Int) = ((0 : Nat) : Int) from rfl, foldl_cast]; rfl, u.trans' u2⟩
theorem map_bars (hr : ReadsN V A ks) (hl : ks.length ≤ 1000) (hg : ∀ k ∈ ks, k ≤ 1125899906842624) (hb1 : Blk V bm #[.int .i64 (maxN ks)] 3) (hb2 : Blk V bw #[.int .i64 width] 3) (hw1 : 1 ≤ width) (hw2 : width ≤ 200) :
    CallsIn Fence.wide 0 Try.prog 24 #[.slice A ks.length cap] V fun e V2 => ∃ fc, e = .returned (.func (.func 76) #[] fc) ∧
      CallsIn Fence.wide 0 Try.prog 101 #[.func (.func 76) #[] fc, .func (.func 102) #[] #[.pointer (some ⟨bm, 0, none⟩), .pointer (some ⟨bw, 0, none⟩)]] V2 fun e V3 => ∃ fm, e = .returned (.func (.func 122) #[] fm) ∧
        CallsIn Fence.wide 0 Try.prog 104 #[.func (.func 122) #[] fm] V3 fun e V4 => ∃ A2 c2, e = .returned (.slice A2 ks.length c2) ∧ Reads1 V4 A2 ((barsL ks width).map Value.string) ∧ (∀ j, blkOf A2 j → V.heap.size ≤ j) ∧ Upd (fun _ => False) V V4 := by
  refine values_c.mono ?_
  rintro e V2 ⟨rfl, rfl⟩
  have u := Upd.alloc (fun _ => False) V (.cells #[.slice A ks.length cap] 22)
  have hr2 := hr.agree' (w' := V.alloc (.cells #[.slice A ks.length cap] 22)) (u.agree fun j hj => ⟨hr.lt' j hj, id⟩)
  have hlen : (castL ks).length = ks.length := by simp
  have hb := Blk.new V #[.slice A (castL ks).length cap] 22
  rw [hlen] at hb
  have hs := values_seq (xs := castL ks) (cap := cap) (by rw [hlen]; exact hb) hr2 (by rw [hlen]; unfold maxLen; omega)
  refine ⟨_, rfl, (mapS_c rfl).mono ?_⟩
  rintro e V3 ⟨bs, bk, rfl, p1, p2, _, _, u3⟩
  have hs3 := hs.later (w' := V3) u3.size (u3.agree fun j hj => ⟨(hs.dlt j hj).1, id⟩)
  have m1 := (hb1.upd u id).upd u3 id
  have m2 := (hb2.upd u id).upd u3 id
  have hsq := mapS_seq (g := fun x => hashB (barN x.toNat (maxN ks) width)) (Dk := fun j => j = bm ∨ j = bw) hs3 p1 p2 (by rintro j (rfl | rfl); exact m1.lt; exact m2.lt) (fun x W hx hA hz => by
    obtain ⟨k, rfl, hk⟩ := mem_castL hx
    exact bars3_c (m1.agree hA (.inl rfl)) (m2.agree hA (.inr rfl)) (maxN_ge hk) (maxN_le hg) hw1 hw2)
  have e1 : (castL ks).map (fun x => hashB (barN x.toNat (maxN ks) width)) = barsL ks width := by simp [barsL, Function.comp_def]
  rw [e1] at hsq
  have hz := (u.trans' u3).size
  refine ⟨_, rfl, (collectT hsq (by simp; omega)).mono ?_⟩
  rintro e V4 ⟨A2, c2, rfl, _, r4, g4, u4⟩
  exact ⟨A2, c2, by simp, r4, fun j hj => by have := g4 j hj; omega, (u.trans' u3).trans' u4⟩
/-- Bars' answer to good counts. -/
def BarsR (ks : List Nat) (width : Nat) (W : World) (e : Ending) (W2 : World) : Prop := ∃ A2 c2, e = .returned (.tuple #[.slice A2 ks.length c2, .int .i64 0]) ∧ Reads1 W2 A2 ((barsL ks width).map Value.string) ∧ (∀ j, blkOf A2 j → W.heap.size ≤ j) ∧ Upd (fun _ => False) W W2
set_option maxHeartbeats 2000000 in
theorem bars_c {n : Nat} (hr : ReadsN W A ks) (hl : ks.length ≤ 1000) (hg : ∀ k ∈ ks, k ≤ 1125899906842624) (hw1 : 1 ≤ width) (hw2 : width ≤ 200) :
    CallsIn Fence.wide n Try.prog 58 #[.slice A ks.length cap, .int .i64 width] W (BarsR ks width W) := by
  have u0 := Upd.alloc (fun _ => False) W (.cells #[.int .i64 width] 3)
  have b0 := Blk.new W #[.int .i64 width] 3
  have hrV := Lib.hid fun V (u : Upd (fun _ => False) W V) => hr.agree' (w' := V) (u.agree fun j hj => ⟨hr.lt' j hj, id⟩)
  have hany : (castL ks).any outB = false := by
    rw [List.any_eq_false]
    intro x hx
    obtain ⟨k, rfl, hk⟩ := mem_castL hx
    have := hg k hk
    simp only [outB, decide_eq_true_eq]
    omega
  have kC := (contB_c (n := 0) (cap := cap) (hrV.out _ u0) (by simp; omega)).mono (R' := fun e W2 => e = .returned (.bool false) ∧ Upd (fun _ => False) (W.alloc (.cells #[.int .i64 width] 3)) W2) (by
    rintro e W2 ⟨rfl, u⟩
    exact ⟨by rw [hany], u⟩)
  have hlen : (castL ks).length = ks.length := by simp
  rw [hlen] at kC
  replace kC := Lib.hid kC
  replace b0 := Lib.hid b0
  have d1 : ((width : Int) < 1) = False := eq_false (by omega)
  have d2 : ((200 : Int) < width) = False := eq_false (by omega)
  replace hg := Lib.hid hg
  clear hr hany hlen
  refine callsIn_any (n := 0) (callsIn_of_wp Try.func58 rfl trivial ?_)
  simp only [Try.ntmps58, List.size_toArray, List.length_cons, List.length_nil, Nat.reduceAdd, Nat.reduceSub, Array.replicate_succ, Array.replicate_zero, List.push_toArray, List.append_toArray, List.nil_append, List.cons_append]
  gi_wp2_with (first | refine (⟨trivial, rfl, ?_⟩ : Fence.wide.fn _ ∧ Fence.wide.depth = none ∧ _) | (gi_at_call 99; (with_reducible refine kC.out.mono ?_); rintro e V1 ⟨rfl, u1⟩; (have kF := Lib.hid (fold_most (cap := cap) (hrV.out _ (u0.trans' u1)) hl))) | (gi_at_call 24; (with_reducible refine kF.out.mono ?_); rintro e V2 ⟨fc, rfl, k2⟩; (replace k2 := Lib.hid k2); (clear kF)) | (gi_at_call 28; (with_reducible refine k2.out.mono ?_); rintro e V3 ⟨rfl, u3⟩; (have kM := Lib.hid (map_bars (cap := cap) (width := width) (hrV.out _ (((u0.trans' u1).trans' u3).stepAlloc (.cells #[.int .i64 (maxN ks)] 3))) hl hg.out (Blk.new V3 _ _) (((b0.out.upd u1 id).upd u3 id).alloc _) hw1 hw2))) | (gi_at_call 24; (with_reducible refine kM.out.mono ?_); rintro e V5 ⟨fc2, rfl, k5⟩; (replace k5 := Lib.hid k5)) | (gi_at_call 101; (with_reducible refine k5.out.mono ?_); rintro e V6 ⟨fm, rfl, k6⟩; (replace k6 := Lib.hid k6)) | (gi_at_call 104; (with_reducible refine k6.out.mono ?_); rintro e V7 ⟨A2, c2, rfl, r7, g7, u7⟩; (replace g7 := Lib.hid g7)) | refine (⟨trivial, ?_⟩ : Fence.wide.fn _ ∧ _))
  refine bodyPost_ret (results_tmp2 rfl _ _ _) rfl ?_
  have uu := ((u0.trans' u1).trans' u3).stepAlloc (.cells #[.int .i64 (maxN ks)] 3)
  have hz := uu.size
  exact ⟨A2, c2, rfl, r7, fun j hj => by have := g7.out j hj; omega, uu.trans' u7⟩
set_option maxHeartbeats 2000000 in
theorem barsNo_c {n : Nat} {xs : List Int} {wd : Int} (hr : Reads1 W A (xs.map (Value.int .i64))) (hl : xs.length ≤ 1000) (hb : wd < 1 ∨ 200 < wd ∨ xs.any outB = true) :
    CallsIn Fence.wide n Try.prog 58 #[.slice A xs.length cap, .int .i64 wd] W fun e W2 => e = .returned (.tuple #[.slice none 0 0, .int .i64 1]) ∧ Upd (fun _ => False) W W2 := by
  have u0 := Upd.alloc (fun _ => False) W (.cells #[.int .i64 wd] 3)
  have kC := Lib.hid (contB_c (n := 0) (cap := cap) (hr.agree' (w' := W.alloc (.cells #[.int .i64 wd] 3)) (u0.agree fun j hj => ⟨hr.lt' j hj, id⟩)) (by omega))
  clear hr
  by_cases d1 : wd < 1
  · clear hb kC
    refine callsIn_any (n := 0) (callsIn_of_wp Try.func58 rfl trivial ?_)
    simp only [Try.ntmps58, List.size_toArray, List.length_cons, List.length_nil, Nat.reduceAdd, Nat.reduceSub, Array.replicate_succ, Array.replicate_zero, List.push_toArray, List.append_toArray, List.nil_append, List.cons_append]
    gi_wp2_with (first | refine (⟨trivial, rfl, ?_⟩ : Fence.wide.fn _ ∧ Fence.wide.depth = none ∧ _) | refine (⟨trivial, ?_⟩ : Fence.wide.fn _ ∧ _))
    refine bodyPost_ret (results_tmp2 rfl _ _ _) rfl ?_
    exact ⟨rfl, u0⟩
  · by_cases d2 : 200 < wd
    · clear hb kC
      refine callsIn_any (n := 0) (callsIn_of_wp Try.func58 rfl trivial ?_)
      simp only [Try.ntmps58, List.size_toArray, List.length_cons, List.length_nil, Nat.reduceAdd, Nat.reduceSub, Array.replicate_succ, Array.replicate_zero, List.push_toArray, List.append_toArray, List.nil_append, List.cons_append]
      gi_wp2_with (first | refine (⟨trivial, rfl, ?_⟩ : Fence.wide.fn _ ∧ Fence.wide.depth = none ∧ _) | refine (⟨trivial, ?_⟩ : Fence.wide.fn _ ∧ _))
      refine bodyPost_ret (results_tmp2 rfl _ _ _) rfl ?_
      exact ⟨rfl, u0⟩
    · have h3 : xs.any outB = true := by
        rcases hb with h | h | h
        · exact absurd h d1
        · exact absurd h d2
        · exact h
      rw [h3] at kC
      clear hb h3
      refine callsIn_any (n := 0) (callsIn_of_wp Try.func58 rfl trivial ?_)
      simp only [Try.ntmps58, List.size_toArray, List.length_cons, List.length_nil, Nat.reduceAdd, Nat.reduceSub, Array.replicate_succ, Array.replicate_zero, List.push_toArray, List.append_toArray, List.nil_append, List.cons_append]
      gi_wp2_with (first | refine (⟨trivial, rfl, ?_⟩ : Fence.wide.fn _ ∧ Fence.wide.depth = none ∧ _) | (gi_at_call 99; (with_reducible refine kC.out.mono ?_); rintro e V1 ⟨rfl, u1⟩; (skip)) | refine (⟨trivial, ?_⟩ : Fence.wide.fn _ ∧ _))
      refine bodyPost_ret (results_tmp2 rfl _ _ _) rfl ?_
      exact ⟨rfl, u0.trans' u1⟩
end
end Go.Proofs.Ytkjkpmeommfdgaa

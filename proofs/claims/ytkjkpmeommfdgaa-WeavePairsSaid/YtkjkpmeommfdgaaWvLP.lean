/- WeavePairs answers true, whatever its input. -/
import Derived.Test.YtkjkpmeommfdgaaBase
import Derived.Test.YtkjkpmeommfdgaaWvL
import Derived.Test.YtkjkpmeommfdgaaWvA
import Derived.Test.YtkjkpmeommfdgaaWvH
import Derived.Test.YtkjkpmeommfdgaaWvSH
import Derived.Test.YtkjkpmeommfdgaaWvQ2
namespace Go.Proofs.Ytkjkpmeommfdgaa
open Go.RowKit Go.Shelf
attribute [local go_sem] Oper.semAt_some if_max if_min

set_option maxRecDepth 100000 in
set_option maxHeartbeats 1000000 in
theorem weavePairs_c {n : Nat} {A : Option Addr} {cap : Nat} {xs : List Int} {m : Int} {w : World} (hr : Reads1 w A (xs.map (Value.int .i64))) (hl : xs.length ≤ cap) (hc : cap ≤ maxLen) (hm0 : 0 ≤ m) (hm1 : m < 256) :
    CallsIn Fence.wide n Try.prog 5 #[.slice A xs.length cap, .int .u8 m] w fun e w' => e = .returned (.bool true) ∧ Below w.heap.size w w' := by
  refine callsIn_any (n := 0) (callsIn_of_wp Try.func5 rfl trivial ?_)
  simp only [Try.ntmps5, List.size_toArray, List.length_cons, List.length_nil, Nat.reduceAdd, Nat.reduceSub, Array.replicate_succ, Array.replicate_zero, List.push_toArray, List.append_toArray, List.nil_append, List.cons_append]
  unfold maxLen at hc
  have hA : ∀ k, blkOf' A xs.length k → k < w.heap.size := fun k hk => hr.lt' k (by simpa using hk)
  have hu := Upd.alloc (fun _ => False) w (.cells #[.slice A xs.length cap] 22)
  have hB0 : Below w.heap.size w (w.alloc (.cells #[.slice A xs.length cap] 22)) := hu.below (Nat.le_refl _) (fun _ h => h.elim)
  have hbl : Blk (w.alloc (.cells #[.slice A xs.length cap] 22)) w.heap.size #[.slice A xs.length cap] 22 := Blk.new _ _ _
  replace hr := hr.agree' (hu.agree fun k hk => ⟨hr.lt' k hk, id⟩)
  have clb := hbl.cell0
  have llb := hbl.lt
  clear hu
  by_cases hf : xs.length ≤ 60
  · have hm9 : 0 ≤ m % 70 ∧ m % 70 ≤ 69 := by omega
    gi_wp2_with (first | refine (⟨trivial, rfl, ?_⟩ : Fence.wide.fn _ ∧ Fence.wide.depth = none ∧ _) | (gi_at_call 14; refine awake_c.mono ?_; rintro e w1 ⟨rfl, hB1⟩; (replace hr := hr.agree' (fun k hk => hB1.block k (hr.lt' k hk))); (replace hbl := (hB1.block _ (Blk.lt hbl)).trans hbl); (replace clb := Blk.cell0 hbl); (replace llb := Blk.lt hbl); (replace hB0 := hB0.trans (hB1.mono hB0.size)); clear hB1) | (gi_at_call 15; refine (few_c (by unfold maxLen; omega)).mono ?_; rintro e w' ⟨rfl, rfl⟩; (have cl3 := Blk.cell0 (Blk.alloc (Blk.alloc (Blk.alloc (show Blk w' w.heap.size #[.slice A xs.length cap] 22 from hbl) (.cells #[.int .i64 0] 3)) (.cells #[.int .i64 (m % 70)] 3)) (.cells #[.bool true] 4)))) | (gi_at_call 24; (have hn : Blk (((w'.alloc (.cells #[.int .i64 0] 3)).alloc (.cells #[.int .i64 (m % 70)] 3)).alloc (.cells #[.bool true] 4)) w'.heap.size #[.int .i64 0] 3 := Blk.alloc (Blk.alloc (Blk.new' rfl) _) _); (have hm : Blk (((w'.alloc (.cells #[.int .i64 0] 3)).alloc (.cells #[.int .i64 (m % 70)] 3)).alloc (.cells #[.bool true] 4)) (w'.heap.size + 1) #[.int .i64 (m % 70)] 3 := Blk.alloc (Blk.new' (by simp)) _); (have hok : Blk (((w'.alloc (.cells #[.int .i64 0] 3)).alloc (.cells #[.int .i64 (m % 70)] 3)).alloc (.cells #[.bool true] 4)) (w'.heap.size + 1 + 1) #[.bool true] 4 := Blk.new' (by simp)); (have hu : Upd (fun _ => False) w' (((w'.alloc (.cells #[.int .i64 0] 3)).alloc (.cells #[.int .i64 (m % 70)] 3)).alloc (.cells #[.bool true] 4)) := ((Upd.alloc _ _ _).stepAlloc _).stepAlloc _); (replace hr := hr.agree' (hu.agree fun k hk => ⟨by simpa using hr.lt' k (by simpa using hk), id⟩)); (replace hbl := Blk.upd hbl hu id); (have hz := hB0.size); (replace hB0 := hB0.trans (hu.below hB0.size (fun _ h => h.elim))); (clear hu); (generalize (((w'.alloc (.cells #[.int .i64 0] 3)).alloc (.cells #[.int .i64 (m % 70)] 3)).alloc (.cells #[.bool true] 4)) = W3 at *); (have hzs : w.heap.size < w'.heap.size := llb); (have hzs2 : w.heap.size < w'.heap.size + 1 + 1 := by omega); (clear llb); (have hz1 : w.heap.size ≤ w'.heap.size + 1 := by omega); (have hz2 : w.heap.size ≤ w'.heap.size + 1 + 1 := by omega); (have d2 : w'.heap.size ≠ w'.heap.size + 1 := by omega); (generalize w'.heap.size + 1 + 1 = bok at *); (generalize w'.heap.size + 1 = bm at *); (generalize w'.heap.size = bn at *); refine values_u.mono ?_; (rintro e W2 ⟨bv, rfl, hbv, hu⟩); (replace hr := hr.agree' (hu.agree fun k hk => ⟨by simpa using hr.lt' k (by simpa using hk), id⟩)); (replace hB0 := hB0.trans (hu.below hB0.size (fun _ h => h.elim))); (replace hbl := hbl.upd hu id); (replace hn := hn.upd hu id); (replace hm := hm.upd hu id); (replace hok := hok.upd hu id); (clear hu)) | (gi_at_call 29; refine pairs_u.mono ?_; (rintro e W2 ⟨bs, rfl, hbs, hu⟩); (replace hr := hr.agree' (hu.agree fun k hk => ⟨by simpa using hr.lt' k (by simpa using hk), id⟩)); (replace hB0 := hB0.trans (hu.below hB0.size (fun _ h => h.elim))); (replace hbl := hbl.upd hu id); (replace hn := hn.upd hu id); (replace hm := hm.upd hu id); (replace hok := hok.upd hu id); (replace hbv := hbv.upd hu id); (clear hu)) | (gi_at_call 78; refine (pairs_run hok hn hbl hm hbv hbs (by omega) hr d2 (fun k hk => by have := hA k hk; exact ⟨by omega, by omega⟩)).2.mono ?_; (rintro e W2 ⟨v, rfl, N, hN, p1, p2, hu⟩); (replace hbl := Blk.upd hbl hu (by rintro (h | h) <;> omega)); (replace hm := Blk.upd hm hu (by rintro (h | h); exact Blk.ne hm hok (by decide) h; exact d2 h.symm)); (replace hB0 := hB0.trans (hu.below hB0.size (fun k h => by omega))); (have c1 := p1.cell0); (have c2 := p2.cell0); (replace clb := Blk.cell0 hbl); (have c4 := hm.cell0); (replace hN := Lib.hid hN); clear hu hr hok hn hbv hbs))
    refine bodyPost_ret (results_tmp rfl _ _ _) rfl ⟨?_, hB0⟩
    have hN2 := hN.out
    refine congrArg (fun b => Ending.returned (Value.bool b)) ?_
    simp only [beq_iff_eq]
    omega
  · clear hr
    gi_wp2_with (first | refine (⟨trivial, rfl, ?_⟩ : Fence.wide.fn _ ∧ Fence.wide.depth = none ∧ _) | (gi_at_call 14; refine awake_c.mono ?_; rintro e w1 ⟨rfl, hB1⟩; (replace hbl := (hB1.block _ (Blk.lt hbl)).trans hbl); (replace clb := Blk.cell0 hbl); (replace llb := Blk.lt hbl); (replace hB0 := hB0.trans (hB1.mono hB0.size)); clear hB1) | (gi_at_call 15; refine (few_c (by unfold maxLen; omega)).mono ?_; rintro e w' ⟨rfl, rfl⟩))
    exact bodyPost_ret (results_tmp rfl _ _ _) rfl ⟨rfl, hB0⟩
end Go.Proofs.Ytkjkpmeommfdgaa

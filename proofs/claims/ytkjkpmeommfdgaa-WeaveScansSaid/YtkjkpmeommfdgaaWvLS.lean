/- WeaveScans answers true, whatever its input. -/
import Derived.Test.YtkjkpmeommfdgaaBase
import Derived.Test.YtkjkpmeommfdgaaWvL
import Derived.Test.YtkjkpmeommfdgaaWvA
import Derived.Test.YtkjkpmeommfdgaaWvH
import Derived.Test.YtkjkpmeommfdgaaWvSH
namespace Go.Proofs.Ytkjkpmeommfdgaa
open Go.RowKit Go.Shelf
attribute [local go_sem] Oper.semAt_some if_max if_min

set_option maxRecDepth 100000 in
set_option maxHeartbeats 1000000 in
theorem weaveScans_c {n : Nat} {A : Option Addr} {cap : Nat} {xs : List Int} {k m : Int} {w : World} (hr : Reads1 w A (xs.map (Value.int .i64))) (hl : xs.length ≤ cap) (hc : cap ≤ maxLen) (hm0 : 0 ≤ m) (hm1 : m < 256) :
    CallsIn Fence.wide n Try.prog 4 #[.slice A xs.length cap, .int .i64 k, .int .u8 m] w fun e w' => e = .returned (.bool true) ∧ Below w.heap.size w w' := by
  refine callsIn_any (n := 0) (callsIn_of_wp Try.func4 rfl trivial ?_)
  simp only [Try.ntmps4, List.size_toArray, List.length_cons, List.length_nil, Nat.reduceAdd, Nat.reduceSub, Array.replicate_succ, Array.replicate_zero, List.push_toArray, List.append_toArray, List.nil_append, List.cons_append]
  unfold maxLen at hc
  have hA : ∀ k, blkOf' A xs.length k → k < w.heap.size := fun k hk => hr.lt' k (by simpa using hk)
  have hB0 := Below.refl w.heap.size w
  by_cases hf : xs.length ≤ 60
  · have hm9 : 0 ≤ m % 9 ∧ m % 9 ≤ 8 := by omega
    gi_wp2_with (first | refine (⟨trivial, rfl, ?_⟩ : Fence.wide.fn _ ∧ Fence.wide.depth = none ∧ _) | (gi_at_call 14; refine awake_c.mono ?_; rintro e w1 ⟨rfl, hB1⟩; (replace hr := hr.agree' (fun k hk => hB1.block k (hr.lt' k hk))); (replace hB0 := hB0.trans (hB1.mono hB0.size)); clear hB1) | (gi_at_call 15; refine (few_c (by unfold maxLen; omega)).mono ?_; rintro e w' ⟨rfl, rfl⟩) | (gi_at_call 26; refine (sums_u hr (by omega)).mono ?_; (rintro e W2 ⟨A2, cap2, rfl, hw2, hA2, hu⟩); (replace hr := hr.agree' (hu.agree fun k hk => ⟨by simpa using hr.lt' k (by simpa using hk), id⟩)); (replace hB0 := hB0.trans (hu.below hB0.size (fun _ h => h.elim))); (clear hu)) | (gi_at_call 20; (have hba : Blk (W2.alloc (.cells #[.slice A xs.length cap, .int .i64 0] 29)) W2.heap.size #[.slice A xs.length cap, .int .i64 0] 29 := Blk.new _ _ _); (have hu := Upd.alloc (fun _ => False) W2 (.cells #[.slice A xs.length cap, .int .i64 0] 29)); (replace hr := hr.agree' (hu.agree fun k hk => ⟨by simpa using hr.lt' k (by simpa using hk), id⟩)); (have hn2 : ∀ j, blkOf' A2 (sumsOf xorI k xs).length j → j ≠ W2.heap.size := fun j hj e => by have := hw2.lt' j (by simpa using hj); omega); (replace hw2 := hw2.agree' (hu.agree fun k hk => ⟨by simpa using hw2.lt' k (by simpa using hk), id⟩)); (have hza : w.heap.size ≤ W2.heap.size := hB0.size); (replace hB0 := hB0.trans (hu.below hB0.size (fun _ h => h.elim))); (clear hu hA2); (generalize W2.alloc (.cells #[.slice A xs.length cap, .int .i64 0] 29) = W3 at *); (generalize W2.heap.size = ba at *); refine count_u.mono ?_; (rintro e W2 ⟨bp, rfl, hbp, hu⟩); (replace hr := hr.agree' (hu.agree fun k hk => ⟨by simpa using hr.lt' k (by simpa using hk), id⟩)); (replace hB0 := hB0.trans (hu.below hB0.size (fun _ h => h.elim))); (replace hw2 := hw2.agree' (hu.agree fun k hk => ⟨by simpa using hw2.lt' k (by simpa using hk), id⟩)); (replace hba := hba.upd hu id); (clear hu)) | (gi_at_call 27; refine scan_u.mono ?_; (rintro e W2 ⟨bs, bf, bk, rfl, hbs, hbf, hbk, _, _, _, hu⟩); (replace hr := hr.agree' (hu.agree fun k hk => ⟨by simpa using hr.lt' k (by simpa using hk), id⟩)); (replace hB0 := hB0.trans (hu.below hB0.size (fun _ h => h.elim))); (replace hw2 := hw2.agree' (hu.agree fun k hk => ⟨by simpa using hw2.lt' k (by simpa using hk), id⟩)); (replace hba := hba.upd hu id); (replace hbp := hbp.upd hu id); (clear hu)) | (gi_at_call 18; refine (sgoes hba hbp hbs hbf hbk hr (by omega) (fun h => by have := hA _ h; omega) hw2 hn2 hm9.1 (by omega)).mono ?_; (rintro e W2 ⟨rfl, hn, hu⟩); (replace hr := hr.agree' (hu.agree fun k hk => ⟨by simpa using hr.lt' k (by simpa using hk), fun e => by have := hA k (by simpa using hk); omega⟩)); (replace hB0 := hB0.trans (hu.below hB0.size (fun k h => by omega))); (replace hw2 := hw2.agree' (hu.agree fun k hk => ⟨by simpa using hw2.lt' k (by simpa using hk), fun e => hn2 k (by simpa using hk) (by simpa using e)⟩)); (replace hbp := hbp.upd hu (Blk.ne hbp hba (by decide))); (replace hbs := hbs.upd hu (Blk.ne hbs hba (by decide))); (replace hbf := hbf.upd hu (Blk.ne hbf hba (by decide))); (replace hbk := hbk.upd hu (Blk.ne hbk hba (by decide))); (replace hba := hn); (clear hu); (have cn := hba.cell 1); (clear hbp hbs hbf hbk)))
    have hlast : ((sumsOf xorI k xs).map (Value.int .i64))[xs.length]? = some (.int .i64 (xs.foldl xorI k)) := by rw [List.getElem?_map, sums_last]; rfl
    obtain ⟨ad, rfl, _⟩ := hw2 xs.length _ hlast
    clear hba cn hn2
    have hu := Upd.drew (fun _ => False) W2
    refine wpIn_eager [(0,true),(2,true),(3,true),(5,true),(1,false),(4,false),(6,false),(7,true),(8,true),(10,true),(11,true),(13,true),(14,true),(15,true),(16,true),(17,true),(18,true),(9,false),(12,false),(19,true),(20,true),(21,true)] (fun W => W.cell? (ad.add xs.length) = some (.int .i64 (xs.foldl xorI k))) (by kernel_rfl) (by kernel_rfl) (hw2.at hlast) ?_
    generalize W2.drew = W at *
    replace hr := hr.agree' (hu.agree fun k hk => ⟨by simpa using hr.lt' k (by simpa using hk), id⟩)
    replace hB0 := hB0.trans (hu.below hB0.size (fun _ h => h.elim))
    replace hw2 := hw2.agree' (hu.agree fun k hk => ⟨by simpa using hw2.lt' k (by simpa using hk), id⟩)
    clear hu
    refine wpE_fl rfl rfl (fun _ _ => rfl) ?_
    go_simp
    refine wpE_fl rfl rfl (fun _ _ => rfl) ?_
    go_simp
    refine wpE_fl rfl rfl (fun _ _ => rfl) ?_
    go_simp
    refine wpE_fl rfl rfl (fun _ _ => rfl) ?_
    go_simp
    refine wpE_ef rfl ?_
    go_simp
    gi_wp2_with (first | refine (⟨trivial, rfl, ?_⟩ : Fence.wide.fn _ ∧ Fence.wide.depth = none ∧ _) | (gi_at_call 24; refine values_u.mono ?_; rintro e W2 ⟨bv, rfl, hbv, hu⟩))
    replace hr := hr.agree' (hu.agree fun k hk => ⟨by simpa using hr.lt' k (by simpa using hk), id⟩)
    replace hB0 := hB0.trans (hu.below hB0.size (fun _ h => h.elim))
    replace hw2 := hw2.agree' (hu.agree fun k hk => ⟨by simpa using hw2.lt' k (by simpa using hk), id⟩)
    clear hu
    refine ⟨(hw2.at hlast), ?_⟩
    refine wpE_ef rfl ?_
    go_simp
    gi_wp2_with (first | refine (⟨trivial, rfl, ?_⟩ : Fence.wide.fn _ ∧ Fence.wide.depth = none ∧ _) | (gi_at_call 27; refine scan_u.mono ?_; rintro e W2 ⟨bs, bf, bk, rfl, hbs, hbf, hbk, _, _, _, hu⟩))
    replace hr := hr.agree' (hu.agree fun k hk => ⟨by simpa using hr.lt' k (by simpa using hk), id⟩)
    replace hB0 := hB0.trans (hu.below hB0.size (fun _ h => h.elim))
    replace hw2 := hw2.agree' (hu.agree fun k hk => ⟨by simpa using hw2.lt' k (by simpa using hk), id⟩)
    replace hbv := hbv.upd hu id
    clear hu
    refine ⟨(hw2.at hlast), ?_⟩
    refine wpE_ef rfl ?_
    go_simp
    gi_wp2_with (first | refine (⟨trivial, rfl, ?_⟩ : Fence.wide.fn _ ∧ Fence.wide.depth = none ∧ _) | (gi_at_call 18; refine (vsgoes hbv hbs hbf hbk hr (by omega) hw2 (by omega) (by omega)).mono ?_; rintro e W2 ⟨rfl, hu⟩))
    replace hr := hr.agree' (hu.agree fun k hk => ⟨by simpa using hr.lt' k (by simpa using hk), id⟩)
    replace hB0 := hB0.trans (hu.below hB0.size (fun _ h => h.elim))
    replace hw2 := hw2.agree' (hu.agree fun k hk => ⟨by simpa using hw2.lt' k (by simpa using hk), id⟩)
    replace hbv := hbv.upd hu id
    replace hbs := hbs.upd hu id
    replace hbf := hbf.upd hu id
    replace hbk := hbk.upd hu id
    clear hu
    refine ⟨(hw2.at hlast), ?_⟩
    clear hbv hbs hbf hbk
    refine wpE_fl rfl rfl (fun _ _ => rfl) ?_
    go_simp
    refine wpE_fl rfl rfl (fun _ _ => rfl) ?_
    go_simp
    refine wpE_fl rfl rfl (fun _ _ => rfl) ?_
    go_simp
    refine wpE_fl rfl rfl (fun _ _ => rfl) ?_
    go_simp
    refine wpE_fl rfl rfl (fun _ _ => rfl) ?_
    go_simp
    refine wpE_fl rfl rfl (fun _ _ => rfl) ?_
    go_simp
    refine wpE_fl (v := .int .i64 (xs.length + 1)) rfl rfl (fun W' h' => ?_) ?_
    · go_simp
    go_simp
    refine wpE_fl (v := .int .i64 xs.length) rfl rfl (fun W' h' => ?_) ?_
    · go_simp; exact Go.IntWalk.i64_in _ ⟨by omega, by omega⟩
    go_simp
    refine wpE_fl (v := .pointer (some (ad.add xs.length))) rfl rfl (fun W' h' => ?_) ?_
    · go_simp; intro h; omega
    go_simp
    refine wpE_fl (v := .int .i64 (xs.foldl xorI k)) rfl rfl (fun W' h' => ?_) ?_
    · go_simp
    go_simp
    refine wpE_ef rfl ?_
    go_simp
    gi_wp2_with (first | refine (⟨trivial, rfl, ?_⟩ : Fence.wide.fn _ ∧ Fence.wide.depth = none ∧ _) | (gi_at_call 24; refine values_u.mono ?_; rintro e W2 ⟨bv, rfl, hbv, hu⟩))
    replace hr := hr.agree' (hu.agree fun k hk => ⟨by simpa using hr.lt' k (by simpa using hk), id⟩)
    replace hB0 := hB0.trans (hu.below hB0.size (fun _ h => h.elim))
    replace hw2 := hw2.agree' (hu.agree fun k hk => ⟨by simpa using hw2.lt' k (by simpa using hk), id⟩)
    clear hu
    refine ⟨(hw2.at hlast), ?_⟩
    refine wpE_ef rfl ?_
    go_simp
    gi_wp2_with (first | refine (⟨trivial, rfl, ?_⟩ : Fence.wide.fn _ ∧ Fence.wide.depth = none ∧ _) | (gi_at_call 28; refine (vfold hbv hr (by omega)).mono ?_; rintro e W2 ⟨rfl, hu⟩))
    replace hr := hr.agree' (hu.agree fun k hk => ⟨by simpa using hr.lt' k (by simpa using hk), id⟩)
    replace hB0 := hB0.trans (hu.below hB0.size (fun _ h => h.elim))
    replace hw2 := hw2.agree' (hu.agree fun k hk => ⟨by simpa using hw2.lt' k (by simpa using hk), id⟩)
    replace hbv := hbv.upd hu id
    clear hu
    refine ⟨(hw2.at hlast), ?_⟩
    refine wpE_fl (v := .bool true) rfl rfl (fun W' h' => ?_) ?_
    · go_simp
    go_simp
    refine wpE_fl rfl rfl (fun _ _ => rfl) ?_
    go_simp
    refine wpE_fl rfl rfl (fun _ _ => rfl) ?_
    go_simp
    refine wpE_nil ?_
    gi_wp2
    exact bodyPost_ret (results_tmp rfl _ _ _) rfl ⟨rfl, hB0⟩
  · gi_wp2_with (first | refine (⟨trivial, rfl, ?_⟩ : Fence.wide.fn _ ∧ Fence.wide.depth = none ∧ _) | (gi_at_call 14; refine awake_c.mono ?_; rintro e w1 ⟨rfl, hB1⟩; (replace hr := hr.agree' (fun k hk => hB1.block k (hr.lt' k hk))); (replace hB0 := hB0.trans (hB1.mono hB0.size)); clear hB1) | (gi_at_call 15; refine (few_c (by unfold maxLen; omega)).mono ?_; rintro e w' ⟨rfl, rfl⟩))
    exact bodyPost_ret (results_tmp rfl _ _ _) rfl ⟨rfl, hB0⟩
end Go.Proofs.Ytkjkpmeommfdgaa

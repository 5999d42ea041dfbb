/- WeaveChunks answers true, whatever its input. -/
import Derived.Test.YtkjkpmeommfdgaaBase
import Derived.Test.YtkjkpmeommfdgaaApp
import Derived.Test.YtkjkpmeommfdgaaFork
import Derived.Test.YtkjkpmeommfdgaaWvL
import Derived.Test.YtkjkpmeommfdgaaWvA
import Derived.Test.YtkjkpmeommfdgaaWvH
import Derived.Test.YtkjkpmeommfdgaaWvE
import Derived.Test.YtkjkpmeommfdgaaWvCr
import Derived.Test.YtkjkpmeommfdgaaWvCh
namespace Go.Proofs.Ytkjkpmeommfdgaa
open Go.RowKit Go.Shelf
attribute [local go_sem] Oper.semAt_some

set_option maxRecDepth 100000 in
set_option maxHeartbeats 4000000 in
theorem weaveChunks_c {n : Nat} {A : Option Addr} {cap : Nat} {xs : List Int} {k x0 x1 : Int} {w : World} (hr : Reads1 w A (xs.map (Value.int .i64))) (hl : xs.length ≤ cap) (hc : cap ≤ maxLen)
    (hx0 : 0 ≤ x0 ∧ x0 < 256) (hx1 : 0 ≤ x1 ∧ x1 < 256) :
    CallsIn Fence.wide n Try.prog 6 #[.slice A xs.length cap, .int .i64 k, .agg #[.int .u8 x0, .int .u8 x1]] w fun e w' => e = .returned (.bool true) ∧ Below w.heap.size w w' := by
  refine callsIn_any (n := 0) (callsIn_of_wp Try.func6 rfl trivial ?_)
  simp only [Try.ntmps6, List.size_toArray, List.length_cons, List.length_nil, Nat.reduceAdd, Nat.reduceSub, Array.replicate_succ, Array.replicate_zero, List.push_toArray, List.append_toArray, List.nil_append, List.cons_append]
  have hc0 := hc
  unfold maxLen at hc
  have hA : ∀ k, blkOf' A xs.length k → k < w.heap.size := fun k hk => hr.lt' k (by simpa using hk)
  have hu : Upd (fun _ => False) w (w.alloc (.cells #[.int .u8 x0, .int .u8 x1] 49)) := Upd.alloc _ _ _
  have hB0 : Below w.heap.size w (w.alloc (.cells #[.int .u8 x0, .int .u8 x1] 49)) := hu.below (Nat.le_refl _) (fun _ h => h.elim)
  have hbx : Blk (w.alloc (.cells #[.int .u8 x0, .int .u8 x1] 49)) w.heap.size #[.int .u8 x0, .int .u8 x1] 49 := Blk.new _ _ _
  replace hr := hr.agree' (hu.agree fun k hk => ⟨hr.lt' k hk, id⟩)
  clear hu
  by_cases hf : xs.length ≤ 60
  · have hm9 : 0 ≤ x1 % 9 ∧ x1 % 9 ≤ 8 := by omega
    replace hr := Lib.hid hr
    gi_wp2_with (first | refine (⟨trivial, rfl, ?_⟩ : Fence.wide.fn _ ∧ Fence.wide.depth = none ∧ _) | (gi_at_call 14; refine awake_c.mono ?_; rintro e w1 ⟨rfl, hB1⟩; (replace hr := Lib.hid (hr.out.agree' (fun k hk => hB1.block k (hr.out.lt' k hk)))); (replace hbx := (hB1.block _ (Blk.lt hbx)).trans hbx); (replace hB0 := hB0.trans (hB1.mono hB0.size)); clear hB1) | (gi_at_call 15; refine (few_c (by unfold maxLen; omega)).mono ?_; rintro e w' ⟨rfl, rfl⟩))
    rename_i KK hKK
    have hu := Upd.drew (fun _ => False) w'
    replace hr := hr.out
    replace hr := hr.agree' (hu.agree fun k hk => ⟨by simpa using hr.lt' k (by simpa using hk), id⟩)
    replace hB0 := hB0.trans (hu.below hB0.size (fun _ h => h.elim))
    replace hbx := Blk.upd hbx hu id
    clear hu
    have hz0 : w.heap.size < w'.drew.heap.size := Blk.lt hbx
    have hx5 : 1 ≤ 1 + x0 % 5 ∧ 1 + x0 % 5 ≤ 5 := by omega
    have hfin : KK { tmps := List.toArray (.slice A xs.length cap :: .int .i64 k :: .agg #[.int .u8 x0, .int .u8 x1] :: undef :: undef :: .pointer (some ⟨w.heap.size, 0, none⟩) :: .bool false :: .pointer (some ⟨w'.drew.heap.size, 0, none⟩) :: .int .i64 (x1 % 9) :: undef :: undef :: undef :: undef :: .bool true :: .bool false :: .bool false :: .slice A xs.length cap :: .bool true :: .bool false :: .bool false :: undef :: .pointer (some ⟨w.heap.size, 0, none⟩) :: .int .u8 x0 :: .int .i64 (1 + x0 % 5) :: .pointer (some ⟨w.heap.size, 1, none⟩) :: .int .u8 x1 :: .int .u8 (x1 % 9) :: .int .i64 (x1 % 9) :: undef :: undef :: undef :: undef :: undef :: undef :: undef :: undef :: undef :: undef :: undef :: undef :: undef :: undef :: undef :: undef :: undef :: undef :: undef :: undef :: undef :: undef :: undef :: undef :: undef :: undef :: undef :: undef :: undef :: undef :: undef :: undef :: undef :: undef :: undef :: undef :: undef :: undef :: undef :: undef :: undef :: undef :: undef :: undef :: undef :: undef :: undef :: undef :: undef :: undef :: undef :: undef :: undef :: undef :: undef :: undef :: undef :: undef :: undef :: undef :: undef :: undef :: undef :: undef :: undef :: undef :: undef :: undef :: undef :: undef :: undef :: undef :: undef :: undef :: undef :: undef :: undef :: undef :: undef :: []), defers := [] } (w'.drew.alloc (.cells #[.int .i64 (1 + x0 % 5)] 3)) := by
      refine hKK _ _ ?_
      clear hKK
      generalize w'.drew = V at *
      have hu := Upd.alloc (fun _ => False) V (.cells #[.int .i64 (1 + x0 % 5)] 3)
      have hbk : Blk (V.alloc (.cells #[.int .i64 (1 + x0 % 5)] 3)) V.heap.size #[.int .i64 (1 + x0 % 5)] 3 := Blk.new _ _ _
      replace hr := hr.agree' (hu.agree fun k hk => ⟨by simpa using hr.lt' k (by simpa using hk), id⟩)
      replace hB0 := hB0.trans (hu.below hB0.size (fun _ h => h.elim))
      clear hu
      clear hbx
      generalize V.heap.size = bk at *
      generalize (V.alloc (.cells #[.int .i64 (1 + x0 % 5)] 3)) = V1 at *
      have hz1 := hB0.size
      have hA1 : ∀ k, blkOf' A xs.length k → k < V1.heap.size := fun k hk => hr.lt' k (by simpa using hk)
      replace hr := Lib.hid hr
      iterate 8 gi_step
      have hrV := hr.out.agree' ((Upd.alloc (fun _ => False) V1 (.cells #[] 3)).agree fun k hk => ⟨hr.out.lt' k hk, id⟩)
      refine appL Try.underlying22 infoI zInt le_8 (own_empty V1 3) (by simp) (List.length_map _) (by omega) hrV (by simp [Value.oneCell']) rfl rfl ?_
      intro v9 W9 ho hu' _
      replace hr := hr.out
      have hu : Upd (fun j => V1.heap.size ≤ j) V1 W9 := ((Upd.alloc _ V1 (.cells #[] 3)).trans hu' (fun j hj => .inr (own_base (own_empty V1 3) j hj)))
      rw [Nat.zero_add, List.nil_append] at ho
      obtain ⟨A9, cap9, rfl⟩ := own_shape ho
      obtain ⟨hw9, hn9⟩ := own_reads ho (List.length_map _).symm
      rw [List.length_map] at hn9
      have hbkl := hbk.lt
      replace hbk := hbk.upd hu (by omega)
      replace hr := hr.agree' (hu.agree fun k hk => ⟨hr.lt' k hk, fun h => by have := hA1 k (by simpa using hk); omega⟩)
      replace hB0 := hB0.trans (hu.below hz1 (fun k h => by omega))
      have hn9b : ∀ j, blkOf' A9 xs.length j → j < W9.heap.size := fun j hj => hw9.lt' j (by simpa using hj)
      clear hu hu' ho hrV hA1
      go_simp
      gi_wp2_with (first | refine (⟨trivial, rfl, ?_⟩ : Fence.wide.fn _ ∧ Fence.wide.depth = none ∧ _) | (gi_at_call 24; (with_reducible refine values_u.mono ?_); (rintro e W2 ⟨bv, rfl, hbv, hu⟩); (replace hr := hr.agree' (hu.agree fun k hk => ⟨by simpa using hr.lt' k (by simpa using hk), id⟩)); (replace hw9 := hw9.agree' (hu.agree fun k hk => ⟨by simpa using hw9.lt' k (by simpa using hk), id⟩)); (replace hB0 := hB0.trans (hu.below hB0.size (fun _ h => h.elim))); (replace hbk := Blk.upd hbk hu id); (clear hu)) | (gi_at_call 33; (with_reducible refine chunks_u.mono ?_); (rintro e W2 ⟨bs, bn, rfl, hbs, hbn, _, _, hu⟩); (replace hr := hr.agree' (hu.agree fun k hk => ⟨by simpa using hr.lt' k (by simpa using hk), id⟩)); (replace hw9 := hw9.agree' (hu.agree fun k hk => ⟨by simpa using hw9.lt' k (by simpa using hk), id⟩)); (replace hB0 := hB0.trans (hu.below hB0.size (fun _ h => h.elim))); (replace hbk := Blk.upd hbk hu id); (replace hbv := Blk.upd hbv hu id); (clear hu)) | (gi_at_call 34; (with_reducible refine (chunksRef_c hr (by omega) hl hc0).mono ?_); (rintro e W2 ⟨v, rfl, hsr, hu⟩); (obtain ⟨A2, c2, rfl, hq2⟩ := hsr.reads2 hu (fun k hk => hr.lt' k (by simpa using hk))); (replace hr := hr.agree' (hu.agree fun k hk => ⟨by simpa using hr.lt' k (by simpa using hk), id⟩)); (replace hw9 := hw9.agree' (hu.agree fun k hk => ⟨by simpa using hw9.lt' k (by simpa using hk), id⟩)); (replace hB0 := hB0.trans (hu.below hB0.size (fun _ h => h.elim))); (replace hbk := Blk.upd hbk hu id); (replace hbv := Blk.upd hbv hu id); (replace hbs := Blk.upd hbs hu id); (replace hbn := Blk.upd hbn hu id); (clear hu)) | (gi_at_call 32; (with_reducible refine (clists hbv hbs hbn hw9 hf hq2 (fun j hj => by rcases hj with h | h; exact hr.lt' j (by simpa using h); exact h.2) rfl (by omega) (by omega)).mono ?_); (rintro e W2 ⟨rfl, hu⟩); (replace hr := hr.agree' (hu.agree fun k hk => ⟨by simpa using hr.lt' k (by simpa using hk), id⟩)); (replace hw9 := hw9.agree' (hu.agree fun k hk => ⟨by simpa using hw9.lt' k (by simpa using hk), id⟩)); (replace hB0 := hB0.trans (hu.below hB0.size (fun _ h => h.elim))); (replace hbk := Blk.upd hbk hu id); (clear hu); (clear hbv hbs hbn hq2 hsr)))
      have hu := Upd.drew (fun _ => False) W2
      refine wpIn_eager [(0,true),(1,true),(2,true),(4,true),(6,true),(7,true),(9,true),(3,false),(5,false),(8,false),(10,false),(11,true),(12,true),(13,true),(15,true),(17,true),(18,true),(14,false),(16,false),(19,false),(20,false),(21,true),(22,true)] (fun W => W.cell? ⟨bk, 0, none⟩ = some (.int .i64 (1 + x0 % 5))) (by kernel_rfl) (by kernel_rfl) hbk.cell0 ?_
      generalize W2.drew = W at *
      replace hr := hr.agree' (hu.agree fun k hk => ⟨by simpa using hr.lt' k (by simpa using hk), id⟩)
      replace hw9 := hw9.agree' (hu.agree fun k hk => ⟨by simpa using hw9.lt' k (by simpa using hk), id⟩)
      replace hB0 := hB0.trans (hu.below hB0.size (fun _ h => h.elim))
      replace hbk := Blk.upd hbk hu id
      clear hu
      refine wpE_fl rfl rfl (fun _ _ => rfl) ?_
      go_simp
      refine wpE_fl rfl rfl (fun _ _ => rfl) ?_
      go_simp
      refine wpE_fl rfl rfl (fun _ _ => rfl) ?_
      go_simp
      refine wpE_fl rfl rfl (fun _ _ => rfl) ?_
      go_simp
      refine wpE_fl rfl rfl (fun _ _ => rfl) ?_
      go_simp
      refine wpE_fl (v := .int .i64 (1 + x0 % 5)) rfl rfl (fun W' h' => ?_) ?_
      · go_simp
      go_simp
      refine wpE_fl rfl rfl (fun _ _ => rfl) ?_
      go_simp
      refine wpE_ef rfl ?_
      go_simp
      gi_wp2_with (first | refine (⟨trivial, rfl, ?_⟩ : Fence.wide.fn _ ∧ Fence.wide.depth = none ∧ _) | (gi_at_call 24; (with_reducible refine values_u.mono ?_); rintro e W2 ⟨bv, rfl, hbv, hu⟩))
      replace hr := hr.agree' (hu.agree fun k hk => ⟨by simpa using hr.lt' k (by simpa using hk), id⟩)
      replace hw9 := hw9.agree' (hu.agree fun k hk => ⟨by simpa using hw9.lt' k (by simpa using hk), id⟩)
      replace hB0 := hB0.trans (hu.below hB0.size (fun _ h => h.elim))
      replace hbk := Blk.upd hbk hu id
      clear hu
      refine ⟨hbk.cell0, ?_⟩
      refine wpE_ef rfl ?_
      go_simp
      gi_wp2_with (first | refine (⟨trivial, rfl, ?_⟩ : Fence.wide.fn _ ∧ Fence.wide.depth = none ∧ _) | (gi_at_call 35; (with_reducible refine groups_u.mono ?_); rintro e W2 ⟨bs, bf, rfl, hbs, hbf, hu⟩))
      replace hr := hr.agree' (hu.agree fun k hk => ⟨by simpa using hr.lt' k (by simpa using hk), id⟩)
      replace hw9 := hw9.agree' (hu.agree fun k hk => ⟨by simpa using hw9.lt' k (by simpa using hk), id⟩)
      replace hB0 := hB0.trans (hu.below hB0.size (fun _ h => h.elim))
      replace hbk := Blk.upd hbk hu id
      replace hbv := Blk.upd hbv hu id
      clear hu
      refine ⟨hbk.cell0, ?_⟩
      refine wpE_ef rfl ?_
      go_simp
      gi_wp2_with (first | refine (⟨trivial, rfl, ?_⟩ : Fence.wide.fn _ ∧ Fence.wide.depth = none ∧ _) | (gi_at_call 36; (with_reducible refine (groupsRef_c hr (by omega) hl hc0 hx5.1 hx5.2).mono ?_); rintro e W2 ⟨v, rfl, hsr, hu⟩; (obtain ⟨A2, c2, rfl, hq2⟩ := hsr.reads2 hu (fun k hk => hr.lt' k (by simpa using hk)))))
      replace hr := hr.agree' (hu.agree fun k hk => ⟨by simpa using hr.lt' k (by simpa using hk), id⟩)
      replace hw9 := hw9.agree' (hu.agree fun k hk => ⟨by simpa using hw9.lt' k (by simpa using hk), id⟩)
      replace hB0 := hB0.trans (hu.below hB0.size (fun _ h => h.elim))
      replace hbk := Blk.upd hbk hu id
      replace hbv := Blk.upd hbv hu id
      replace hbs := Blk.upd hbs hu id
      replace hbf := Blk.upd hbf hu id
      clear hu
      refine ⟨hbk.cell0, ?_⟩
      refine wpE_ef rfl ?_
      go_simp
      gi_wp2_with (first | refine (⟨trivial, rfl, ?_⟩ : Fence.wide.fn _ ∧ Fence.wide.depth = none ∧ _) | (gi_at_call 32; (with_reducible refine (glists hbv hbs hbf hbk hx5.1 hx5.2 hw9 hf hq2 (fun j hj => by rcases hj with h | h; exact hr.lt' j (by simpa using h); exact h.2) rfl (by omega) (by omega)).mono ?_); rintro e W2 ⟨rfl, hu⟩))
      replace hr := hr.agree' (hu.agree fun k hk => ⟨by simpa using hr.lt' k (by simpa using hk), id⟩)
      replace hw9 := hw9.agree' (hu.agree fun k hk => ⟨by simpa using hw9.lt' k (by simpa using hk), id⟩)
      replace hB0 := hB0.trans (hu.below hB0.size (fun _ h => h.elim))
      replace hbk := Blk.upd hbk hu id
      clear hu
      refine ⟨hbk.cell0, ?_⟩
      clear hbv hbs hbf hq2 hsr
      refine wpE_fl (v := .bool true) rfl rfl (fun W' h' => ?_) ?_
      · go_simp
      go_simp
      refine wpE_fl rfl rfl (fun _ _ => rfl) ?_
      go_simp
      refine wpE_fl rfl rfl (fun _ _ => rfl) ?_
      go_simp
      refine wpE_fl rfl rfl (fun _ _ => rfl) ?_
      go_simp
      refine wpE_fl rfl rfl (fun _ _ => rfl) ?_
      go_simp
      refine wpE_fl (v := .int .i64 (1 + x0 % 5)) rfl rfl (fun W' h' => ?_) ?_
      · go_simp
      go_simp
      refine wpE_ef rfl ?_
      go_simp
      gi_wp2_with (first | refine (⟨trivial, rfl, ?_⟩ : Fence.wide.fn _ ∧ Fence.wide.depth = none ∧ _) | (gi_at_call 24; (with_reducible refine values_u.mono ?_); rintro e W2 ⟨bv, rfl, hbv, hu⟩))
      replace hr := hr.agree' (hu.agree fun k hk => ⟨by simpa using hr.lt' k (by simpa using hk), id⟩)
      replace hw9 := hw9.agree' (hu.agree fun k hk => ⟨by simpa using hw9.lt' k (by simpa using hk), id⟩)
      replace hB0 := hB0.trans (hu.below hB0.size (fun _ h => h.elim))
      replace hbk := Blk.upd hbk hu id
      clear hu
      refine ⟨hbk.cell0, ?_⟩
      refine wpE_ef rfl ?_
      go_simp
      gi_wp2_with (first | refine (⟨trivial, rfl, ?_⟩ : Fence.wide.fn _ ∧ Fence.wide.depth = none ∧ _) | (gi_at_call 35; (with_reducible refine groups_u.mono ?_); rintro e W2 ⟨bs, bf, rfl, hbs, hbf, hu⟩))
      replace hr := hr.agree' (hu.agree fun k hk => ⟨by simpa using hr.lt' k (by simpa using hk), id⟩)
      replace hw9 := hw9.agree' (hu.agree fun k hk => ⟨by simpa using hw9.lt' k (by simpa using hk), id⟩)
      replace hB0 := hB0.trans (hu.below hB0.size (fun _ h => h.elim))
      replace hbk := Blk.upd hbk hu id
      replace hbv := Blk.upd hbv hu id
      clear hu
      refine ⟨hbk.cell0, ?_⟩
      refine wpE_ef rfl ?_
      go_simp
      gi_wp2_with (first | refine (⟨trivial, rfl, ?_⟩ : Fence.wide.fn _ ∧ Fence.wide.depth = none ∧ _) | (gi_at_call 36; (with_reducible refine (groupsRef_c hr (by omega) hl hc0 hx5.1 hx5.2).mono ?_); rintro e W2 ⟨v, rfl, hsr, hu⟩; (obtain ⟨A2, c2, rfl, hq2⟩ := hsr.reads2 hu (fun k hk => hr.lt' k (by simpa using hk)))))
      replace hr := hr.agree' (hu.agree fun k hk => ⟨by simpa using hr.lt' k (by simpa using hk), id⟩)
      replace hw9 := hw9.agree' (hu.agree fun k hk => ⟨by simpa using hw9.lt' k (by simpa using hk), id⟩)
      replace hB0 := hB0.trans (hu.below hB0.size (fun _ h => h.elim))
      replace hbk := Blk.upd hbk hu id
      replace hbv := Blk.upd hbv hu id
      replace hbs := Blk.upd hbs hu id
      replace hbf := Blk.upd hbf hu id
      clear hu
      refine ⟨hbk.cell0, ?_⟩
      refine wpE_ef rfl ?_
      go_simp
      gi_wp2_with (first | refine (⟨trivial, rfl, ?_⟩ : Fence.wide.fn _ ∧ Fence.wide.depth = none ∧ _) | (gi_at_call 32; (with_reducible refine (glists hbv hbs hbf hbk hx5.1 hx5.2 hw9 hf hq2 (fun j hj => by rcases hj with h | h; exact hr.lt' j (by simpa using h); exact h.2) rfl (by omega) (by omega)).mono ?_); rintro e W2 ⟨rfl, hu⟩))
      replace hr := hr.agree' (hu.agree fun k hk => ⟨by simpa using hr.lt' k (by simpa using hk), id⟩)
      replace hw9 := hw9.agree' (hu.agree fun k hk => ⟨by simpa using hw9.lt' k (by simpa using hk), id⟩)
      replace hB0 := hB0.trans (hu.below hB0.size (fun _ h => h.elim))
      replace hbk := Blk.upd hbk hu id
      clear hu
      refine ⟨hbk.cell0, ?_⟩
      clear hbv hbs hbf hq2 hsr
      refine wpE_fl (v := .bool true) rfl rfl (fun W' h' => ?_) ?_
      · go_simp
      go_simp
      refine wpE_fl rfl rfl (fun _ _ => rfl) ?_
      go_simp
      have h9 : ∀ j, blkOf' A9 xs.length j → j < W2.heap.size := fun j hj => hw9.lt' j (by simpa using hj)
      have h8 : ∀ j, blkOf' A xs.length j → j < W2.heap.size := fun j hj => hr.lt' j (by simpa using hj)
      clear hbk hn9b hn9 hbkl
      have hba : Blk (W2.alloc (.cells #[.slice A xs.length cap, .int .i64 0] 29)) W2.heap.size #[.slice A xs.length cap, .int .i64 0] 29 := Blk.new _ _ _
      have hu := Upd.alloc (fun _ => False) W2 (.cells #[.slice A xs.length cap, .int .i64 0] 29)
      have hz8 := hB0.size
      replace hr := hr.agree' (hu.agree fun k hk => ⟨by simpa using hr.lt' k (by simpa using hk), id⟩)
      replace hw9 := hw9.agree' (hu.agree fun k hk => ⟨by simpa using hw9.lt' k (by simpa using hk), id⟩)
      replace hB0 := hB0.trans (hu.below hB0.size (fun _ h => h.elim))
      clear hu
      by_cases hk1 : 1 ≤ k
      · by_cases hk2 : k ≤ (xs.length : Int)
        · refine wpE_nil ?_
          have hzs : W2.heap.size < (W2.alloc (.cells #[.slice A xs.length cap, .int .i64 0] 29)).heap.size := hba.lt
          gi_wp2_with (first | refine (⟨trivial, rfl, ?_⟩ : Fence.wide.fn _ ∧ Fence.wide.depth = none ∧ _) | (gi_at_call 20; (generalize (W2.alloc (.cells #[.slice A xs.length cap, .int .i64 0] 29)) = W7 at *); (generalize W2.heap.size = ba at *); (with_reducible refine count_u.mono ?_); (rintro e W2 ⟨bp, rfl, hbp, hu⟩); (replace hr := hr.agree' (hu.agree fun k hk => ⟨by simpa using hr.lt' k (by simpa using hk), id⟩)); (replace hw9 := hw9.agree' (hu.agree fun k hk => ⟨by simpa using hw9.lt' k (by simpa using hk), id⟩)); (replace hB0 := hB0.trans (hu.below hB0.size (fun _ h => h.elim))); (replace hba := Blk.upd hba hu id); (clear hu)) | (gi_at_call 33; (with_reducible refine chunks_u.mono ?_); (rintro e W2 ⟨bs, bn, rfl, hbs, hbn, _, _, hu⟩); (replace hr := hr.agree' (hu.agree fun k hk => ⟨by simpa using hr.lt' k (by simpa using hk), id⟩)); (replace hw9 := hw9.agree' (hu.agree fun k hk => ⟨by simpa using hw9.lt' k (by simpa using hk), id⟩)); (replace hB0 := hB0.trans (hu.below hB0.size (fun _ h => h.elim))); (replace hba := Blk.upd hba hu id); (replace hbp := Blk.upd hbp hu id); (clear hu)) | (gi_at_call 34; (with_reducible refine (chunksRef_c hr (by omega) hl hc0).mono ?_); (rintro e W2 ⟨v, rfl, hsr, hu⟩); (have hb7 := hba.lt); (obtain ⟨A2, c2, rfl, hq2⟩ := hsr.reads2 hu (fun k hk => hr.lt' k (by simpa using hk))); (replace hr := hr.agree' (hu.agree fun k hk => ⟨by simpa using hr.lt' k (by simpa using hk), id⟩)); (replace hw9 := hw9.agree' (hu.agree fun k hk => ⟨by simpa using hw9.lt' k (by simpa using hk), id⟩)); (replace hB0 := hB0.trans (hu.below hB0.size (fun _ h => h.elim))); (replace hba := Blk.upd hba hu id); (replace hbp := Blk.upd hbp hu id); (replace hbs := Blk.upd hbs hu id); (replace hbn := Blk.upd hbn hu id); (clear hu)) | (gi_at_call 32; (with_reducible refine (klists hba hbp hbs hbn hr hf (fun h => by have := h8 _ h; omega) ⟨hk1, hk2⟩ hq2 (fun j hj => by rcases hj with h | h; exact ⟨hr.lt' j (by simpa using h), fun e => by have := h8 j h; omega⟩; exact ⟨h.2, fun e => by omega⟩) rfl).mono ?_); (rintro e W2 ⟨rfl, hn, hu⟩); (replace hr := hr.agree' (hu.agree fun k hk => ⟨by simpa using hr.lt' k (by simpa using hk), fun e => by have := h8 k (by simpa using hk); omega⟩)); (replace hw9 := hw9.agree' (hu.agree fun k hk => ⟨by simpa using hw9.lt' k (by simpa using hk), fun e => by have := h9 k (by simpa using hk); omega⟩)); (replace hB0 := hB0.trans (hu.below hB0.size (fun k h => by omega))); (have cn := hn.cell 1); clear hu hba hbp hbs hbn hq2 hsr) | (gi_at_call 37; (with_reducible refine (equal_c hw9 hr rfl rfl (by omega)).mono ?_); rintro e W3 ⟨rfl, hu⟩; (rw [decide_eq_true rfl]); (replace hB0 := hB0.trans (hu.below hB0.size (fun _ h => h.elim))); clear hu))
          exact bodyPost_ret (results_tmp rfl _ _ _) rfl ⟨rfl, hB0⟩
        · refine wpE_nil ?_
          clear hba
          gi_wp2_with (first | refine (⟨trivial, rfl, ?_⟩ : Fence.wide.fn _ ∧ Fence.wide.depth = none ∧ _) | (gi_at_call 37; (with_reducible refine (equal_c hw9 hr rfl rfl (by omega)).mono ?_); rintro e W3 ⟨rfl, hu⟩; (rw [decide_eq_true rfl]); (replace hB0 := hB0.trans (hu.below hB0.size (fun _ h => h.elim))); clear hu) | refine (⟨trivial, ?_⟩ : Fence.wide.fn _ ∧ _))
          exact bodyPost_ret (results_tmp rfl _ _ _) rfl ⟨rfl, hB0⟩
      · refine wpE_nil ?_
        clear hba
        gi_wp2_with (first | refine (⟨trivial, rfl, ?_⟩ : Fence.wide.fn _ ∧ Fence.wide.depth = none ∧ _) | (gi_at_call 37; (with_reducible refine (equal_c hw9 hr rfl rfl (by omega)).mono ?_); rintro e W3 ⟨rfl, hu⟩; (rw [decide_eq_true rfl]); (replace hB0 := hB0.trans (hu.below hB0.size (fun _ h => h.elim))); clear hu) | refine (⟨trivial, ?_⟩ : Fence.wide.fn _ ∧ _))
        exact bodyPost_ret (results_tmp rfl _ _ _) rfl ⟨rfl, hB0⟩
    clear hKK
    refine wpIn_plan (.fl 0 (.fl 1 (.fl 3 (.fl 4 (.fl 5 (.fl 6 (.fork 2 (.ef 7 (.ef 8 (.fl 9 .done))) 7 (.ef 2 (.ef 8 (.fl 9 .done)))))))))) (fun W => W.cell? ⟨w.heap.size, 0, none⟩ = some (.int .u8 x0) ∧ W.cell? ⟨w.heap.size, 1, none⟩ = some (.int .u8 x1)) (by kernel_rfl) (by kernel_rfl) ⟨Blk.cell hbx 0, Blk.cell hbx 1⟩ ?_
    have hold1 : Blk (w'.drew.alloc (.cells #[.int .i64 0] 3)) w.heap.size #[.int .u8 x0, .int .u8 x1] 49 := Blk.alloc hbx _
    have hold2 : Blk (w'.drew.alloc (.cells #[.int .i64 (1 + x0 % 5)] 3)) w.heap.size #[.int .u8 x0, .int .u8 x1] 49 := Blk.alloc hbx _
    generalize w'.drew = V at *
    refine wpT_fl (v := .pointer (some ⟨w.heap.size, 0, none⟩)) rfl rfl (fun W' h' => ?_) ?_
    · go_simp
    go_simp
    refine wpT_fl (v := .int .u8 x0) rfl rfl (fun W' h' => ?_) ?_
    · obtain ⟨h1, h2⟩ := h'; go_simp
    go_simp
    refine wpT_fl (v := .pointer (some ⟨w.heap.size, 1, none⟩)) rfl rfl (fun W' h' => ?_) ?_
    · go_simp
    go_simp
    refine wpT_fl (v := .int .u8 x1) rfl rfl (fun W' h' => ?_) ?_
    · obtain ⟨h1, h2⟩ := h'; go_simp
    go_simp
    have ht9 : x1.tmod 9 = x1 % 9 := Int.tmod_eq_emod_of_nonneg hx1.1
    have hw9 : IntKind.i64.wrap (x1 % 9) = x1 % 9 := Go.IntWalk.i64_in _ ⟨by omega, by omega⟩
    refine wpT_fl (v := .int .u8 (x1 % 9)) rfl rfl (fun W' h' => ?_) ?_
    · go_simp
    go_simp
    refine wpT_fl (v := .int .i64 (x1 % 9)) rfl rfl (fun W' h' => ?_) ?_
    · go_simp
    go_simp
    refine wpT_fork rfl rfl ?_ ?_
    · go_simp
      gi_wp2_with (first | refine (⟨trivial, rfl, ?_⟩ : Fence.wide.fn _ ∧ Fence.wide.depth = none ∧ _) | (gi_at_call 16; refine (number_c hx0.1 hx0.2).mono ?_; rintro e w9 ⟨rfl, rfl⟩))
      refine ⟨⟨Blk.cell hbx 0, Blk.cell hbx 1⟩, ?_⟩
      refine wpT_ef rfl ?_
      go_simp
      gi_wp2
      refine ⟨⟨hold1.cell 0, hold1.cell 1⟩, ?_⟩
      refine wpT_ef rfl ?_
      go_simp
      gi_wp2
      refine ⟨⟨hold2.cell 0, hold2.cell 1⟩, ?_⟩
      refine wpT_fl rfl rfl (fun _ _ => rfl) ?_
      go_simp
      refine wpT_nil ?_
      exact hfin
    · go_simp
      gi_wp2
      refine ⟨⟨hold1.cell 0, hold1.cell 1⟩, ?_⟩
      refine wpT_ef rfl ?_
      go_simp
      gi_wp2_with (first | refine (⟨trivial, rfl, ?_⟩ : Fence.wide.fn _ ∧ Fence.wide.depth = none ∧ _) | (gi_at_call 16; refine (number_c hx0.1 hx0.2).mono ?_; rintro e w9 ⟨rfl, rfl⟩))
      refine ⟨⟨hold1.cell 0, hold1.cell 1⟩, ?_⟩
      refine wpT_ef rfl ?_
      go_simp
      gi_wp2
      refine ⟨⟨hold2.cell 0, hold2.cell 1⟩, ?_⟩
      refine wpT_fl rfl rfl (fun _ _ => rfl) ?_
      go_simp
      refine wpT_nil ?_
      exact hfin
  · clear hr
    gi_wp2_with (first | refine (⟨trivial, rfl, ?_⟩ : Fence.wide.fn _ ∧ Fence.wide.depth = none ∧ _) | (gi_at_call 14; refine awake_c.mono ?_; rintro e w1 ⟨rfl, hB1⟩; (replace hbx := (hB1.block _ (Blk.lt hbx)).trans hbx); (replace hB0 := hB0.trans (hB1.mono hB0.size)); clear hB1) | (gi_at_call 15; refine (few_c (by unfold maxLen; omega)).mono ?_; rintro e w' ⟨rfl, rfl⟩))
    exact bodyPost_ret (results_tmp rfl _ _ _) rfl ⟨rfl, hB0⟩
end Go.Proofs.Ytkjkpmeommfdgaa

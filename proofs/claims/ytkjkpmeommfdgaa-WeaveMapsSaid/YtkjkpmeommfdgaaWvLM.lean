/- WeaveMaps answers true, whatever its input. -/
import Derived.Test.YtkjkpmeommfdgaaBase
import Derived.Test.YtkjkpmeommfdgaaApp
import Derived.Test.YtkjkpmeommfdgaaWvL
import Derived.Test.YtkjkpmeommfdgaaWvA
import Derived.Test.YtkjkpmeommfdgaaWvH
import Derived.Test.YtkjkpmeommfdgaaWvSH
import Derived.Test.YtkjkpmeommfdgaaWvMH
import Derived.Test.YtkjkpmeommfdgaaWvM2
namespace Go.Proofs.Ytkjkpmeommfdgaa
open Go.RowKit Go.Shelf
attribute [local go_sem] Oper.semAt_some if_max if_min

set_option maxRecDepth 100000 in
set_option maxHeartbeats 4000000 in
theorem weaveMaps_c {n : Nat} {A A2 : Option Addr} {cap cap2 : Nat} {xs ys : List Int} {m : Int} {w : World} (hr : Reads1 w A (xs.map (Value.int .i64))) (hl : xs.length ≤ cap) (hc : cap ≤ maxLen)
    (hr2 : Reads1 w A2 (ys.map (Value.int .i64))) (hl2 : ys.length ≤ cap2) (hc2 : cap2 ≤ maxLen) (hm0 : 0 ≤ m) (hm1 : m < 256) :
    CallsIn Fence.wide n Try.prog 7 #[.slice A xs.length cap, .slice A2 ys.length cap2, .int .u8 m] w fun e w' => e = .returned (.bool true) ∧ Below w.heap.size w w' := by
  refine callsIn_any (n := 0) (callsIn_of_wp Try.func7 rfl trivial ?_)
  simp only [Try.ntmps7, List.size_toArray, List.length_cons, List.length_nil, Nat.reduceAdd, Nat.reduceSub, Array.replicate_succ, Array.replicate_zero, List.push_toArray, List.append_toArray, List.nil_append, List.cons_append]
  unfold maxLen at hc hc2
  have hA : ∀ k, blkOf' A xs.length k → k < w.heap.size := fun k hk => hr.lt' k (by simpa using hk)
  have hA2 : ∀ k, blkOf' A2 ys.length k → k < w.heap.size := fun k hk => hr2.lt' k (by simpa using hk)
  have hu : Upd (fun _ => False) w ((w.alloc (.cells #[.slice A xs.length cap] 22)).alloc (.cells #[.slice A2 ys.length cap2] 22)) := (Upd.alloc _ _ _).stepAlloc _
  have hB0 : Below w.heap.size w ((w.alloc (.cells #[.slice A xs.length cap] 22)).alloc (.cells #[.slice A2 ys.length cap2] 22)) := hu.below (Nat.le_refl _) (fun _ h => h.elim)
  have hbl : Blk ((w.alloc (.cells #[.slice A xs.length cap] 22)).alloc (.cells #[.slice A2 ys.length cap2] 22)) w.heap.size #[.slice A xs.length cap] 22 := Blk.alloc (Blk.new' rfl) _
  have hbm : Blk ((w.alloc (.cells #[.slice A xs.length cap] 22)).alloc (.cells #[.slice A2 ys.length cap2] 22)) (w.heap.size + 1) #[.slice A2 ys.length cap2] 22 := Blk.new' (by simp)
  replace hr := hr.agree' (hu.agree fun k hk => ⟨hr.lt' k hk, id⟩)
  replace hr2 := hr2.agree' (hu.agree fun k hk => ⟨hr2.lt' k hk, id⟩)
  have clb := hbl.cell0
  have cmb := hbm.cell0
  have llb := hbl.lt
  have lmb := hbm.lt
  clear hu
  by_cases hf : xs.length ≤ 60 ∧ ys.length ≤ 60
  · obtain ⟨hf1, hf2⟩ := hf
    have hm9 : 0 ≤ m % 9 ∧ m % 9 ≤ 8 := by omega
    replace hr := Lib.hid hr
    replace hr2 := Lib.hid hr2
    gi_wp2_with (first | refine (⟨trivial, rfl, ?_⟩ : Fence.wide.fn _ ∧ Fence.wide.depth = none ∧ _) | (gi_at_call 14; refine awake_c.mono ?_; rintro e w1 ⟨rfl, hB1⟩; (replace hr := Lib.hid (hr.out.agree' (fun k hk => hB1.block k (hr.out.lt' k hk)))); (replace hr2 := Lib.hid (hr2.out.agree' (fun k hk => hB1.block k (hr2.out.lt' k hk)))); (replace hbl := (hB1.block _ (Blk.lt hbl)).trans hbl); (replace clb := Blk.cell0 hbl); (replace llb := Blk.lt hbl); (replace hbm := (hB1.block _ (Blk.lt hbm)).trans hbm); (replace cmb := Blk.cell0 hbm); (replace lmb := Blk.lt hbm); (replace hB0 := hB0.trans (hB1.mono hB0.size)); clear hB1) | (gi_at_call 15; refine (few_c (by unfold maxLen; omega)).mono ?_; rintro e w' ⟨rfl, rfl⟩))
    have hbk : Blk (w'.alloc (.cells #[.int .i64 (m % 9)] 3)) w'.heap.size #[.int .i64 (m % 9)] 3 := Blk.new _ _ _
    have hu := Upd.alloc (fun _ => False) w' (.cells #[.int .i64 (m % 9)] 3)
    replace hr := hr.out.agree' (hu.agree fun k hk => ⟨hr.out.lt' k hk, id⟩)
    replace hr2 := hr2.out.agree' (hu.agree fun k hk => ⟨hr2.out.lt' k hk, id⟩)
    replace hbl := Blk.upd hbl hu id
    replace hbm := Blk.upd hbm hu id
    have hz := hB0.size
    replace hB0 := hB0.trans (hu.below hB0.size (fun _ h => h.elim))
    clear hu clb cmb
    have lb1 : w.heap.size < w'.heap.size := llb
    have lb2 : w.heap.size + 1 < w'.heap.size := lmb
    generalize w'.heap.size = bk at *
    clear llb lmb
    generalize (w'.alloc (.cells #[.int .i64 (m % 9)] 3)) = W3 at *
    have hbase := Nat.le_refl W3.heap.size
    have hlt3 := hbk.lt
    have hrd := fun (wr : World) (hB : Below W3.heap.size W3 wr) (i : Nat) (h : i < xs.length) => (hr.agree' (w' := wr) (fun k hk => hB.block k (by simpa using hr.lt' k hk))) i (.int .i64 xs[i]) (by simp [h])
    replace hrd := Lib.hid hrd
    replace hr := Lib.hid hr
    replace hr2 := Lib.hid hr2
    gi_loopw [8, 35] (fun v i wr => ∃ j : Nat, j ≤ xs.length ∧ i = .int .i64 j ∧ wr.ownsRow W3.heap.size 3 1 v j (((xs.take j).map notI).map (Value.int .i64)) ∧ Below W3.heap.size W3 wr) (fun _ i _ => xs.length - (intOf i).toNat)
    case atStart => exact ⟨0, Nat.zero_le _, rfl, World.ownsRow_nil _ _ _ _, Below.refl _ _⟩
    case round =>
      obtain ⟨j, hj, rfl, hown, hB⟩ := hrel
      by_cases hlt : j < xs.length
      · obtain ⟨ad, rfl, hc1⟩ := hrd.out wr hB j hlt
        have hts := List.take_succ_eq_append_getElem hlt
        replace hts := Lib.hid hts
        gi_wp2_with ((with_reducible refine app1 Try.underlying22 infoI zInt le_8 hown hB.size ?_ ?_ ?_ ?_ ?_); omega; rfl; rfl; rfl; intro g cap' w' hown' hu' _ _)
        refine ⟨⟨j + 1, by omega, by go_num, ?_, below_upd hB hu' (own_base hown) hB.size⟩, by simp [intOf]; omega⟩
        rw [hts.out]
        simp only [List.map_append, List.map_cons, List.map_nil]
        exact hown'
      · obtain rfl : j = xs.length := by omega
        rw [List.take_length] at hown
        obtain ⟨A3, cap3, rfl⟩ := own_shape hown
        replace hr := hr.out
        replace hr2 := hr2.out
        have hw3 : Reads1 wr A3 ((xs.map notI).map (Value.int .i64)) := by
          obtain ⟨A4, c4, e4, h4, _⟩ := Reads1.of_own hown (by simp)
          cases e4
          exact h4
        have hn3 : ∀ j, blkOf' A3 xs.length j → W3.heap.size ≤ j := by
          obtain ⟨A4, c4, e4, _, h4⟩ := Reads1.of_own hown (by simp)
          cases e4
          simpa using h4
        have hu := Upd.of_below hB
        have hzw := hB.size
        replace hr := hr.agree' (hu.agree fun k hk => ⟨hr.lt' k hk, fun e => by have := hr.lt' k hk; omega⟩)
        replace hr2 := hr2.agree' (hu.agree fun k hk => ⟨hr2.lt' k hk, fun e => by have := hr2.lt' k hk; omega⟩)
        replace hbl := Blk.upd hbl hu (by have := Blk.lt hbl; omega)
        replace hbm := Blk.upd hbm hu (by have := Blk.lt hbm; omega)
        replace hbk := Blk.upd hbk hu (by omega)
        replace hB0 := hB0.trans (hB.mono hB0.size)
        clear hu hB hown hrd hlt
        have clb := Blk.cell0 hbl
        have ckb := hbk.cell0
        gi_wp2
        have hba : Blk (wr.alloc (.cells #[.slice A xs.length cap, .int .i64 0] 29)) wr.heap.size #[.slice A xs.length cap, .int .i64 0] 29 := Blk.new _ _ _
        have hu := Upd.alloc (fun _ => False) wr (.cells #[.slice A xs.length cap, .int .i64 0] 29)
        have hna : ∀ j, blkOf' A3 (xs.map notI).length j → j < wr.heap.size := fun j hj => hw3.lt' j (by simpa using hj)
        have hwb := hB0.size
        replace hr := hr.agree' (hu.agree fun k hk => ⟨by simpa using hr.lt' k (by simpa using hk), id⟩)
        replace hr2 := hr2.agree' (hu.agree fun k hk => ⟨by simpa using hr2.lt' k (by simpa using hk), id⟩)
        replace hw3 := hw3.agree' (hu.agree fun k hk => ⟨by simpa using hw3.lt' k (by simpa using hk), id⟩)
        replace hB0 := hB0.trans (hu.below hB0.size (fun _ h => h.elim))
        replace hbl := hbl.upd hu id
        replace hbm := hbm.upd hu id
        replace hbk := hbk.upd hu id
        clear hu
        generalize wr.heap.size = ba at *
        generalize (wr.alloc (.cells #[.slice A xs.length cap, .int .i64 0] 29)) = W4 at *
        have hnn : ∀ j, blkOf' A3 xs.length j → j ≠ ba := fun j hj => by have := hna j (by simpa using hj); omega
        clear hna hn3
        have hn3 := hnn
        have hu := Upd.drew (fun _ => False) W4
        refine wpIn_eager [(0,true),(2,true),(4,true),(5,true),(1,false),(3,false),(6,false),(7,true),(8,true),(9,true),(10,true),(11,true),(13,true),(14,true),(15,true),(16,true),(17,true),(12,false),(18,true),(19,true),(20,true),(21,true),(23,true),(25,true),(22,false),(24,false),(26,false),(27,true),(28,true)] (fun W => W.cell? ⟨bk, 0, none⟩ = some (.int .i64 (m % 9)) ∧ W.cell? ⟨w.heap.size, 0, none⟩ = some (.slice A xs.length cap)) (by kernel_rfl) (by kernel_rfl) ⟨hbk.cell0, Blk.cell0 hbl⟩ ?_
        generalize W4.drew = W at *
        replace hr := hr.agree' (hu.agree fun k hk => ⟨by simpa using hr.lt' k (by simpa using hk), id⟩)
        replace hr2 := hr2.agree' (hu.agree fun k hk => ⟨by simpa using hr2.lt' k (by simpa using hk), id⟩)
        replace hw3 := hw3.agree' (hu.agree fun k hk => ⟨by simpa using hw3.lt' k (by simpa using hk), id⟩)
        replace hB0 := hB0.trans (hu.below hB0.size (fun _ h => h.elim))
        replace hbl := hbl.upd hu id
        replace hbm := hbm.upd hu id
        replace hbk := hbk.upd hu id
        replace hba := hba.upd hu id
        clear hu
        refine wpE_fl rfl rfl (fun _ _ => rfl) ?_
        go_simp
        refine wpE_fl rfl rfl (fun _ _ => rfl) ?_
        go_simp
        refine wpE_fl rfl rfl (fun _ _ => rfl) ?_
        go_simp
        refine wpE_fl (v := .int .i64 (m % 9)) rfl rfl (fun W' h' => ?_) ?_
        · obtain ⟨h1, h2⟩ := h'; go_simp
        go_simp
        refine wpE_ef rfl ?_
        go_simp
        gi_wp2_with (first | refine (⟨trivial, rfl, ?_⟩ : Fence.wide.fn _ ∧ Fence.wide.depth = none ∧ _) | (gi_at_call 20; (with_reducible refine count_u.mono ?_); rintro e W2 ⟨bp, rfl, hbp, hu⟩))
        replace hr := hr.agree' (hu.agree fun k hk => ⟨by simpa using hr.lt' k (by simpa using hk), id⟩)
        replace hr2 := hr2.agree' (hu.agree fun k hk => ⟨by simpa using hr2.lt' k (by simpa using hk), id⟩)
        replace hw3 := hw3.agree' (hu.agree fun k hk => ⟨by simpa using hw3.lt' k (by simpa using hk), id⟩)
        replace hB0 := hB0.trans (hu.below hB0.size (fun _ h => h.elim))
        replace hbl := hbl.upd hu id
        replace hbm := hbm.upd hu id
        replace hbk := hbk.upd hu id
        replace hba := hba.upd hu id
        clear hu
        refine ⟨⟨hbk.cell0, Blk.cell0 hbl⟩, ?_⟩
        refine wpE_ef rfl ?_
        go_simp
        gi_wp2_with (first | refine (⟨trivial, rfl, ?_⟩ : Fence.wide.fn _ ∧ Fence.wide.depth = none ∧ _) | (gi_at_call 39; (with_reducible refine map_u.mono ?_); rintro e W2 ⟨bs, bf, rfl, hbs, hbf, hu⟩))
        replace hr := hr.agree' (hu.agree fun k hk => ⟨by simpa using hr.lt' k (by simpa using hk), id⟩)
        replace hr2 := hr2.agree' (hu.agree fun k hk => ⟨by simpa using hr2.lt' k (by simpa using hk), id⟩)
        replace hw3 := hw3.agree' (hu.agree fun k hk => ⟨by simpa using hw3.lt' k (by simpa using hk), id⟩)
        replace hB0 := hB0.trans (hu.below hB0.size (fun _ h => h.elim))
        replace hbl := hbl.upd hu id
        replace hbm := hbm.upd hu id
        replace hbk := hbk.upd hu id
        replace hba := hba.upd hu id
        replace hbp := hbp.upd hu id
        clear hu
        refine ⟨⟨hbk.cell0, Blk.cell0 hbl⟩, ?_⟩
        refine wpE_ef rfl ?_
        go_simp
        gi_wp2_with (first | refine (⟨trivial, rfl, ?_⟩ : Fence.wide.fn _ ∧ Fence.wide.depth = none ∧ _) | (gi_at_call 18; (with_reducible refine (mgoes hba hbp hbs hbf hr (by omega) (fun h => by have := hA _ h; omega) hw3 hn3 hm9.1 (by omega)).mono ?_); rintro e W2 ⟨rfl, hn, hu⟩))
        replace hr := hr.agree' (hu.agree fun k hk => ⟨by simpa using hr.lt' k (by simpa using hk), fun e => by have := hA k (by simpa using hk); omega⟩)
        replace hr2 := hr2.agree' (hu.agree fun k hk => ⟨by simpa using hr2.lt' k (by simpa using hk), fun e => by have := hA2 k (by simpa using hk); omega⟩)
        replace hw3 := hw3.agree' (hu.agree fun k hk => ⟨by simpa using hw3.lt' k (by simpa using hk), fun e => hn3 k (by simpa using hk) (by simpa using e)⟩)
        replace hB0 := hB0.trans (hu.below hB0.size (fun k h => by omega))
        replace hbl := hbl.upd hu (Blk.ne hbl hba (by decide))
        replace hbm := hbm.upd hu (Blk.ne hbm hba (by decide))
        replace hbk := hbk.upd hu (Blk.ne hbk hba (by decide))
        replace hba := hn
        clear hu
        refine ⟨⟨hbk.cell0, Blk.cell0 hbl⟩, ?_⟩
        clear hbp hbs hbf
        refine wpE_fl rfl rfl (fun _ _ => rfl) ?_
        go_simp
        refine wpE_fl rfl rfl (fun _ _ => rfl) ?_
        go_simp
        refine wpE_fl rfl rfl (fun _ _ => rfl) ?_
        go_simp
        refine wpE_fl rfl rfl (fun _ _ => rfl) ?_
        go_simp
        refine wpE_fl rfl rfl (fun _ _ => rfl) ?_
        go_simp
        refine wpE_fl (v := .slice A xs.length cap) rfl rfl (fun W' h' => ?_) ?_
        · obtain ⟨h1, h2⟩ := h'; go_simp
        go_simp
        refine wpE_fl (v := .int .i64 xs.length) rfl rfl (fun W' h' => ?_) ?_
        · go_simp
        go_simp
        refine wpE_fl (v := .int .i64 (m % 9)) rfl rfl (fun W' h' => ?_) ?_
        · obtain ⟨h1, h2⟩ := h'; go_simp
        go_simp
        refine wpE_fl (v := .int .i64 (max (m % 9) 1)) rfl rfl (fun W' h' => ?_) ?_
        · go_simp
        go_simp
        refine wpE_fl (v := .int .i64 (min (xs.length : Int) (max (m % 9) 1))) rfl rfl (fun W' h' => ?_) ?_
        · go_simp; omega
        go_simp
        have cn := hba.cell 1
        refine wpE_ef rfl ?_
        go_simp
        gi_wp2
        refine ⟨⟨hbk.cell0, Blk.cell0 hbl⟩, ?_⟩
        refine wpE_fl (v := .bool false) rfl rfl (fun W' h' => ?_) ?_
        · go_simp
        go_simp
        refine wpE_fl rfl rfl (fun _ _ => rfl) ?_
        go_simp
        refine wpE_fl rfl rfl (fun _ _ => rfl) ?_
        go_simp
        refine wpE_fl (v := .slice A xs.length cap) rfl rfl (fun W' h' => ?_) ?_
        · obtain ⟨h1, h2⟩ := h'; go_simp
        go_simp
        refine wpE_fl rfl rfl (fun _ _ => rfl) ?_
        go_simp
        refine wpE_fl rfl rfl (fun _ _ => rfl) ?_
        go_simp
        clear hba cn hn3
        refine wpE_ef rfl ?_
        go_simp
        gi_wp2_with (first | refine (⟨trivial, rfl, ?_⟩ : Fence.wide.fn _ ∧ Fence.wide.depth = none ∧ _) | (gi_at_call 24; (with_reducible refine values_u.mono ?_); rintro e W2 ⟨bv, rfl, hbv, hu⟩))
        replace hr := hr.agree' (hu.agree fun k hk => ⟨by simpa using hr.lt' k (by simpa using hk), id⟩)
        replace hr2 := hr2.agree' (hu.agree fun k hk => ⟨by simpa using hr2.lt' k (by simpa using hk), id⟩)
        replace hw3 := hw3.agree' (hu.agree fun k hk => ⟨by simpa using hw3.lt' k (by simpa using hk), id⟩)
        replace hB0 := hB0.trans (hu.below hB0.size (fun _ h => h.elim))
        replace hbl := hbl.upd hu id
        replace hbm := hbm.upd hu id
        replace hbk := hbk.upd hu id
        clear hu
        refine ⟨⟨hbk.cell0, Blk.cell0 hbl⟩, ?_⟩
        refine wpE_ef rfl ?_
        go_simp
        gi_wp2_with (first | refine (⟨trivial, rfl, ?_⟩ : Fence.wide.fn _ ∧ Fence.wide.depth = none ∧ _) | (gi_at_call 39; (with_reducible refine map_u.mono ?_); rintro e W2 ⟨bs, bf, rfl, hbs, hbf, hu⟩))
        replace hr := hr.agree' (hu.agree fun k hk => ⟨by simpa using hr.lt' k (by simpa using hk), id⟩)
        replace hr2 := hr2.agree' (hu.agree fun k hk => ⟨by simpa using hr2.lt' k (by simpa using hk), id⟩)
        replace hw3 := hw3.agree' (hu.agree fun k hk => ⟨by simpa using hw3.lt' k (by simpa using hk), id⟩)
        replace hB0 := hB0.trans (hu.below hB0.size (fun _ h => h.elim))
        replace hbl := hbl.upd hu id
        replace hbm := hbm.upd hu id
        replace hbk := hbk.upd hu id
        replace hbv := hbv.upd hu id
        clear hu
        refine ⟨⟨hbk.cell0, Blk.cell0 hbl⟩, ?_⟩
        refine wpE_ef rfl ?_
        go_simp
        gi_wp2_with (first | refine (⟨trivial, rfl, ?_⟩ : Fence.wide.fn _ ∧ Fence.wide.depth = none ∧ _) | (gi_at_call 18; (with_reducible refine (vmgoes hbv hbs hbf hr (by omega) hw3 (by omega) (by omega)).mono ?_); rintro e W2 ⟨rfl, hu⟩))
        replace hr := hr.agree' (hu.agree fun k hk => ⟨by simpa using hr.lt' k (by simpa using hk), id⟩)
        replace hr2 := hr2.agree' (hu.agree fun k hk => ⟨by simpa using hr2.lt' k (by simpa using hk), id⟩)
        replace hB0 := hB0.trans (hu.below hB0.size (fun _ h => h.elim))
        replace hbl := hbl.upd hu id
        replace hbm := hbm.upd hu id
        replace hbk := hbk.upd hu id
        clear hu
        refine ⟨⟨hbk.cell0, Blk.cell0 hbl⟩, ?_⟩
        clear hbv hbs hbf hw3
        refine wpE_fl rfl rfl (fun _ _ => rfl) ?_
        go_simp
        refine wpE_fl rfl rfl (fun _ _ => rfl) ?_
        go_simp
        have cl3 := Blk.cell0 (Blk.alloc (Blk.alloc (show Blk W2 w.heap.size #[.slice A xs.length cap] 22 from hbl) (.cells #[.int .i64 0] 3)) (.cells #[.bool true] 4))
        have hn : Blk ((W2.alloc (.cells #[.int .i64 0] 3)).alloc (.cells #[.bool true] 4)) W2.heap.size #[.int .i64 0] 3 := Blk.alloc (Blk.new' rfl) _
        have hok : Blk ((W2.alloc (.cells #[.int .i64 0] 3)).alloc (.cells #[.bool true] 4)) (W2.heap.size + 1) #[.bool true] 4 := Blk.new' (by simp)
        have hu : Upd (fun _ => False) W2 ((W2.alloc (.cells #[.int .i64 0] 3)).alloc (.cells #[.bool true] 4)) := (Upd.alloc _ _ _).stepAlloc _
        have hz3 := hbk.lt
        have hz2 := Blk.lt hbm
        have hz1 := hB0.size
        replace hr := hr.agree' (hu.agree fun k hk => ⟨by simpa using hr.lt' k (by simpa using hk), id⟩)
        replace hr2 := hr2.agree' (hu.agree fun k hk => ⟨by simpa using hr2.lt' k (by simpa using hk), id⟩)
        replace hB0 := hB0.trans (hu.below hB0.size (fun _ h => h.elim))
        replace hbl := hbl.upd hu id
        replace hbm := hbm.upd hu id
        replace hbk := hbk.upd hu id
        clear hu
        replace hn := Lib.hid hn
        replace hok := Lib.hid hok
        refine wpE_nil ?_
        gi_wp2_with (first | refine (⟨trivial, rfl, ?_⟩ : Fence.wide.fn _ ∧ Fence.wide.depth = none ∧ _) | (gi_at_call 24; (generalize ((W2.alloc (.cells #[.int .i64 0] 3)).alloc (.cells #[.bool true] 4)) = W3 at *); (have hz4 : w.heap.size + 1 < W2.heap.size + 1 := by omega); (have hz5 : bk < W2.heap.size + 1 := by omega); (have hz6 : w.heap.size ≤ W2.heap.size + 1 := by omega); (have hd2 : W2.heap.size ≠ bk := by omega); (replace hn := hn.out); (replace hok := hok.out); (generalize W2.heap.size + 1 = bok at *); (generalize W2.heap.size = bn at *); (with_reducible refine values_u.mono ?_); (rintro e W2 ⟨bv, rfl, hbv, hu⟩); (replace hr := hr.agree' (hu.agree fun k hk => ⟨by simpa using hr.lt' k (by simpa using hk), id⟩)); (replace hr2 := hr2.agree' (hu.agree fun k hk => ⟨by simpa using hr2.lt' k (by simpa using hk), id⟩)); (replace hB0 := hB0.trans (hu.below hB0.size (fun _ h => h.elim))); (replace hbl := hbl.upd hu id); (replace hbm := hbm.upd hu id); (replace hbk := hbk.upd hu id); (replace hn := hn.upd hu id); (replace hok := hok.upd hu id); (clear hu)) | (gi_at_call 40; (with_reducible refine number_u.mono ?_); (rintro e W2 ⟨bs, rfl, hbs, hu⟩); (replace hr := hr.agree' (hu.agree fun k hk => ⟨by simpa using hr.lt' k (by simpa using hk), id⟩)); (replace hr2 := hr2.agree' (hu.agree fun k hk => ⟨by simpa using hr2.lt' k (by simpa using hk), id⟩)); (replace hB0 := hB0.trans (hu.below hB0.size (fun _ h => h.elim))); (replace hbl := hbl.upd hu id); (replace hbm := hbm.upd hu id); (replace hbk := hbk.upd hu id); (replace hn := hn.upd hu id); (replace hok := hok.upd hu id); (replace hbv := hbv.upd hu id); (clear hu)) | (gi_at_call 83; refine (number_run hok hn hbl hbk hbv hbs (by omega) hr hd2 (fun k hk => by have := hA k hk; exact ⟨by omega, by omega⟩)).2.mono ?_; (rintro e W2 ⟨v, rfl, p1, p2, hu⟩); (clear hok hn hbv hbs); (replace hbl := Blk.upd hbl hu (by rintro (h | h) <;> omega)); (replace hbm := Blk.upd hbm hu (by rintro (h | h) <;> omega)); (replace hbk := Blk.upd hbk hu (by rintro (h | h) <;> omega)); (replace hr := hr.agree' (hu.agree fun k hk => ⟨hr.lt' k hk, by have := hA k (by simpa using hk); rintro (h | h) <;> omega⟩)); (replace hr2 := hr2.agree' (hu.agree fun k hk => ⟨hr2.lt' k hk, by have := hA2 k (by simpa using hk); rintro (h | h) <;> omega⟩)); (replace hB0 := hB0.trans (hu.below hB0.size (fun k h => by omega))); (clear hu)))
        have hu := Upd.drew (fun _ => False) W2
        refine wpIn_eager [(1,true),(3,true),(5,true),(0,false),(2,false),(4,false),(6,false),(7,true)] (fun W => W.cell? ⟨w.heap.size, 0, none⟩ = some (.slice A xs.length cap) ∧ W.cell? ⟨w.heap.size + 1, 0, none⟩ = some (.slice A2 ys.length cap2)) (by kernel_rfl) (by kernel_rfl) ⟨Blk.cell0 hbl, Blk.cell0 hbm⟩ ?_
        generalize W2.drew = W at *
        replace hr := hr.agree' (hu.agree fun k hk => ⟨by simpa using hr.lt' k (by simpa using hk), id⟩)
        replace hr2 := hr2.agree' (hu.agree fun k hk => ⟨by simpa using hr2.lt' k (by simpa using hk), id⟩)
        replace hB0 := hB0.trans (hu.below hB0.size (fun _ h => h.elim))
        replace hbl := hbl.upd hu id
        replace hbm := hbm.upd hu id
        replace hbk := hbk.upd hu id
        replace p1 := p1.upd hu id
        replace p2 := p2.upd hu id
        clear hu
        refine wpE_fl (v := .slice A xs.length cap) rfl rfl (fun W' h' => ?_) ?_
        · obtain ⟨h1, h2⟩ := h'; go_simp
        go_simp
        refine wpE_fl (v := .slice A2 ys.length cap2) rfl rfl (fun W' h' => ?_) ?_
        · obtain ⟨h1, h2⟩ := h'; go_simp
        go_simp
        refine wpE_fl (v := .slice A xs.length cap) rfl rfl (fun W' h' => ?_) ?_
        · obtain ⟨h1, h2⟩ := h'; go_simp
        go_simp
        refine wpE_ef rfl ?_
        go_simp
        gi_wp2
        have hown := own_empty W 3
        have hu := Upd.alloc (fun _ => False) W (.cells #[] 3)
        have e1 := Blk.lt hbl
        have e2 := Blk.lt hbm
        have e3 := hbk.lt
        have e4 := p1.lt
        have e5 := p2.lt
        have e6 := hB0.size
        have e7 : W.heap.size ≤ (W.alloc (.cells #[] 3)).heap.size := by simp
        replace hr := hr.agree' (hu.agree fun k hk => ⟨by simpa using hr.lt' k (by simpa using hk), id⟩)
        replace hr2 := hr2.agree' (hu.agree fun k hk => ⟨by simpa using hr2.lt' k (by simpa using hk), id⟩)
        replace hB0 := hB0.trans (hu.below hB0.size (fun _ h => h.elim))
        replace hbl := hbl.upd hu id
        replace hbm := hbm.upd hu id
        replace hbk := hbk.upd hu id
        replace p1 := p1.upd hu id
        replace p2 := p2.upd hu id
        clear hu
        generalize (W.alloc (.cells #[] 3)) = W3 at *
        have e8 : ∀ k, blkOf' A xs.length k → k < W.heap.size := fun k hk => by have := hA k hk; omega
        have e9 : ∀ k, blkOf' A2 ys.length k → k < W.heap.size := fun k hk => by have := hA2 k hk; omega
        generalize W.heap.size = g0 at *
        refine ⟨⟨Blk.cell0 hbl, Blk.cell0 hbm⟩, ?_⟩
        refine wpE_ef rfl ?_
        go_simp
        refine appL Try.underlying22 infoI zInt le_8 hown (by omega) (List.length_map _) (by omega) hr (by simp [Value.oneCell']) rfl rfl ?_
        intro v1 W4 hown' hu' _
        have hu := hu'.mono (M' := fun j => g0 ≤ j) (fun j _ hj => own_base hown j hj)
        clear hown hu'
        have hown := hown'
        clear hown'
        replace hbl := Blk.upd hbl hu (by omega)
        replace hbm := Blk.upd hbm hu (by omega)
        replace hbk := Blk.upd hbk hu (by omega)
        replace p1 := Blk.upd p1 hu (by omega)
        replace p2 := Blk.upd p2 hu (by omega)
        replace hr := hr.agree' (hu.agree fun k hk => ⟨hr.lt' k hk, fun h => by have := e8 k (by simpa using hk); omega⟩)
        replace hr2 := hr2.agree' (hu.agree fun k hk => ⟨hr2.lt' k hk, fun h => by have := e9 k (by simpa using hk); omega⟩)
        replace e7 := Nat.le_trans e7 hu.size
        replace hB0 := hB0.trans (hu.below hB0.size (fun k h => by omega))
        clear hu
        go_simp
        refine wpListIn_nil ?_
        simp only [Exit.then]
        refine ⟨⟨Blk.cell0 hbl, Blk.cell0 hbm⟩, ?_⟩
        refine wpE_ef rfl ?_
        go_simp
        refine appL Try.underlying22 infoI zInt le_8 hown (by omega) (List.length_map _) (by omega) hr2 (by simp [Value.oneCell']) rfl rfl ?_
        intro v2 W5 hown' hu' _
        have hu := hu'.mono (M' := fun j => g0 ≤ j) (fun j _ hj => own_base hown j hj)
        clear hown hu'
        have hown := hown'
        clear hown'
        replace hbl := Blk.upd hbl hu (by omega)
        replace hbm := Blk.upd hbm hu (by omega)
        replace hbk := Blk.upd hbk hu (by omega)
        replace p1 := Blk.upd p1 hu (by omega)
        replace p2 := Blk.upd p2 hu (by omega)
        replace hr := hr.agree' (hu.agree fun k hk => ⟨hr.lt' k hk, fun h => by have := e8 k (by simpa using hk); omega⟩)
        replace hr2 := hr2.agree' (hu.agree fun k hk => ⟨hr2.lt' k hk, fun h => by have := e9 k (by simpa using hk); omega⟩)
        replace e7 := Nat.le_trans e7 hu.size
        replace hB0 := hB0.trans (hu.below hB0.size (fun k h => by omega))
        clear hu
        go_simp
        refine wpListIn_nil ?_
        simp only [Exit.then]
        refine ⟨⟨Blk.cell0 hbl, Blk.cell0 hbm⟩, ?_⟩
        refine wpE_ef rfl ?_
        go_simp
        refine appL Try.underlying22 infoI zInt le_8 hown (by omega) (List.length_map _) (by omega) hr (by simp [Value.oneCell']) rfl rfl ?_
        intro v3 W6 hown' hu' _
        have hu := hu'.mono (M' := fun j => g0 ≤ j) (fun j _ hj => own_base hown j hj)
        clear hown hu'
        have hown := hown'
        clear hown'
        replace hbl := Blk.upd hbl hu (by omega)
        replace hbm := Blk.upd hbm hu (by omega)
        replace hbk := Blk.upd hbk hu (by omega)
        replace p1 := Blk.upd p1 hu (by omega)
        replace p2 := Blk.upd p2 hu (by omega)
        replace hr := hr.agree' (hu.agree fun k hk => ⟨hr.lt' k hk, fun h => by have := e8 k (by simpa using hk); omega⟩)
        replace hr2 := hr2.agree' (hu.agree fun k hk => ⟨hr2.lt' k hk, fun h => by have := e9 k (by simpa using hk); omega⟩)
        replace e7 := Nat.le_trans e7 hu.size
        replace hB0 := hB0.trans (hu.below hB0.size (fun k h => by omega))
        clear hu
        go_simp
        refine wpListIn_nil ?_
        simp only [Exit.then]
        refine ⟨⟨Blk.cell0 hbl, Blk.cell0 hbm⟩, ?_⟩
        rw [Nat.zero_add, List.nil_append, ← List.map_append, ← List.map_append] at hown
        generalize hL : xs.length + ys.length + xs.length = L at *
        obtain ⟨A5, cap5, rfl⟩ := own_shape hown
        obtain ⟨hw5, hg5⟩ := own_reads hown (by simp; omega)
        clear hown hg5 e1 e2 e3 e4 e5 e6 e7 e8 e9
        refine wpE_fl rfl rfl (fun _ _ => rfl) ?_
        go_simp
        refine wpE_nil ?_
        gi_wp2
        have hu := Upd.drew (fun _ => False) W6
        refine wpIn_eager [(0,true),(1,true),(2,true),(3,true),(4,true),(5,true),(6,true),(7,true),(8,true),(9,true),(10,true),(11,true),(13,true),(14,true),(12,false),(15,false),(16,true),(17,true),(18,true),(20,true),(19,false),(21,false),(22,true),(23,true)] (fun W => W.cell? ⟨bk, 0, none⟩ = some (.int .i64 (m % 9)) ∧ W.cell? ⟨w.heap.size, 0, none⟩ = some (.slice A xs.length cap) ∧ W.cell? ⟨bok, 0, none⟩ = some (.bool true) ∧ W.cell? ⟨bn, 0, none⟩ = some (.int .i64 (min (xs.length : Int) (max (m % 9) 1)))) (by kernel_rfl) (by kernel_rfl) ⟨hbk.cell0, Blk.cell0 hbl, p1.cell0, p2.cell0⟩ ?_
        generalize W6.drew = W at *
        replace hr := hr.agree' (hu.agree fun k hk => ⟨by simpa using hr.lt' k (by simpa using hk), id⟩)
        replace hr2 := hr2.agree' (hu.agree fun k hk => ⟨by simpa using hr2.lt' k (by simpa using hk), id⟩)
        replace hB0 := hB0.trans (hu.below hB0.size (fun _ h => h.elim))
        replace hbl := hbl.upd hu id
        replace hbm := hbm.upd hu id
        replace hbk := hbk.upd hu id
        replace p1 := p1.upd hu id
        replace p2 := p2.upd hu id
        replace hw5 := hw5.agree' (hu.agree fun k hk => ⟨by simpa using hw5.lt' k (by simpa using hk), id⟩)
        clear hu
        refine wpE_fl (v := .bool true) rfl rfl (fun W' h' => ?_) ?_
        · obtain ⟨h1, h2, h3, h4⟩ := h'; go_simp
        go_simp
        refine wpE_fl rfl rfl (fun _ _ => rfl) ?_
        go_simp
        refine wpE_fl (v := .int .i64 (min (xs.length : Int) (max (m % 9) 1))) rfl rfl (fun W' h' => ?_) ?_
        · obtain ⟨h1, h2, h3, h4⟩ := h'; go_simp
        go_simp
        refine wpE_fl (v := .slice A xs.length cap) rfl rfl (fun W' h' => ?_) ?_
        · obtain ⟨h1, h2, h3, h4⟩ := h'; go_simp
        go_simp
        refine wpE_fl (v := .int .i64 xs.length) rfl rfl (fun W' h' => ?_) ?_
        · go_simp
        go_simp
        refine wpE_fl (v := .int .i64 (m % 9)) rfl rfl (fun W' h' => ?_) ?_
        · obtain ⟨h1, h2, h3, h4⟩ := h'; go_simp
        go_simp
        refine wpE_fl (v := .int .i64 (max (m % 9) 1)) rfl rfl (fun W' h' => ?_) ?_
        · go_simp
        go_simp
        refine wpE_fl (v := .int .i64 (min (xs.length : Int) (max (m % 9) 1))) rfl rfl (fun W' h' => ?_) ?_
        · go_simp; omega
        go_simp
        refine wpE_fl (v := .bool true) rfl rfl (fun W' h' => ?_) ?_
        · go_simp
        go_simp
        refine wpE_fl rfl rfl (fun _ _ => rfl) ?_
        go_simp
        refine wpE_fl rfl rfl (fun _ _ => rfl) ?_
        go_simp
        refine wpE_fl rfl rfl (fun _ _ => rfl) ?_
        go_simp
        refine wpE_fl rfl rfl (fun _ _ => rfl) ?_
        go_simp
        refine wpE_fl (v := .int .i64 (m % 9)) rfl rfl (fun W' h' => ?_) ?_
        · obtain ⟨h1, h2, h3, h4⟩ := h'; go_simp
        go_simp
        refine wpE_ef rfl ?_
        go_simp
        gi_wp2_with (first | refine (⟨trivial, rfl, ?_⟩ : Fence.wide.fn _ ∧ Fence.wide.depth = none ∧ _) | (gi_at_call 42; (with_reducible refine (join3_c hbl hbm hr hr2).mono ?_); rintro e W2 ⟨v, rfl, hj, hu⟩))
        replace hr := hr.agree' (hu.agree fun k hk => ⟨by simpa using hr.lt' k (by simpa using hk), id⟩)
        replace hr2 := hr2.agree' (hu.agree fun k hk => ⟨by simpa using hr2.lt' k (by simpa using hk), id⟩)
        replace hB0 := hB0.trans (hu.below hB0.size (fun _ h => h.elim))
        replace hbl := hbl.upd hu id
        replace hbm := hbm.upd hu id
        replace hbk := hbk.upd hu id
        replace p1 := p1.upd hu id
        replace p2 := p2.upd hu id
        replace hw5 := hw5.agree' (hu.agree fun k hk => ⟨by simpa using hw5.lt' k (by simpa using hk), id⟩)
        clear hu
        refine ⟨⟨hbk.cell0, Blk.cell0 hbl, p1.cell0, p2.cell0⟩, ?_⟩
        refine wpE_ef rfl ?_
        go_simp
        gi_wp2_with (first | refine (⟨trivial, rfl, ?_⟩ : Fence.wide.fn _ ∧ Fence.wide.depth = none ∧ _) | (gi_at_call 18; (with_reducible refine (jgoes hj hf1 hf2 hw5 (by simp; omega) (by omega) (by omega)).mono ?_); rintro e W2 ⟨rfl, hu⟩))
        replace hr := hr.agree' (hu.agree fun k hk => ⟨by simpa using hr.lt' k (by simpa using hk), id⟩)
        replace hr2 := hr2.agree' (hu.agree fun k hk => ⟨by simpa using hr2.lt' k (by simpa using hk), id⟩)
        replace hB0 := hB0.trans (hu.below hB0.size (fun _ h => h.elim))
        replace hbl := hbl.upd hu id
        replace hbm := hbm.upd hu id
        replace hbk := hbk.upd hu id
        replace p1 := p1.upd hu id
        replace p2 := p2.upd hu id
        replace hw5 := hw5.agree' (hu.agree fun k hk => ⟨by simpa using hw5.lt' k (by simpa using hk), id⟩)
        clear hu
        refine ⟨⟨hbk.cell0, Blk.cell0 hbl, p1.cell0, p2.cell0⟩, ?_⟩
        clear hj
        refine wpE_fl rfl rfl (fun _ _ => rfl) ?_
        go_simp
        refine wpE_fl rfl rfl (fun _ _ => rfl) ?_
        go_simp
        refine wpE_fl rfl rfl (fun _ _ => rfl) ?_
        go_simp
        refine wpE_fl rfl rfl (fun _ _ => rfl) ?_
        go_simp
        refine wpE_ef rfl ?_
        go_simp
        gi_wp2_with (first | refine (⟨trivial, rfl, ?_⟩ : Fence.wide.fn _ ∧ Fence.wide.depth = none ∧ _) | (gi_at_call 42; (with_reducible refine (join3_c hbl hbm hr hr2).mono ?_); rintro e W2 ⟨v, rfl, hj, hu⟩))
        replace hr := hr.agree' (hu.agree fun k hk => ⟨by simpa using hr.lt' k (by simpa using hk), id⟩)
        replace hr2 := hr2.agree' (hu.agree fun k hk => ⟨by simpa using hr2.lt' k (by simpa using hk), id⟩)
        replace hB0 := hB0.trans (hu.below hB0.size (fun _ h => h.elim))
        replace hbl := hbl.upd hu id
        replace hbm := hbm.upd hu id
        replace hbk := hbk.upd hu id
        replace p1 := p1.upd hu id
        replace p2 := p2.upd hu id
        replace hw5 := hw5.agree' (hu.agree fun k hk => ⟨by simpa using hw5.lt' k (by simpa using hk), id⟩)
        clear hu
        refine ⟨⟨hbk.cell0, Blk.cell0 hbl, p1.cell0, p2.cell0⟩, ?_⟩
        refine wpE_ef rfl ?_
        go_simp
        gi_wp2_with (first | refine (⟨trivial, rfl, ?_⟩ : Fence.wide.fn _ ∧ Fence.wide.depth = none ∧ _) | (gi_at_call 18; (with_reducible refine (jgoes hj hf1 hf2 hw5 (by simp; omega) (by omega) (by omega)).mono ?_); rintro e W2 ⟨rfl, hu⟩))
        replace hr := hr.agree' (hu.agree fun k hk => ⟨by simpa using hr.lt' k (by simpa using hk), id⟩)
        replace hr2 := hr2.agree' (hu.agree fun k hk => ⟨by simpa using hr2.lt' k (by simpa using hk), id⟩)
        replace hB0 := hB0.trans (hu.below hB0.size (fun _ h => h.elim))
        replace hbl := hbl.upd hu id
        replace hbm := hbm.upd hu id
        replace hbk := hbk.upd hu id
        replace p1 := p1.upd hu id
        replace p2 := p2.upd hu id
        replace hw5 := hw5.agree' (hu.agree fun k hk => ⟨by simpa using hw5.lt' k (by simpa using hk), id⟩)
        clear hu
        refine ⟨⟨hbk.cell0, Blk.cell0 hbl, p1.cell0, p2.cell0⟩, ?_⟩
        refine wpE_fl rfl rfl (fun _ _ => rfl) ?_
        go_simp
        refine wpE_fl rfl rfl (fun _ _ => rfl) ?_
        go_simp
        refine wpE_nil ?_
        gi_wp2
        exact bodyPost_ret (results_tmp rfl _ _ _) rfl ⟨rfl, hB0⟩
  · clear hr hr2
    by_cases hf1 : xs.length ≤ 60
    · have hf2 : ¬ ys.length ≤ 60 := fun h => hf ⟨hf1, h⟩
      clear hf
      gi_wp2_with (first | refine (⟨trivial, rfl, ?_⟩ : Fence.wide.fn _ ∧ Fence.wide.depth = none ∧ _) | (gi_at_call 14; refine awake_c.mono ?_; rintro e w1 ⟨rfl, hB1⟩; (replace hbl := (hB1.block _ (Blk.lt hbl)).trans hbl); (replace clb := Blk.cell0 hbl); (replace llb := Blk.lt hbl); (replace hbm := (hB1.block _ (Blk.lt hbm)).trans hbm); (replace cmb := Blk.cell0 hbm); (replace lmb := Blk.lt hbm); (replace hB0 := hB0.trans (hB1.mono hB0.size)); clear hB1) | (gi_at_call 15; refine (few_c (by unfold maxLen; omega)).mono ?_; rintro e w' ⟨rfl, rfl⟩))
      exact bodyPost_ret (results_tmp rfl _ _ _) rfl ⟨rfl, hB0⟩
    · clear hf
      gi_wp2_with (first | refine (⟨trivial, rfl, ?_⟩ : Fence.wide.fn _ ∧ Fence.wide.depth = none ∧ _) | (gi_at_call 14; refine awake_c.mono ?_; rintro e w1 ⟨rfl, hB1⟩; (replace hbl := (hB1.block _ (Blk.lt hbl)).trans hbl); (replace clb := Blk.cell0 hbl); (replace llb := Blk.lt hbl); (replace hbm := (hB1.block _ (Blk.lt hbm)).trans hbm); (replace cmb := Blk.cell0 hbm); (replace lmb := Blk.lt hbm); (replace hB0 := hB0.trans (hB1.mono hB0.size)); clear hB1) | (gi_at_call 15; refine (few_c (by unfold maxLen; omega)).mono ?_; rintro e w' ⟨rfl, rfl⟩) | refine (⟨trivial, ?_⟩ : Fence.wide.fn _ ∧ _))
      exact bodyPost_ret (results_tmp rfl _ _ _) rfl ⟨rfl, hB0⟩
end Go.Proofs.Ytkjkpmeommfdgaa

/- WeaveFilters answers true, whatever its input. -/
import Derived.Test.YtkjkpmeommfdgaaBase
import Derived.Test.YtkjkpmeommfdgaaWvL
import Derived.Test.YtkjkpmeommfdgaaWvA
import Derived.Test.YtkjkpmeommfdgaaWvH
namespace Go.Proofs.Ytkjkpmeommfdgaa
open Go.RowKit Go.Shelf
attribute [local go_sem] Oper.semAt_some

set_option maxRecDepth 100000 in
set_option maxHeartbeats 1000000 in
theorem weaveFilters_c {n : Nat} {A : Option Addr} {cap : Nat} {xs : List Int} {b m : Int} {w : World} (hr : Reads1 w A (xs.map (Value.int .i64))) (hl : xs.length ≤ cap) (hc : cap ≤ maxLen) (hb0 : 0 ≤ b) (hb1 : b < 256) (hm0 : 0 ≤ m) (hm1 : m < 256) :
    CallsIn Fence.wide n Try.prog 3 #[.slice A xs.length cap, .int .u8 b, .int .u8 m] w fun e w' => e = .returned (.bool true) ∧ Below w.heap.size w w' := by
  refine callsIn_any (n := 0) (callsIn_of_wp Try.func3 rfl trivial ?_)
  simp only [Try.ntmps3, List.size_toArray, List.length_cons, List.length_nil, Nat.reduceAdd, Nat.reduceSub, Array.replicate_succ, Array.replicate_zero, List.push_toArray, List.append_toArray, List.nil_append, List.cons_append]
  unfold maxLen at hc
  have hB := Lib.hid (Below.refl w.heap.size w)
  by_cases hf : xs.length ≤ 60
  · replace hr := Lib.hid hr
    gi_wp2_with (first | refine (⟨trivial, rfl, ?_⟩ : Fence.wide.fn _ ∧ Fence.wide.depth = none ∧ _) | (gi_at_call 14; refine awake_c.mono ?_; rintro e w1 ⟨rfl, hB1⟩; (replace hB := Lib.hid (hB.out.trans (hB1.mono hB.out.size))); clear hB1) | (gi_at_call 15; refine (few_c (by unfold maxLen; omega)).mono ?_; rintro e w' ⟨rfl, rfl⟩) | (gi_at_call 16; refine (number_c hb0 hb1).mono ?_; rintro e w' ⟨rfl, rfl⟩))
    generalize hW : (((w'.alloc (.cells #[.int .i64 (1 + b % 5)] 3)).alloc (.cells #[.slice A xs.length cap, .int .i64 0] 29)).alloc (.cells #[.slice A xs.length cap, .int .i64 0] 29)) = W0
    have hbk : Blk W0 w'.heap.size #[.int .i64 (1 + b % 5)] 3 := by subst hW; exact Blk.alloc (Blk.alloc (Blk.new' rfl) _) _
    have hba : Blk W0 (w'.heap.size + 1) #[.slice A xs.length cap, .int .i64 0] 29 := by subst hW; exact Blk.alloc (Blk.new' (by simp)) _
    have hbb : Blk W0 (w'.heap.size + 1 + 1) #[.slice A xs.length cap, .int .i64 0] 29 := by subst hW; exact Blk.new' (by simp)
    have hz : w.heap.size ≤ w'.heap.size := hB.out.size
    have hB0 : Below w.heap.size w W0 := by subst hW; exact ((hB.out.alloc hz _).alloc (by simp; omega) _).alloc (by simp; omega) _
    have hk1 : 1 ≤ 1 + b % 5 := by omega
    have hk2 : 1 + b % 5 ≤ 5 := by omega
    have hm9 : 0 ≤ m % 9 ∧ m % 9 ≤ 1000 := by omega
    have hA : ∀ k, blkOf' A xs.length k → k < w.heap.size := fun k hk => hr.out.lt' k (by simpa using hk)
    have hr := hr.out.agree' (w' := W0) (fun k hk => hB0.block k (hA k (by simpa using hk)))
    clear hW hB
    generalize 1 + b % 5 = k at *
    generalize m % 9 = m9 at *
    have hza : w.heap.size ≤ w'.heap.size + 1 := by omega
    have hzb : w.heap.size ≤ w'.heap.size + 1 + 1 := by omega
    have hab : w'.heap.size + 1 ≠ w'.heap.size + 1 + 1 := by omega
    generalize w'.heap.size + 1 + 1 = bb at *
    generalize w'.heap.size + 1 = ba at *
    generalize w'.heap.size = bk at *
    have hu := Upd.drew (fun _ => False) W0
    refine wpIn_eager [(0,true),(2,true),(4,true),(5,true),(7,true),(1,false),(3,false),(6,false),(8,false),(9,true),(10,true),(11,true),(13,true),(15,true),(16,true),(18,true),(12,false),(14,false),(17,false),(19,false),(20,true),(21,true)] (fun W => W.cell? ⟨bk, 0, none⟩ = some (.int .i64 k)) (by kernel_rfl) (by kernel_rfl) hbk.cell0 ?_
    generalize W0.drew = W at *
    replace hbk := hbk.upd hu id
    replace hba := hba.upd hu id
    replace hbb := hbb.upd hu id
    replace hr := hr.agree' (hu.agree fun k hk => ⟨by simpa using hr.lt' k (by simpa using hk), id⟩)
    replace hB0 := hB0.trans (hu.below hB0.size (fun _ h => h.elim))
    clear hu
    refine wpE_fl rfl rfl (fun _ _ => rfl) ?_
    go_simp
    refine wpE_fl rfl rfl (fun _ _ => rfl) ?_
    go_simp
    refine wpE_fl rfl rfl (fun _ _ => rfl) ?_
    go_simp
    refine wpE_fl (v := .int .i64 k) rfl rfl (fun W' h' => ?_) ?_
    · go_simp
    go_simp
    refine wpE_fl rfl rfl (fun _ _ => rfl) ?_
    go_simp
    refine wpE_ef rfl ?_
    go_simp
    gi_wp2_with (first | refine (⟨trivial, rfl, ?_⟩ : Fence.wide.fn _ ∧ Fence.wide.depth = none ∧ _) | (gi_at_call 20; refine count_u.mono ?_; rintro e W2 ⟨bp, rfl, hbp, hu⟩))
    replace hbk := hbk.upd hu id
    replace hba := hba.upd hu id
    replace hbb := hbb.upd hu id
    replace hr := hr.agree' (hu.agree fun k hk => ⟨by simpa using hr.lt' k (by simpa using hk), id⟩)
    replace hB0 := hB0.trans (hu.below hB0.size (fun _ h => h.elim))
    clear hu
    refine ⟨hbk.cell0, ?_⟩
    refine wpE_ef rfl ?_
    go_simp
    gi_wp2_with (first | refine (⟨trivial, rfl, ?_⟩ : Fence.wide.fn _ ∧ Fence.wide.depth = none ∧ _) | (gi_at_call 19; refine filter_u.mono ?_; rintro e W2 ⟨bs, bq, rfl, hbs, hbq, hu⟩))
    replace hbk := hbk.upd hu id
    replace hba := hba.upd hu id
    replace hbb := hbb.upd hu id
    replace hr := hr.agree' (hu.agree fun k hk => ⟨by simpa using hr.lt' k (by simpa using hk), id⟩)
    replace hB0 := hB0.trans (hu.below hB0.size (fun _ h => h.elim))
    replace hbp := hbp.upd hu id
    clear hu
    refine ⟨hbk.cell0, ?_⟩
    have hltA := hba.lt
    refine wpE_ef rfl ?_
    go_simp
    gi_wp2_with (first | refine (⟨trivial, rfl, ?_⟩ : Fence.wide.fn _ ∧ Fence.wide.depth = none ∧ _) | (gi_at_call 21; refine (evens_u hr (by omega) hk1 hk2).mono ?_; rintro e W2 ⟨A2, cap2, rfl, hr2, hA2, hu⟩))
    replace hbk := hbk.upd hu id
    replace hba := hba.upd hu id
    replace hbb := hbb.upd hu id
    replace hr := hr.agree' (hu.agree fun k hk => ⟨by simpa using hr.lt' k (by simpa using hk), id⟩)
    replace hB0 := hB0.trans (hu.below hB0.size (fun _ h => h.elim))
    replace hbp := hbp.upd hu id
    replace hbs := hbs.upd hu id
    replace hbq := hbq.upd hu id
    clear hu
    refine ⟨hbk.cell0, ?_⟩
    refine wpE_ef rfl ?_
    go_simp
    gi_wp2_with (first | refine (⟨trivial, rfl, ?_⟩ : Fence.wide.fn _ ∧ Fence.wide.depth = none ∧ _) | (gi_at_call 18; refine (fgoes hba hbp hbs hbq hbk hk1 hk2 hr (by omega) (fun h => by have := hA _ h; omega) hr2 (fun j hj e => by subst e; have := hA2 _ hj; omega) hm9.1 hm9.2).mono ?_; rintro e W2 ⟨rfl, ⟨ca, hca, hn⟩, hu⟩))
    clear hr2 hA2 hltA hbp hbs hbq
    replace hbk := hbk.upd hu (Blk.ne hbk hba (by decide))
    replace hbb := hbb.upd hu (fun e => hab e.symm)
    replace hr := hr.agree' (hu.agree fun k hk => ⟨by simpa using hr.lt' k (by simpa using hk), fun e => by have := hA k (by simpa using hk); omega⟩)
    replace hB0 := hB0.trans (hu.below hB0.size (fun k h => by omega))
    replace hba := hn
    clear hu
    refine ⟨hbk.cell0, ?_⟩
    refine wpE_fl rfl rfl (fun _ _ => rfl) ?_
    go_simp
    refine wpE_fl rfl rfl (fun _ _ => rfl) ?_
    go_simp
    refine wpE_fl rfl rfl (fun _ _ => rfl) ?_
    go_simp
    refine wpE_fl rfl rfl (fun _ _ => rfl) ?_
    go_simp
    refine wpE_fl rfl rfl (fun _ _ => rfl) ?_
    go_simp
    refine wpE_fl (v := .int .i64 k) rfl rfl (fun W' h' => ?_) ?_
    · go_simp
    go_simp
    refine wpE_fl rfl rfl (fun _ _ => rfl) ?_
    go_simp
    refine wpE_ef rfl ?_
    go_simp
    gi_wp2_with (first | refine (⟨trivial, rfl, ?_⟩ : Fence.wide.fn _ ∧ Fence.wide.depth = none ∧ _) | (gi_at_call 20; refine count_u.mono ?_; rintro e W2 ⟨bp, rfl, hbp, hu⟩))
    replace hbk := hbk.upd hu id
    replace hbb := hbb.upd hu id
    replace hba := hba.upd hu id
    replace hr := hr.agree' (hu.agree fun k hk => ⟨by simpa using hr.lt' k (by simpa using hk), id⟩)
    replace hB0 := hB0.trans (hu.below hB0.size (fun _ h => h.elim))
    clear hu
    refine ⟨hbk.cell0, ?_⟩
    refine wpE_ef rfl ?_
    go_simp
    gi_wp2_with (first | refine (⟨trivial, rfl, ?_⟩ : Fence.wide.fn _ ∧ Fence.wide.depth = none ∧ _) | (gi_at_call 22; refine while_u.mono ?_; rintro e W2 ⟨bs, bq, rfl, hbs, hbq, hu⟩))
    replace hbk := hbk.upd hu id
    replace hbb := hbb.upd hu id
    replace hba := hba.upd hu id
    replace hr := hr.agree' (hu.agree fun k hk => ⟨by simpa using hr.lt' k (by simpa using hk), id⟩)
    replace hB0 := hB0.trans (hu.below hB0.size (fun _ h => h.elim))
    replace hbp := hbp.upd hu id
    clear hu
    refine ⟨hbk.cell0, ?_⟩
    refine wpE_ef rfl ?_
    go_simp
    gi_wp2_with (first | refine (⟨trivial, rfl, ?_⟩ : Fence.wide.fn _ ∧ Fence.wide.depth = none ∧ _) | (gi_at_call 23; refine (ahead_c hr (by omega) hl hk1 hk2).mono ?_; rintro e W2 ⟨rfl, rfl⟩))
    refine ⟨hbk.cell0, ?_⟩
    refine wpE_ef rfl ?_
    go_simp
    gi_wp2_with (first | refine (⟨trivial, rfl, ?_⟩ : Fence.wide.fn _ ∧ Fence.wide.depth = none ∧ _) | (gi_at_call 18; refine (wgoes hbb hbp hbs hbq hbk hk1 hk2 hr (by omega) (fun h => by have := hA _ h; omega) hm9.1 hm9.2).mono ?_; rintro e W2 ⟨rfl, ⟨cb, hcb, hn⟩, hu⟩; (replace hcb := Lib.hid hcb)))
    clear hbp hbs hbq
    replace hbk := hbk.upd hu (Blk.ne hbk hbb (by decide))
    replace hba := hba.upd hu hab
    replace hr := hr.agree' (hu.agree fun k hk => ⟨by simpa using hr.lt' k (by simpa using hk), fun e => by have := hA k (by simpa using hk); omega⟩)
    replace hB0 := hB0.trans (hu.below hB0.size (fun k h => by omega))
    replace hbb := hn
    clear hu
    refine ⟨hbk.cell0, ?_⟩
    refine wpE_fl rfl rfl (fun _ _ => rfl) ?_
    go_simp
    refine wpE_fl rfl rfl (fun _ _ => rfl) ?_
    go_simp
    refine wpE_nil ?_
    have ck := hbk.cell0
    gi_wp2_with (first | refine (⟨trivial, rfl, ?_⟩ : Fence.wide.fn _ ∧ Fence.wide.depth = none ∧ _) | (gi_at_call 23; refine (ahead_c hr (by omega) hl hk1 hk2).mono ?_; rintro e W2 ⟨rfl, rfl⟩))
    have htw : (xs.takeWhile fun x => x.tmod k == 0).length ≤ 60 := Nat.le_trans (List.takeWhile_prefix (modz k) (l := xs)).length_le hf
    have hu := Upd.drew (fun _ => False) W2
    refine wpIn_eager [(0,true),(1,true),(2,true),(3,true),(4,true),(5,true),(6,true),(7,true),(8,true),(9,true),(10,true),(11,true),(12,true),(13,true),(14,true),(15,true),(16,true),(17,true),(18,true),(19,true),(20,true),(21,true),(22,true),(24,true),(26,true),(27,true),(23,false),(25,false),(28,false),(29,false),(30,true),(31,true)] (fun W => W.cell? ⟨bb, 1, none⟩ = some (.int .i64 cb) ∧ W.cell? ⟨ba, 1, none⟩ = some (.int .i64 ca) ∧ W.cell? ⟨bk, 0, none⟩ = some (.int .i64 k)) (by kernel_rfl) (by kernel_rfl) ⟨hbb.cell 1, hba.cell 1, hbk.cell0⟩ ?_
    generalize W2.drew = W at *
    replace hbk := hbk.upd hu id
    replace hba := hba.upd hu id
    replace hbb := hbb.upd hu id
    replace hr := hr.agree' (hu.agree fun k hk => ⟨by simpa using hr.lt' k (by simpa using hk), id⟩)
    replace hB0 := hB0.trans (hu.below hB0.size (fun _ h => h.elim))
    clear hu
    refine wpE_fl rfl rfl (fun _ _ => rfl) ?_
    go_simp
    refine wpE_fl (v := .pointer (some ⟨bb, 0, none⟩)) rfl rfl (fun W' h' => ?_) ?_
    · go_simp
    go_simp
    refine wpE_fl (v := .pointer (some ⟨bb, 1, none⟩)) rfl rfl (fun W' h' => ?_) ?_
    · go_simp
    go_simp
    refine wpE_fl (v := .int .i64 cb) rfl rfl (fun W' h' => ?_) ?_
    · obtain ⟨h1, h2, h3⟩ := h'; go_simp
    go_simp
    refine wpE_fl rfl rfl (fun _ _ => rfl) ?_
    go_simp
    refine wpE_fl (v := .int .i64 xs.length) rfl rfl (fun W' h' => ?_) ?_
    · go_simp
    go_simp
    refine wpE_fl rfl rfl (fun _ _ => rfl) ?_
    go_simp
    refine wpE_fl (v := .int .i64 ((xs.takeWhile (modz k)).length + 1)) rfl rfl (fun W' h' => ?_) ?_
    · go_simp; exact Go.IntWalk.i64_in _ ⟨by omega, by omega⟩
    go_simp
    refine wpE_fl rfl rfl (fun _ _ => rfl) ?_
    go_simp
    refine wpE_fl (v := .int .i64 (max m9 1)) rfl rfl (fun W' h' => ?_) ?_
    · go_simp; split <;> omega
    go_simp
    refine wpE_fl (v := .int .i64 (min (min (xs.length : Int) ((xs.takeWhile (modz k)).length + 1)) (max m9 1))) rfl rfl (fun W' h' => ?_) ?_
    · go_simp; rw [min3_run]; simp only [Result.andThen, Int.min_assoc]
    go_simp
    refine wpE_fl (v := .bool true) rfl rfl (fun W' h' => ?_) ?_
    · have hcb := hcb.out; go_simp
    go_simp
    refine wpE_fl rfl rfl (fun _ _ => rfl) ?_
    go_simp
    refine wpE_fl rfl rfl (fun _ _ => rfl) ?_
    go_simp
    refine wpE_fl (v := .pointer (some ⟨ba, 0, none⟩)) rfl rfl (fun W' h' => ?_) ?_
    · go_simp
    go_simp
    refine wpE_fl (v := .pointer (some ⟨ba, 1, none⟩)) rfl rfl (fun W' h' => ?_) ?_
    · go_simp
    go_simp
    refine wpE_fl (v := .int .i64 ca) rfl rfl (fun W' h' => ?_) ?_
    · obtain ⟨h1, h2, h3⟩ := h'; go_simp
    go_simp
    refine wpE_fl rfl rfl (fun _ _ => rfl) ?_
    go_simp
    refine wpE_fl (v := .int .i64 xs.length) rfl rfl (fun W' h' => ?_) ?_
    · go_simp
    go_simp
    refine wpE_fl (v := .bool true) rfl rfl (fun W' h' => ?_) ?_
    · go_simp
    go_simp
    refine wpE_fl rfl rfl (fun _ _ => rfl) ?_
    go_simp
    refine wpE_fl rfl rfl (fun _ _ => rfl) ?_
    go_simp
    refine wpE_fl rfl rfl (fun _ _ => rfl) ?_
    go_simp
    refine wpE_fl rfl rfl (fun _ _ => rfl) ?_
    go_simp
    refine wpE_fl rfl rfl (fun _ _ => rfl) ?_
    go_simp
    refine wpE_fl (v := .int .i64 k) rfl rfl (fun W' h' => ?_) ?_
    · obtain ⟨h1, h2, h3⟩ := h'; go_simp
    go_simp
    refine wpE_ef rfl ?_
    go_simp
    gi_wp2_with (first | refine (⟨trivial, rfl, ?_⟩ : Fence.wide.fn _ ∧ Fence.wide.depth = none ∧ _) | (gi_at_call 24; refine values_u.mono ?_; rintro e W2 ⟨bv, rfl, hbv, hu⟩))
    replace hbk := hbk.upd hu id
    replace hba := hba.upd hu id
    replace hbb := hbb.upd hu id
    replace hr := hr.agree' (hu.agree fun k hk => ⟨by simpa using hr.lt' k (by simpa using hk), id⟩)
    replace hB0 := hB0.trans (hu.below hB0.size (fun _ h => h.elim))
    clear hu
    refine ⟨⟨hbb.cell 1, hba.cell 1, hbk.cell0⟩, ?_⟩
    refine wpE_ef rfl ?_
    go_simp
    gi_wp2_with (first | refine (⟨trivial, rfl, ?_⟩ : Fence.wide.fn _ ∧ Fence.wide.depth = none ∧ _) | (gi_at_call 19; refine filter_u.mono ?_; rintro e W2 ⟨bs, bq, rfl, hbs, hbq, hu⟩))
    replace hbk := hbk.upd hu id
    replace hba := hba.upd hu id
    replace hbb := hbb.upd hu id
    replace hr := hr.agree' (hu.agree fun k hk => ⟨by simpa using hr.lt' k (by simpa using hk), id⟩)
    replace hB0 := hB0.trans (hu.below hB0.size (fun _ h => h.elim))
    replace hbv := hbv.upd hu id
    clear hu
    refine ⟨⟨hbb.cell 1, hba.cell 1, hbk.cell0⟩, ?_⟩
    refine wpE_ef rfl ?_
    go_simp
    gi_wp2_with (first | refine (⟨trivial, rfl, ?_⟩ : Fence.wide.fn _ ∧ Fence.wide.depth = none ∧ _) | (gi_at_call 21; refine (evens_u hr (by omega) hk1 hk2).mono ?_; rintro e W2 ⟨A2, cap2, rfl, hr2, hA2, hu⟩))
    replace hbk := hbk.upd hu id
    replace hba := hba.upd hu id
    replace hbb := hbb.upd hu id
    replace hr := hr.agree' (hu.agree fun k hk => ⟨by simpa using hr.lt' k (by simpa using hk), id⟩)
    replace hB0 := hB0.trans (hu.below hB0.size (fun _ h => h.elim))
    replace hbv := hbv.upd hu id
    replace hbs := hbs.upd hu id
    replace hbq := hbq.upd hu id
    clear hu
    refine ⟨⟨hbb.cell 1, hba.cell 1, hbk.cell0⟩, ?_⟩
    refine wpE_ef rfl ?_
    go_simp
    gi_wp2_with (first | refine (⟨trivial, rfl, ?_⟩ : Fence.wide.fn _ ∧ Fence.wide.depth = none ∧ _) | (gi_at_call 18; refine (vgoes hbv hbs hbq hbk hk1 hk2 hr (by omega) hr2 (by omega) (by omega)).mono ?_; rintro e W2 ⟨rfl, hu⟩))
    replace hbk := hbk.upd hu id
    replace hba := hba.upd hu id
    replace hbb := hbb.upd hu id
    replace hr := hr.agree' (hu.agree fun k hk => ⟨by simpa using hr.lt' k (by simpa using hk), id⟩)
    replace hB0 := hB0.trans (hu.below hB0.size (fun _ h => h.elim))
    replace hbv := hbv.upd hu id
    replace hbs := hbs.upd hu id
    replace hbq := hbq.upd hu id
    clear hu
    refine ⟨⟨hbb.cell 1, hba.cell 1, hbk.cell0⟩, ?_⟩
    refine wpE_fl rfl rfl (fun _ _ => rfl) ?_
    go_simp
    refine wpE_fl rfl rfl (fun _ _ => rfl) ?_
    go_simp
    refine wpE_nil ?_
    gi_wp2
    exact bodyPost_ret (results_tmp rfl _ _ _) rfl ⟨rfl, hB0⟩
  · clear hr
    gi_wp2_with (first | refine (⟨trivial, rfl, ?_⟩ : Fence.wide.fn _ ∧ Fence.wide.depth = none ∧ _) | (gi_at_call 14; refine awake_c.mono ?_; rintro e w1 ⟨rfl, hB1⟩; (replace hB := Lib.hid (hB.out.trans (hB1.mono hB.out.size))); clear hB1) | (gi_at_call 15; refine (few_c (by unfold maxLen; omega)).mono ?_; rintro e w' ⟨rfl, rfl⟩))
    exact bodyPost_ret (results_tmp rfl _ _ _) rfl ⟨rfl, hB.out⟩
end Go.Proofs.Ytkjkpmeommfdgaa

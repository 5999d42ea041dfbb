/- mark: the document's Tick. -/
import Derived.Test.YtpljdckppmobeaaProg
import Derived.Test.YtpljdckppmobeaaBase
import Derived.Test.YtpljdckppmobeaaMkG
namespace Go.Proofs.Ytpljdckppmobeaa
open Go.RowKit Go.Shelf
attribute [local go_sem] Oper.semAt_some

theorem leastL_take {l : List (KSM × Int)} {k : Nat} (h : k < l.length) : (leastL (l.take (k + 1))).1 = if k = 0 ∨ l[k].2 < (leastL (l.take k)).1 then l[k].2 else (leastL (l.take k)).1 := by
  have e : leastL (l.take (k + 1)) = lstep (leastL (l.take k)) l[k] := by
    rw [List.take_succ_eq_append_getElem h, leastL, List.foldl_append]; rfl
  have hs := leastL_some (l.take k)
  have hk : (l.take k ≠ []) ↔ k ≠ 0 := by
    constructor
    · intro h0 e; subst e; simp at h0
    · intro h0 e
      have := congrArg List.length e
      rw [List.length_take, List.length_nil] at this; omega
  rw [e]
  unfold lstep
  by_cases h0 : k = 0
  · subst h0
    have : leastL (l.take 0) = (0, false) := rfl
    rw [this]
    simp
  · have : (leastL (l.take k)).2 = true := by rw [hs, decide_eq_true_eq, hk]; exact h0
    simp only [this, Bool.true_eq_false, false_or, h0]
    split <;> rfl
theorem mostL_take {ls : List (KSM × VSM)} {k : Nat} (h : k < ls.length) : mostL (ls.take (k + 1)) = max (mostL (ls.take k)) ls[k].2.1 := by
  rw [List.take_succ_eq_append_getElem h, mostL, List.foldl_append]; rfl
section
variable {now low idle drain now' : Int} {ls : List (KSM × VSM)} {A : Option Addr} {cap : Nat} {W : World}
set_option maxRecDepth 100000 in
set_option maxHeartbeats 2000000 in
theorem tick13No_c {n : Nat} (h1 : ¬ (now ≤ now' ∧ now' ≤ mxT)) : CallsIn Fence.wide n Try.prog 35 #[.agg #[.int .i64 now, .int .i64 low, .slice A ls.length cap], .int .i64 idle, .int .i64 drain, .int .i64 now'] W fun e W2 => e = .returned (.tuple #[.agg #[.int .i64 now, .int .i64 low, .slice A ls.length cap], .int .i64 1]) ∧ Upd (fun _ => False) W W2 := by
  have b2 := Blk.new (W.alloc (.cells #[.int .i64 now, .int .i64 low, .slice A ls.length cap] 43)) #[.int .i64 now, .int .i64 low, .slice A ls.length cap] 43
  simp only [World.size_alloc] at b2
  replace b2 := Lib.hid b2
  refine callsIn_any (n := 0) (callsIn_of_wp Try.func35 rfl trivial ?_)
  simp only [Try.ntmps35, List.size_toArray, List.length_cons, List.length_nil, Nat.reduceAdd, Nat.reduceSub, Array.replicate_succ, Array.replicate_zero, List.push_toArray, List.append_toArray, List.nil_append, List.cons_append]
  by_cases hc1 : now' < now
  · skip
    gi_wp2_with (first | refine (⟨trivial, rfl, ?_⟩ : Fence.wide.fn _ ∧ Fence.wide.depth = none ∧ _) | refine (⟨trivial, ?_⟩ : Fence.wide.fn _ ∧ _))
    refine bodyPost_ret (results_s rfl rfl (b2.out.cell 0) (b2.out.cell 1) (b2.out.cell 2)) rfl ?_
    exact ⟨rfl, ((Upd.refl _ _).stepAlloc _).stepAlloc _⟩
  · have hc2 : 1099511627776 < now' := by simp only [mxT] at h1; omega
    gi_wp2_with (first | refine (⟨trivial, rfl, ?_⟩ : Fence.wide.fn _ ∧ Fence.wide.depth = none ∧ _) | refine (⟨trivial, ?_⟩ : Fence.wide.fn _ ∧ _))
    refine bodyPost_ret (results_s rfl rfl (b2.out.cell 0) (b2.out.cell 1) (b2.out.cell 2)) rfl ?_
    exact ⟨rfl, ((Upd.refl _ _).stepAlloc _).stepAlloc _⟩
set_option maxRecDepth 100000 in
set_option maxHeartbeats 4000000 in
theorem tick13_c {n : Nat} (hr : Reads1 W A (flatS ls)) (ho : MkOk idle drain now low ls) (h1 : now ≤ now') (h2 : now' ≤ mxT) : CallsIn Fence.wide n Try.prog 35 #[.agg #[.int .i64 now, .int .i64 low, .slice A ls.length cap], .int .i64 idle, .int .i64 drain, .int .i64 now'] W fun e W2 => e = .returned (.tuple #[.agg #[.int .i64 now', .int .i64 (tickLow drain idle now' low ls), .slice A ls.length cap], .int .i64 0]) ∧ Upd (fun _ => False) W W2 := by
  have hl := ho.len
  have b1 := (Blk.new W #[.int .i64 now', .int .i64 low, .slice A ls.length cap] 43).alloc (.cells #[.int .i64 0, .int .i64 0, .slice none 0 0] 43)
  have b2 := Blk.new (W.alloc (.cells #[.int .i64 now', .int .i64 low, .slice A ls.length cap] 43)) #[.int .i64 0, .int .i64 0, .slice none 0 0] 43
  simp only [World.size_alloc] at b2
  have u0 := ((Upd.refl (fun _ => False) W).stepAlloc (.cells #[.int .i64 now', .int .i64 low, .slice A ls.length cap] 43)).stepAlloc (.cells #[.int .i64 0, .int .i64 0, .slice none 0 0] 43)
  have hrW := Lib.hid fun V (u : Upd (fun _ => False) W V) => hr.agree' (w' := V) (u.agree fun j hj => ⟨hr.lt' j hj, id⟩)
  have hnn := ho.nR
  have hat := ho.at_
  have kA := (awake13_c (n := 0) (now := now') (low := low) (idle := idle) (cap := cap) (hrW.out _ u0) (by omega) ⟨by omega, h2⟩ (fun x hx => by have := hat x hx; omega)).mono (R' := fun e W2 => ∃ A' cap', e = .returned (.slice A' (awS now' idle ls).length cap') ∧ Reads1 W2 A' (flatS (awS now' idle ls)) ∧
      Blk W2 W.heap.size #[.int .i64 now', .int .i64 low, .slice A ls.length cap] 43 ∧ Blk W2 (W.heap.size + 1) #[.int .i64 0, .int .i64 0, .slice none 0 0] 43 ∧ Upd (fun _ => False) W W2) (by
    rintro e W2 ⟨A', cap', rfl, _, g2, _, g4⟩
    exact ⟨A', cap', rfl, g2, b1.upd g4 id, b2.upd g4 id, u0.trans' g4⟩)
  replace kA := Lib.hid kA
  have haw := awS_len now' idle ls
  have hlow := ho.lR
  have hdr := ho.dR
  have htm := ho.time
  simp only [mxT] at h2 hlow hdr htm
  obtain ⟨l, hll⟩ : ∃ l, awS now' idle ls = l := ⟨_, rfl⟩
  have hll2 : awL now' idle ls = l.map fun x => (x.1, x.2.1) := by rw [awL_awS, hll]
  rw [hll] at kA haw
  clear hr b1 b2 u0 hat ho hll
  have hc1 : ¬ now' < now := by omega
  have hc2 : ¬ 1099511627776 < now' := by omega
  refine callsIn_any (n := 0) (callsIn_of_wp Try.func35 rfl trivial ?_)
  simp only [Try.ntmps35, List.size_toArray, List.length_cons, List.length_nil, Nat.reduceAdd, Nat.reduceSub, Array.replicate_succ, Array.replicate_zero, List.push_toArray, List.append_toArray, List.nil_append, List.cons_append]
  gi_wp2_with (first | refine (⟨trivial, rfl, ?_⟩ : Fence.wide.fn _ ∧ Fence.wide.depth = none ∧ _) | (gi_at_call 37; (with_reducible refine kA.out.mono ?_); rintro e W2 ⟨A', cap', rfl, hr2, c1, c2, u2⟩; (replace hr2 := Lib.hid hr2); (replace c1 := Lib.hid c1); (replace c2 := Lib.hid c2); (replace u2 := Lib.hid u2)) | refine (⟨trivial, ?_⟩ : Fence.wide.fn _ ∧ _))
  have hbL := least_bound (l.map fun x => (x.1, x.2.1)) (0, false) (by simp [mxT]) (by
    intro x hx
    rw [← hll2] at hx
    obtain ⟨y, hy, rfl⟩ := awL_mem hx
    simp only [mxT]
    exact htm y hy)
  have hbM := most_fold ls 0 (by simp [mxT]) htm
  simp only [mxT] at hbL hbM
  have eml : ls.foldl (fun m x => max m x.2.1) 0 = mostL ls := rfl
  rw [eml] at hbM
  have ell : ((l.map fun x => (x.1, x.2.1)).foldl lstep (0, false)) = leastL (l.map fun x => (x.1, x.2.1)) := rfl
  rw [ell] at hbL
  gi_loopw [30, 11] (fun i v wr => ∃ k : Nat, i = .int .i64 k ∧ k ≤ l.length ∧ v = .int .i64 (leastL ((l.map fun x => (x.1, x.2.1)).take k)).1 ∧ wr = W2) (fun i _ _ => l.length - (intOf i).toNat)
  case atStart => exact ⟨0, rfl, Nat.zero_le _, rfl, rfl⟩
  case round =>
    obtain ⟨k, rfl, hk, rfl, hw⟩ := hrel
    replace hw := hw.symm
    subst hw
    by_cases hlt : k < l.length
    · obtain ⟨g, o, rfl, hc⟩ := reads_at hr2.out (by rw [flatS_len]; omega)
      have d1 := hc _ _ (flatS_get1 l k hlt)
      rw [← Nat.add_assoc] at d1
      have hlt' : k < (l.map fun x => (x.1, x.2.1)).length := by simpa using hlt
      have htk := leastL_take hlt'
      rw [List.getElem_map] at htk
      have hw5 : IntKind.i64.wrap ((k : Int) + 1) = (k : Int) + 1 := Go.IntWalk.i64_in _ ⟨by omega, by omega⟩
      obtain ⟨q, hq⟩ : ∃ q, l[k].2.1 = q := ⟨_, rfl⟩
      obtain ⟨r0, hr0⟩ : ∃ r, (leastL ((l.map fun x => (x.1, x.2.1)).take k)).1 = r := ⟨_, rfl⟩
      rw [hq] at d1 htk
      rw [hr0] at htk ⊢
      clear hq hr0 hc
      by_cases h0 : k = 0
      · rw [if_pos (.inl h0)] at htk
        subst h0
        simp only [Nat.zero_mul, Nat.add_zero, Nat.zero_add] at d1 htk
        gi_wp2_with (first | refine (⟨trivial, rfl, ?_⟩ : Fence.wide.fn _ ∧ Fence.wide.depth = none ∧ _) | refine (⟨trivial, ?_⟩ : Fence.wide.fn _ ∧ _))
        exact ⟨⟨1, by go_num, by omega, by rw [htk], trivial⟩, by simp [intOf]; omega⟩
      · have hb0 : ((k : Int) == 0) = false := beq_eq_false_iff_ne.2 (by omega)
        by_cases hqr : q < r0
        · rw [if_pos (.inr hqr)] at htk
          gi_wp2_with (first | refine (⟨trivial, rfl, ?_⟩ : Fence.wide.fn _ ∧ Fence.wide.depth = none ∧ _) | refine (⟨trivial, ?_⟩ : Fence.wide.fn _ ∧ _))
          exact ⟨⟨k + 1, by go_num, by omega, by rw [htk], trivial⟩, by simp [intOf]; omega⟩
        · rw [if_neg (by rintro (h | h); exact h0 h; exact hqr h)] at htk
          have hqr2 : r0 ≤ q := by omega
          gi_wp2_with (first | refine (⟨trivial, rfl, ?_⟩ : Fence.wide.fn _ ∧ Fence.wide.depth = none ∧ _) | refine (⟨trivial, ?_⟩ : Fence.wide.fn _ ∧ _))
          exact ⟨⟨k + 1, by go_num, by omega, by rw [htk], trivial⟩, by simp [intOf]; omega⟩
    · obtain rfl : k = l.length := by omega
      rw [show (l.map fun x => (x.1, x.2.1)).take l.length = l.map fun x => (x.1, x.2.1) by rw [List.take_of_length_le (by simp)]]
      by_cases hl0 : l = []
      · subst hl0
        by_cases hs0 : ls = []
        · have hs1 : ((ls.length : Int) == 0) = true := by simp [hs0]
          replace c1 := Lib.hid (by have := c1.out; simp only [hs0, List.length_nil] at this; exact this)
          have er : reachM drain now' idle ls = (leastL ([] : List (KSM × Int))).1 := by simp [reachM, hs0, awL_nil]
          have hrl : 0 ≤ (leastL ([] : List (KSM × Int))).1 ∧ (leastL ([] : List (KSM × Int))).1 ≤ 2199023255552 := by simp [leastL]
          obtain ⟨rr, hrr⟩ : ∃ r : Int, (leastL ([] : List (KSM × Int))).1 = r := ⟨_, rfl⟩
          rw [hrr] at er hrl
          try rw [hrr]
          have hc1' := c1.out
          have a0 : W2.cell? ⟨W.heap.size, 0, none⟩ = some (.int .i64 now') := hc1'.cell 0
          have a1 : W2.cell? ⟨W.heap.size, 1, none⟩ = some (.int .i64 low) := hc1'.cell 1
          have a2 : W2.cell? ⟨W.heap.size, 2, none⟩ = some (.slice A 0 cap) := hc1'.cell 2
          have z0 : W2.cell? ⟨W.heap.size + 1, 0, none⟩ = some (.int .i64 0) := c2.out.cell 0
          have z1 : W2.cell? ⟨W.heap.size + 1, 1, none⟩ = some (.int .i64 0) := c2.out.cell 1
          have z2 : W2.cell? ⟨W.heap.size + 1, 2, none⟩ = some (.slice none 0 0) := c2.out.cell 2
          have f1 := hc1'.frozen 1
          have lt1 := hc1'.lt
          have y0 := c2.out.frozen 0
          have y1 := c2.out.frozen 1
          have y2 := c2.out.frozen 2
          have lt2 := c2.out.lt
          have r6 : Hid (Blk ((((W2.setCell ⟨W.heap.size, 1, none⟩ (.int .i64 (max low rr))).setCell ⟨W.heap.size + 1, 0, none⟩ (.int .i64 now')).setCell ⟨W.heap.size + 1, 1, none⟩ (.int .i64 (max low rr))).setCell ⟨W.heap.size + 1, 2, none⟩ (.slice A 0 cap)) (W.heap.size + 1) #[.int .i64 now', .int .i64 (max low rr), .slice A 0 cap] 43) := Lib.hid (((((c2.out.other (p := ⟨W.heap.size, 1, none⟩) (by dsimp only; omega) (.int .i64 (max low rr))).set 0 (.int .i64 now')).set 1 (.int .i64 (max low rr))).set 2 (.slice A 0 cap)))
          have u6 : Upd (fun _ => False) W ((((W2.setCell ⟨W.heap.size, 1, none⟩ (.int .i64 (max low rr))).setCell ⟨W.heap.size + 1, 0, none⟩ (.int .i64 now')).setCell ⟨W.heap.size + 1, 1, none⟩ (.int .i64 (max low rr))).setCell ⟨W.heap.size + 1, 2, none⟩ (.slice A 0 cap)) :=
            (((u2.out.stepSet (.inr (Nat.le_refl _)) _).stepSet (.inr (Nat.le_succ _)) _).stepSet (.inr (Nat.le_succ _)) _).stepSet (.inr (Nat.le_succ _)) _
          replace u6 := Lib.hid u6
          clear hc1'
          gi_wp2_with (first | refine (⟨trivial, rfl, ?_⟩ : Fence.wide.fn _ ∧ Fence.wide.depth = none ∧ _) | refine (⟨trivial, ?_⟩ : Fence.wide.fn _ ∧ _))
          refine bodyPost_ret (results_s rfl rfl (r6.out.cell 0) (r6.out.cell 1) (r6.out.cell 2)) rfl ?_
          exact ⟨by rw [tickLow, er]; simp [hs0], u6.out⟩
        · have hs1 : 0 < (ls.length : Int) := by have := List.length_pos_iff.2 hs0; omega
          have a2' : W2.cell? ⟨W.heap.size, 2, none⟩ = some (.slice A ls.length cap) := c1.out.cell 2
          gi_wp2_with (first | refine (⟨trivial, rfl, ?_⟩ : Fence.wide.fn _ ∧ Fence.wide.depth = none ∧ _) | refine (⟨trivial, ?_⟩ : Fence.wide.fn _ ∧ _))
          gi_loopw [62, 11] (fun i v wr => ∃ k : Nat, i = .int .i64 k ∧ k ≤ ls.length ∧ v = .int .i64 (mostL (ls.take k)) ∧ wr = W2) (fun i _ _ => ls.length - (intOf i).toNat)
          case atStart => exact ⟨0, rfl, Nat.zero_le _, rfl, rfl⟩
          case round =>
            obtain ⟨k, rfl, hk, rfl, hw⟩ := hrel
            replace hw := hw.symm
            subst hw
            by_cases hlt : k < ls.length
            · obtain ⟨g, o, rfl, hc⟩ := reads_at (hrW.out _ u2.out) (by rw [flatS_len]; omega)
              have d1 := hc _ _ (flatS_get1 ls k hlt)
              rw [← Nat.add_assoc] at d1
              have htk := mostL_take hlt
              have hw5 : IntKind.i64.wrap ((k : Int) + 1) = (k : Int) + 1 := Go.IntWalk.i64_in _ ⟨by omega, by omega⟩
              obtain ⟨q, hq⟩ : ∃ q, ls[k].2.1 = q := ⟨_, rfl⟩
              obtain ⟨r0, hr0⟩ : ∃ r, mostL (ls.take k) = r := ⟨_, rfl⟩
              rw [hq] at d1 htk
              rw [hr0] at htk ⊢
              clear hq hr0 hc
              gi_wp2_with (first | refine (⟨trivial, rfl, ?_⟩ : Fence.wide.fn _ ∧ Fence.wide.depth = none ∧ _) | refine (⟨trivial, ?_⟩ : Fence.wide.fn _ ∧ _))
              exact ⟨⟨k + 1, by go_num, by omega, by rw [htk], trivial⟩, by simp [intOf]; omega⟩
            · obtain rfl : k = ls.length := by omega
              rw [List.take_length]
              have hw6 : IntKind.i64.wrap (mostL ls + drain) = mostL ls + drain := Go.IntWalk.i64_in _ ⟨by omega, by omega⟩
              clear a2'
              have er : reachM drain now' idle ls = (mostL ls + drain) := by rw [reachM, hll2, if_pos ⟨rfl, hs0⟩]
              have hrl : 0 ≤ (mostL ls + drain) ∧ (mostL ls + drain) ≤ 2199023255552 := by omega
              obtain ⟨rr, hrr⟩ : ∃ r : Int, (mostL ls + drain) = r := ⟨_, rfl⟩
              rw [hrr] at er hrl
              try rw [hrr]
              have hc1' := c1.out
              have a0 : W2.cell? ⟨W.heap.size, 0, none⟩ = some (.int .i64 now') := hc1'.cell 0
              have a1 : W2.cell? ⟨W.heap.size, 1, none⟩ = some (.int .i64 low) := hc1'.cell 1
              have a2 : W2.cell? ⟨W.heap.size, 2, none⟩ = some (.slice A ls.length cap) := hc1'.cell 2
              have z0 : W2.cell? ⟨W.heap.size + 1, 0, none⟩ = some (.int .i64 0) := c2.out.cell 0
              have z1 : W2.cell? ⟨W.heap.size + 1, 1, none⟩ = some (.int .i64 0) := c2.out.cell 1
              have z2 : W2.cell? ⟨W.heap.size + 1, 2, none⟩ = some (.slice none 0 0) := c2.out.cell 2
              have f1 := hc1'.frozen 1
              have lt1 := hc1'.lt
              have y0 := c2.out.frozen 0
              have y1 := c2.out.frozen 1
              have y2 := c2.out.frozen 2
              have lt2 := c2.out.lt
              have r6 : Hid (Blk ((((W2.setCell ⟨W.heap.size, 1, none⟩ (.int .i64 (max low rr))).setCell ⟨W.heap.size + 1, 0, none⟩ (.int .i64 now')).setCell ⟨W.heap.size + 1, 1, none⟩ (.int .i64 (max low rr))).setCell ⟨W.heap.size + 1, 2, none⟩ (.slice A ls.length cap)) (W.heap.size + 1) #[.int .i64 now', .int .i64 (max low rr), .slice A ls.length cap] 43) := Lib.hid (((((c2.out.other (p := ⟨W.heap.size, 1, none⟩) (by dsimp only; omega) (.int .i64 (max low rr))).set 0 (.int .i64 now')).set 1 (.int .i64 (max low rr))).set 2 (.slice A ls.length cap)))
              have u6 : Upd (fun _ => False) W ((((W2.setCell ⟨W.heap.size, 1, none⟩ (.int .i64 (max low rr))).setCell ⟨W.heap.size + 1, 0, none⟩ (.int .i64 now')).setCell ⟨W.heap.size + 1, 1, none⟩ (.int .i64 (max low rr))).setCell ⟨W.heap.size + 1, 2, none⟩ (.slice A ls.length cap)) :=
                (((u2.out.stepSet (.inr (Nat.le_refl _)) _).stepSet (.inr (Nat.le_succ _)) _).stepSet (.inr (Nat.le_succ _)) _).stepSet (.inr (Nat.le_succ _)) _
              replace u6 := Lib.hid u6
              clear hc1'
              gi_wp2_with (first | refine (⟨trivial, rfl, ?_⟩ : Fence.wide.fn _ ∧ Fence.wide.depth = none ∧ _) | refine (⟨trivial, ?_⟩ : Fence.wide.fn _ ∧ _))
              refine bodyPost_ret (results_s rfl rfl (r6.out.cell 0) (r6.out.cell 1) (r6.out.cell 2)) rfl ?_
              exact ⟨by simp [tickLow, er], u6.out⟩
      · have hl1 : ((l.length : Int) == 0) = false := beq_eq_false_iff_ne.2 (by have := List.length_pos_iff.2 hl0; omega)
        have er : reachM drain now' idle ls = (leastL (l.map fun x => (x.1, x.2.1))).1 := by rw [reachM, hll2, if_neg (by simp [hl0])]
        have hrl : 0 ≤ (leastL (l.map fun x => (x.1, x.2.1))).1 ∧ (leastL (l.map fun x => (x.1, x.2.1))).1 ≤ 2199023255552 := by omega
        obtain ⟨rr, hrr⟩ : ∃ r : Int, (leastL (l.map fun x => (x.1, x.2.1))).1 = r := ⟨_, rfl⟩
        rw [hrr] at er hrl
        try rw [hrr]
        have hc1' := c1.out
        have a0 : W2.cell? ⟨W.heap.size, 0, none⟩ = some (.int .i64 now') := hc1'.cell 0
        have a1 : W2.cell? ⟨W.heap.size, 1, none⟩ = some (.int .i64 low) := hc1'.cell 1
        have a2 : W2.cell? ⟨W.heap.size, 2, none⟩ = some (.slice A ls.length cap) := hc1'.cell 2
        have z0 : W2.cell? ⟨W.heap.size + 1, 0, none⟩ = some (.int .i64 0) := c2.out.cell 0
        have z1 : W2.cell? ⟨W.heap.size + 1, 1, none⟩ = some (.int .i64 0) := c2.out.cell 1
        have z2 : W2.cell? ⟨W.heap.size + 1, 2, none⟩ = some (.slice none 0 0) := c2.out.cell 2
        have f1 := hc1'.frozen 1
        have lt1 := hc1'.lt
        have y0 := c2.out.frozen 0
        have y1 := c2.out.frozen 1
        have y2 := c2.out.frozen 2
        have lt2 := c2.out.lt
        have r6 : Hid (Blk ((((W2.setCell ⟨W.heap.size, 1, none⟩ (.int .i64 (max low rr))).setCell ⟨W.heap.size + 1, 0, none⟩ (.int .i64 now')).setCell ⟨W.heap.size + 1, 1, none⟩ (.int .i64 (max low rr))).setCell ⟨W.heap.size + 1, 2, none⟩ (.slice A ls.length cap)) (W.heap.size + 1) #[.int .i64 now', .int .i64 (max low rr), .slice A ls.length cap] 43) := Lib.hid (((((c2.out.other (p := ⟨W.heap.size, 1, none⟩) (by dsimp only; omega) (.int .i64 (max low rr))).set 0 (.int .i64 now')).set 1 (.int .i64 (max low rr))).set 2 (.slice A ls.length cap)))
        have u6 : Upd (fun _ => False) W ((((W2.setCell ⟨W.heap.size, 1, none⟩ (.int .i64 (max low rr))).setCell ⟨W.heap.size + 1, 0, none⟩ (.int .i64 now')).setCell ⟨W.heap.size + 1, 1, none⟩ (.int .i64 (max low rr))).setCell ⟨W.heap.size + 1, 2, none⟩ (.slice A ls.length cap)) :=
          (((u2.out.stepSet (.inr (Nat.le_refl _)) _).stepSet (.inr (Nat.le_succ _)) _).stepSet (.inr (Nat.le_succ _)) _).stepSet (.inr (Nat.le_succ _)) _
        replace u6 := Lib.hid u6
        clear hc1'
        gi_wp2_with (first | refine (⟨trivial, rfl, ?_⟩ : Fence.wide.fn _ ∧ Fence.wide.depth = none ∧ _) | refine (⟨trivial, ?_⟩ : Fence.wide.fn _ ∧ _))
        refine bodyPost_ret (results_s rfl rfl (r6.out.cell 0) (r6.out.cell 1) (r6.out.cell 2)) rfl ?_
        exact ⟨by simp [tickLow, er], u6.out⟩
end
end Go.Proofs.Ytpljdckppmobeaa

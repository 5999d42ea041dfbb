/- mark: what holds of its numbers; the document's Word; awake. -/
import Derived.Test.YtpljdckppmobeaaProg
import Derived.Test.YtpljdckppmobeaaBase
import Derived.Test.YtpljdckppmobeaaMkD
import Derived.Test.YtpljdckppmobeaaMkW
namespace Go.Proofs.Ytpljdckppmobeaa
open Go.RowKit Go.Shelf
attribute [local go_sem] Oper.semAt_some

theorem wordA_c {n : Nat} {s : ByteArray} {w : World} (hs : s.size ≤ maxLen) : CallsIn Fence.wide n Try.prog 10 #[.string s] w fun e w' => AnyB e ∧ Upd (fun _ => False) w w' := by
  have k1 := Lib.hid fun (w : World) => (cutA_c (n := 0) (c := 46) (w := w) hs)
  have k2 := Lib.hid fun (w : World) => (nameA_c (n := 0) (w := w) hs)
  refine callsIn_any (n := 0) (callsIn_of_wp Try.func10 rfl trivial ?_)
  simp only [Try.ntmps10, List.size_toArray, List.length_cons, List.length_nil, Nat.reduceAdd, Nat.reduceSub, Array.replicate_succ, Array.replicate_zero, List.push_toArray, List.append_toArray, List.nil_append, List.cons_append]
  gi_wp2_with (first | refine (⟨trivial, rfl, ?_⟩ : Fence.wide.fn _ ∧ Fence.wide.depth = none ∧ _) | (gi_at_call 25; (with_reducible refine (k1.out _).mono ?_); rintro e W1 ⟨⟨a, b, d, rfl⟩, u1⟩; (skip)) | (gi_at_call 26; (with_reducible refine (k2.out _).mono ?_); rintro e W2 ⟨⟨b2, rfl⟩, e2⟩; (replace e2 := e2.symm); (subst e2)) | refine (⟨trivial, ?_⟩ : Fence.wide.fn _ ∧ _))
  all_goals
    cases b2 <;> cases d
  all_goals
    gi_wp2_with (first | refine (⟨trivial, rfl, ?_⟩ : Fence.wide.fn _ ∧ Fence.wide.depth = none ∧ _) | refine (⟨trivial, ?_⟩ : Fence.wide.fn _ ∧ _))
    go_ret
    exact ⟨⟨_, rfl⟩, u1⟩

theorem getL_mem {k : KSM} {ls : List (KSM × VSM)} {v : VSM} (h : getL cmpS k ls = some v) : ∃ y ∈ ls, y.2 = v := by
  simp only [getL, Option.map_eq_some_iff] at h
  obtain ⟨y, hy, rfl⟩ := h
  exact ⟨y, List.mem_of_find?_eq_some hy, rfl⟩
section
variable {idle drain now low : Int} {ls : List (KSM × VSM)}
theorem MkOk.see (ho : MkOk idle drain now low ls) (hr : Rise cmpS ls) {k : KSM} {time : Int} (ht : 0 ≤ time ∧ time ≤ mxT) (hc : canL k ls = 0) : MkOk idle drain now low (putL cmpS k (seeV k time now ls) ls) := by
  have hv : 0 ≤ (seeV k time now ls).1 ∧ (seeV k time now ls).1 ≤ mxT := by
    unfold seeV
    cases hg : getL cmpS k ls with
    | none => simp only [Option.getD_none]; omega
    | some v =>
      obtain ⟨y, hy, rfl⟩ := getL_mem hg
      have := ho.time y hy
      simp only [Option.getD_some]; omega
  refine ⟨ho.iR, ho.dR, ho.nR, ho.lR, ?_, fun x hx => ?_, fun x hx => ?_⟩
  · have := putL_len ordrS (k := k) (seeV k time now ls) hr
    have hl := ho.len
    unfold canL at hc
    split at hc
    · omega
    · rename_i h
      cases hh : hadL cmpS k ls with
      | true => simp only [hh, if_true] at this; omega
      | false =>
        have : ¬ 8 ≤ ls.length := fun h8 => h ⟨hh, h8⟩
        omega
  · rcases mem_putL.1 hx with rfl | ⟨h, _⟩
    · exact hv
    · exact ho.time x h
  · rcases mem_putL.1 hx with rfl | ⟨h, _⟩
    · exact ⟨ho.nR.1, Int.le_refl _⟩
    · exact ho.at_ x h
theorem awL_mem {x : KSM × Int} (h : x ∈ awL now idle ls) : ∃ y ∈ ls, x = (y.1, y.2.1) := by
  simp only [awL, List.mem_map, List.mem_filter] at h
  obtain ⟨y, ⟨hy, _⟩, rfl⟩ := h
  exact ⟨y, hy, rfl⟩
theorem least_fold : ∀ (l : List (KSM × Int)) (s : Int × Bool), (s.2 = true → (l.foldl lstep s).1 ≤ s.1) ∧ ∀ x ∈ l, (l.foldl lstep s).1 ≤ x.2
  | [], s => ⟨fun _ => Int.le_refl _, fun x hx => by simp at hx⟩
  | y :: l, s => by
    have hs : (lstep s y).2 = true := by unfold lstep; split; rfl; rename_i h; simp only [not_or, Bool.not_eq_false] at h; exact h.1
    obtain ⟨h1, h2⟩ := least_fold l (lstep s y)
    have h1 := h1 hs
    have h3 : (lstep s y).1 ≤ y.2 := by unfold lstep; split; exact Int.le_refl _; rename_i h; simp only [not_or, Int.not_lt] at h; omega
    rw [List.foldl_cons]
    refine ⟨fun h => ?_, fun x hx => ?_⟩
    · have : (lstep s y).1 ≤ s.1 := by unfold lstep; split; rename_i h4; rcases h4 with h4 | h4; rw [h] at h4; cases h4; exact Int.le_of_lt h4; exact Int.le_refl _
      omega
    · rcases List.mem_cons.1 hx with rfl | hx
      · omega
      · exact h2 x hx
theorem leastL_le {l : List (KSM × Int)} {x : KSM × Int} (h : x ∈ l) : (leastL l).1 ≤ x.2 := (least_fold l _).2 x h
theorem least_bound : ∀ (l : List (KSM × Int)) (s : Int × Bool), 0 ≤ s.1 ∧ s.1 ≤ mxT → (∀ x ∈ l, 0 ≤ x.2 ∧ x.2 ≤ mxT) → 0 ≤ (l.foldl lstep s).1 ∧ (l.foldl lstep s).1 ≤ mxT
  | [], _, h, _ => h
  | y :: l, s, h, hl => by
    rw [List.foldl_cons]
    refine least_bound l _ ?_ fun x hx => hl x (by simp [hx])
    unfold lstep
    split
    · exact hl y (by simp)
    · exact h
theorem reach_bound (ho : MkOk idle drain now low ls) : 0 ≤ reachM drain now idle ls ∧ reachM drain now idle ls ≤ 2 * mxT := by
  have h1 := most_fold ls 0 (by simp [mxT]) ho.time
  have h2 := least_bound (awL now idle ls) (0, false) (by simp [mxT]) fun x hx => by obtain ⟨y, hy, rfl⟩ := awL_mem hx; exact ho.time y hy
  have h3 := ho.dR
  unfold reachM mostL leastL
  split
  · omega
  · have : (0 : Int) ≤ mxT := by simp [mxT]
    omega
theorem MkOk.tick (ho : MkOk idle drain now low ls) {now' : Int} (h1 : now ≤ now') (h2 : now' ≤ mxT) : MkOk idle drain now' (tickLow drain idle now' low ls) ls := by
  have ho' : MkOk idle drain now' low ls := ⟨ho.iR, ho.dR, ⟨by have := ho.nR; omega, h2⟩, ho.lR, ho.len, ho.time, fun x hx => by have := ho.at_ x hx; omega⟩
  have hb := reach_bound ho'
  have hl := ho.lR
  exact ⟨ho.iR, ho.dR, ho'.nR, by unfold tickLow; omega, ho.len, ho.time, ho'.at_⟩
/-- Where it rises it isn't above the times of those that are awake. -/
theorem tick_rises {now' : Int} {x : KSM × Int} (h : x ∈ awL now' idle ls) : tickLow drain idle now' low ls = low ∨ tickLow drain idle now' low ls ≤ x.2 := by
  have hr : reachM drain now' idle ls = (leastL (awL now' idle ls)).1 := by
    unfold reachM
    rw [if_neg]
    rintro ⟨h1, _⟩
    rw [h1] at h
    simp at h
  have := leastL_le h
  unfold tickLow
  rw [hr]
  omega
end
section
variable {mb : Nat} {idle drain now low : Int} {ls : List (KSM × VSM)} {F : Nat → Prop} {W : World}
set_option maxHeartbeats 1000000 in
theorem markSeeNo_c {n : Nat} (h : MkI mb idle drain now low ls F W) (k : KSM) (time : Int) (hc : canL k ls ≠ 0) : CallsIn Fence.wide n Try.prog 11 #[.pointer (some ⟨mb, 0, none⟩), .string k, .int .i64 time] W fun e W2 => e = .returned (.int .i64 16) ∧ Upd (fun _ => False) W W2 := by
  have e16 : canL k ls = 16 := by unfold canL at hc ⊢; split at hc <;> simp_all
  have k0 := markCan_c (n := 0) h k
  rw [e16] at k0
  replace k0 := Lib.hid k0
  clear h
  refine callsIn_any (n := 0) (callsIn_of_wp Try.func11 rfl trivial ?_)
  simp only [Try.ntmps11, List.size_toArray, List.length_cons, List.length_nil, Nat.reduceAdd, Nat.reduceSub, Array.replicate_succ, Array.replicate_zero, List.push_toArray, List.append_toArray, List.nil_append, List.cons_append]
  gi_wp2_with (first | refine (⟨trivial, rfl, ?_⟩ : Fence.wide.fn _ ∧ Fence.wide.depth = none ∧ _) | (gi_at_call 27; (with_reducible refine k0.out.mono ?_); rintro e W1 ⟨rfl, u1⟩; (skip)) | refine (⟨trivial, ?_⟩ : Fence.wide.fn _ ∧ _))
  go_ret
  exact ⟨rfl, u1⟩
/-- Whatever is seen. -/
theorem markSee_any (h : MkI mb idle drain now low ls F W) (ho : MkOk idle drain now low ls) (k : KSM) {time : Int} (ht : 0 ≤ time ∧ time ≤ mxT) : CallsIn Fence.wide 0 Try.prog 11 #[.pointer (some ⟨mb, 0, none⟩), .string k, .int .i64 time] W fun e W2 => e = .returned (.int .i64 (canL k ls)) ∧ ∃ F', MkI mb idle drain now low (if canL k ls = 0 then putL cmpS k (seeV k time now ls) ls else ls) F' W2 ∧ MkOk idle drain now low (if canL k ls = 0 then putL cmpS k (seeV k time now ls) ls else ls) ∧ (∀ j, F' j → F j ∨ W.heap.size ≤ j) ∧ Upd F W W2 := by
  by_cases hc : canL k ls = 0
  · rw [if_pos hc]
    refine (markSee_c h ho.len k time hc).mono ?_
    rintro e W2 ⟨rfl, F', g1, g2, g3⟩
    exact ⟨by rw [hc], F', g1, ho.see h.rise ht hc, g2, g3⟩
  · rw [if_neg hc]
    refine (markSeeNo_c h k time hc).mono ?_
    rintro e W2 ⟨rfl, u⟩
    have e16 : canL k ls = 16 := by unfold canL at hc ⊢; split at hc <;> simp_all
    exact ⟨by rw [e16], F, h.upd u fun _ _ => id, ho, fun _ h => .inl h, u.mono fun _ _ h => h.elim⟩
/-- Wherever the clock is to go. -/
theorem markTick_any {now' : Int} (h : MkI mb idle drain now low ls F W) (ho : MkOk idle drain now low ls) : CallsIn Fence.wide 0 Try.prog 12 #[.pointer (some ⟨mb, 0, none⟩), .int .i64 now'] W fun e W2 => e = .returned (.int .i64 (if now ≤ now' ∧ now' ≤ mxT then 0 else 1)) ∧ ∃ n2 l2, n2 = (if now ≤ now' ∧ now' ≤ mxT then now' else now) ∧ l2 = (if now ≤ now' ∧ now' ≤ mxT then tickLow drain idle now' low ls else low) ∧ MkI mb idle drain n2 l2 ls F W2 ∧ MkOk idle drain n2 l2 ls ∧ Upd F W W2 := by
  by_cases hc : now ≤ now' ∧ now' ≤ mxT
  · simp only [if_pos hc]
    refine (markTick_c h ho hc.1 hc.2).mono ?_
    rintro e W2 ⟨rfl, g1, g2⟩
    exact ⟨rfl, _, _, rfl, rfl, g1, ho.tick hc.1 hc.2, g2⟩
  · simp only [if_neg hc]
    refine (markTickNo_c h hc).mono ?_
    rintro e W2 ⟨rfl, rfl⟩
    exact ⟨rfl, _, _, rfl, rfl, h, ho, Upd.refl _ _⟩
end

theorem cab : cmpS ⟨#[97]⟩ ⟨#[98]⟩ = -1 := by simp [cmpS, ByteArray.toList_eq, Op.bytesLess]
theorem cba : cmpS ⟨#[98]⟩ ⟨#[97]⟩ = 1 := by simp [cmpS, ByteArray.toList_eq, Op.bytesLess]
theorem caa : cmpS ⟨#[97]⟩ ⟨#[97]⟩ = 0 := by simp [cmpS, ByteArray.toList_eq, Op.bytesLess]
theorem cbb : cmpS ⟨#[98]⟩ ⟨#[98]⟩ = 0 := by simp [cmpS, ByteArray.toList_eq, Op.bytesLess]
def awA : KSM := ⟨#[97]⟩
def awB : KSM := ⟨#[98]⟩
theorem aw0 : MkOk 5 0 0 0 [] := ⟨by simp [mxT], by simp [mxT], by simp [mxT], by simp [mxT], by simp, by simp, by simp⟩
theorem aw1 : canL awA [] = 0 ∧ putL cmpS awA (seeV awA 7 0 []) [] = [(awA, (7, 0))] := ⟨by simp [canL], by simp [putL, seeV, getL, Int.max_def]⟩
theorem aw2 : canL awB [(awA, (7, 0))] = 0 ∧ putL cmpS awB (seeV awB 3 0 [(awA, (7, 0))]) [(awA, (7, 0))] = [(awA, (7, 0)), (awB, (3, 0))] := by
  refine ⟨by simp [canL], ?_⟩
  simp [putL, seeV, getL, awA, awB, cba, Int.max_def]
theorem aw3 : tickLow 0 5 1 0 [(awA, (7, 0)), (awB, (3, 0))] = 3 := by simp [tickLow, reachM, awL, leastL, lstep, Int.max_def]
theorem aw4 : canL awA [(awA, (7, 0)), (awB, (3, 0))] = 0 ∧ putL cmpS awA (seeV awA 7 1 [(awA, (7, 0)), (awB, (3, 0))]) [(awA, (7, 0)), (awB, (3, 0))] = [(awA, (7, 1)), (awB, (3, 0))] := by
  refine ⟨by simp [canL], ?_⟩
  simp [putL, seeV, getL, awA, awB, caa, cab, Int.max_def]
theorem aw5 : tickLow 0 5 6 3 [(awA, (7, 1)), (awB, (3, 0))] = 7 := by simp [tickLow, reachM, awL, leastL, lstep, Int.max_def]
set_option maxHeartbeats 2000000 in
theorem awake_c {n : Nat} {w : World} : CallsIn Fence.wide n Try.prog 8 #[] w fun e W => e = .returned (.bool true) ∧ Upd (fun _ => False) w W := by
  have k0 : CallsIn Fence.wide 0 Try.prog 7 #[.int .i64 5, .int .i64 0] w fun e W1 => ∃ mb, e = .returned (.tuple #[.pointer (some ⟨mb, 0, none⟩), .int .i64 0]) ∧
      CallsIn Fence.wide 0 Try.prog 11 #[.pointer (some ⟨mb, 0, none⟩), .string ⟨#[97]⟩, .int .i64 7] W1 fun e W2 => (∃ v, e = .returned v) ∧
      CallsIn Fence.wide 0 Try.prog 11 #[.pointer (some ⟨mb, 0, none⟩), .string ⟨#[98]⟩, .int .i64 3] W2 fun e W3 => (∃ v, e = .returned v) ∧
      CallsIn Fence.wide 0 Try.prog 12 #[.pointer (some ⟨mb, 0, none⟩), .int .i64 1] W3 fun e W4 => (∃ v, e = .returned v) ∧
      CallsIn Fence.wide 0 Try.prog 9 #[.pointer (some ⟨mb, 0, none⟩)] W4 fun e W5 => e = .returned (.int .i64 3) ∧
      CallsIn Fence.wide 0 Try.prog 11 #[.pointer (some ⟨mb, 0, none⟩), .string ⟨#[97]⟩, .int .i64 7] W5 fun e W6 => (∃ v, e = .returned v) ∧
      CallsIn Fence.wide 0 Try.prog 12 #[.pointer (some ⟨mb, 0, none⟩), .int .i64 6] W6 fun e W7 => (∃ v, e = .returned v) ∧
      CallsIn Fence.wide 0 Try.prog 9 #[.pointer (some ⟨mb, 0, none⟩)] W7 fun e W8 => e = .returned (.int .i64 7) ∧ Upd (fun _ => False) w W8 := by
    refine (markNew_c (by simp [mxT]) (by simp [mxT])).mono ?_
    rintro e W1 ⟨mb, F, rfl, g1, f1, u1⟩
    have z1 := u1.size
    refine ⟨mb, rfl, (markSee_c g1 (by simp) awA 7 aw1.1).mono ?_⟩
    rintro e W2 ⟨rfl, F2, g2, f2, u2⟩
    rw [aw1.2] at g2
    have z2 := u2.size
    refine ⟨⟨_, rfl⟩, (markSee_c g2 (by simp) awB 3 aw2.1).mono ?_⟩
    rintro e W3 ⟨rfl, F3, g3, f3, u3⟩
    rw [aw2.2] at g3
    have hF2 : ∀ j, F2 j → w.heap.size ≤ j := fun j hj => (f2 j hj).elim (f1 j) fun h => by omega
    have hF3 : ∀ j, F3 j → w.heap.size ≤ j := fun j hj => (f3 j hj).elim (hF2 j) fun h => by omega
    have o1 := aw0.see List.Pairwise.nil (time := 7) (by simp [mxT]) aw1.1
    rw [aw1.2] at o1
    have o2 := o1.see g2.rise (time := 3) (by simp [mxT]) aw2.1
    rw [aw2.2] at o2
    refine ⟨⟨_, rfl⟩, (markTick_c g3 o2 (by omega) (by simp [mxT])).mono ?_⟩
    rintro e W4 ⟨rfl, g4, u4⟩
    have o3 := o2.tick (now' := 1) (by omega) (by simp [mxT])
    rw [aw3] at g4 o3
    have z3 := u3.size
    have z4 := u4.size
    refine ⟨⟨_, rfl⟩, (markLow_c g4).mono ?_⟩
    rintro e W5 ⟨rfl, rfl⟩
    refine ⟨rfl, (markSee_c g4 (by simp) awA 7 aw4.1).mono ?_⟩
    rintro e W6 ⟨rfl, F6, g6, f6, u6⟩
    have o4 := o3.see g4.rise (time := 7) (by simp [mxT]) aw4.1
    rw [aw4.2] at g6 o4
    refine ⟨⟨_, rfl⟩, (markTick_c g6 o4 (by omega) (by simp [mxT])).mono ?_⟩
    rintro e W7 ⟨rfl, g7, u7⟩
    rw [aw5] at g7
    refine ⟨⟨_, rfl⟩, (markLow_c g7).mono ?_⟩
    rintro e W8 ⟨rfl, rfl⟩
    have hF6 : ∀ j, F6 j → w.heap.size ≤ j := fun j hj => (f6 j hj).elim (hF3 j) fun h => by omega
    exact ⟨rfl, ((((((u1.trans u2 fun j hj => .inr (f1 j hj)).trans u3 fun j hj => .inr (hF2 j hj)).trans u4 fun j hj => .inr (hF3 j hj))).trans u6 fun j hj => .inr (hF3 j hj)).trans u7 fun j hj => .inr (hF6 j hj))⟩
  replace k0 := Lib.hid k0
  refine callsIn_any (n := 0) (callsIn_of_wp Try.func8 rfl trivial ?_)
  simp only [Try.ntmps8, List.size_toArray, List.length_cons, List.length_nil, Nat.reduceAdd, Nat.reduceSub, Array.replicate_succ, Array.replicate_zero, List.push_toArray, List.append_toArray, List.nil_append, List.cons_append]
  gi_wp2_with (first | refine (⟨trivial, rfl, ?_⟩ : Fence.wide.fn _ ∧ Fence.wide.depth = none ∧ _) | (gi_at_call 7; (with_reducible refine k0.out.mono ?_); rintro e W1 ⟨mb, rfl, k1⟩; (replace k1 := Lib.hid k1)) | (gi_at_call 11; (with_reducible refine k1.out.mono ?_); rintro e W2 ⟨⟨v2, rfl⟩, k2⟩; (replace k2 := Lib.hid k2)) | (gi_at_call 11; (with_reducible refine k2.out.mono ?_); rintro e W3 ⟨⟨v3, rfl⟩, k3⟩; (replace k3 := Lib.hid k3)) | (gi_at_call 12; (with_reducible refine k3.out.mono ?_); rintro e W4 ⟨⟨v4, rfl⟩, k4⟩; (replace k4 := Lib.hid k4)) | (gi_at_call 9; (with_reducible refine k4.out.mono ?_); rintro e W5 ⟨rfl, k5⟩; (replace k5 := Lib.hid k5)) | (gi_at_call 11; (with_reducible refine k5.out.mono ?_); rintro e W6 ⟨⟨v6, rfl⟩, k6⟩; (replace k6 := Lib.hid k6)) | (gi_at_call 12; (with_reducible refine k6.out.mono ?_); rintro e W7 ⟨⟨v7, rfl⟩, k7⟩; (replace k7 := Lib.hid k7)) | (gi_at_call 9; (with_reducible refine k7.out.mono ?_); rintro e W8 ⟨rfl, u8⟩; (skip)) | refine (⟨trivial, ?_⟩ : Fence.wide.fn _ ∧ _))
  go_ret
  exact ⟨rfl, u8⟩
end Go.Proofs.Ytpljdckppmobeaa

/- mark: a mark's state; New, Now, Low, Can, See. -/
import Derived.Test.YtpljdckppmobeaaProg
import Derived.Test.YtpljdckppmobeaaBase
import Derived.Test.YtpljdckppmobeaaTrL
import Derived.Test.YtpljdckppmobeaaRkCmpL
import Derived.Test.YtpljdckppmobeaaRkSME
import Derived.Test.YtpljdckppmobeaaRkSMF
namespace Go.Proofs.Ytpljdckppmobeaa
open Go.RowKit Go.Shelf
attribute [local go_sem] Oper.semAt_some

abbrev mxT : Int := 1099511627776
abbrev cmpMk : Fn := .func 24
/-- A mark in block mb: its numbers, its sources; F: its blocks. -/
def MkI (mb : Nat) (idle drain now low : Int) (ls : List (KSM × VSM)) (F : Nat → Prop) (W : World) : Prop :=
  ∃ rb t, Blk W mb #[.int .i64 idle, .int .i64 drain, .int .i64 now, .int .i64 low, .pointer (some ⟨rb, 0, none⟩)] 63 ∧ RackSM cmpS cmpMk #[] #[] rb t ls W ∧ (∀ j, F j ↔ (j = mb ∨ j = rb ∨ t.has j)) ∧ ¬ (mb = rb ∨ t.has mb)
/-- What holds of its numbers. -/
structure MkOk (idle drain now low : Int) (ls : List (KSM × VSM)) : Prop where
  iR : 0 ≤ idle ∧ idle ≤ mxT
  dR : 0 ≤ drain ∧ drain ≤ mxT
  nR : 0 ≤ now ∧ now ≤ mxT
  lR : 0 ≤ low ∧ low ≤ 2 * mxT
  len : ls.length ≤ 8
  time : ∀ x ∈ ls, 0 ≤ x.2.1 ∧ x.2.1 ≤ mxT
  at_ : ∀ x ∈ ls, 0 ≤ x.2.2 ∧ x.2.2 ≤ now
section
variable {mb : Nat} {idle drain now low : Int} {ls : List (KSM × VSM)} {F : Nat → Prop} {W W2 : World}
theorem MkI.agree (h : MkI mb idle drain now low ls F W) (ha : Agree F W W2) : MkI mb idle drain now low ls F W2 := by
  obtain ⟨rb, t, h1, h2, h3, h4⟩ := h
  exact ⟨rb, t, h1.agree ha ((h3 _).2 (.inl rfl)), h2.agree (ha.mono fun j hj => (h3 j).2 (.inr hj)), h3, h4⟩
theorem MkI.lt (h : MkI mb idle drain now low ls F W) : ∀ j, F j → j < W.heap.size := by
  obtain ⟨rb, t, h1, h2, h3, h4⟩ := h
  intro j hj
  rcases (h3 j).1 hj with rfl | h
  · exact h1.lt
  · exact h2.lt j h
theorem MkI.upd (h : MkI mb idle drain now low ls F W) {M : Nat → Prop} (hu : Upd M W W2) (hM : ∀ j, F j → ¬ M j) : MkI mb idle drain now low ls F W2 := h.agree (hu.agree fun j hj => ⟨h.lt j hj, hM j hj⟩)
theorem MkI.rise (h : MkI mb idle drain now low ls F W) : Rise cmpS ls := by
  obtain ⟨rb, t, h1, h2, _⟩ := h
  exact h2.rise

theorem span_c {n : Nat} {x : Int} : CallsIn Fence.wide n Try.prog 22 #[.int .i64 x] W fun e W2 => e = .returned (.bool (decide (0 ≤ x ∧ x ≤ mxT))) ∧ W2 = W := by
  refine callsIn_any (n := 0) (callsIn_of_wp Try.func22 rfl trivial ?_)
  simp only [Try.ntmps22, List.size_toArray, List.length_cons, List.length_nil, Nat.reduceAdd, Nat.reduceSub, Array.replicate_succ, Array.replicate_zero, List.push_toArray, List.append_toArray, List.nil_append, List.cons_append]
  by_cases h1 : 0 ≤ x <;> by_cases h2 : x ≤ 1099511627776
  all_goals
    gi_wp2_with (first | refine (⟨trivial, rfl, ?_⟩ : Fence.wide.fn _ ∧ Fence.wide.depth = none ∧ _) | refine (⟨trivial, ?_⟩ : Fence.wide.fn _ ∧ _))
    go_ret
    exact ⟨by simp [h1, h2, mxT], rfl⟩
set_option maxHeartbeats 1000000 in
theorem markNew_c {n : Nat} (hi : 0 ≤ idle ∧ idle ≤ mxT) (hd : 0 ≤ drain ∧ drain ≤ mxT) : CallsIn Fence.wide n Try.prog 7 #[.int .i64 idle, .int .i64 drain] W fun e W2 => ∃ mb F, e = .returned (.tuple #[.pointer (some ⟨mb, 0, none⟩), .int .i64 0]) ∧ MkI mb idle drain 0 0 [] F W2 ∧ (∀ j, F j → W.heap.size ≤ j) ∧ Upd (fun _ => False) W W2 := by
  have s1 := Lib.hid fun (W : World) => (span_c (n := 0) (W := W) (x := idle)).mono (R' := fun e W2 => e = .returned (.bool true) ∧ W2 = W) (by rintro e W2 ⟨rfl, rfl⟩; exact ⟨by simp [hi], rfl⟩)
  have s2 := Lib.hid fun (W : World) => (span_c (n := 0) (W := W) (x := drain)).mono (R' := fun e W2 => e = .returned (.bool true) ∧ W2 = W) (by rintro e W2 ⟨rfl, rfl⟩; exact ⟨by simp [hd], rfl⟩)
  clear hi hd
  refine callsIn_any (n := 0) (callsIn_of_wp Try.func7 rfl trivial ?_)
  simp only [Try.ntmps7, List.size_toArray, List.length_cons, List.length_nil, Nat.reduceAdd, Nat.reduceSub, Array.replicate_succ, Array.replicate_zero, List.push_toArray, List.append_toArray, List.nil_append, List.cons_append]
  gi_wp2_with (first | refine (⟨trivial, rfl, ?_⟩ : Fence.wide.fn _ ∧ Fence.wide.depth = none ∧ _) | (gi_at_call 22; (with_reducible refine (s1.out _).mono ?_); rintro e W1 ⟨rfl, hW1⟩; (replace hW1 := hW1.symm); (subst hW1)) | (gi_at_call 22; (with_reducible refine (s2.out _).mono ?_); rintro e W1 ⟨rfl, hW1⟩; (replace hW1 := hW1.symm); (subst hW1)) | (gi_at_call 23; (with_reducible refine (rackNewSM (c := cmpS)).mono ?_); rintro e W2 ⟨rfl, ra, ua⟩; (replace ra := Lib.hid ra); (replace ua := Lib.hid ua)) | refine (⟨trivial, ?_⟩ : Fence.wide.fn _ ∧ _))
  refine bodyPost_ret (results_tmp2 rfl _ _ _) rfl ?_
  have z := ua.out.size
  have zr := ra.out.blk.lt
  refine ⟨W2.heap.size, fun j => j = W2.heap.size ∨ j = W.heap.size, rfl, ⟨W.heap.size, .nil, Blk.new _ _ _, ra.out.upd (Upd.alloc (fun _ => False) _ _) (fun _ _ => id), fun j => ⟨fun h => h.elim .inl fun h => .inr (.inl h), fun h => h.elim .inl fun h => h.elim .inr fun h => h.elim⟩, fun h => h.elim (fun h => by omega) fun h => h.elim⟩, fun j hj => by rcases hj with h | h <;> omega, ua.out.stepAlloc _⟩
set_option maxHeartbeats 1000000 in
theorem markNewNo_c {n : Nat} (hi : ¬ (0 ≤ idle ∧ idle ≤ mxT ∧ 0 ≤ drain ∧ drain ≤ mxT)) : CallsIn Fence.wide n Try.prog 7 #[.int .i64 idle, .int .i64 drain] W fun e W2 => e = .returned (.tuple #[.pointer none, .int .i64 1]) ∧ Upd (fun _ => False) W W2 := by
  by_cases h1 : 0 ≤ idle ∧ idle ≤ mxT
  · have h2 : ¬ (0 ≤ drain ∧ drain ≤ mxT) := fun h => hi ⟨h1.1, h1.2, h.1, h.2⟩
    have s1 := Lib.hid fun (W : World) => (span_c (n := 0) (W := W) (x := idle)).mono (R' := fun e W2 => e = .returned (.bool true) ∧ W2 = W) (by rintro e W2 ⟨rfl, rfl⟩; exact ⟨by simp [h1], rfl⟩)
    have s2 := Lib.hid fun (W : World) => (span_c (n := 0) (W := W) (x := drain)).mono (R' := fun e W2 => e = .returned (.bool false) ∧ W2 = W) (by rintro e W2 ⟨rfl, rfl⟩; exact ⟨by simp only [h2, decide_false], rfl⟩)
    clear hi h1 h2
    refine callsIn_any (n := 0) (callsIn_of_wp Try.func7 rfl trivial ?_)
    simp only [Try.ntmps7, List.size_toArray, List.length_cons, List.length_nil, Nat.reduceAdd, Nat.reduceSub, Array.replicate_succ, Array.replicate_zero, List.push_toArray, List.append_toArray, List.nil_append, List.cons_append]
    gi_wp2_with (first | refine (⟨trivial, rfl, ?_⟩ : Fence.wide.fn _ ∧ Fence.wide.depth = none ∧ _) | (gi_at_call 22; (with_reducible refine (s1.out _).mono ?_); rintro e W1 ⟨rfl, rfl⟩) | (gi_at_call 22; (with_reducible refine (s2.out _).mono ?_); rintro e W1 ⟨rfl, rfl⟩) | refine (⟨trivial, ?_⟩ : Fence.wide.fn _ ∧ _))
    refine bodyPost_ret (results_tmp2 rfl _ _ _) rfl ?_
    exact ⟨rfl, Upd.refl _ _⟩
  · have s1 := Lib.hid fun (W : World) => (span_c (n := 0) (W := W) (x := idle)).mono (R' := fun e W2 => e = .returned (.bool false) ∧ W2 = W) (by rintro e W2 ⟨rfl, rfl⟩; exact ⟨by simp only [h1, decide_false], rfl⟩)
    clear hi h1
    refine callsIn_any (n := 0) (callsIn_of_wp Try.func7 rfl trivial ?_)
    simp only [Try.ntmps7, List.size_toArray, List.length_cons, List.length_nil, Nat.reduceAdd, Nat.reduceSub, Array.replicate_succ, Array.replicate_zero, List.push_toArray, List.append_toArray, List.nil_append, List.cons_append]
    gi_wp2_with (first | refine (⟨trivial, rfl, ?_⟩ : Fence.wide.fn _ ∧ Fence.wide.depth = none ∧ _) | (gi_at_call 22; (with_reducible refine (s1.out _).mono ?_); rintro e W1 ⟨rfl, rfl⟩) | refine (⟨trivial, ?_⟩ : Fence.wide.fn _ ∧ _))
    refine bodyPost_ret (results_tmp2 rfl _ _ _) rfl ?_
    exact ⟨rfl, Upd.refl _ _⟩
theorem markNow_c {n : Nat} (h : MkI mb idle drain now low ls F W) : CallsIn Fence.wide n Try.prog 13 #[.pointer (some ⟨mb, 0, none⟩)] W fun e W2 => e = .returned (.int .i64 now) ∧ W2 = W := by
  obtain ⟨rb, t, h1, _⟩ := h
  have c : W.cell? ⟨mb, 2, none⟩ = some (.int .i64 now) := h1.cell 2
  clear h1
  refine callsIn_any (n := 0) (callsIn_of_wp Try.func13 rfl trivial ?_)
  simp only [Try.ntmps13, List.size_toArray, List.length_cons, List.length_nil, Nat.reduceAdd, Nat.reduceSub, Array.replicate_succ, Array.replicate_zero, List.push_toArray, List.append_toArray, List.nil_append, List.cons_append]
  gi_wp2_with (first | refine (⟨trivial, rfl, ?_⟩ : Fence.wide.fn _ ∧ Fence.wide.depth = none ∧ _) | refine (⟨trivial, ?_⟩ : Fence.wide.fn _ ∧ _))
  go_ret
  exact ⟨rfl, rfl⟩
theorem markLow_c {n : Nat} (h : MkI mb idle drain now low ls F W) : CallsIn Fence.wide n Try.prog 9 #[.pointer (some ⟨mb, 0, none⟩)] W fun e W2 => e = .returned (.int .i64 low) ∧ W2 = W := by
  obtain ⟨rb, t, h1, _⟩ := h
  have c : W.cell? ⟨mb, 3, none⟩ = some (.int .i64 low) := h1.cell 3
  clear h1
  refine callsIn_any (n := 0) (callsIn_of_wp Try.func9 rfl trivial ?_)
  simp only [Try.ntmps9, List.size_toArray, List.length_cons, List.length_nil, Nat.reduceAdd, Nat.reduceSub, Array.replicate_succ, Array.replicate_zero, List.push_toArray, List.append_toArray, List.nil_append, List.cons_append]
  gi_wp2_with (first | refine (⟨trivial, rfl, ?_⟩ : Fence.wide.fn _ ∧ Fence.wide.depth = none ∧ _) | refine (⟨trivial, ?_⟩ : Fence.wide.fn _ ∧ _))
  go_ret
  exact ⟨rfl, rfl⟩
/-- May a source be seen? -/
def canL (k : KSM) (ls : List (KSM × VSM)) : Int := if hadL cmpS k ls = false ∧ 8 ≤ ls.length then 16 else 0
set_option maxHeartbeats 2000000 in
theorem markCan_c {n : Nat} (h : MkI mb idle drain now low ls F W) (k : KSM) : CallsIn Fence.wide n Try.prog 27 #[.pointer (some ⟨mb, 0, none⟩), .string k] W fun e W2 => e = .returned (.int .i64 (canL k ls)) ∧ Upd (fun _ => False) W W2 := by
  obtain ⟨rb, t, h1, h2, h3, h4⟩ := h
  have c4 : W.cell? ⟨mb, 4, none⟩ = some (.pointer (some ⟨rb, 0, none⟩)) := h1.cell 4
  have k1 := (rackGetSM (n := 0) h2 cmpV_strings k).mono (R' := fun e W2 => ∃ v : VSM, e = .returned (.tuple #[evSM v, .bool (hadL cmpS k ls)]) ∧ W2.cell? ⟨mb, 4, none⟩ = some (.pointer (some ⟨rb, 0, none⟩)) ∧ Upd (fun _ => False) W W2 ∧
      ∀ W3, Upd (fun _ => False) W2 W3 → W3.cell? ⟨mb, 4, none⟩ = some (.pointer (some ⟨rb, 0, none⟩)) ∧ CallsIn Fence.wide 0 Try.prog 41 #[.pointer (some ⟨rb, 0, none⟩)] W3 fun e W4 => e = .returned (.int .i64 ls.length) ∧ W4 = W3) (by
    rintro e W2 ⟨rfl, u⟩
    have g1 := h1.upd u id
    have g2 := h2.upd u fun _ _ => id
    exact ⟨(getL cmpS k ls).getD (0, 0), by rw [get_had], g1.cell 4, u, fun W3 u3 => ⟨(g1.upd u3 id).cell 4, rackLenSM (g2.upd u3 fun _ _ => id)⟩⟩)
  replace k1 := Lib.hid k1
  clear h1 h2 h3 h4
  refine callsIn_any (n := 0) (callsIn_of_wp Try.func27 rfl trivial ?_)
  simp only [Try.ntmps27, List.size_toArray, List.length_cons, List.length_nil, Nat.reduceAdd, Nat.reduceSub, Array.replicate_succ, Array.replicate_zero, List.push_toArray, List.append_toArray, List.nil_append, List.cons_append]
  cases hh : hadL cmpS k ls with
  | true =>
    rw [hh] at k1
    gi_wp2_with (first | refine (⟨trivial, rfl, ?_⟩ : Fence.wide.fn _ ∧ Fence.wide.depth = none ∧ _) | (gi_at_call 28; (with_reducible refine k1.out.mono ?_); rintro e W2 ⟨v, rfl, c4', u2, kk⟩; (clear kk)) | refine (⟨trivial, ?_⟩ : Fence.wide.fn _ ∧ _))
    go_ret
    exact ⟨by simp [canL, hh], u2.stepAlloc _⟩
  | false =>
    rw [hh] at k1
    by_cases hl : 8 ≤ ls.length
    all_goals
      gi_wp2_with (first | refine (⟨trivial, rfl, ?_⟩ : Fence.wide.fn _ ∧ Fence.wide.depth = none ∧ _) | (gi_at_call 28; (with_reducible refine k1.out.mono ?_); rintro e W2 ⟨v, rfl, c4', u2, kk⟩; (obtain ⟨c5, k5⟩ := kk _ (Upd.alloc _ _ (.cells #[.int .i64 v.1, .int .i64 v.2] 60))); (clear kk); (replace k5 := Lib.hid k5)) | (gi_at_call 41; (with_reducible refine k5.out.mono ?_); rintro e W4 ⟨rfl, rfl⟩) | refine (⟨trivial, ?_⟩ : Fence.wide.fn _ ∧ _))
      go_ret
      exact ⟨by simp [canL, hh, hl], u2.stepAlloc _⟩
/-- What is known of a source behind an event. -/
def seeV (k : KSM) (time now : Int) (ls : List (KSM × VSM)) : VSM := (max ((getL cmpS k ls).getD (0, 0)).1 time, now)
set_option maxRecDepth 100000 in
set_option maxHeartbeats 4000000 in
theorem markSee_c {n : Nat} (h : MkI mb idle drain now low ls F W) (hl : ls.length ≤ 8) (k : KSM) (time : Int) (hc : canL k ls = 0) : CallsIn Fence.wide n Try.prog 11 #[.pointer (some ⟨mb, 0, none⟩), .string k, .int .i64 time] W fun e W2 => e = .returned (.int .i64 0) ∧ ∃ F', MkI mb idle drain now low (putL cmpS k (seeV k time now ls) ls) F' W2 ∧ (∀ j, F' j → F j ∨ W.heap.size ≤ j) ∧ Upd F W W2 := by
  have k0 := (markCan_c (n := 0) h k).mono (R' := fun e W1 => e = .returned (.int .i64 0) ∧ ∃ rb, W1.cell? ⟨mb, 4, none⟩ = some (.pointer (some ⟨rb, 0, none⟩)) ∧
      CallsIn Fence.wide 0 Try.prog 28 #[.pointer (some ⟨rb, 0, none⟩), .string k] W1 fun e W2 => ∃ v : VSM, v = (getL cmpS k ls).getD (0, 0) ∧ ∃ b, e = .returned (.tuple #[.agg #[.int .i64 v.1, .int .i64 v.2], .bool b]) ∧
        ∀ W3, Upd (fun _ => False) W2 W3 → W3.drew.cell? ⟨mb, 4, none⟩ = some (.pointer (some ⟨rb, 0, none⟩)) ∧ W3.drew.cell? ⟨mb, 2, none⟩ = some (.int .i64 now) ∧ Upd (fun _ => False) W W3 ∧ W.heap.size ≤ W2.heap.size ∧
          CallsIn Fence.wide 0 Try.prog 29 #[.pointer (some ⟨rb, 0, none⟩), .string k, .agg #[.int .i64 (max v.1 time), .int .i64 now]] W3.drew fun e W4 => ∃ b F', e = .returned (.bool b) ∧ W4.cell? ⟨mb, 4, none⟩ = some (.pointer (some ⟨rb, 0, none⟩)) ∧ W4.cell? ⟨mb, 2, none⟩ = some (.int .i64 now) ∧ Upd (fun j => j < W2.heap.size) W3.drew W4 ∧ MkI mb idle drain now low (putL cmpS k (seeV k time now ls) ls) F' W4 ∧ (∀ j, F' j → F j ∨ W.heap.size ≤ j) ∧ Upd F W W4) (by
    rintro e W1 ⟨rfl, u1⟩
    obtain ⟨rb, t, h1, h2, h3, h4⟩ := h.upd u1 fun _ _ => id
    refine ⟨by rw [hc], rb, h1.cell 4, (rackGetSM (n := 0) h2 cmpV_strings k).mono ?_⟩
    rintro e W2 ⟨rfl, u2⟩
    refine ⟨_, rfl, _, rfl, fun W3 u3 => ?_⟩
    have u23 := (u2.trans' u3).stepDrew
    have g1 := h1.upd u23 id
    have g2 := h2.upd u23 fun _ _ => id
    have uu := u1.trans' u23
    have z := uu.size
    have z1 := (u1.trans' u2).size
    refine ⟨g1.cell 4, g1.cell 2, u1.trans' (u2.trans' u3), z1, (rackPutSM (n := 0) cmpV_strings (v := seeV k time now ls) g2 (by omega)).mono ?_⟩
    rintro e W4 ⟨rfl, t', q1, q2, q3⟩
    have hmb : ¬ (mb = rb ∨ t.has mb) := h4
    have h2lt := (h2.upd u2 fun _ _ => id).lt
    refine ⟨_, fun j => j = mb ∨ j = rb ∨ t'.has j, rfl, (g1.upd q3 hmb).cell 4, (g1.upd q3 hmb).cell 2, q3.mono fun j _ hj => h2lt j hj, ⟨rb, t', g1.upd q3 hmb, q1, fun j => Iff.rfl, ?_⟩, ?_, ?_⟩
    · rintro (h | h)
      · exact hmb (.inl h)
      · rcases q2 _ h with h | h
        · exact hmb (.inr h)
        · have := g1.lt; omega
    · rintro j (h | h | h)
      · exact .inl ((h3 j).2 (.inl h))
      · exact .inl ((h3 j).2 (.inr (.inl h)))
      · rcases q2 j h with h | h
        · exact .inl ((h3 j).2 (.inr (.inr h)))
        · exact .inr (by omega)
    · exact (uu.mono fun _ _ h => h.elim).trans q3 fun j hj => .inl ((h3 j).2 (.inr hj)))
  replace k0 := Lib.hid k0
  clear h
  refine callsIn_any (n := 0) (callsIn_of_wp Try.func11 rfl trivial ?_)
  simp only [Try.ntmps11, List.size_toArray, List.length_cons, List.length_nil, Nat.reduceAdd, Nat.reduceSub, Array.replicate_succ, Array.replicate_zero, List.push_toArray, List.append_toArray, List.nil_append, List.cons_append]
  gi_wp2_with (first | refine (⟨trivial, rfl, ?_⟩ : Fence.wide.fn _ ∧ Fence.wide.depth = none ∧ _) | (gi_at_call 27; (with_reducible refine k0.out.mono ?_); rintro e W1 ⟨rfl, rb, c4, k1⟩; (replace k1 := Lib.hid k1)) | (gi_at_call 28; (with_reducible refine k1.out.mono ?_); rintro e W2 ⟨v, hv, b, rfl, kk⟩; (clear hv); (obtain ⟨d4, d2, u3, z3, k5⟩ := kk _ (Upd.alloc _ _ (.cells #[.int .i64 v.1, .int .i64 v.2] 60))); (clear kk); (replace k5 := Lib.hid k5); (have hq := (Blk.new W2 #[.int .i64 v.1, .int .i64 v.2] 60).upd (Upd.drew (fun _ => False) _) id); (have q0 : (W2.alloc (.cells #[.int .i64 v.1, .int .i64 v.2] 60)).drew.cell? ⟨W2.heap.size, 0, none⟩ = some (.int .i64 v.1) := hq.cell 0); (replace hq := Lib.hid hq)) | refine (⟨trivial, ?_⟩ : Fence.wide.fn _ ∧ _))
  refine wpIn_eager [(0, true), (1, true), (2, true), (3, true), (4, true), (5, true), (6, true), (7, true), (8, true), (9, true), (10, true), (11, true), (12, true), (13, true), (14, false)] (fun V => V.cell? ⟨mb, 4, none⟩ = some (.pointer (some ⟨rb, 0, none⟩)) ∧ V.cell? ⟨mb, 2, none⟩ = some (.int .i64 now) ∧ V.cell? ⟨W2.heap.size, 0, none⟩ = some (.int .i64 v.1)) (by kernel_rfl) (by kernel_rfl) ⟨d4, d2, q0⟩ ?_
  repeat (first | (refine wpE_fl rfl rfl (fun _ _ => rfl) ?_; go_simp) | (refine wpE_sk rfl rfl ?_; go_simp) | (refine wpE_fl (v := ?_) rfl rfl ?_ ?_; rotate_left; (intro W' h'; (try dsimp only at h'); go_simp; exact rfl); go_simp) | (refine wpE_ef rfl ?_; go_simp; gi_wp2_with (first | refine (⟨trivial, rfl, ?_⟩ : Fence.wide.fn _ ∧ Fence.wide.depth = none ∧ _) | refine (⟨trivial, trivial, rfl, ?_⟩ : Fence.wide.fn _ ∧ Fence.wide.fn _ ∧ Fence.wide.depth = none ∧ _) | (gi_at_call 29; (with_reducible refine k5.out.mono ?_); rintro e W4 ⟨b4, F', rfl, d4', d2', u5, fin⟩; (replace fin := Lib.hid fin); (have q0' : W4.cell? ⟨W2.heap.size, 0, none⟩ = some (.int .i64 v.1) := (hq.out.upd u5 (Nat.lt_irrefl _)).cell 0)) | refine (⟨trivial, ?_⟩ : Fence.wide.fn _ ∧ _)); (first | refine ⟨by first | exact ⟨d4', d2', q0'⟩, ?_⟩ | skip)))
  refine wpE_nil ?_
  gi_wp2_with (first | refine (⟨trivial, rfl, ?_⟩ : Fence.wide.fn _ ∧ Fence.wide.depth = none ∧ _) | refine (⟨trivial, ?_⟩ : Fence.wide.fn _ ∧ _))
  go_ret
  exact ⟨rfl, F', fin.out⟩
end
end Go.Proofs.Ytpljdckppmobeaa

/- sack's methods, things of kind int. -/
import Derived.Test.YtjlobcbjhnfjcaaProg
import Derived.Test.YtjlobcbjhnfjcaaBase
import Derived.Test.YtjlobcbjhnfjcaaTrL
import Derived.Test.YtjlobcbjhnfjcaaSkP
import Derived.Test.YtjlobcbjhnfjcaaRkCmp
import Derived.Test.YtjlobcbjhnfjcaaRkIID
import Derived.Test.YtjlobcbjhnfjcaaRkIIE
import Derived.Test.YtjlobcbjhnfjcaaRkIIF
namespace Go.Proofs.Ytjlobcbjhnfjcaa
open Go.RowKit Go.Shelf
attribute [local go_sem] Oper.semAt_some

abbrev RackBI (rb : Nat) (t : Tr KII VII) (l : List (KII × VII)) (w : World) : Prop := RackII cmpI (.func 30) #[] #[] rb t l w
theorem cmpBI : CmpV Try.prog ekII cmpI (.func 30) #[] #[] := cmpV_int
/-- A sack: its things in whatever order, its room, its blocks. -/
def SkI (sb : Nat) (ls : List Int) (room : Int) (F : Nat → Prop) (W : World) : Prop :=
  ∃ rb t lr, Blk W sb #[.pointer (some ⟨rb, 0, none⟩), .int .i64 room, .int .i64 ls.length] 61 ∧ RackBI rb t lr W ∧ Bag cmpI lr ls ∧ (∀ j, F j ↔ (j = sb ∨ j = rb ∨ t.has j)) ∧ ¬ (sb = rb ∨ t.has sb) ∧ (ls.length : Int) ≤ room ∧ room ≤ 1000
section SkI
variable {sb : Nat} {ls : List Int} {room : Int} {F : Nat → Prop} {W W2 : World}
theorem SkI.agree (h : SkI sb ls room F W) (ha : Agree F W W2) : SkI sb ls room F W2 := by
  obtain ⟨rb, t, lr, h1, h2, h3, h4, h5⟩ := h
  exact ⟨rb, t, lr, h1.agree ha ((h4 _).2 (.inl rfl)), h2.agree (ha.mono fun j hj => (h4 j).2 (.inr hj)), h3, h4, h5⟩
theorem SkI.lt (h : SkI sb ls room F W) : ∀ j, F j → j < W.heap.size := by
  obtain ⟨rb, t, lr, h1, h2, h3, h4, h5⟩ := h
  intro j hj
  rcases (h4 j).1 hj with rfl | hj
  · exact h1.lt
  · exact h2.lt j hj
theorem SkI.upd (h : SkI sb ls room F W) {M : Nat → Prop} (hu : Upd M W W2) (hM : ∀ j, F j → ¬ M j) : SkI sb ls room F W2 := h.agree (hu.agree fun j hj => ⟨h.lt j hj, hM j hj⟩)
theorem SkI.len_le (h : SkI sb ls room F W) : (ls.length : Int) ≤ room ∧ room ≤ 1000 := by
  obtain ⟨rb, t, lr, h1, h2, h3, h4, h5, h6⟩ := h
  exact h6
theorem SkI.same (h : SkI sb ls room F W) {ls' : List Int} (hc : ∀ x, cnt cmpI x ls = cnt cmpI x ls') (hl : ls.length = ls'.length) : SkI sb ls' room F W := by
  obtain ⟨rb, t, lr, h1, h2, h3, h4, h5, h6⟩ := h
  rw [hl] at h1 h6
  exact ⟨rb, t, lr, h1, h2, h3.same hc, h4, h5, h6⟩

set_option maxHeartbeats 1000000 in
theorem sackNewI {n : Nat} {r : Int} {w : World} (hr : 0 ≤ r ∧ r ≤ 1000) : CallsIn Fence.wide n Try.prog 15 #[.int .i64 r] w fun e w' => ∃ sb F, e = .returned (.tuple #[.pointer (some ⟨sb, 0, none⟩), .int .i64 0]) ∧ SkI sb [] r F w' ∧ (∀ j, F j → w.heap.size ≤ j) ∧ Upd (fun _ => False) w w' := by
  have h1 : ¬ r < 0 := by omega
  have h2 : ¬ 1000 < r := by omega
  refine callsIn_any (n := 0) (callsIn_of_wp Try.func15 rfl trivial ?_)
  simp only [Try.ntmps15, List.size_toArray, List.length_cons, List.length_nil, Nat.reduceAdd, Nat.reduceSub, Array.replicate_succ, Array.replicate_zero, List.push_toArray, List.append_toArray, List.nil_append, List.cons_append]
  gi_wp2_with (first | refine (⟨trivial, rfl, ?_⟩ : Fence.wide.fn _ ∧ Fence.wide.depth = none ∧ _) | (gi_at_call 29; (with_reducible refine (rackNewII (c := cmpI)).mono ?_); rintro e W1 ⟨rfl, ra, ua⟩; (replace ra := Lib.hid ra); (replace ua := Lib.hid ua)) | refine (⟨trivial, ?_⟩ : Fence.wide.fn _ ∧ _))
  refine bodyPost_ret (results_tmp2 rfl _ _ _) rfl ?_
  have hl := ra.out.blk.lt
  refine ⟨W1.heap.size, fun j => j = W1.heap.size ∨ j = w.heap.size, rfl, ⟨w.heap.size, .nil, [], Blk.new _ _ _, ra.out.upd (Upd.alloc (fun _ => False) _ _) fun _ _ => id, Bag.nil, fun j => by simp [Tr.has], ?_, by simp; omega, hr.2⟩, ?_, ua.out.stepAlloc _⟩
  · rintro (e | e)
    · omega
    · exact e
  · rintro j (rfl | rfl) <;> omega
theorem sackNewNoI {n : Nat} {r : Int} {w : World} (hr : ¬ (0 ≤ r ∧ r ≤ 1000)) : CallsIn Fence.wide n Try.prog 15 #[.int .i64 r] w fun e w' => e = .returned (.tuple #[.pointer none, .int .i64 1]) ∧ Upd (fun _ => False) w w' := by
  refine callsIn_any (n := 0) (callsIn_of_wp Try.func15 rfl trivial ?_)
  simp only [Try.ntmps15, List.size_toArray, List.length_cons, List.length_nil, Nat.reduceAdd, Nat.reduceSub, Array.replicate_succ, Array.replicate_zero, List.push_toArray, List.append_toArray, List.nil_append, List.cons_append]
  by_cases h0 : r < 0
  · skip
    gi_wp2_with (first | refine (⟨trivial, rfl, ?_⟩ : Fence.wide.fn _ ∧ Fence.wide.depth = none ∧ _) | refine (⟨trivial, ?_⟩ : Fence.wide.fn _ ∧ _))
    refine bodyPost_ret (results_tmp2 rfl _ _ _) rfl ?_
    exact ⟨rfl, Upd.refl _ _⟩
  · have h1 : 1000 < r := by omega
    gi_wp2_with (first | refine (⟨trivial, rfl, ?_⟩ : Fence.wide.fn _ ∧ Fence.wide.depth = none ∧ _) | refine (⟨trivial, ?_⟩ : Fence.wide.fn _ ∧ _))
    refine bodyPost_ret (results_tmp2 rfl _ _ _) rfl ?_
    exact ⟨rfl, Upd.refl _ _⟩

set_option maxHeartbeats 1000000 in
theorem sackRoomI {n : Nat} (h : SkI sb ls room F W) : CallsIn Fence.wide n Try.prog 22 #[.pointer (some ⟨sb, 0, none⟩)] W fun e W2 => e = .returned (.int .i64 (room - ls.length)) ∧ Upd (fun _ => False) W W2 := by
  obtain ⟨rb, t, lr, h1, h2, h3, h4, h5, h6⟩ := h
  have hw : IntKind.i64.wrap (room - (ls.length : Int)) = room - ls.length := Go.IntWalk.i64_in _ ⟨by omega, by omega⟩
  have h1' := h1.upd (Upd.drew (fun _ => False) W) id
  have c1 : W.drew.cell? ⟨sb, 1, none⟩ = some (.int .i64 room) := h1'.cell 1
  have c2 : W.drew.cell? ⟨sb, 2, none⟩ = some (.int .i64 ls.length) := h1'.cell 2
  clear h1 h1' h2 h3 h4 h5
  refine callsIn_any (n := 0) (callsIn_of_wp Try.func22 rfl trivial ?_)
  simp only [Try.ntmps22, List.size_toArray, List.length_cons, List.length_nil, Nat.reduceAdd, Nat.reduceSub, Array.replicate_succ, Array.replicate_zero, List.push_toArray, List.append_toArray, List.nil_append, List.cons_append]
  gi_wp2
  refine wpIn_eager [(0, true), (1, true), (2, true), (3, true), (4, true), (5, true), (6, true), (7, true), (8, true), (9, true)] (fun V => V.cell? ⟨sb, 1, none⟩ = some (.int .i64 room) ∧ V.cell? ⟨sb, 2, none⟩ = some (.int .i64 ls.length)) (by kernel_rfl) (by kernel_rfl) ⟨c1, c2⟩ ?_
  repeat (first | (refine wpE_fl rfl rfl (fun _ _ => rfl) ?_; go_simp) | (refine wpE_sk rfl rfl ?_; go_simp) | (refine wpE_fl (v := ?_) rfl rfl ?_ ?_; rotate_left; (intro W' h'; (try dsimp only at h'); go_simp; exact rfl); go_simp) | (refine wpE_ef rfl ?_; go_simp; gi_wp2_with (first | refine (⟨trivial, rfl, ?_⟩ : Fence.wide.fn _ ∧ Fence.wide.depth = none ∧ _) | refine (⟨trivial, trivial, rfl, ?_⟩ : Fence.wide.fn _ ∧ Fence.wide.fn _ ∧ Fence.wide.depth = none ∧ _) | refine (⟨trivial, ?_⟩ : Fence.wide.fn _ ∧ _)); (first | refine ⟨by first | exact trivial, ?_⟩ | skip)))
  refine wpE_nil ?_
  gi_wp2
  go_ret
  exact ⟨rfl, Upd.drew _ _⟩
theorem sackLenI {n : Nat} (h : SkI sb ls room F W) : CallsIn Fence.wide n Try.prog 21 #[.pointer (some ⟨sb, 0, none⟩)] W fun e W2 => e = .returned (.int .i64 ls.length) ∧ W2 = W := by
  obtain ⟨rb, t, lr, h1, h2, h3, h4, h5, h6⟩ := h
  have c2 : W.cell? ⟨sb, 2, none⟩ = some (.int .i64 ls.length) := h1.cell 2
  clear h1 h2 h3 h4 h5
  refine callsIn_any (n := 0) (callsIn_of_wp Try.func21 rfl trivial ?_)
  simp only [Try.ntmps21, List.size_toArray, List.length_cons, List.length_nil, Nat.reduceAdd, Nat.reduceSub, Array.replicate_succ, Array.replicate_zero, List.push_toArray, List.append_toArray, List.nil_append, List.cons_append]
  gi_wp2
  go_ret
  exact ⟨rfl, rfl⟩
theorem sackManyI {n : Nat} (h : SkI sb ls room F W) (x : Int) : CallsIn Fence.wide n Try.prog 23 #[.pointer (some ⟨sb, 0, none⟩), .int .i64 x] W fun e W2 => e = .returned (.int .i64 (cnt cmpI x ls : Nat)) ∧ Upd (fun _ => False) W W2 := by
  obtain ⟨rb, t, lr, h1, h2, h3, h4, h5, h6⟩ := h
  have c0 : W.cell? ⟨sb, 0, none⟩ = some (.pointer (some ⟨rb, 0, none⟩)) := h1.cell 0
  have k1 := rackGetII (n := 0) h2 cmpBI x
  rw [h3.get ordrI x] at k1
  replace k1 := Lib.hid k1
  clear h1 h2 h3 h4 h5
  refine callsIn_any (n := 0) (callsIn_of_wp Try.func23 rfl trivial ?_)
  simp only [Try.ntmps23, List.size_toArray, List.length_cons, List.length_nil, Nat.reduceAdd, Nat.reduceSub, Array.replicate_succ, Array.replicate_zero, List.push_toArray, List.append_toArray, List.nil_append, List.cons_append]
  gi_wp2_with (first | refine (⟨trivial, rfl, ?_⟩ : Fence.wide.fn _ ∧ Fence.wide.depth = none ∧ _) | (gi_at_call 34; (with_reducible refine k1.out.mono ?_); rintro e W2 ⟨rfl, hu⟩; (replace hu := Lib.hid hu)) | refine (⟨trivial, ?_⟩ : Fence.wide.fn _ ∧ _))
  go_ret
  exact ⟨rfl, hu.out⟩

/-- The rack turns, and how many there are. -/
theorem SkI.turn (h : SkI sb ls room F W) {ls' : List Int} {d : Int} (hd : (ls'.length : Int) = ls.length + d) (hl : (ls'.length : Int) ≤ room) {rb : Nat} {t t' : Tr KII VII} {lr' : List (KII × VII)} (h1 : Blk W sb #[.pointer (some ⟨rb, 0, none⟩), .int .i64 room, .int .i64 ls.length] 61)
    (h4 : ∀ j, F j ↔ (j = sb ∨ j = rb ∨ t.has j)) (h5 : ¬ (sb = rb ∨ t.has sb)) (g1 : RackBI rb t' lr' W2) (g2 : ∀ j, t'.has j → t.has j ∨ W.heap.size ≤ j) (g3 : Upd (fun j => j = rb ∨ t.has j) W W2) (hb : Bag cmpI lr' ls') :
    W2.cell? ⟨sb, 2, none⟩ = some (.int .i64 ls.length) ∧ W2.frozen? ⟨sb, 2, none⟩ = false ∧ sb < W2.heap.size ∧ ∃ F', SkI sb ls' room F' (W2.setCell ⟨sb, 2, none⟩ (.int .i64 ls'.length)) ∧ (∀ j, F' j → F j ∨ W.heap.size ≤ j) ∧ Upd F W (W2.setCell ⟨sb, 2, none⟩ (.int .i64 ls'.length)) := by
  have hr := h.len_le
  have hb2 := h1.upd g3 h5
  have hs : ¬ (sb = rb ∨ t'.has sb) := by
    rintro (e | e)
    · exact h5 (.inl e)
    · rcases g2 sb e with h' | h'
      · exact h5 (.inr h')
      · have := h1.lt; omega
  refine ⟨hb2.cell 2, hb2.frozen 2, hb2.lt, fun j => j = sb ∨ j = rb ∨ t'.has j, ⟨rb, t', lr', by simpa using hb2.set 2 (.int .i64 ls'.length), g1.upd (Upd.setCell (M := fun j => j = sb) rfl _) fun j hj e => hs (e ▸ hj), hb, fun _ => Iff.rfl, hs, hl, hr.2⟩, ?_, ?_⟩
  · rintro j (rfl | rfl | hj)
    · exact .inl ((h4 _).2 (.inl rfl))
    · exact .inl ((h4 _).2 (.inr (.inl rfl)))
    · exact (g2 j hj).imp (fun h => (h4 j).2 (.inr (.inr h))) id
  · exact (g3.mono fun j _ hj => (h4 j).2 (.inr hj)).stepSet (.inl ((h4 sb).2 (.inl rfl))) _

set_option maxRecDepth 100000 in
set_option maxHeartbeats 1000000 in
theorem sackAddI {n : Nat} (h : SkI sb ls room F W) (x : Int) (hf : (ls.length : Int) < room) : CallsIn Fence.wide n Try.prog 17 #[.pointer (some ⟨sb, 0, none⟩), .int .i64 x] W fun e W2 => e = .returned (.int .i64 0) ∧ ∃ F', SkI sb (x :: ls) room F' W2 ∧ (∀ j, F' j → F j ∨ W.heap.size ≤ j) ∧ Upd F W W2 := by
  have hr := h.len_le
  have k1 := sackRoomI (n := 0) h
  have k2 : ∀ W1, Upd (fun _ => False) W W1 → ∃ rb, W1.drew.cell? ⟨sb, 0, none⟩ = some (.pointer (some ⟨rb, 0, none⟩)) ∧ CallsIn Fence.wide 0 Try.prog 23 #[.pointer (some ⟨sb, 0, none⟩), .int .i64 x] W1.drew fun e W2 => e = .returned (.int .i64 (cnt cmpI x ls : Nat)) ∧ W2.cell? ⟨sb, 0, none⟩ = some (.pointer (some ⟨rb, 0, none⟩)) ∧
      CallsIn Fence.wide 0 Try.prog 31 #[.pointer (some ⟨rb, 0, none⟩), .int .i64 x, .int .i64 ((cnt cmpI x ls : Int) + 1)] W2 fun e W3 => (∃ b, e = .returned (.bool b)) ∧ W3.cell? ⟨sb, 0, none⟩ = some (.pointer (some ⟨rb, 0, none⟩)) ∧ W3.cell? ⟨sb, 2, none⟩ = some (.int .i64 ls.length) ∧ W3.frozen? ⟨sb, 2, none⟩ = false ∧ sb < W3.heap.size ∧
        ∃ F', SkI sb (x :: ls) room F' (W3.setCell ⟨sb, 2, none⟩ (.int .i64 ((ls.length : Int) + 1))) ∧ (∀ j, F' j → F j ∨ W.heap.size ≤ j) ∧ Upd F W (W3.setCell ⟨sb, 2, none⟩ (.int .i64 ((ls.length : Int) + 1))) := by
    intro W1 hu
    have h' := h.upd hu.stepDrew fun _ _ => id
    have h0 := h'
    obtain ⟨rb, t, lr, h1, h2, h3, h4, h5, h6⟩ := h'
    refine ⟨rb, h1.cell 0, (sackManyI (n := 0) h0 x).mono ?_⟩
    rintro e W2 ⟨rfl, u2⟩
    have hl : lr.length < 100000 := by have := bag_short ordrI h3; omega
    refine ⟨rfl, (h1.upd u2 id).cell 0, (rackPutII (n := 0) cmpBI (k := x) (v := (cnt cmpI x ls : Int) + 1) (h2.upd u2 fun _ _ => id) hl).mono ?_⟩
    rintro e W3 ⟨rfl, t', g1, g2, g3⟩
    have hz := u2.size
    have hsz := hu.size
    obtain ⟨q1, q2, q3, F', q4, q5, q6⟩ := (h0.upd u2 fun _ _ => id).turn (ls' := x :: ls) (d := 1) (by simp) (by simp; omega) (h1.upd u2 id) h4 h5 g1 g2 g3 (h3.add ordrI x)
    have hb3 := (h1.upd u2 id).upd g3 h5
    refine ⟨⟨_, rfl⟩, hb3.cell 0, q1, q2, q3, F', ?_, fun j hj => (q5 j hj).imp id fun h => by have e : W1.drew.heap.size = W1.heap.size := rfl; omega, ?_⟩
    · simpa using q4
    · have q7 := ((hu.stepDrew.trans' u2).mono (M' := F) fun _ _ h => h.elim).trans' q6
      simpa using q7
  have hw1 : IntKind.i64.wrap ((cnt cmpI x ls : Int) + 1) = (cnt cmpI x ls : Int) + 1 := Go.IntWalk.i64_in _ ⟨by omega, by have := cnt_le (c := cmpI) x ls; omega⟩
  have hw2 : IntKind.i64.wrap ((ls.length : Int) + 1) = (ls.length : Int) + 1 := Go.IntWalk.i64_in _ ⟨by omega, by omega⟩
  have hlt : ¬ room - (ls.length : Int) < 1 := by omega
  obtain ⟨m, hm⟩ : ∃ m : Nat, m = cnt cmpI x ls := ⟨_, rfl⟩
  rw [← hm] at hw1
  simp only [← hm] at k2
  replace k1 := Lib.hid k1
  replace k2 := Lib.hid k2
  clear h hm
  refine callsIn_any (n := 0) (callsIn_of_wp Try.func17 rfl trivial ?_)
  simp only [Try.ntmps17, List.size_toArray, List.length_cons, List.length_nil, Nat.reduceAdd, Nat.reduceSub, Array.replicate_succ, Array.replicate_zero, List.push_toArray, List.append_toArray, List.nil_append, List.cons_append]
  gi_wp2_with (first | refine (⟨trivial, rfl, ?_⟩ : Fence.wide.fn _ ∧ Fence.wide.depth = none ∧ _) | (gi_at_call 22; (with_reducible refine k1.out.mono ?_); rintro e W1 ⟨rfl, hu⟩; (obtain ⟨rb, c0, k3⟩ := k2.out W1 hu); (replace k3 := Lib.hid k3); (clear hu)) | refine (⟨trivial, ?_⟩ : Fence.wide.fn _ ∧ _))
  refine wpIn_eager [(0, true), (1, true), (2, true), (3, true), (4, true), (5, true), (6, true), (7, false), (8, true), (9, false)] (fun V => V.cell? ⟨sb, 0, none⟩ = some (.pointer (some ⟨rb, 0, none⟩))) (by kernel_rfl) (by kernel_rfl) c0 ?_
  repeat (first | (refine wpE_fl rfl rfl (fun _ _ => rfl) ?_; go_simp) | (refine wpE_sk rfl rfl ?_; go_simp) | (refine wpE_fl (v := ?_) rfl rfl ?_ ?_; rotate_left; (intro W' h'; (try dsimp only at h'); go_simp; exact rfl); go_simp) | (refine wpE_ef rfl ?_; go_simp; gi_wp2_with (first | refine (⟨trivial, rfl, ?_⟩ : Fence.wide.fn _ ∧ Fence.wide.depth = none ∧ _) | refine (⟨trivial, trivial, rfl, ?_⟩ : Fence.wide.fn _ ∧ Fence.wide.fn _ ∧ Fence.wide.depth = none ∧ _) | (gi_at_call 23; (with_reducible refine k3.out.mono ?_); rintro e W2 ⟨rfl, e0, k4⟩; (replace k4 := Lib.hid k4)) | (gi_at_call 31; (with_reducible refine k4.out.mono ?_); rintro e W3 ⟨⟨b, rfl⟩, d0, d1, d2, d3, fin⟩; (replace fin := Lib.hid fin)) | refine (⟨trivial, ?_⟩ : Fence.wide.fn _ ∧ _)); (first | refine ⟨by first | exact d0 | exact e0 | exact c0, ?_⟩ | skip)))
  refine wpE_nil ?_
  gi_wp2
  go_ret
  exact ⟨rfl, fin.out⟩
end SkI
end Go.Proofs.Ytjlobcbjhnfjcaa

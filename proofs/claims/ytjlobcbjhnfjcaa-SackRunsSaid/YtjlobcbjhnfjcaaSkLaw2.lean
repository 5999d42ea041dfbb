/- awake, SackNear. -/
import Derived.Test.YtjlobcbjhnfjcaaProg
import Derived.Test.YtjlobcbjhnfjcaaBase
import Derived.Test.YtjlobcbjhnfjcaaSkLaw
namespace Go.Proofs.Ytjlobcbjhnfjcaa
open Go.RowKit Go.Shelf
attribute [local go_sem] Oper.semAt_some

def accs : Nat → List Int
  | 0 => []
  | 1 => [2]
  | 2 => [9, 2]
  | 3 => [1, 9, 2]
  | _ => [2, 1, 9, 2]
def exV : Nat → Int
  | 0 => 2
  | 1 => 9
  | 2 => 1
  | _ => 2
theorem accs_step (k : Nat) (h : k < 4) : exV k :: accs k = accs (k + 1) ∧ (accs k).length = k := by
  rcases k with _ | _ | _ | _ | k
  · exact ⟨rfl, rfl⟩
  · exact ⟨rfl, rfl⟩
  · exact ⟨rfl, rfl⟩
  · exact ⟨rfl, rfl⟩
  · omega
theorem srt_ex : Srt cmpI [1, 2, 2, 9] := by unfold Srt; decide
theorem cnt_ex (x : Int) : cnt cmpI x (accs 4) = cnt cmpI x [1, 2, 2, 9] := by
  simp only [accs, cnt_cons, cnt_nil]; omega

set_option maxRecDepth 100000 in
set_option maxHeartbeats 2000000 in
theorem awake_c {n : Nat} {w : World} : CallsIn Fence.wide n Try.prog 7 #[] w fun e W => e = .returned (.bool true) ∧ Upd (fun _ => False) w W := by
  have k1 := (sackNewI (n := 0) (w := w) (r := 9) ⟨by omega, by omega⟩)
  have hx0 : ∀ W, (Instr.index 58 (.agg #[.int .i64 2, .int .i64 9, .int .i64 1, .int .i64 2]) (.int .i64 0)).run Try.prog W = .ok (.int .i64 2) W := fun _ => rfl
  have hx1 : ∀ W, (Instr.index 58 (.agg #[.int .i64 2, .int .i64 9, .int .i64 1, .int .i64 2]) (.int .i64 1)).run Try.prog W = .ok (.int .i64 9) W := fun _ => rfl
  have hx2 : ∀ W, (Instr.index 58 (.agg #[.int .i64 2, .int .i64 9, .int .i64 1, .int .i64 2]) (.int .i64 2)).run Try.prog W = .ok (.int .i64 1) W := fun _ => rfl
  have hx3 : ∀ W, (Instr.index 58 (.agg #[.int .i64 2, .int .i64 9, .int .i64 1, .int .i64 2]) (.int .i64 3)).run Try.prog W = .ok (.int .i64 2) W := fun _ => rfl
  replace k1 := Lib.hid k1
  refine callsIn_any (n := 0) (callsIn_of_wp Try.func7 rfl trivial ?_)
  simp only [Try.ntmps7, List.size_toArray, List.length_cons, List.length_nil, Nat.reduceAdd, Nat.reduceSub, Array.replicate_succ, Array.replicate_zero, List.push_toArray, List.append_toArray, List.nil_append, List.cons_append]
  gi_wp2_with (first | refine (⟨trivial, rfl, ?_⟩ : Fence.wide.fn _ ∧ Fence.wide.depth = none ∧ _) | (gi_at_call 15; (with_reducible refine k1.out.mono ?_); rintro e W1 ⟨sb, F, rfl, fin⟩; (replace fin := Lib.hid fin)) | refine (⟨trivial, ?_⟩ : Fence.wide.fn _ ∧ _))
  gi_loopw [20] (fun i wr => ∃ (k : Nat) (F' : Nat → Prop), i = .int .i64 k ∧ k ≤ 4 ∧ SkI sb (accs k) 9 F' wr ∧ (∀ j, F' j → w.heap.size ≤ j) ∧ Upd (fun _ => False) w wr) (fun i _ => 4 - (intOf i).toNat)
  case atStart =>
    obtain ⟨f1, f2, f3⟩ := fin.out
    exact ⟨0, F, rfl, by omega, f1, f2, f3⟩
  case round =>
    obtain ⟨k, F', rfl, hk, h1, h2, h3⟩ := hrel
    by_cases hlt : k < 4
    · obtain ⟨e1, e2⟩ := accs_step k hlt
      have k2 := (sackAddI (n := 0) h1 (exV k) (by rw [e2]; omega)).mono (R' := fun e W2 => e = .returned (.int .i64 0) ∧ ∃ F', SkI sb (accs (k + 1)) 9 F' W2 ∧ (∀ j, F' j → w.heap.size ≤ j) ∧ Upd (fun _ => False) w W2) (by
        rintro e W2 ⟨rfl, F'', q1, q2, q3⟩
        have z3 := h3.size
        exact ⟨rfl, F'', by rw [← e1]; exact q1, fun j hj => (q2 j hj).elim (h2 j) fun h => by omega, h3.trans q3 fun j hj => .inr (h2 j hj)⟩)
      replace k2 := Lib.hid k2
      clear h1 h2 h3 e1 e2 k1 fin
      rcases k with _ | _ | _ | _ | k
      all_goals first
        | omega
        | (simp only [exV, Nat.zero_add, Nat.reduceAdd] at k2
           gi_wp2_with (first | refine (⟨trivial, rfl, ?_⟩ : Fence.wide.fn _ ∧ Fence.wide.depth = none ∧ _) | (gi_at_call 17; (with_reducible refine k2.out.mono ?_); rintro e W4 ⟨rfl, F5, k3⟩; (replace k3 := Lib.hid k3)) | refine (⟨trivial, ?_⟩ : Fence.wide.fn _ ∧ _))
           exact ⟨⟨_, F5, by go_num, by omega, k3.out⟩, by simp [intOf]⟩)
    · obtain rfl : k = 4 := by omega
      have hs := h1.same cnt_ex rfl
      have kn1 := (sackNearI (n := 0) hs srt_ex 1 2).mono (R' := fun e W2 => e = .returned (.tuple #[.int .i64 2, .int .i64 0]) ∧
        CallsIn Fence.wide 0 Try.prog 9 #[.pointer (some ⟨sb, 0, none⟩), .int .i64 9, .int .i64 10] W2 fun e W3 => e = .returned (.tuple #[.int .i64 9, .int .i64 0]) ∧
          CallsIn Fence.wide 0 Try.prog 21 #[.pointer (some ⟨sb, 0, none⟩)] W3 fun e W4 => e = .returned (.int .i64 4) ∧ Upd (fun _ => False) w W4) (by
        rintro e W2 ⟨rfl, u2⟩
        have hs2 := hs.upd u2 fun _ _ => id
        refine ⟨rfl, (sackNearI (n := 0) hs2 srt_ex 9 10).mono ?_⟩
        rintro e W3 ⟨rfl, u3⟩
        have hs3 := hs2.upd u3 fun _ _ => id
        refine ⟨rfl, (sackLenI (n := 0) hs3).mono ?_⟩
        rintro e W4 ⟨rfl, rfl⟩
        exact ⟨rfl, (h3.trans' u2).trans' u3⟩)
      replace kn1 := Lib.hid kn1
      clear h1 h2 h3 hs k1 fin
      gi_wp2_with (first | refine (⟨trivial, rfl, ?_⟩ : Fence.wide.fn _ ∧ Fence.wide.depth = none ∧ _) | (gi_at_call 9; (with_reducible refine kn1.out.mono ?_); rintro e W2 ⟨rfl, kn2⟩; (replace kn2 := Lib.hid kn2)) | (gi_at_call 9; (with_reducible refine kn2.out.mono ?_); rintro e W3 ⟨rfl, kn3⟩; (replace kn3 := Lib.hid kn3)) | (gi_at_call 21; (with_reducible refine kn3.out.mono ?_); rintro e W4 ⟨rfl, u4⟩; (replace u4 := Lib.hid u4)) | refine (⟨trivial, ?_⟩ : Fence.wide.fn _ ∧ _))
      go_ret
      exact ⟨rfl, u4.out⟩

/-- SackNear. -/
theorem near_w {n : Nat} {l : List Int} {A : Option Addr} {cap : Nat} {p q : Int} {w : World} (hr : Reads1 w A (intsV l)) :
    CallsIn Fence.wide n Try.prog 3 #[.slice A l.length cap, .int .i64 p, .int .i64 q] w fun e W => e = .returned (.bool true) ∧ Upd (fun _ => False) w W := by
  have k1 := (awake_c (n := 0) (w := w)).mono (R' := fun e W1 => e = .returned (.bool true) ∧ Upd (fun _ => False) w W1 ∧ CallsIn Fence.wide 0 Try.prog 7 #[] W1 (fun e W2 => e = .returned (.bool true) ∧ Upd (fun _ => False) w W2) ∧ (l.length ≤ 60 →
    CallsIn Fence.wide 0 Try.prog 8 #[.slice A l.length cap, .int .i64 60] W1 fun e W2 => ∃ sb A' cap', e = .returned (.tuple #[.pointer (some ⟨sb, 0, none⟩), .slice A' l.length cap', .bool true]) ∧
      CallsIn Fence.wide 0 Try.prog 9 #[.pointer (some ⟨sb, 0, none⟩), .int .i64 p, .int .i64 q] W2 fun e W3 => ∃ x c, e = .returned (.tuple #[.int .i64 x, .int .i64 c]) ∧
        CallsIn Fence.wide 0 Try.prog 10 #[.slice A' l.length cap', .int .i64 p, .int .i64 q] W3 fun e W4 => e = .returned (.tuple #[.int .i64 x, .int .i64 c]) ∧ Upd (fun _ => False) w W4)) (by
    rintro e W1 ⟨rfl, u1⟩
    refine ⟨rfl, u1, (awake_c (n := 0)).mono (by rintro e W2 ⟨rfl, u2⟩; exact ⟨rfl, u1.trans' u2⟩), fun hl => ?_⟩
    have hr1 := hr.agree' (w' := W1) (u1.agree fun j hj => ⟨hr.lt' j hj, id⟩)
    refine (fill_c (n := 0) hr1 (by omega) (by omega)).mono ?_
    rintro e W2 ⟨sb, F, A', cap', rfl, f1, f2, f3, f4, f5, f6⟩
    obtain ⟨s1, s2, s3⟩ := sortL_rec l
    refine ⟨sb, A', cap', rfl, (sackNearI (n := 0) f1 s1 p q).mono ?_⟩
    rintro e W3 ⟨rfl, u3⟩
    have hv : ∃ x, keyVI (nearSI p q (sortL l)).1 = .int .i64 x := by cases (nearSI p q (sortL l)).1 <;> exact ⟨_, rfl⟩
    obtain ⟨x, hx⟩ := hv
    have f2' := f2.agree' (u3.agree fun j hj => ⟨f2.lt' j hj, id⟩)
    refine ⟨x, (nearSI p q (sortL l)).2, by rw [hx], ?_⟩
    have kk := near06_c (n := 0) (p := p) (q := q) (cap := cap') f2' (by omega)
    rw [s2] at kk
    refine kk.mono ?_
    rintro e W4 ⟨rfl, rfl⟩
    exact ⟨by rw [hx], (u1.trans' f6).trans' u3⟩)
  replace k1 := Lib.hid k1
  clear hr
  refine callsIn_any (n := 0) (callsIn_of_wp Try.func3 rfl trivial ?_)
  simp only [Try.ntmps3, List.size_toArray, List.length_cons, List.length_nil, Nat.reduceAdd, Nat.reduceSub, Array.replicate_succ, Array.replicate_zero, List.push_toArray, List.append_toArray, List.nil_append, List.cons_append]
  by_cases hl : l.length ≤ 60
  · skip
    gi_wp2_with (first | refine (⟨trivial, rfl, ?_⟩ : Fence.wide.fn _ ∧ Fence.wide.depth = none ∧ _) | (gi_at_call 7; (with_reducible refine k1.out.mono ?_); rintro e W1 ⟨rfl, _, _, k2⟩; (replace k2 := Lib.hid (k2 hl))) | (gi_at_call 8; (with_reducible refine k2.out.mono ?_); rintro e W2 ⟨sb, A', cap', rfl, k3⟩; (replace k3 := Lib.hid k3)) | (gi_at_call 9; (with_reducible refine k3.out.mono ?_); rintro e W3 ⟨x, c, rfl, k4⟩; (replace k4 := Lib.hid k4)) | (gi_at_call 10; (with_reducible refine k4.out.mono ?_); rintro e W4 ⟨rfl, u4⟩; (replace u4 := Lib.hid u4)) | refine (⟨trivial, ?_⟩ : Fence.wide.fn _ ∧ _))
    go_ret
    exact ⟨rfl, u4.out⟩
  · have hl' : 60 < l.length := by omega
    gi_wp2_with (first | refine (⟨trivial, rfl, ?_⟩ : Fence.wide.fn _ ∧ Fence.wide.depth = none ∧ _) | (gi_at_call 7; (with_reducible refine k1.out.mono ?_); rintro e W1 ⟨rfl, _, k2, _⟩; (replace k2 := Lib.hid k2)) | (gi_at_call 7; (with_reducible refine k2.out.mono ?_); rintro e W2 ⟨rfl, u2⟩; (replace u2 := Lib.hid u2)) | refine (⟨trivial, ?_⟩ : Fence.wide.fn _ ∧ _))
    go_ret
    exact ⟨rfl, u2.out⟩
end Go.Proofs.Ytjlobcbjhnfjcaa

/- What the laws of sack lean on: fill, awake. -/
import Derived.Test.YtjlobcbjhnfjcaaProg
import Derived.Test.YtjlobcbjhnfjcaaBase
import Derived.Test.YtjlobcbjhnfjcaaSkIN
import Derived.Test.YtjlobcbjhnfjcaaSkIE
import Derived.Test.YtjlobcbjhnfjcaaSkRefA
import Derived.Test.YtjlobcbjhnfjcaaSkRefB
namespace Go.Proofs.Ytjlobcbjhnfjcaa
open Go.RowKit Go.Shelf
attribute [local go_sem] Oper.semAt_some

/-- In order. -/
def sortL (l : List Int) : List Int := l.foldl (fun acc x => addL x acc) []
theorem sortL_add (l : List Int) (x : Int) : sortL (l ++ [x]) = addL x (sortL l) := by simp [sortL]
theorem fold_rec : ∀ (l acc : List Int), Srt cmpI acc → Srt cmpI (l.foldl (fun acc x => addL x acc) acc) ∧ (l.foldl (fun acc x => addL x acc) acc).length = acc.length + l.length ∧ ∀ y, cnt cmpI y (l.foldl (fun acc x => addL x acc) acc) = cnt cmpI y acc + cnt cmpI y l
  | [], acc, h => ⟨h, by simp, fun _ => by simp [cnt_nil]⟩
  | x :: l, acc, h => by
    obtain ⟨h1, h2, h3⟩ := fold_rec l (addL x acc) (srt_addL h)
    refine ⟨h1, ?_, fun y => ?_⟩
    · rw [List.foldl_cons, h2, addL_len, List.length_cons]; omega
    · rw [List.foldl_cons, h3, cnt_addL, cnt_cons, cnt_cons]; omega
theorem sortL_rec (l : List Int) : Srt cmpI (sortL l) ∧ (sortL l).length = l.length ∧ ∀ y, cnt cmpI y (sortL l) = cnt cmpI y l := by
  obtain ⟨h1, h2, h3⟩ := fold_rec l [] List.Pairwise.nil
  exact ⟨h1, by simpa [sortL] using h2, fun y => by have := h3 y; rw [cnt_nil] at this; simpa [sortL] using this⟩
def Filled (sb : Nat) (L : List Int) (room : Int) (F : Nat → Prop) (A : Option Addr) (cap : Nat) (w W : World) : Prop :=
  SkI sb L room F W ∧ Reads1 W A (intsV L) ∧ L.length ≤ cap ∧ (∀ j, F j → w.heap.size ≤ j) ∧ (∀ j, blkOf A j → w.heap.size ≤ j ∧ j < W.heap.size ∧ ¬ F j) ∧ Upd (fun _ => False) w W

theorem filled_step {sb : Nat} {L : List Int} {room : Int} {F : Nat → Prop} {A : Option Addr} {cap : Nat} {w wr : World} (h : Filled sb L room F A cap w wr) (x : Int) (hf : (L.length : Int) < room) :
    CallsIn Fence.wide 0 Try.prog 17 #[.pointer (some ⟨sb, 0, none⟩), .int .i64 x] wr fun e W4 => e = .returned (.int .i64 0) ∧
      CallsIn Fence.wide 0 Try.prog 16 #[.slice A L.length cap, .int .i64 x] W4 fun e W5 => ∃ A' cap' F', e = .returned (.slice A' (addL x L).length cap') ∧ Filled sb (addL x L) room F' A' cap' w W5 := by
  obtain ⟨h1, h2, h3, h4, h5, h6⟩ := h
  have hr := h1.len_le
  refine (sackAddI (n := 0) h1 x hf).mono ?_
  rintro e W4 ⟨rfl, F', q1, q2, q3⟩
  have z3 := q3.size
  have z6 := h6.size
  have hrd := h2.agree (q3.agree fun j hj => ⟨(h5 j hj).2.1, (h5 j hj).2.2⟩)
  refine ⟨rfl, (add06_c (n := 0) hrd h3 (by omega)).mono ?_⟩
  rintro e W5 ⟨A', cap', rfl, g1, g2, g3, g4⟩
  have z4 := g4.size
  refine ⟨A', cap', F', rfl, (q1.upd g4 fun _ _ => id).same (fun y => (cnt_addL x y L).symm) (by rw [addL_len]; rfl), g2, g1, fun j hj => (q2 j hj).elim (h4 j) fun h => by omega, fun j hj => ?_, (h6.trans q3 fun j hj => .inr (h4 j hj)).trans' g4⟩
  have hj1 := g3 j hj
  refine ⟨by omega, g2.lt (by rw [intsV_len, addL_len]; omega) j hj, fun hF => ?_⟩
  have := q1.lt j hF
  omega

set_option maxRecDepth 100000 in
set_option maxHeartbeats 1000000 in
theorem fill_c {n : Nat} {l : List Int} {A : Option Addr} {cap : Nat} {room : Int} {w : World} (hr : Reads1 w A (intsV l)) (hl : (l.length : Int) ≤ room) (hroom : room ≤ 1000) :
    CallsIn Fence.wide n Try.prog 8 #[.slice A l.length cap, .int .i64 room] w fun e W => ∃ sb F A' cap', e = .returned (.tuple #[.pointer (some ⟨sb, 0, none⟩), .slice A' l.length cap', .bool true]) ∧ Filled sb (sortL l) room F A' cap' w W := by
  have k1 := (sackNewI (n := 0) (w := w) (r := room) ⟨by omega, hroom⟩)
  replace k1 := Lib.hid k1
  refine callsIn_any (n := 0) (callsIn_of_wp Try.func8 rfl trivial ?_)
  simp only [Try.ntmps8, List.size_toArray, List.length_cons, List.length_nil, Nat.reduceAdd, Nat.reduceSub, Array.replicate_succ, Array.replicate_zero, List.push_toArray, List.append_toArray, List.nil_append, List.cons_append]
  gi_wp2_with (first | refine (⟨trivial, rfl, ?_⟩ : Fence.wide.fn _ ∧ Fence.wide.depth = none ∧ _) | (gi_at_call 15; (with_reducible refine k1.out.mono ?_); rintro e W1 ⟨sb, F, rfl, fin⟩; (replace fin := Lib.hid fin)) | refine (⟨trivial, ?_⟩ : Fence.wide.fn _ ∧ _))
  gi_loopw [25, 9] (fun i o wr => ∃ (k : Nat) (F' : Nat → Prop) (A' : Option Addr) (cap' : Nat), i = .int .i64 k ∧ k ≤ l.length ∧ o = .slice A' k cap' ∧ Filled sb (sortL (l.take k)) room F' A' cap' w wr) (fun i _ _ => l.length - (intOf i).toNat)
  case atStart =>
    obtain ⟨f1, f2, f3⟩ := fin.out
    exact ⟨0, F, none, 0, rfl, Nat.zero_le _, rfl, f1, fun i v hv => by simp [sortL, intsV] at hv, Nat.le_refl _, f2, fun j hj => (by obtain ⟨_, e, _⟩ := hj; cases e), f3⟩
  case round =>
    obtain ⟨k, F', A', cap', rfl, hk, rfl, hF⟩ := hrel
    by_cases hlt : k < l.length
    · obtain ⟨ad, rfl, c0⟩ := hr.agree' (w' := wr) (hF.2.2.2.2.2.agree fun j hj => ⟨hr.lt' j hj, id⟩) k _ (intsV_get l k hlt)
      have hw1 : IntKind.i64.wrap ((k : Int) + 1) = (k : Int) + 1 := Go.IntWalk.i64_in _ ⟨by omega, by omega⟩
      have el : (sortL (l.take k)).length = k := by rw [(sortL_rec _).2.1, List.length_take]; omega
      have k2 := filled_step hF l[k] (by rw [el]; omega)
      have el' : (addL l[k] (sortL (l.take k))).length = k + 1 := by rw [addL_len, el]
      rw [el', el] at k2
      have et : sortL (l.take (k + 1)) = addL l[k] (sortL (l.take k)) := by rw [List.take_succ_eq_append_getElem hlt, sortL_add]
      rw [← et] at k2
      replace k2 := Lib.hid k2
      clear hr hF el el' et k1 fin
      generalize l[k] = y at *
      gi_wp2_with (first | refine (⟨trivial, rfl, ?_⟩ : Fence.wide.fn _ ∧ Fence.wide.depth = none ∧ _) | (gi_at_call 17; (with_reducible refine k2.out.mono ?_); rintro e W4 ⟨rfl, k3⟩; (replace k3 := Lib.hid k3)) | (gi_at_call 16; (with_reducible refine k3.out.mono ?_); rintro e W5 ⟨A5, cap5, F5, rfl, h5⟩; (replace h5 := Lib.hid h5)) | refine (⟨trivial, ?_⟩ : Fence.wide.fn _ ∧ _))
      exact ⟨⟨k + 1, F5, A5, cap5, by go_num, by omega, rfl, h5.out⟩, by simp [intOf]; omega⟩
    · obtain rfl : k = l.length := by omega
      rw [List.take_length] at hF
      replace hF := Lib.hid hF
      clear hr k1 fin
      gi_wp2_with (first | refine (⟨trivial, rfl, ?_⟩ : Fence.wide.fn _ ∧ Fence.wide.depth = none ∧ _) | refine (⟨trivial, ?_⟩ : Fence.wide.fn _ ∧ _))
      refine bodyPost_ret (results_tmp3 rfl _ _ _) rfl ?_
      exact ⟨sb, F', A', cap', rfl, hF.out⟩
end Go.Proofs.Ytjlobcbjhnfjcaa

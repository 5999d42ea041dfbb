/- seen: the state without its blocks; the document's Word; awake. -/
import Derived.Test.YtgleiajmdbekiaaProg
import Derived.Test.YtgleiajmdbekiaaBase
import Derived.Test.YtgleiajmdbekiaaSeP
import Derived.Test.YtgleiajmdbekiaaMkW
namespace Go.Proofs.Ytgleiajmdbekiaa
open Go.RowKit Go.Shelf
attribute [local go_sem] Oper.semAt_some

theorem wordA_c {n : Nat} {s : ByteArray} {w : World} (hs : s.size ≤ maxLen) : CallsIn Fence.wide n Try.prog 9 #[.string s] w fun e w' => AnyB e ∧ Upd (fun _ => False) w w' := by
  have k1 := Lib.hid fun (w : World) => (cutA_c (n := 0) (c := 46) (w := w) hs)
  have k2 := Lib.hid fun (w : World) => (nameA_c (n := 0) (w := w) hs)
  refine callsIn_any (n := 0) (callsIn_of_wp Try.func9 rfl trivial ?_)
  simp only [Try.ntmps9, List.size_toArray, List.length_cons, List.length_nil, Nat.reduceAdd, Nat.reduceSub, Array.replicate_succ, Array.replicate_zero, List.push_toArray, List.append_toArray, List.nil_append, List.cons_append]
  gi_wp2_with (first | refine (⟨trivial, rfl, ?_⟩ : Fence.wide.fn _ ∧ Fence.wide.depth = none ∧ _) | (gi_at_call 23; (with_reducible refine (k1.out _).mono ?_); rintro e W1 ⟨⟨a, b, d, rfl⟩, u1⟩; (skip)) | (gi_at_call 24; (with_reducible refine (k2.out _).mono ?_); rintro e W2 ⟨⟨b2, rfl⟩, e2⟩; (replace e2 := e2.symm); (subst e2)) | refine (⟨trivial, ?_⟩ : Fence.wide.fn _ ∧ _))
  all_goals
    cases b2 <;> cases d
  all_goals
    gi_wp2_with (first | refine (⟨trivial, rfl, ?_⟩ : Fence.wide.fn _ ∧ Fence.wide.depth = none ∧ _) | refine (⟨trivial, ?_⟩ : Fence.wide.fn _ ∧ _))
    go_ret
    exact ⟨⟨_, rfl⟩, u1⟩
/-- What came, in blocks F. -/
def SeenA (sb : Nat) (ls : Srcs) (F : Nat → Prop) (W : World) : Prop := ∃ es, SeenI sb es F W ∧ mapV (·.2) es = ls
section
variable {sb : Nat} {ls : Srcs} {F : Nat → Prop} {W W2 : World}
theorem SeenA.lt (h : SeenA sb ls F W) : ∀ j, F j → j < W.heap.size := by
  obtain ⟨es, h, _⟩ := h
  exact h.lt
theorem SeenA.upd (h : SeenA sb ls F W) {M : Nat → Prop} (hu : Upd M W W2) (hM : ∀ j, F j → ¬ M j) : SeenA sb ls F W2 := by
  obtain ⟨es, h, e⟩ := h
  exact ⟨es, h.upd hu hM, e⟩
theorem newA_c {n : Nat} : CallsIn Fence.wide n Try.prog 7 #[] W fun e W2 => ∃ sb F, e = .returned (.pointer (some ⟨sb, 0, none⟩)) ∧ SeenA sb [] F W2 ∧ (∀ j, F j → W.heap.size ≤ j) ∧ Upd (fun _ => False) W W2 := by
  refine seenNew_c.mono ?_
  rintro e W2 ⟨sb, F, rfl, h1, h2⟩
  exact ⟨sb, F, rfl, ⟨[], h1, rfl⟩, h2⟩
theorem canA_c {n : Nat} (h : SeenA sb ls F W) (k : ByteArray) (q : Int) : CallsIn Fence.wide n Try.prog 22 #[.pointer (some ⟨sb, 0, none⟩), .string k, .int .i64 q] W fun e W2 => e = .returned (.int .i64 (canS k q ls)) ∧ Upd (fun _ => False) W W2 := by
  obtain ⟨es, h, rfl⟩ := h
  rw [← canN_map]
  exact seenCan_c h k q
theorem noteA_c {n : Nat} (h : SeenA sb ls F W) (ho : OkS ls) (k : ByteArray) (q : Int) : CallsIn Fence.wide n Try.prog 10 #[.pointer (some ⟨sb, 0, none⟩), .string k, .int .i64 q] W fun e W2 => e = .returned (.int .i64 (canS k q ls)) ∧
    ∃ F', SeenA sb (noteR k q ls) F' W2 ∧ (∀ j, F' j → F j ∨ W.heap.size ≤ j) ∧ Upd F W W2 := by
  obtain ⟨es, h, rfl⟩ := h
  unfold noteR
  by_cases hc : canS k q (mapV (·.2) es) = 0
  · have hl := ho.len
    rw [mapV_len] at hl
    refine (note_c h (by omega) (fun y hy => ?_) k q (by rw [canN_map]; exact hc)).mono ?_
    · exact (ho.each (y.1, y.2.2) (List.mem_map.2 ⟨y, hy, rfl⟩)).2.1
    · rintro e W2 ⟨rfl, es', F', h1, h2, h3⟩
      exact ⟨by rw [hc], F', ⟨es', h1, by rw [h2, if_pos hc]; rfl⟩, h3⟩
  · refine (noteNo_c h k q (by rw [canN_map]; exact hc)).mono ?_
    rintro e W2 ⟨rfl, u2⟩
    exact ⟨by rw [canN_map], F, ⟨es, h.upd u2 fun _ _ => id, by rw [if_neg hc]⟩, fun j hj => .inl hj, u2.mono fun _ _ h => h.elim⟩
end
abbrev sWeb : ByteArray := ⟨#[119, 101, 98]⟩
set_option maxRecDepth 100000 in
set_option maxHeartbeats 4000000 in
theorem awake_c {n : Nat} {w : World} : CallsIn Fence.wide n Try.prog 8 #[] w fun e w' => e = .returned (.bool true) ∧ Upd (fun _ => False) w w' := by
  have g0 : canS sWeb 3 [] = 0 := rfl
  have o1 : OkS (noteL sWeb 3 []) := OkS.nil.note (by omega) g0
  have e1 : getL cmpS sWeb (noteL sWeb 3 []) = some (0, [3]) := by rw [noteL, getL_put ordrS OkS.nil.rise]; rfl
  have g1 : canS sWeb 1 (noteL sWeb 3 []) = 0 := by simp [canS, e1]
  have o2 : OkS (noteL sWeb 1 (noteL sWeb 3 [])) := o1.note (by omega) g1
  have e2 : getL cmpS sWeb (noteL sWeb 1 (noteL sWeb 3 [])) = some (0, [1, 3]) := by
    rw [noteL, getL_put ordrS o1.rise, e1]
    have e3 : noteS 1 (0, [3]) = (0, [1, 3]) := by decide
    rw [Option.getD_some, e3]
  have g2 : canS sWeb 2 (noteL sWeb 1 (noteL sWeb 3 [])) = 0 := by simp [canS, e2]
  have g3 : canS sWeb 1 (noteL sWeb 1 (noteL sWeb 3 [])) = 13 := by simp [canS, e2]
  have k1 := (newA_c (n := 0) (W := w)).mono (R' := fun e W1 => ∃ sb, e = .returned (.pointer (some ⟨sb, 0, none⟩)) ∧ CallsIn Fence.wide 0 Try.prog 10 #[.pointer (some ⟨sb, 0, none⟩), .string sWeb, .int .i64 3] W1 fun e W2 => e = .returned (.int .i64 0) ∧
      CallsIn Fence.wide 0 Try.prog 10 #[.pointer (some ⟨sb, 0, none⟩), .string sWeb, .int .i64 1] W2 fun e W3 => e = .returned (.int .i64 0) ∧
        CallsIn Fence.wide 0 Try.prog 22 #[.pointer (some ⟨sb, 0, none⟩), .string sWeb, .int .i64 2] W3 fun e W4 => e = .returned (.int .i64 0) ∧
          CallsIn Fence.wide 0 Try.prog 22 #[.pointer (some ⟨sb, 0, none⟩), .string sWeb, .int .i64 1] W4 fun e W5 => e = .returned (.int .i64 13) ∧ Upd (fun _ => False) w W5) (by
    rintro e W1 ⟨sb, F, rfl, h1, h2, u1⟩
    refine ⟨sb, rfl, (noteA_c h1 OkS.nil _ _).mono ?_⟩
    rintro e W2 ⟨rfl, F2, h3, h4, u2⟩
    rw [noteR, if_pos g0] at h3
    refine ⟨by rw [g0], (noteA_c h3 o1 _ _).mono ?_⟩
    rintro e W3 ⟨rfl, F3, h5, h6, u3⟩
    rw [noteR, if_pos g1] at h5
    refine ⟨by rw [g1], (canA_c h5 _ _).mono ?_⟩
    rintro e W4 ⟨rfl, u4⟩
    refine ⟨by rw [g2], (canA_c (h5.upd u4 fun _ _ => id) _ _).mono ?_⟩
    rintro e W5 ⟨rfl, u5⟩
    have z1 := u1.size
    have z2 := u2.size
    have hF2 : ∀ j, F2 j → w.heap.size ≤ j := fun j hj => (h4 j hj).elim (h2 j) fun h => by omega
    exact ⟨by rw [g3], (((u1.trans u2 fun j hj => .inr (h2 j hj)).trans u3 fun j hj => .inr (hF2 j hj)).trans' u4).trans' u5⟩)
  replace k1 := Lib.hid k1
  clear g0 o1 e1 g1 o2 e2 g2 g3
  refine callsIn_any (n := 0) (callsIn_of_wp Try.func8 rfl trivial ?_)
  simp only [Try.ntmps8, List.size_toArray, List.length_cons, List.length_nil, Nat.reduceAdd, Nat.reduceSub, Array.replicate_succ, Array.replicate_zero, List.push_toArray, List.append_toArray, List.nil_append, List.cons_append]
  gi_wp2_with (first | refine (⟨trivial, rfl, ?_⟩ : Fence.wide.fn _ ∧ Fence.wide.depth = none ∧ _) | (gi_at_call 7; (with_reducible refine k1.out.mono ?_); rintro e W1 ⟨sb, rfl, k2⟩; (replace k2 := Lib.hid k2)) | (gi_at_call 10; (with_reducible refine k2.out.mono ?_); rintro e W2 ⟨rfl, k3⟩; (replace k3 := Lib.hid k3)) | (gi_at_call 10; (with_reducible refine k3.out.mono ?_); rintro e W3 ⟨rfl, k4⟩; (replace k4 := Lib.hid k4)) | (gi_at_call 22; (with_reducible refine k4.out.mono ?_); rintro e W4 ⟨rfl, k5⟩; (replace k5 := Lib.hid k5)) | (gi_at_call 22; (with_reducible refine k5.out.mono ?_); rintro e W5 ⟨rfl, u5⟩; (replace u5 := Lib.hid u5)) | refine (⟨trivial, ?_⟩ : Fence.wide.fn _ ∧ _))
  go_ret
  exact ⟨rfl, u5.out⟩
end Go.Proofs.Ytgleiajmdbekiaa

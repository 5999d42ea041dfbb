/- sack's Merge and Clone. Things of kind int. -/
import Derived.Test.YtjlobcbjhnfjcaaProg
import Derived.Test.YtjlobcbjhnfjcaaBase
import Derived.Test.YtjlobcbjhnfjcaaSkID
namespace Go.Proofs.Ytjlobcbjhnfjcaa
open Go.RowKit Go.Shelf
attribute [local go_sem] Oper.semAt_some
section SkI
variable {sb ob : Nat} {ls lo : List Int} {room ro : Int} {F G : Nat → Prop} {W W2 : World}
theorem map1_get {α : Type} (f : α → Value) (l : List α) (i : Nat) (h : i < l.length) : (l.map f)[i]? = some (f l[i]) := by simp [h]

set_option maxRecDepth 100000 in
set_option maxHeartbeats 2000000 in
theorem sackMergeI {n : Nat} (h : SkI sb ls room F W) (ho : SkI ob lo ro G W) (hs : Srt cmpI lo) (hf : (ls.length : Int) + lo.length ≤ room) : CallsIn Fence.wide n Try.prog 20 #[.pointer (some ⟨sb, 0, none⟩), .pointer (some ⟨ob, 0, none⟩)] W fun e W2 => e = .returned (.int .i64 0) ∧ ∃ F', SkI sb (lo.reverse ++ ls) room F' W2 ∧ (∀ j, F' j → F j ∨ W.heap.size ≤ j) ∧ Upd F W W2 := by
  have hr := h.len_le
  have hd := h.upd (Upd.drew (fun _ => False) W) fun _ _ => id
  have hod := ho.upd (Upd.drew (fun _ => False) W) fun _ _ => id
  have k1 := sackRoomI (n := 0) hd
  have c2 : W.drew.cell? ⟨ob, 2, none⟩ = some (.int .i64 lo.length) := by
    obtain ⟨rb, t, lr, h1, _⟩ := hod
    exact h1.cell 2
  have c2' : ∀ W2, Upd (fun _ => False) W.drew W2 → W2.cell? ⟨ob, 2, none⟩ = some (.int .i64 lo.length) := fun W2 hu => by
    obtain ⟨rb, t, lr, h1, _⟩ := hod
    exact (h1.upd hu id).cell 2
  have hle : ¬ room - (ls.length : Int) < lo.length := by omega
  have k2 : ∀ W1, Upd (fun _ => False) W W1 → CallsIn Fence.wide 0 Try.prog 25 #[.pointer (some ⟨ob, 0, none⟩)] W1 fun e W2 => ∃ bv, e = .returned (.func (.func 36) #[] #[.pointer (some ⟨bv, 0, none⟩)]) ∧
      CallsIn Fence.wide 0 Try.prog 33 #[.func (.func 36) #[] #[.pointer (some ⟨bv, 0, none⟩)]] W2 fun e W3 => ∃ A cap, e = .returned (.slice A lo.length cap) ∧ Reads1 W3 A (lo.map fun x => Value.int .i64 x) ∧ (∀ j, blkOf A j → W.heap.size ≤ j) ∧ Upd (fun _ => False) W W3 := by
    intro W1 hu
    have ho1 := ho.upd hu fun _ _ => id
    refine sackAllI.mono ?_
    rintro e W2 ⟨bv, rfl, g1, g2, g3⟩
    refine ⟨bv, rfl, (collectI (n := 0) (allSeqKI (ho1.upd g3 fun _ _ => id) hs g1) (by have := ho.len_le; omega)).mono ?_⟩
    rintro e W3 ⟨A, cap, rfl, q1, q2, q3, q4⟩
    have z1 := hu.size
    have z2 := g3.size
    exact ⟨A, cap, rfl, q2, fun j hj => by have := q3 j hj; omega, (hu.trans' g3).trans' q4⟩
  have hF : ∀ j, F j → j < W.heap.size := h.lt
  replace h := Lib.hid h
  replace k1 := Lib.hid k1
  replace k2 := Lib.hid k2
  replace c2' := Lib.hid c2'
  clear hd hod ho
  refine callsIn_any (n := 0) (callsIn_of_wp Try.func20 rfl trivial ?_)
  simp only [Try.ntmps20, List.size_toArray, List.length_cons, List.length_nil, Nat.reduceAdd, Nat.reduceSub, Array.replicate_succ, Array.replicate_zero, List.push_toArray, List.append_toArray, List.nil_append, List.cons_append]
  gi_wp2
  refine wpIn_eager [(0, true), (1, true), (2, true), (3, true), (4, true), (5, false), (6, true)] (fun V => V.cell? ⟨ob, 2, none⟩ = some (.int .i64 lo.length)) (by kernel_rfl) (by kernel_rfl) c2 ?_
  repeat (first | (refine wpE_fl rfl rfl (fun _ _ => rfl) ?_; go_simp) | (refine wpE_sk rfl rfl ?_; go_simp) | (refine wpE_fl (v := ?_) rfl rfl ?_ ?_; rotate_left; (intro W' h'; (try dsimp only at h'); go_simp; exact rfl); go_simp) | (refine wpE_ef rfl ?_; go_simp; gi_wp2_with (first | refine (⟨trivial, rfl, ?_⟩ : Fence.wide.fn _ ∧ Fence.wide.depth = none ∧ _) | refine (⟨trivial, trivial, rfl, ?_⟩ : Fence.wide.fn _ ∧ Fence.wide.fn _ ∧ Fence.wide.depth = none ∧ _) | (gi_at_call 22; (with_reducible refine k1.out.mono ?_); rintro e W1 ⟨rfl, hu1⟩; (replace hu1 := Lib.hid hu1)) | refine (⟨trivial, ?_⟩ : Fence.wide.fn _ ∧ _)); (first | refine ⟨by first | exact c2'.out _ hu1.out | exact c2, ?_⟩ | skip)))
  refine wpE_nil ?_
  gi_wp2_with (first | refine (⟨trivial, rfl, ?_⟩ : Fence.wide.fn _ ∧ Fence.wide.depth = none ∧ _) | (gi_at_call 25; (with_reducible refine (k2.out _ ((Upd.drew _ _).trans' hu1.out)).mono ?_); rintro e W2 ⟨bv, rfl, k3⟩; (replace k3 := Lib.hid k3)) | (gi_at_call 33; (with_reducible refine k3.out.mono ?_); rintro e W3 ⟨A, cap, rfl, hrA, hbA, hu3⟩; (replace hrA := Lib.hid hrA); (replace hbA := Lib.hid hbA); (replace hu3 := Lib.hid hu3)) | refine (⟨trivial, ?_⟩ : Fence.wide.fn _ ∧ _))
  gi_loopw [18] (fun i wr => ∃ (k : Nat) (F' : Nat → Prop), i = .int .i64 k ∧ k ≤ lo.length ∧ SkI sb ((lo.take k).reverse ++ ls) room F' wr ∧ (∀ j, F' j → F j ∨ W3.heap.size ≤ j) ∧ Upd F W3 wr ∧ Reads1 wr A (lo.map fun x => Value.int .i64 x)) (fun i _ => lo.length - (intOf i).toNat)
  case atStart => exact ⟨0, F, rfl, Nat.zero_le _, by simpa using h.out.upd hu3.out fun _ _ => id, fun j hj => .inl hj, Upd.refl _ _, hrA.out⟩
  case round =>
    obtain ⟨k, F', rfl, hk, g1, g2, g3, g4⟩ := hrel
    have hz3 := hu3.out.size
    by_cases hlt : k < lo.length
    · obtain ⟨ad, rfl, c1⟩ := g4 k (Value.int .i64 lo[k]) (map1_get _ _ _ hlt)
      have hw5 : IntKind.i64.wrap ((k : Int) + 1) = (k : Int) + 1 := Go.IntWalk.i64_in _ ⟨by omega, by omega⟩
      have etk : (lo.take (k + 1)).reverse ++ ls = lo[k] :: ((lo.take k).reverse ++ ls) := by rw [List.take_succ_eq_append_getElem hlt, List.reverse_append]; rfl
      have hF3 : ∀ j, blkOf' (some ad) (lo.map fun x => Value.int .i64 x).length j → ¬ F' j ∧ j < wr.heap.size := fun j hj => by
        refine ⟨fun hFj => ?_, g4.lt' j hj⟩
        have h1 := hbA.out j hj.2
        rcases g2 j hFj with h | h
        · have := hF j h; omega
        · have := hrA.out.lt' j hj; omega
      have k4 := (sackAddI (n := 0) g1 lo[k] (by simp [List.length_append, List.length_take]; omega)).mono (R' := fun e W4 => e = .returned (.int .i64 0) ∧ ∃ F'', SkI sb ((lo.take (k + 1)).reverse ++ ls) room F'' W4 ∧ (∀ j, F'' j → F j ∨ W3.heap.size ≤ j) ∧ Upd F W3 W4 ∧ Reads1 W4 (some ad) (lo.map fun x => Value.int .i64 x)) (by
        rintro e W4 ⟨rfl, F'', q1, q2, q3⟩
        have hz := g3.size
        exact ⟨rfl, F'', by rw [etk]; exact q1, fun j hj => (q2 j hj).elim (g2 j) (fun h => .inr (by omega)), g3.trans q3 g2, g4.agree' (q3.agree fun j hj => ⟨(hF3 j hj).2, (hF3 j hj).1⟩)⟩)
      replace k4 := Lib.hid k4
      clear g1 g2 g3 g4 etk hF3
      generalize lo[k] = x at *
      gi_wp2_with (first | refine (⟨trivial, rfl, ?_⟩ : Fence.wide.fn _ ∧ Fence.wide.depth = none ∧ _) | (gi_at_call 17; (with_reducible refine k4.out.mono ?_); rintro e W4 ⟨rfl, F'', fin⟩; (replace fin := Lib.hid fin)) | refine (⟨trivial, ?_⟩ : Fence.wide.fn _ ∧ _))
      exact ⟨⟨k + 1, F'', by go_num, by omega, fin.out⟩, by simp [intOf]; omega⟩
    · obtain rfl : k = lo.length := by omega
      rw [List.take_length] at g1
      replace g1 := Lib.hid g1
      replace g2 := Lib.hid g2
      replace g3 := Lib.hid g3
      clear g4
      gi_wp2_with (first | refine (⟨trivial, rfl, ?_⟩ : Fence.wide.fn _ ∧ Fence.wide.depth = none ∧ _) | refine (⟨trivial, ?_⟩ : Fence.wide.fn _ ∧ _))
      go_ret
      exact ⟨rfl, F', g1.out, fun j hj => (g2.out j hj).imp id fun h => by omega, (hu3.out.mono fun _ _ h => h.elim).trans' g3.out⟩
theorem sackMergeFullI {n : Nat} (h : SkI sb ls room F W) (ho : SkI ob lo ro G W) (hf : room < (ls.length : Int) + lo.length) : CallsIn Fence.wide n Try.prog 20 #[.pointer (some ⟨sb, 0, none⟩), .pointer (some ⟨ob, 0, none⟩)] W fun e W2 => e = .returned (.int .i64 3) ∧ Upd (fun _ => False) W W2 := by
  have hd := h.upd (Upd.drew (fun _ => False) W) fun _ _ => id
  have hod := ho.upd (Upd.drew (fun _ => False) W) fun _ _ => id
  have k1 := sackRoomI (n := 0) hd
  have c2 : W.drew.cell? ⟨ob, 2, none⟩ = some (.int .i64 lo.length) := by
    obtain ⟨rb, t, lr, h1, _⟩ := hod
    exact h1.cell 2
  have c2' : ∀ W2, Upd (fun _ => False) W.drew W2 → W2.cell? ⟨ob, 2, none⟩ = some (.int .i64 lo.length) := fun W2 hu => by
    obtain ⟨rb, t, lr, h1, _⟩ := hod
    exact (h1.upd hu id).cell 2
  have hle : room - (ls.length : Int) < lo.length := by omega
  replace k1 := Lib.hid k1
  replace c2' := Lib.hid c2'
  clear hd hod ho h
  refine callsIn_any (n := 0) (callsIn_of_wp Try.func20 rfl trivial ?_)
  simp only [Try.ntmps20, List.size_toArray, List.length_cons, List.length_nil, Nat.reduceAdd, Nat.reduceSub, Array.replicate_succ, Array.replicate_zero, List.push_toArray, List.append_toArray, List.nil_append, List.cons_append]
  gi_wp2
  refine wpIn_eager [(0, true), (1, true), (2, true), (3, true), (4, true), (5, false), (6, true)] (fun V => V.cell? ⟨ob, 2, none⟩ = some (.int .i64 lo.length)) (by kernel_rfl) (by kernel_rfl) c2 ?_
  repeat (first | (refine wpE_fl rfl rfl (fun _ _ => rfl) ?_; go_simp) | (refine wpE_sk rfl rfl ?_; go_simp) | (refine wpE_fl (v := ?_) rfl rfl ?_ ?_; rotate_left; (intro W' h'; (try dsimp only at h'); go_simp; exact rfl); go_simp) | (refine wpE_ef rfl ?_; go_simp; gi_wp2_with (first | refine (⟨trivial, rfl, ?_⟩ : Fence.wide.fn _ ∧ Fence.wide.depth = none ∧ _) | refine (⟨trivial, trivial, rfl, ?_⟩ : Fence.wide.fn _ ∧ Fence.wide.fn _ ∧ Fence.wide.depth = none ∧ _) | (gi_at_call 22; (with_reducible refine k1.out.mono ?_); rintro e W1 ⟨rfl, hu1⟩; (replace hu1 := Lib.hid hu1)) | refine (⟨trivial, ?_⟩ : Fence.wide.fn _ ∧ _)); (first | refine ⟨by first | exact c2'.out _ hu1.out | exact c2, ?_⟩ | skip)))
  refine wpE_nil ?_
  gi_wp2_with (first | refine (⟨trivial, rfl, ?_⟩ : Fence.wide.fn _ ∧ Fence.wide.depth = none ∧ _) | refine (⟨trivial, ?_⟩ : Fence.wide.fn _ ∧ _))
  go_ret
  exact ⟨rfl, (Upd.drew _ _).trans' hu1.out⟩
theorem sackCloneI {n : Nat} (h : SkI sb ls room F W) (hs : Srt cmpI ls) : CallsIn Fence.wide n Try.prog 26 #[.pointer (some ⟨sb, 0, none⟩)] W fun e W2 => ∃ ob G, e = .returned (.pointer (some ⟨ob, 0, none⟩)) ∧ SkI ob ls room G W2 ∧ (∀ j, G j → W.heap.size ≤ j) ∧ Upd (fun _ => False) W W2 := by
  have hr := h.len_le
  have c1 : W.cell? ⟨sb, 1, none⟩ = some (.int .i64 room) := by
    obtain ⟨rb, t, lr, h1, _⟩ := h
    exact h1.cell 1
  have k1 := (sackNewI (n := 0) (w := W) (r := room) ⟨by omega, hr.2⟩).mono (R' := fun e W2 => ∃ ob, e = .returned (.tuple #[.pointer (some ⟨ob, 0, none⟩), .int .i64 0]) ∧ CallsIn Fence.wide 0 Try.prog 20 #[.pointer (some ⟨ob, 0, none⟩), .pointer (some ⟨sb, 0, none⟩)] W2 fun e W3 => e = .returned (.int .i64 0) ∧ ∃ G, SkI ob ls room G W3 ∧ (∀ j, G j → W.heap.size ≤ j) ∧ Upd (fun _ => False) W W3) (by
    rintro e W2 ⟨ob, G, rfl, g1, g2, g3⟩
    refine ⟨ob, rfl, (sackMergeI (n := 0) g1 (h.upd g3 fun _ _ => id) hs (by simp; omega)).mono ?_⟩
    rintro e W3 ⟨rfl, G', q1, q2, q3⟩
    have hz := g3.size
    exact ⟨rfl, G', q1.same (fun x => by simp [cnt]) (by simp), fun j hj => (q2 j hj).elim (g2 j) (fun h => by omega), g3.trans q3 fun j hj => .inr (g2 j hj)⟩)
  replace k1 := Lib.hid k1
  clear h hs
  refine callsIn_any (n := 0) (callsIn_of_wp Try.func26 rfl trivial ?_)
  simp only [Try.ntmps26, List.size_toArray, List.length_cons, List.length_nil, Nat.reduceAdd, Nat.reduceSub, Array.replicate_succ, Array.replicate_zero, List.push_toArray, List.append_toArray, List.nil_append, List.cons_append]
  gi_wp2_with (first | refine (⟨trivial, rfl, ?_⟩ : Fence.wide.fn _ ∧ Fence.wide.depth = none ∧ _) | (gi_at_call 15; (with_reducible refine k1.out.mono ?_); rintro e W2 ⟨ob, rfl, k2⟩; (replace k2 := Lib.hid k2)) | (gi_at_call 20; (with_reducible refine k2.out.mono ?_); rintro e W3 ⟨rfl, G, fin⟩; (replace fin := Lib.hid fin)) | refine (⟨trivial, ?_⟩ : Fence.wide.fn _ ∧ _))
  go_ret
  exact ⟨ob, G, rfl, fin.out⟩
end SkI
end Go.Proofs.Ytjlobcbjhnfjcaa

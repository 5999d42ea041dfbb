/- sack's Drop; Add where there is no room; Runs. Things of kind int. -/
import Derived.Test.YtjlobcbjhnfjcaaProg
import Derived.Test.YtjlobcbjhnfjcaaBase
import Derived.Test.YtjlobcbjhnfjcaaSkIA
namespace Go.Proofs.Ytjlobcbjhnfjcaa
open Go.RowKit Go.Shelf
attribute [local go_sem] Oper.semAt_some
section SkI
variable {sb : Nat} {ls : List Int} {room : Int} {F : Nat → Prop} {W W2 : World}
theorem sackFullI {n : Nat} (h : SkI sb ls room F W) (x : Int) (hf : (ls.length : Int) = room) : CallsIn Fence.wide n Try.prog 17 #[.pointer (some ⟨sb, 0, none⟩), .int .i64 x] W fun e W2 => e = .returned (.int .i64 3) ∧ Upd (fun _ => False) W W2 := by
  have k1 := sackRoomI (n := 0) h
  rw [hf, Int.sub_self] at k1
  replace k1 := Lib.hid k1
  clear h
  refine callsIn_any (n := 0) (callsIn_of_wp Try.func17 rfl trivial ?_)
  simp only [Try.ntmps17, List.size_toArray, List.length_cons, List.length_nil, Nat.reduceAdd, Nat.reduceSub, Array.replicate_succ, Array.replicate_zero, List.push_toArray, List.append_toArray, List.nil_append, List.cons_append]
  gi_wp2_with (first | refine (⟨trivial, rfl, ?_⟩ : Fence.wide.fn _ ∧ Fence.wide.depth = none ∧ _) | (gi_at_call 22; (with_reducible refine k1.out.mono ?_); rintro e W1 ⟨rfl, hu⟩; (replace hu := Lib.hid hu)) | refine (⟨trivial, ?_⟩ : Fence.wide.fn _ ∧ _))
  go_ret
  exact ⟨rfl, hu.out⟩

theorem sackDropNoI {n : Nat} (h : SkI sb ls room F W) (x : Int) (hx : cnt cmpI x ls = 0) : CallsIn Fence.wide n Try.prog 19 #[.pointer (some ⟨sb, 0, none⟩), .int .i64 x] W fun e W2 => e = .returned (.int .i64 5) ∧ Upd (fun _ => False) W W2 := by
  have k1 := sackManyI (n := 0) h x
  rw [hx] at k1
  replace k1 := Lib.hid k1
  clear h
  refine callsIn_any (n := 0) (callsIn_of_wp Try.func19 rfl trivial ?_)
  simp only [Try.ntmps19, List.size_toArray, List.length_cons, List.length_nil, Nat.reduceAdd, Nat.reduceSub, Array.replicate_succ, Array.replicate_zero, List.push_toArray, List.append_toArray, List.nil_append, List.cons_append]
  gi_wp2_with (first | refine (⟨trivial, rfl, ?_⟩ : Fence.wide.fn _ ∧ Fence.wide.depth = none ∧ _) | (gi_at_call 23; (with_reducible refine k1.out.mono ?_); rintro e W1 ⟨rfl, hu⟩; (replace hu := Lib.hid hu)) | refine (⟨trivial, ?_⟩ : Fence.wide.fn _ ∧ _))
  go_ret
  exact ⟨rfl, hu.out⟩
set_option maxRecDepth 100000 in
set_option maxHeartbeats 1000000 in
theorem sackDropI {n : Nat} (h : SkI sb ls room F W) (x : Int) {ls' : List Int} (hx : cnt cmpI x ls = cnt cmpI x ls' + 1) (hy : ∀ y, cmpI y x ≠ 0 → cnt cmpI y ls = cnt cmpI y ls') (hll : ls.length = ls'.length + 1) :
    CallsIn Fence.wide n Try.prog 19 #[.pointer (some ⟨sb, 0, none⟩), .int .i64 x] W fun e W2 => e = .returned (.int .i64 0) ∧ ∃ F', SkI sb ls' room F' W2 ∧ (∀ j, F' j → F j ∨ W.heap.size ≤ j) ∧ Upd F W W2 := by
  have hr := h.len_le
  have k1 := sackManyI (n := 0) h x
  have hcl := cnt_le (c := cmpI) x ls
  have hw2 : IntKind.i64.wrap ((ls.length : Int) - 1) = (ls.length : Int) - 1 := Go.IntWalk.i64_in _ ⟨by omega, by omega⟩
  have core : ∀ W1, Upd (fun _ => False) W W1 → ∃ rb t lr, W1.cell? ⟨sb, 0, none⟩ = some (.pointer (some ⟨rb, 0, none⟩)) ∧ RackBI rb t lr W1 ∧ lr.length < 100000 ∧ Bag cmpI lr ls ∧ ∀ lr' W3 t', RackBI rb t' lr' W3 → (∀ j, t'.has j → t.has j ∨ W1.heap.size ≤ j) → Upd (fun j => j = rb ∨ t.has j) W1 W3 → Bag cmpI lr' ls' →
      W3.cell? ⟨sb, 0, none⟩ = some (.pointer (some ⟨rb, 0, none⟩)) ∧ W3.cell? ⟨sb, 2, none⟩ = some (.int .i64 ls.length) ∧ W3.frozen? ⟨sb, 2, none⟩ = false ∧ sb < W3.heap.size ∧
        ∃ F', SkI sb ls' room F' (W3.setCell ⟨sb, 2, none⟩ (.int .i64 ((ls.length : Int) - 1))) ∧ (∀ j, F' j → F j ∨ W.heap.size ≤ j) ∧ Upd F W (W3.setCell ⟨sb, 2, none⟩ (.int .i64 ((ls.length : Int) - 1))) := by
    intro W1 hu
    have h0 := h.upd hu fun _ _ => id
    have h' := h0
    obtain ⟨rb, t, lr, h1, h2, h3, h4, h5, h6⟩ := h'
    refine ⟨rb, t, lr, h1.cell 0, h2, by have := bag_short ordrI h3; omega, h3, fun lr' W3 t' g1 g2 g3 hb => ?_⟩
    obtain ⟨q1, q2, q3, F', q4, q5, q6⟩ := h0.turn (ls' := ls') (d := -1) (by omega) (by omega) h1 h4 h5 g1 g2 g3 hb
    have hsz := hu.size
    have e : (ls'.length : Int) = (ls.length : Int) - 1 := by omega
    rw [e] at q4 q6
    exact ⟨(h1.upd g3 h5).cell 0, q1, q2, q3, F', q4, fun j hj => (q5 j hj).imp id fun h => by omega, (hu.mono (M' := F) fun _ _ h => h.elim).trans' q6⟩
  by_cases h1 : cnt cmpI x ls = 1
  · have k2 : ∀ W1, Upd (fun _ => False) W W1 → ∃ rb, W1.cell? ⟨sb, 0, none⟩ = some (.pointer (some ⟨rb, 0, none⟩)) ∧ CallsIn Fence.wide 0 Try.prog 32 #[.pointer (some ⟨rb, 0, none⟩), .int .i64 x] W1 fun e W3 => (∃ b, e = .returned (.bool b)) ∧ W3.cell? ⟨sb, 2, none⟩ = some (.int .i64 ls.length) ∧ W3.frozen? ⟨sb, 2, none⟩ = false ∧ sb < W3.heap.size ∧
        ∃ F', SkI sb ls' room F' (W3.setCell ⟨sb, 2, none⟩ (.int .i64 ((ls.length : Int) - 1))) ∧ (∀ j, F' j → F j ∨ W.heap.size ≤ j) ∧ Upd F W (W3.setCell ⟨sb, 2, none⟩ (.int .i64 ((ls.length : Int) - 1))) := by
      intro W1 hu
      obtain ⟨rb, t, lr, c0, h2, hl, h3, hc⟩ := core W1 hu
      refine ⟨rb, c0, (rackDropII (n := 0) cmpBI (k := x) h2 hl).mono ?_⟩
      rintro e W3 ⟨rfl, t', g1, g2, g3⟩
      have hb := h3.less ordrI x hx hy
      rw [if_pos h1] at hb
      exact ⟨⟨_, rfl⟩, (hc _ _ _ g1 g2 g3 hb).2⟩
    rw [h1] at k1
    replace k1 := Lib.hid k1
    replace k2 := Lib.hid k2
    clear h core hx hy h1
    replace hll := Lib.hid hll
    refine callsIn_any (n := 0) (callsIn_of_wp Try.func19 rfl trivial ?_)
    simp only [Try.ntmps19, List.size_toArray, List.length_cons, List.length_nil, Nat.reduceAdd, Nat.reduceSub, Array.replicate_succ, Array.replicate_zero, List.push_toArray, List.append_toArray, List.nil_append, List.cons_append]
    gi_wp2_with (first | refine (⟨trivial, rfl, ?_⟩ : Fence.wide.fn _ ∧ Fence.wide.depth = none ∧ _) | (gi_at_call 23; (with_reducible refine k1.out.mono ?_); rintro e W1 ⟨rfl, hu⟩; (obtain ⟨rb, c0, k3⟩ := k2.out W1 hu); (replace k3 := Lib.hid k3); (clear hu)) | (gi_at_call 32; (with_reducible refine k3.out.mono ?_); rintro e W3 ⟨⟨b, rfl⟩, d1, d2, d3, fin⟩; (replace fin := Lib.hid fin)) | refine (⟨trivial, ?_⟩ : Fence.wide.fn _ ∧ _))
    go_ret
    exact ⟨rfl, fin.out⟩
  · have k2 : ∀ W1, Upd (fun _ => False) W W1 → ∃ rb, W1.cell? ⟨sb, 0, none⟩ = some (.pointer (some ⟨rb, 0, none⟩)) ∧ CallsIn Fence.wide 0 Try.prog 31 #[.pointer (some ⟨rb, 0, none⟩), .int .i64 x, .int .i64 ((cnt cmpI x ls : Int) - 1)] W1 fun e W3 => (∃ b, e = .returned (.bool b)) ∧ W3.cell? ⟨sb, 2, none⟩ = some (.int .i64 ls.length) ∧ W3.frozen? ⟨sb, 2, none⟩ = false ∧ sb < W3.heap.size ∧
        ∃ F', SkI sb ls' room F' (W3.setCell ⟨sb, 2, none⟩ (.int .i64 ((ls.length : Int) - 1))) ∧ (∀ j, F' j → F j ∨ W.heap.size ≤ j) ∧ Upd F W (W3.setCell ⟨sb, 2, none⟩ (.int .i64 ((ls.length : Int) - 1))) := by
      intro W1 hu
      obtain ⟨rb, t, lr, c0, h2, hl, h3, hc⟩ := core W1 hu
      refine ⟨rb, c0, (rackPutII (n := 0) cmpBI (k := x) (v := (cnt cmpI x ls : Int) - 1) h2 hl).mono ?_⟩
      rintro e W3 ⟨rfl, t', g1, g2, g3⟩
      have hb := h3.less ordrI x hx hy
      rw [if_neg h1] at hb
      exact ⟨⟨_, rfl⟩, (hc _ _ _ g1 g2 g3 hb).2⟩
    obtain ⟨m, hm⟩ : ∃ m : Nat, m = cnt cmpI x ls := ⟨_, rfl⟩
    rw [← hm] at k1 h1 hcl hx
    simp only [← hm] at k2
    have hw1 : IntKind.i64.wrap ((m : Int) - 1) = (m : Int) - 1 := Go.IntWalk.i64_in _ ⟨by omega, by omega⟩
    have hm0 : ((m : Int) == 0) = false := by simp; omega
    have hm1 : ((m : Int) == 1) = false := by simp; omega
    replace k1 := Lib.hid k1
    replace k2 := Lib.hid k2
    clear h core hx hy hm h1
    replace hll := Lib.hid hll
    refine callsIn_any (n := 0) (callsIn_of_wp Try.func19 rfl trivial ?_)
    simp only [Try.ntmps19, List.size_toArray, List.length_cons, List.length_nil, Nat.reduceAdd, Nat.reduceSub, Array.replicate_succ, Array.replicate_zero, List.push_toArray, List.append_toArray, List.nil_append, List.cons_append]
    gi_wp2_with (first | refine (⟨trivial, rfl, ?_⟩ : Fence.wide.fn _ ∧ Fence.wide.depth = none ∧ _) | (gi_at_call 23; (with_reducible refine k1.out.mono ?_); rintro e W1 ⟨rfl, hu⟩; (obtain ⟨rb, c0, k3⟩ := k2.out W1 hu); (replace k3 := Lib.hid k3); (clear hu)) | (gi_at_call 31; (with_reducible refine k3.out.mono ?_); rintro e W3 ⟨⟨b, rfl⟩, d1, d2, d3, fin⟩; (replace fin := Lib.hid fin)) | refine (⟨trivial, ?_⟩ : Fence.wide.fn _ ∧ _))
    go_ret
    exact ⟨rfl, fin.out⟩
/-- What 'Runs' answers: the rack's own sequence. -/
theorem sackRunsI {n : Nat} (h : SkI sb ls room F W) : CallsIn Fence.wide n Try.prog 12 #[.pointer (some ⟨sb, 0, none⟩)] W fun e W2 => ∃ bv lr, e = .returned (.func (.func 37) #[] #[.pointer (some ⟨bv, 0, none⟩)]) ∧ Bag cmpI lr ls ∧ W.heap.size ≤ bv ∧ Upd (fun _ => False) W W2 ∧
    SeqO Try.prog (.func (.func 37) #[] #[.pointer (some ⟨bv, 0, none⟩)]) encII (lr.map fun x => ((), x)) () () (fun _ _ => True) (fun _ => False) (fun j => j = bv ∨ (F j ∧ j ≠ sb)) W2 := by
  obtain ⟨rb, t, lr, h1, h2, h3, h4, h5, h6⟩ := h
  have c0 : W.cell? ⟨sb, 0, none⟩ = some (.pointer (some ⟨rb, 0, none⟩)) := h1.cell 0
  have k1 := (rackAllII (n := 0) (rb := rb) (w := W)).mono (R' := fun e W2 => ∃ bv lr, e = .returned (.func (.func 37) #[] #[.pointer (some ⟨bv, 0, none⟩)]) ∧ Bag cmpI lr ls ∧ W.heap.size ≤ bv ∧ Upd (fun _ => False) W W2 ∧
    SeqO Try.prog (.func (.func 37) #[] #[.pointer (some ⟨bv, 0, none⟩)]) encII (lr.map fun x => ((), x)) () () (fun _ _ => True) (fun _ => False) (fun j => j = bv ∨ (F j ∧ j ≠ sb)) W2) (by
      rintro e W2 ⟨bv, rfl, g1, g2, g3⟩
      refine ⟨bv, lr, rfl, h3, g2, g3, ?_⟩
      have hs := allSeqII (h2.upd g3 fun _ _ => id) g1
      have e : (fun j => j = bv ∨ (F j ∧ j ≠ sb)) = (fun j => j = bv ∨ j = rb ∨ t.has j) := funext fun j => propext (by
        rw [h4]
        constructor
        · rintro (h | ⟨h | h, hn⟩)
          · exact .inl h
          · exact absurd h hn
          · exact .inr h
        · rintro (h | h)
          · exact .inl h
          · exact .inr ⟨.inr h, fun e => h5 (e ▸ h)⟩)
      rw [e]
      exact hs)
  replace k1 := Lib.hid k1
  clear h1 h2 h3 h4 h5 h6
  refine callsIn_any (n := 0) (callsIn_of_wp Try.func12 rfl trivial ?_)
  simp only [Try.ntmps12, List.size_toArray, List.length_cons, List.length_nil, Nat.reduceAdd, Nat.reduceSub, Array.replicate_succ, Array.replicate_zero, List.push_toArray, List.append_toArray, List.nil_append, List.cons_append]
  gi_wp2_with (first | refine (⟨trivial, rfl, ?_⟩ : Fence.wide.fn _ ∧ Fence.wide.depth = none ∧ _) | (gi_at_call 28; (with_reducible refine k1.out.mono ?_); rintro e W2 ⟨bv, lr, rfl, fin⟩; (replace fin := Lib.hid fin)) | refine (⟨trivial, ?_⟩ : Fence.wide.fn _ ∧ _))
  go_ret
  exact ⟨bv, lr, rfl, fin.out⟩
end SkI
end Go.Proofs.Ytjlobcbjhnfjcaa

/- seen: play. -/
import Derived.Test.YtgleiajmdbekiaaProg
import Derived.Test.YtgleiajmdbekiaaBase
import Derived.Test.YtgleiajmdbekiaaSeN
import Derived.Test.YtgleiajmdbekiaaSeT
namespace Go.Proofs.Ytgleiajmdbekiaa
open Go.RowKit Go.Shelf
attribute [local go_sem] Oper.semAt_some

section
variable {rs : List SrcP} {A : Option Addr} {cap : Nat} {W W2 W0 : World} {sb : Nat} {F F0 : Nat → Prop}
theorem noteAny14_c {n : Nat} (hr : ReadsT W A rs) (hcap : rs.length ≤ cap) (ho : OkS (rs.map absT)) (hsz : ∀ r ∈ rs, r.1.size ≤ maxLen) (k : ByteArray) (q : Int) :
    CallsIn Fence.wide n Try.prog 31 #[.slice A rs.length cap, .string k, .int .i64 q] W fun e W2 => ∃ A' cap' rs', e = .returned (.tuple #[.slice A' rs'.length cap', .int .i64 (canS k q (rs.map absT))]) ∧ rs'.length ≤ cap' ∧ ReadsT W2 A' rs' ∧ rs'.map absT = noteR k q (rs.map absT) ∧
      (∀ j, blkT A' rs' j → blkT A rs j ∨ W.heap.size ≤ j) ∧ (∀ r ∈ rs', r.1 = k ∨ r ∈ rs) ∧ Upd (fun _ => False) W W2 := by
  by_cases hc : canS k q (rs.map absT) = 0
  · refine (note14_c hr hcap ho hsz k q hc).mono ?_
    rintro e W2 ⟨A', cap', rs', rfl, h1, h2, h3, h4⟩
    exact ⟨A', cap', rs', by rw [hc], h1, h2, by rw [h3, noteR, if_pos hc], h4⟩
  · have hlen : rs.length ≤ 8 := by have := ho.len; rwa [abs_len] at this
    have kC := (can14_c (n := 0) (cap := cap) (k := k) hr ho.rise (by omega) hsz (fun r hr => by have := (ho.each (absT r) (List.mem_map.2 ⟨r, hr, rfl⟩)).2.1; simp only [absT] at this; omega) q).mono (R' := fun e W2 => e = .returned (.int .i64 (canS k q (rs.map absT))) ∧ Upd (fun _ => False) W W2 ∧ ReadsT W2 A rs) (by
      rintro e W2 ⟨rfl, u⟩
      exact ⟨rfl, u, hr.upd u fun _ _ => id⟩)
    have hnr : noteR k q (rs.map absT) = rs.map absT := if_neg hc
    have hcb : (canS k q (rs.map absT) != 0) = true := by simpa using hc
    rw [hnr]
    generalize canS k q (rs.map absT) = cs at *
    replace kC := Lib.hid kC
    clear hr ho hsz
    refine callsIn_any (n := 0) (callsIn_of_wp Try.func31 rfl trivial ?_)
    simp only [Try.ntmps31, List.size_toArray, List.length_cons, List.length_nil, Nat.reduceAdd, Nat.reduceSub, Array.replicate_succ, Array.replicate_zero, List.push_toArray, List.append_toArray, List.nil_append, List.cons_append]
    gi_wp2_with (first | refine (⟨trivial, rfl, ?_⟩ : Fence.wide.fn _ ∧ Fence.wide.depth = none ∧ _) | (gi_at_call 30; (with_reducible refine kC.out.mono ?_); rintro e W1 ⟨rfl, u1, hr1⟩; (replace hr1 := Lib.hid hr1)) | refine (⟨trivial, ?_⟩ : Fence.wide.fn _ ∧ _))
    refine bodyPost_ret (results_tmp2 rfl _ _ _) rfl ?_
    exact ⟨A, cap, rs, rfl, hcap, hr1.out, rfl, fun j hj => .inl hj, fun r hr => .inr hr, u1⟩
/-- What is kept from act to act. -/
structure PlayR (sb : Nat) (rs : List SrcP) (A : Option Addr) (cap : Nat) (F F0 : Nat → Prop) (W0 W : World) : Prop where
  a : SeenA sb (rs.map absT) F W
  ok : OkS (rs.map absT)
  cap : rs.length ≤ cap
  reads : ReadsT W A rs
  names : ∀ r ∈ rs, r.1.size ≤ maxLen
  dis : ∀ j, blkT A rs j → ¬ F j
  newF : ∀ j, F j → F0 j ∨ W0.heap.size ≤ j
  base : Upd F0 W0 W
theorem PlayR.upd (h : PlayR sb rs A cap F F0 W0 W) (hu : Upd (fun _ => False) W W2) : PlayR sb rs A cap F F0 W0 W2 :=
  ⟨h.a.upd hu fun _ _ => id, h.ok, h.cap, h.reads.upd hu fun _ _ => id, h.names, h.dis, h.newF, h.base.trans hu fun j hj => hj.elim⟩
/-- All calls of an act, but Word. -/
theorem play_calls (h : PlayR sb rs A cap F F0 W0 W) {bx : Nat} {src : ByteArray} {q : Int} (hB : Blk W bx #[.string src, .int .i64 q] 27) (hnB : ¬ F bx) (hs : src.size ≤ maxLen) (hq : 1 ≤ q) :
    CallsIn Fence.wide 0 Try.prog 30 #[.slice A rs.length cap, .string src, .int .i64 q] W fun e W3 => e = .returned (.int .i64 (canS src q (rs.map absT))) ∧ (W3.cell? ⟨bx, 0, none⟩ = some (.string src) ∧ W3.cell? ⟨bx, 1, none⟩ = some (.int .i64 q)) ∧
      CallsIn Fence.wide 0 Try.prog 31 #[.slice A rs.length cap, .string src, .int .i64 q] W3 fun e W4 => ∃ A' cap' n', e = .returned (.tuple #[.slice A' n' cap', .int .i64 (canS src q (rs.map absT))]) ∧ (W4.cell? ⟨bx, 0, none⟩ = some (.string src) ∧ W4.cell? ⟨bx, 1, none⟩ = some (.int .i64 q)) ∧
        CallsIn Fence.wide 0 Try.prog 22 #[.pointer (some ⟨sb, 0, none⟩), .string src, .int .i64 q] W4 fun e W5 => e = .returned (.int .i64 (canS src q (rs.map absT))) ∧ (W5.cell? ⟨bx, 0, none⟩ = some (.string src) ∧ W5.cell? ⟨bx, 1, none⟩ = some (.int .i64 q)) ∧
          CallsIn Fence.wide 0 Try.prog 10 #[.pointer (some ⟨sb, 0, none⟩), .string src, .int .i64 q] W5 fun e W6 => e = .returned (.int .i64 (canS src q (rs.map absT))) ∧
            CallsIn Fence.wide 0 Try.prog 14 #[.pointer (some ⟨sb, 0, none⟩)] W6 fun e W7 => ∃ s, e = .returned s ∧
              CallsIn Fence.wide 0 Try.prog 13 #[s] W7 fun e W8 => ∃ r, e = .returned r ∧
                CallsIn Fence.wide 0 Try.prog 12 #[r, .slice A' n' cap'] W8 fun e W9 => e = .returned (.bool true) ∧ ∃ rs' F', n' = rs'.length ∧ PlayR sb rs' A' cap' F' F0 W0 W9 := by
  have hlen : rs.length ≤ 8 := by have := h.ok.len; rwa [abs_len] at this
  refine (can14_c (n := 0) (cap := cap) (k := src) h.reads h.ok.rise (by omega) h.names (fun r hr => by have := (h.ok.each (absT r) (List.mem_map.2 ⟨r, hr, rfl⟩)).2.1; simp only [absT] at this; omega) q).mono ?_
  rintro e W3 ⟨rfl, u3⟩
  have h3 := h.upd u3
  have B3 := hB.upd u3 id
  refine ⟨rfl, ⟨B3.cell 0, B3.cell 1⟩, (noteAny14_c h3.reads h3.cap h3.ok h3.names src q).mono ?_⟩
  rintro e W4 ⟨A', cap', rs', rfl, g1, g2, g3, g4, g5, u4⟩
  have h4 := h3.upd u4
  have B4 := B3.upd u4 id
  have z4 := u4.size
  have hFl4 := h4.a.lt
  have dis' : ∀ j, blkT A' rs' j → ¬ F j := fun j hj hF => (g4 j hj).elim (fun h' => h3.dis j h' hF) fun h' => by have := h3.a.lt j hF; omega
  refine ⟨A', cap', _, rfl, ⟨B4.cell 0, B4.cell 1⟩, (canA_c h4.a src q).mono ?_⟩
  rintro e W5 ⟨rfl, u5⟩
  have h5 := h4.upd u5
  have B5 := B4.upd u5 id
  have r5 := g2.upd u5 fun _ _ => id
  refine ⟨rfl, ⟨B5.cell 0, B5.cell 1⟩, (noteA_c h5.a h5.ok src q).mono ?_⟩
  rintro e W6 ⟨rfl, F', m1, m2, u6⟩
  rw [← g3] at m1
  have r6 := r5.upd u6 fun j hj => dis' j hj
  have ok6 : OkS (rs'.map absT) := by rw [g3]; exact h.ok.noteR hq
  have z5 := u5.size
  have dis6 : ∀ j, blkT A' rs' j → ¬ F' j := fun j hj hF => (m2 j hF).elim (dis' j hj) fun h' => by have := r5.lt j hj; omega
  have zz := h5.base.size
  have h6 : PlayR sb rs' A' cap' F' F0 W0 W6 := ⟨m1, ok6, g1, r6, fun r hr => (g5 r hr).elim (fun e => by rw [e]; exact hs) (h.names r), dis6, fun j hj => (m2 j hj).elim (h.newF j) fun h' => .inr (by omega), h5.base.trans u6 fun j hj => h.newF j hj⟩
  refine ⟨rfl, (stateA_c h6.a ok6).mono ?_⟩
  rintro e W7 ⟨A7, c7, rs7, rfl, _, r7, e7, _, u7⟩
  have o7 := rs_ok ok6 e7
  refine ⟨_, rfl, (ref14_c r7 (by omega)).mono ?_⟩
  rintro e W8 ⟨A8, c8, rfl, _, r8, _, u8⟩
  have h8 := (h6.upd u7).upd u8
  refine ⟨_, rfl, (same14_c r8 h8.reads (by rw [e7]) (by omega) (fun r hr => by have := o7.2 r hr; omega)).mono ?_⟩
  rintro e W9 ⟨rfl, u9⟩
  exact ⟨rfl, rs', F', rfl, h8.upd u9⟩
set_option maxRecDepth 100000 in
set_option maxHeartbeats 8000000 in
theorem play14_c {n : Nat} {AA : Option Addr} {capA : Nat} {acts : Noted} (h : SeenA sb (rs.map absT) F W) (ho : OkS (rs.map absT)) (hcap : rs.length ≤ cap) (hr : ReadsT W A rs) (hnm : ∀ r ∈ rs, r.1.size ≤ maxLen) (hdis : ∀ j, blkT A rs j → ¬ F j)
    (hra : Reads1 W AA (acts.flatMap encQ)) (hda : ∀ j, blkOf' AA (acts.flatMap encQ).length j → ¬ F j) (hsz : ∀ a ∈ acts, a.1.size ≤ maxLen) (hl : acts.length ≤ 100000) :
    CallsIn Fence.wide n Try.prog 11 #[.pointer (some ⟨sb, 0, none⟩), .slice A rs.length cap, .slice AA acts.length capA] W fun e W2 => e = .returned (.bool true) ∧ Upd F W W2 := by
  have h0 : Hid (PlayR sb rs A cap F F W W) := Lib.hid ⟨h, ho, hcap, hr, hnm, hdis, fun j hj => .inl hj, Upd.refl _ _⟩
  have hrwa := Lib.hid fun V (u : Upd F W V) => hra.agree' (w' := V) (u.agree fun j hj => ⟨hra.lt' j hj, hda j hj⟩)
  clear h ho hcap hr hnm hdis hra hda
  refine callsIn_any (n := 0) (callsIn_of_wp Try.func11 rfl trivial ?_)
  simp only [Try.ntmps11, List.size_toArray, List.length_cons, List.length_nil, Nat.reduceAdd, Nat.reduceSub, Array.replicate_succ, Array.replicate_zero, List.push_toArray, List.append_toArray, List.nil_append, List.cons_append]
  gi_wp2
  gi_loopw [14, 1] (fun u v wr => ∃ (k : Nat) (rs : List SrcP) (A : Option Addr) (cap : Nat) (F' : Nat → Prop), u = .int .i64 k ∧ k ≤ acts.length ∧ v = .slice A rs.length cap ∧ PlayR sb rs A cap F' F W wr) (fun u _ _ => acts.length - (intOf u).toNat)
  case atStart => exact ⟨0, rs, A, cap, F, rfl, Nat.zero_le _, rfl, h0.out⟩
  case round =>
    clear h0
    obtain ⟨k, rs, A, cap, F', rfl, hk, rfl, hI⟩ := hrel
    by_cases hlt : k < acts.length
    · have hsz' := hsz acts[k] (List.getElem_mem _)
      obtain ⟨g, o, rfl, c1, c2⟩ := acts14_at (hrwa.out _ hI.base) hlt
      have hw5 : IntKind.i64.wrap ((k : Int) + 1) = (k : Int) + 1 := Go.IntWalk.i64_in _ ⟨by omega, by omega⟩
      obtain ⟨a, ha⟩ : ∃ a, acts[k] = a := ⟨_, rfl⟩
      rw [ha] at c1 c2 hsz'
      clear ha
      obtain ⟨src, q⟩ := a
      simp only at c1 c2 hsz'
      have uA := Upd.alloc (fun _ => False) wr (.cells #[.string src, .int .i64 q] 27)
      have bA := Blk.new wr #[.string src, .int .i64 q] 27
      have f0 : (wr.alloc (.cells #[.string src, .int .i64 q] 27)).cell? ⟨wr.heap.size, 0, none⟩ = some (.string src) := bA.cell 0
      have hlF := hI.a.lt
      have kW := (wordA_c (n := 0) (w := wr.alloc (.cells #[.string src, .int .i64 q] 27)) hsz').mono (R' := fun e W2 => (∃ b, e = .returned (.bool b)) ∧ (W2.cell? ⟨wr.heap.size, 0, none⟩ = some (.string src) ∧ W2.cell? ⟨wr.heap.size, 1, none⟩ = some (.int .i64 q)) ∧ (PlayR sb rs A cap F' F W W2) ∧ (1 ≤ q →
          CallsIn Fence.wide 0 Try.prog 30 #[.slice A rs.length cap, .string src, .int .i64 q] W2 fun e W3 => e = .returned (.int .i64 (canS src q (rs.map absT))) ∧ (W3.cell? ⟨wr.heap.size, 0, none⟩ = some (.string src) ∧ W3.cell? ⟨wr.heap.size, 1, none⟩ = some (.int .i64 q)) ∧
      CallsIn Fence.wide 0 Try.prog 31 #[.slice A rs.length cap, .string src, .int .i64 q] W3 fun e W4 => ∃ A' cap' n', e = .returned (.tuple #[.slice A' n' cap', .int .i64 (canS src q (rs.map absT))]) ∧ (W4.cell? ⟨wr.heap.size, 0, none⟩ = some (.string src) ∧ W4.cell? ⟨wr.heap.size, 1, none⟩ = some (.int .i64 q)) ∧
        CallsIn Fence.wide 0 Try.prog 22 #[.pointer (some ⟨sb, 0, none⟩), .string src, .int .i64 q] W4 fun e W5 => e = .returned (.int .i64 (canS src q (rs.map absT))) ∧ (W5.cell? ⟨wr.heap.size, 0, none⟩ = some (.string src) ∧ W5.cell? ⟨wr.heap.size, 1, none⟩ = some (.int .i64 q)) ∧
          CallsIn Fence.wide 0 Try.prog 10 #[.pointer (some ⟨sb, 0, none⟩), .string src, .int .i64 q] W5 fun e W6 => e = .returned (.int .i64 (canS src q (rs.map absT))) ∧
            CallsIn Fence.wide 0 Try.prog 14 #[.pointer (some ⟨sb, 0, none⟩)] W6 fun e W7 => ∃ s, e = .returned s ∧
              CallsIn Fence.wide 0 Try.prog 13 #[s] W7 fun e W8 => ∃ r, e = .returned r ∧
                CallsIn Fence.wide 0 Try.prog 12 #[r, .slice A' n' cap'] W8 fun e W9 => e = .returned (.bool true) ∧ ∃ rs' F2, n' = rs'.length ∧ PlayR sb rs' A' cap' F2 F W W9)) (by
        rintro e W2 ⟨hb, u2⟩
        have h2 := (hI.upd uA).upd u2
        have B2 := bA.upd u2 id
        exact ⟨hb, ⟨B2.cell 0, B2.cell 1⟩, h2, fun hq => play_calls h2 B2 (fun hh => Nat.lt_irrefl _ (hlF _ hh)) hsz' hq⟩)
      replace kW := Lib.hid kW
      clear uA bA hsz' hI hlF
      obtain ⟨cs, hcs⟩ : ∃ cs, canS src q (rs.map absT) = cs := ⟨_, rfl⟩
      rw [hcs] at kW
      clear hcs
      by_cases hq1 : 1 ≤ q
      · by_cases hq2 : q ≤ 1099511627776
        · skip
          gi_wp2_with (first | refine (⟨trivial, rfl, ?_⟩ : Fence.wide.fn _ ∧ Fence.wide.depth = none ∧ _) | (gi_at_call 9; (with_reducible refine kW.out.mono ?_); rintro e W2 ⟨⟨b, rfl⟩, ⟨x0, x1⟩, hS, kk⟩; (replace kk := Lib.hid (kk hq1)); (replace hS := Lib.hid hS); (cases b)) | (gi_at_call 30; (with_reducible refine kk.out.mono ?_); rintro e W3 ⟨rfl, ⟨a0, a1⟩, k4⟩; (replace k4 := Lib.hid k4)) | (gi_at_call 31; (with_reducible refine k4.out.mono ?_); rintro e W4 ⟨A', cap', n', rfl, ⟨b0, b1⟩, k5⟩; (replace k5 := Lib.hid k5)) | (gi_at_call 22; (with_reducible refine k5.out.mono ?_); rintro e W5 ⟨rfl, ⟨d0, d1⟩, k6⟩; (replace k6 := Lib.hid k6)) | (gi_at_call 10; (with_reducible refine k6.out.mono ?_); rintro e W6 ⟨rfl, k7⟩; (replace k7 := Lib.hid k7)) | (gi_at_call 14; (with_reducible refine k7.out.mono ?_); rintro e W7 ⟨s7, rfl, k8⟩; (replace k8 := Lib.hid k8)) | (gi_at_call 13; (with_reducible refine k8.out.mono ?_); rintro e W8 ⟨r8, rfl, k9⟩; (replace k9 := Lib.hid k9)) | (gi_at_call 12; (with_reducible refine k9.out.mono ?_); rintro e W9 ⟨rfl, fin⟩; (replace fin := Lib.hid fin)) | refine (⟨trivial, ?_⟩ : Fence.wide.fn _ ∧ _))
          · exact ⟨⟨k + 1, rs, A, cap, F', by go_num, by omega, rfl, hS.out⟩, by simp [intOf]; omega⟩
          · obtain ⟨rs2, F2, rfl, hp⟩ := fin.out
            exact ⟨⟨k + 1, rs2, A', cap', F2, by go_num, by omega, rfl, hp⟩, by simp [intOf]; omega⟩
        · skip
          gi_wp2_with (first | refine (⟨trivial, rfl, ?_⟩ : Fence.wide.fn _ ∧ Fence.wide.depth = none ∧ _) | (gi_at_call 9; (with_reducible refine kW.out.mono ?_); rintro e W2 ⟨⟨b, rfl⟩, ⟨x0, x1⟩, hS, kk⟩; (clear kk); (replace hS := Lib.hid hS); (cases b)) | refine (⟨trivial, ?_⟩ : Fence.wide.fn _ ∧ _))
          all_goals exact ⟨⟨k + 1, rs, A, cap, F', by go_num, by omega, rfl, hS.out⟩, by simp [intOf]; omega⟩
      · skip
        gi_wp2_with (first | refine (⟨trivial, rfl, ?_⟩ : Fence.wide.fn _ ∧ Fence.wide.depth = none ∧ _) | (gi_at_call 9; (with_reducible refine kW.out.mono ?_); rintro e W2 ⟨⟨b, rfl⟩, ⟨x0, x1⟩, hS, kk⟩; (clear kk); (replace hS := Lib.hid hS); (cases b)) | refine (⟨trivial, ?_⟩ : Fence.wide.fn _ ∧ _))
        all_goals exact ⟨⟨k + 1, rs, A, cap, F', by go_num, by omega, rfl, hS.out⟩, by simp [intOf]; omega⟩
    · obtain rfl : k = acts.length := by omega
      have hB := Lib.hid hI.base
      clear hI
      gi_wp2_with (first | refine (⟨trivial, rfl, ?_⟩ : Fence.wide.fn _ ∧ Fence.wide.depth = none ∧ _) | refine (⟨trivial, ?_⟩ : Fence.wide.fn _ ∧ _))
      go_ret
      exact ⟨rfl, hB.out⟩
set_option maxRecDepth 100000 in
set_option maxHeartbeats 4000000 in
theorem seenPlays_law {n : Nat} {w : World} {AA : Option Addr} {capA : Nat} {acts : Noted} (hra : Reads1 w AA (acts.flatMap encQ)) (hsz : ∀ a ∈ acts, a.1.size ≤ maxLen) :
    CallsIn Fence.wide n Try.prog 4 #[.slice AA acts.length capA] w fun e w' => e = .returned (.bool true) ∧ Upd (fun _ => False) w w' := by
  have k1 := (newA_c (n := 0) (W := w)).mono (R' := fun e W1 => ∃ sb, e = .returned (.pointer (some ⟨sb, 0, none⟩)) ∧
      CallsIn Fence.wide 0 Try.prog 8 #[] W1 (fun e W3 => e = .returned (.bool true) ∧ (acts.length ≤ 150 → CallsIn Fence.wide 0 Try.prog 11 #[.pointer (some ⟨sb, 0, none⟩), .slice none 0 0, .slice AA acts.length capA] W3 fun e W4 => e = .returned (.bool true) ∧ Upd (fun _ => False) w W4) ∧
        CallsIn Fence.wide 0 Try.prog 8 #[] W3 (fun e W4 => e = .returned (.bool true) ∧ Upd (fun _ => False) w W4))) (by
    rintro e W1 ⟨sb, F, rfl, g1, g2, g3⟩
    refine ⟨sb, rfl, (awake_c (n := 0)).mono ?_⟩
    rintro e W3 ⟨rfl, u3⟩
    have u13 := g3.trans' u3
    refine ⟨rfl, fun hl => ?_, (awake_c (n := 0)).mono ?_⟩
    · refine (play14_c (n := 0) (rs := []) (A := none) (cap := 0) (g1.upd u3 fun _ _ => id) OkS.nil (Nat.le_refl _) ⟨fun i v h => by simp at h, fun r hr => by simp at hr⟩ (fun r hr => by simp at hr) (fun j hj => by
        rcases hj with hj | ⟨r, hr, _⟩
        · simp [blkOf'] at hj
        · simp at hr) (hra.agree' (u13.agree fun j hj => ⟨hra.lt' j hj, id⟩)) (fun j hj hF => by have := hra.lt' j hj; have := g2 j hF; omega) hsz (by omega)).mono ?_
      rintro e W4 ⟨rfl, u4⟩
      exact ⟨rfl, u13.trans u4 fun j hj => .inr (g2 j hj)⟩
    · rintro e W4 ⟨rfl, u4⟩
      exact ⟨rfl, u13.trans' u4⟩)
  replace k1 := Lib.hid k1
  clear hra
  refine callsIn_any (n := 0) (callsIn_of_wp Try.func4 rfl trivial ?_)
  simp only [Try.ntmps4, List.size_toArray, List.length_cons, List.length_nil, Nat.reduceAdd, Nat.reduceSub, Array.replicate_succ, Array.replicate_zero, List.push_toArray, List.append_toArray, List.nil_append, List.cons_append]
  by_cases hl : acts.length ≤ 150
  · skip
    gi_wp2_with (first | refine (⟨trivial, rfl, ?_⟩ : Fence.wide.fn _ ∧ Fence.wide.depth = none ∧ _) | (gi_at_call 7; (with_reducible refine k1.out.mono ?_); rintro e W1 ⟨sb, rfl, k2⟩; (replace k2 := Lib.hid k2)) | (gi_at_call 8; (with_reducible refine k2.out.mono ?_); rintro e W3 ⟨rfl, kp, _⟩; (replace kp := Lib.hid (kp hl))) | (gi_at_call 11; (with_reducible refine kp.out.mono ?_); rintro e W4 ⟨rfl, u4⟩; (replace u4 := Lib.hid u4)) | refine (⟨trivial, ?_⟩ : Fence.wide.fn _ ∧ _))
    go_ret
    exact ⟨rfl, u4.out⟩
  · have hl' : 150 < acts.length := by omega
    gi_wp2_with (first | refine (⟨trivial, rfl, ?_⟩ : Fence.wide.fn _ ∧ Fence.wide.depth = none ∧ _) | (gi_at_call 7; (with_reducible refine k1.out.mono ?_); rintro e W1 ⟨sb, rfl, k2⟩; (replace k2 := Lib.hid k2)) | (gi_at_call 8; (with_reducible refine k2.out.mono ?_); rintro e W3 ⟨rfl, _, k3⟩; (replace k3 := Lib.hid k3)) | (gi_at_call 8; (with_reducible refine k3.out.mono ?_); rintro e W4 ⟨rfl, u4⟩; (replace u4 := Lib.hid u4)) | refine (⟨trivial, ?_⟩ : Fence.wide.fn _ ∧ _))
    go_ret
    exact ⟨rfl, u4.out⟩
end
end Go.Proofs.Ytgleiajmdbekiaa

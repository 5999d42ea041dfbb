/- New, awake. -/
import Derived.Test.YtaenkjeaadmgeaaProg
import Derived.Test.YtaenkjeaadmgeaaBase
import Derived.Test.YtaenkjeaadmgeaaFeed
import Derived.Test.YtaenkjeaadmgeaaRkCmp
import Derived.Test.YtaenkjeaadmgeaaRkSIC
import Derived.Test.YtaenkjeaadmgeaaRkIBC
import Derived.Test.YtaenkjeaadmgeaaRkIBE
import Derived.Test.YtaenkjeaadmgeaaRkIBF
namespace Go.Proofs.Ytaenkjeaadmgeaa
open Go.RowKit Go.Shelf
attribute [local go_sem] Oper.semAt_some

/-- A rack of ints by texts. -/
abbrev RackS (rb : Nat) (t : Tr KSI VSI) (l : List (KSI × VSI)) (w : World) : Prop := RackSI cmpS (.func 37) #[] #[] rb t l w
theorem cmpSI : CmpV Try.prog ekSI cmpS (.func 37) #[] #[] := cmpV_string
theorem cmpIB : CmpV Try.prog ekIB cmpI (.func 16) #[] #[] := cmpV_int

set_option maxHeartbeats 1000000 in
theorem new05 {n : Nat} {w : World} : CallsIn Fence.wide n Try.prog 8 #[] w fun e w' => e = .returned (.pointer (some ⟨w.heap.size, 0, none⟩)) ∧ RackS w.heap.size .nil [] w' ∧ Upd (fun _ => False) w w' := by
  refine callsIn_any (n := 0) (callsIn_of_wp Try.func8 rfl trivial ?_)
  simp only [Try.ntmps8, List.size_toArray, List.length_nil, Nat.reduceSub, Array.replicate_succ, Array.replicate_zero, List.push_toArray, List.append_toArray, List.nil_append, List.cons_append]
  gi_wp2_with (first | refine (⟨trivial, rfl, ?_⟩ : Fence.wide.fn _ ∧ Fence.wide.depth = none ∧ _) | (gi_at_call 36; refine (rackNewSI (c := cmpS)).mono ?_; rintro e w' ⟨rfl, h1, h2⟩))
  go_ret
  exact ⟨rfl, h1, h2⟩

/-- awake's entries after so many rounds. -/
def awL : Nat → List (KIB × VIB)
  | 0 => []
  | 1 => [(2, true)]
  | 2 => [(1, true), (2, true)]
  | _ => [(1, true), (2, true), (3, true)]
abbrev awStep : Int → Int × Bool → Int × Bool := fun s x => (s * 10 + x.1, true)

set_option maxRecDepth 100000 in
set_option maxHeartbeats 1000000 in
theorem awake1 {W : World} {bs : Nat} {x : Int × Bool} {s : Int} (hb : Blk W bs #[.int .i64 s] 3) (h1 : 0 ≤ s ∧ s ≤ 100) (h2 : 0 ≤ x.1 ∧ x.1 ≤ 100) :
    CallV Try.prog (.func (.func 41) #[] #[.pointer (some ⟨bs, 0, none⟩)]) (encIB x) W fun v W' => v = .bool true ∧ Blk W' bs #[.int .i64 (s * 10 + x.1)] 3 ∧ Upd (fun j => j = bs) W W' := by
  refine CallV.of_calls (n := 0) (enters_of Try.func41 (by kernel_rfl) rfl) ?_
  have c1 := hb.cell0
  have f1 := hb.frozen 0
  have l1 := hb.lt
  have hw1 : IntKind.i64.wrap (s * 10) = s * 10 := Go.IntWalk.i64_in _ ⟨by omega, by omega⟩
  have hw2 : IntKind.i64.wrap (s * 10 + x.1) = s * 10 + x.1 := Go.IntWalk.i64_in _ ⟨by omega, by omega⟩
  refine callsIn_of_wp Try.func41 rfl trivial ?_
  simp only [Try.ntmps41, List.size_toArray, List.length_cons, List.length_nil, Nat.reduceAdd, Nat.reduceSub, Array.replicate_succ, Array.replicate_zero, List.push_toArray, List.append_toArray, List.nil_append, List.cons_append]
  gi_wp2
  go_ret
  exact ⟨_, rfl, rfl, by simpa using hb.set 0 _, (Upd.refl (fun j => j = bs) W).stepSet (.inl rfl) _⟩

def awX (k : Nat) : Int := match k with | 0 => 2 | 1 => 1 | _ => 3
theorem idx0 (w : World) : (Instr.index 66 (.agg #[.int .i64 2, .int .i64 1, .int .i64 3]) (.int .i64 0)).run Try.prog w = .ok (.int .i64 2) w := by kernel_rfl
theorem idx1 (w : World) : (Instr.index 66 (.agg #[.int .i64 2, .int .i64 1, .int .i64 3]) (.int .i64 1)).run Try.prog w = .ok (.int .i64 1) w := by kernel_rfl
theorem idx2 (w : World) : (Instr.index 66 (.agg #[.int .i64 2, .int .i64 1, .int .i64 3]) (.int .i64 2)).run Try.prog w = .ok (.int .i64 3) w := by kernel_rfl
theorem idxAw (k : Nat) (hk : k < 3) (w : World) : (Instr.index 66 (.agg #[.int .i64 2, .int .i64 1, .int .i64 3]) (.int .i64 (k : Int))).run Try.prog w = .ok (.int .i64 (awX k)) w := by
  have h3 : k = 0 ∨ k = 1 ∨ k = 2 := by omega
  rcases h3 with rfl | rfl | rfl
  · exact idx0 w
  · exact idx1 w
  · exact idx2 w

theorem eqNilB (k : FuncId) (cap : Array Value) (W : World) : (binOp .eql 69 (.func (.func k) #[] cap) .nilFunc).run Try.prog W = .ok (.bool false) W := by kernel_rfl

set_option maxRecDepth 100000 in
set_option maxHeartbeats 2000000 in
theorem awake05 {n : Nat} {w : World} : CallsIn Fence.wide n Try.prog 9 #[] w fun e w' => e = .returned (.bool true) ∧ Upd (fun _ => False) w w' := by
  refine callsIn_any (n := 0) (callsIn_of_wp Try.func9 rfl trivial ?_)
  simp only [Try.ntmps9, List.size_toArray, List.length_nil, Nat.reduceSub, Array.replicate_succ, Array.replicate_zero, List.push_toArray, List.append_toArray, List.nil_append, List.cons_append]
  gi_wp2_with (first | refine (⟨trivial, rfl, ?_⟩ : Fence.wide.fn _ ∧ Fence.wide.depth = none ∧ _) | (gi_at_call 38; refine (rackNewIB (c := cmpI)).mono ?_; rintro e W1 ⟨rfl, h1, h2⟩))
  gi_loopw [10] (fun i wr => ∃ (k : Nat) (t : Tr KIB VIB), i = .int .i64 k ∧ k ≤ 3 ∧ RackIB cmpI (.func 16) #[] #[] w.heap.size t (awL k) wr ∧ (∀ j, t.has j → w.heap.size ≤ j) ∧ Upd (fun _ => False) w wr) (fun i _ => 3 - (intOf i).toNat)
  case atStart => exact ⟨0, .nil, rfl, by omega, h1, fun _ h => h.elim, h2⟩
  case round =>
    obtain ⟨k, t, rfl, hk, hrk, hn, hu⟩ := hrel
    by_cases hlt : k < 3
    · have step : ∀ x : Int, putL cmpI x true (awL k) = awL (k + 1) → (awL k).length < 100000 → CallsIn Fence.wide 0 Try.prog 39 #[.pointer (some ⟨w.heap.size, 0, none⟩), .int .i64 x, .bool true] wr fun e W2 => (∃ b, e = .returned (.bool b)) ∧ ∃ t2, RackIB cmpI (.func 16) #[] #[] w.heap.size t2 (awL (k + 1)) W2 ∧ (∀ j, t2.has j → w.heap.size ≤ j) ∧ Upd (fun _ => False) w W2 := by
        intro x hx hl
        have k1 := rackPutIB (n := 0) cmpIB (k := x) (v := true) hrk hl
        rw [hx] at k1
        refine k1.mono ?_
        rintro e W2 ⟨rfl, t2, g1, g2, g3⟩
        exact ⟨⟨_, rfl⟩, t2, g1, fun j hj => (g2 j hj).elim (hn j) (fun h => Nat.le_trans hu.size h), hu.trans g3 fun j hj => .inr (hj.elim (fun e => by omega) (hn j))⟩
      clear hrk
      replace step := Lib.hid step
      have h3 : k = 0 ∨ k = 1 ∨ k = 2 := by omega
      have k1 := Lib.hid (step.out (awX k) (by rcases h3 with rfl | rfl | rfl <;> rfl) (by rcases h3 with rfl | rfl | rfl <;> decide))
      have hix := fun W => idxAw k hlt W
      clear step h3
      gi_wp2_with (first | refine (⟨trivial, rfl, ?_⟩ : Fence.wide.fn _ ∧ Fence.wide.depth = none ∧ _) | (gi_at_call 39; refine k1.out.mono ?_; rintro e W2 ⟨⟨_, rfl⟩, t2, g1, g2, g3⟩))
      exact ⟨⟨k + 1, t2, by go_num, by omega, g1, g2, g3⟩, by simp [intOf]; omega⟩
    · have hk3 : k = 3 := by omega
      subst hk3
      have k2 : ∀ (W2 W3 : World) (bv bk : Nat), Upd (fun _ => False) wr W2 → Blk W2 wr.heap.size #[.int .i64 0] 3 → w.heap.size ≤ wr.heap.size → W2.heap.size ≤ bv → W2.heap.size ≤ bk → Blk W3 bv #[.pointer (some ⟨w.heap.size, 0, none⟩)] 64 → Blk W3 bk #[.int .i64 2] 3 → Upd (fun _ => False) W2 W3 →
          CallV Try.prog (.func (.func 63) #[] #[.pointer (some ⟨bv, 0, none⟩), .pointer (some ⟨bk, 0, none⟩)]) #[.func (.func 41) #[] #[.pointer (some ⟨wr.heap.size, 0, none⟩)]] W3 fun _ W4 =>
            W4.cell? ⟨wr.heap.size, 0, none⟩ = some (.int .i64 23) ∧ CallsIn Fence.wide 0 Try.prog 42 #[.pointer (some ⟨w.heap.size, 0, none⟩)] W4 (fun e W5 => e = .returned (.int .i64 3) ∧ W5 = W4) ∧ Upd (fun _ => False) w W4 := by
        intro W2 W3 bv bk hu2 hb0 hz hbv hbk hb1 hb2 hu3
        have hs : wr.heap.size < W2.heap.size := hb0.lt
        have hr3 := (hrk.upd hu2 fun _ _ => id).upd hu3 fun _ _ => id
        have hb0' := hb0.upd hu3 id
        have hseq := fromSeqIB hr3 hb1 hb2 cmpIB
        have hlt3 : ∀ j, (j = w.heap.size ∨ t.has j) → j < wr.heap.size := hrk.lt
        have hD : ∀ k, (k = bv ∨ k = bk ∨ k = w.heap.size ∨ t.has k) → k ≠ wr.heap.size := by
          rintro k (rfl | rfl | h)
          · omega
          · omega
          · have := hlt3 k h; omega
        have hl : behindL (fun a => decide (cmpI a 2 < 0)) (awL 3) = [(2, true), (3, true)] := rfl
        rw [hl] at hseq
        refine (feed (S0 := fun k => k = wr.heap.size) (step := awStep) (Rep := fun s S W => S wr.heap.size ∧ Blk W wr.heap.size #[.int .i64 s] 3) (s0 := 0) hseq (Nat.le_refl _) (Agree.refl _ _) ?_ ?_ ⟨rfl, hb0'⟩ ?_).mono ?_
        · rintro k rfl
          exact ⟨hb0'.lt, fun h => hD _ h rfl⟩
        · rintro s S V1 V2 ⟨h1, h2⟩ hA _
          exact ⟨h1, h2.agree hA h1⟩
        · rintro pre x suf s1 S1 V1 he hgo ⟨h1, h2⟩ hu4 hS1
          have hs1 : (0 ≤ s1 ∧ s1 ≤ 100) ∧ 0 ≤ x.1 ∧ x.1 ≤ 100 := by
            match pre, he with
            | [], he =>
              cases he
              cases hgo
              decide
            | [_], he =>
              cases he
              cases hgo
              decide
            | _ :: _ :: _, he => simp at he
          refine (awake1 h2 hs1.1 hs1.2).mono ?_
          rintro v V2 ⟨rfl, g1, g2⟩
          exact ⟨S1, rfl, ⟨h1, g1⟩, g2.mono fun k _ hk => by rw [hk]; exact h1, fun k hk => ⟨Nat.lt_of_lt_of_le (hS1 k hk).1 g2.size, .inl hk⟩⟩
        · rintro v W4 ⟨S', ⟨h1, h2⟩, hu4, _⟩
          have hr4 := hr3.upd hu4 (fun j hj e => by have := hlt3 j hj; omega)
          refine ⟨h2.cell0, rackLenIB hr4, ?_⟩
          exact (hu.trans' hu2).trans' hu3 |>.trans hu4 fun j hj => .inr (by omega)
      have hz := hu.size
      have k3 : CallsIn Fence.wide 0 Try.prog 40 #[.pointer (some ⟨w.heap.size, 0, none⟩), .int .i64 2] (wr.alloc (.cells #[.int .i64 0] 3)) fun e W3 => ∃ bv bk, e = .returned (.func (.func 63) #[] #[.pointer (some ⟨bv, 0, none⟩), .pointer (some ⟨bk, 0, none⟩)]) ∧
          CallV Try.prog (.func (.func 63) #[] #[.pointer (some ⟨bv, 0, none⟩), .pointer (some ⟨bk, 0, none⟩)]) #[.func (.func 41) #[] #[.pointer (some ⟨wr.heap.size, 0, none⟩)]] W3 fun _ W4 =>
            W4.cell? ⟨wr.heap.size, 0, none⟩ = some (.int .i64 23) ∧ CallsIn Fence.wide 0 Try.prog 42 #[.pointer (some ⟨w.heap.size, 0, none⟩)] W4 (fun e W5 => e = .returned (.int .i64 3) ∧ W5 = W4) ∧ Upd (fun _ => False) w W4 := by
        refine (rackFromIB (k := (2 : Int))).mono ?_
        rintro e W3 ⟨bv, bk, rfl, g1, g2, g3, g4, g5⟩
        exact ⟨bv, bk, rfl, k2 _ W3 bv bk (Upd.alloc _ _ _) (Blk.new _ _ _) hz g3 g4 g1 g2 g5⟩
      clear hrk k2
      replace k3 := Lib.hid k3
      have hnil := eqNilB
      gi_wp2_with (first | refine (⟨trivial, rfl, ?_⟩ : Fence.wide.fn _ ∧ Fence.wide.depth = none ∧ _) | (gi_at_call 40; refine k3.out.mono ?_; rintro e W3 ⟨bv, bk, rfl, k5⟩; (replace k5 := Lib.hid k5)) | ((with_reducible refine listV1 k5.out ?_ ?_ ?_); rfl; rfl; rintro v W4 ⟨c4, k4, hu4⟩) | (gi_at_call 42; refine k4.mono ?_; rintro e W5 ⟨rfl, rfl⟩))
      go_ret
      exact ⟨rfl, hu4⟩
end Go.Proofs.Ytaenkjeaadmgeaa

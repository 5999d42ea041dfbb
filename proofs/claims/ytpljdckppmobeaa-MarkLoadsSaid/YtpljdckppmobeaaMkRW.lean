/- MarkRises: the walk. -/
import Derived.Test.YtpljdckppmobeaaProg
import Derived.Test.YtpljdckppmobeaaBase
import Derived.Test.YtpljdckppmobeaaMkRL
namespace Go.Proofs.Ytpljdckppmobeaa
open Go.RowKit Go.Shelf
attribute [local go_sem] Oper.semAt_some

/-- A whole number's rest by 20, as the machine takes it. -/
theorem mod20 (n : Int) : ∃ m : Int, 0 ≤ m ∧ m < 20 ∧ (IntKind.u64.wrap n).tmod 20 = m ∧ (IntKind.u64.wrap n) % 20 = m ∧ IntKind.u64.wrap m = m ∧ IntKind.i64.wrap m = m := by
  have h0 : 0 ≤ IntKind.u64.wrap n := by simp [IntKind.wrap, IntKind.bits, IntKind.signed]; omega
  refine ⟨(IntKind.u64.wrap n) % 20, by omega, by omega, by rw [Int.tmod_eq_emod_of_nonneg h0], rfl, ?_, Go.IntWalk.i64_in _ ⟨by omega, by omega⟩⟩
  have h1 : 0 ≤ (IntKind.u64.wrap n) % 20 := by omega
  have h2 : (IntKind.u64.wrap n) % 20 < 20 := by omega
  generalize (IntKind.u64.wrap n) % 20 = m at *
  simp [IntKind.wrap, IntKind.bits, IntKind.signed]; omega

set_option maxRecDepth 100000 in
set_option maxHeartbeats 8000000 in
theorem markRises_law {n : Nat} {w : World} {AA : Option Addr} {capA : Nat} {acts : List Act13} {idle : Nat} (hra : Reads1 w AA (acts.flatMap encC)) (hsz : ∀ a ∈ acts, a.src.size ≤ maxLen) (hi : idle < 256) :
    CallsIn Fence.wide n Try.prog 3 #[.int .u8 idle, .slice AA acts.length capA] w fun e w' => e = .returned (.bool true) ∧ Upd (fun _ => False) w w' := by
  have hrwa := Lib.hid fun W (h : Upd (fun _ => False) w W) => hra.agree' (w' := W) (h.agree fun j hj => ⟨hra.lt' j hj, id⟩)
  clear hra
  have k1 := (markNew_c (n := 0) (W := w) (idle := idle) (drain := 5) (by simp only [mxT]; omega) (by simp [mxT])).mono (R' := fun e W1 => ∃ mb, e = .returned (.tuple #[.pointer (some ⟨mb, 0, none⟩), .int .i64 0]) ∧ CallsIn Fence.wide 0 Try.prog 8 #[] W1 (fun e W2 => e = .returned (.bool true) ∧ Fin13 mb idle 5 w W2 ∧
      CallsIn Fence.wide 0 Try.prog 8 #[] W2 (fun e W3 => e = .returned (.bool true) ∧ Upd (fun _ => False) w W3))) (by
    rintro e W1 ⟨mb, F, rfl, g1, g2, g3⟩
    refine ⟨mb, rfl, (awake_c (n := 0)).mono ?_⟩
    rintro e W2 ⟨rfl, u2⟩
    refine ⟨rfl, ⟨0, 0, [], F, g1.upd u2 fun _ _ => id, ⟨by simp only [mxT]; omega, by simp [mxT], by simp [mxT], by simp [mxT], by simp, by simp, by simp⟩, g2, g3.trans' u2⟩, (awake_c (n := 0)).mono ?_⟩
    rintro e W3 ⟨rfl, u3⟩
    exact ⟨rfl, (g3.trans' u2).trans' u3⟩)
  replace k1 := Lib.hid k1
  have hwi : IntKind.i64.wrap (idle : Int) = idle := Go.IntWalk.i64_in _ ⟨by omega, by omega⟩
  refine callsIn_any (n := 0) (callsIn_of_wp Try.func3 rfl trivial ?_)
  simp only [Try.ntmps3, List.size_toArray, List.length_cons, List.length_nil, Nat.reduceAdd, Nat.reduceSub, Array.replicate_succ, Array.replicate_zero, List.push_toArray, List.append_toArray, List.nil_append, List.cons_append]
  by_cases hl : acts.length ≤ 60
  · skip
    gi_wp2_with (first | refine (⟨trivial, rfl, ?_⟩ : Fence.wide.fn _ ∧ Fence.wide.depth = none ∧ _) | (gi_at_call 7; (with_reducible refine k1.out.mono ?_); rintro e W1 ⟨mb, rfl, k2⟩; (replace k2 := Lib.hid k2)) | (gi_at_call 8; (with_reducible refine k2.out.mono ?_); rintro e W2 ⟨rfl, h0, _⟩; (replace h0 := Lib.hid h0)) | refine (⟨trivial, ?_⟩ : Fence.wide.fn _ ∧ _))
    clear k1 k2
    gi_loopw [36] (fun u wr => ∃ k : Nat, u = .int .i64 k ∧ k ≤ acts.length ∧ Fin13 mb idle 5 w wr) (fun u _ => acts.length - (intOf u).toNat)
    case atStart => exact ⟨0, rfl, Nat.zero_le _, h0.out⟩
    case round =>
      clear h0
      obtain ⟨k, rfl, hk, now, low, ls, F, hI, ho, hF, hu⟩ := hrel
      by_cases hlt : k < acts.length
      · have hsz' := hsz acts[k] (List.getElem_mem _)
        obtain ⟨g, o, rfl, c1, c2, c3⟩ := acts13_at (hrwa.out _ hu) hlt
        have hw5 : IntKind.i64.wrap ((k : Int) + 1) = (k : Int) + 1 := Go.IntWalk.i64_in _ ⟨by omega, by omega⟩
        obtain ⟨a, ha⟩ : ∃ a, acts[k] = a := ⟨_, rfl⟩
        rw [ha] at c1 c2 c3 hsz'
        clear ha
        obtain ⟨kind, nn, src⟩ := a
        simp only at c1 c2 c3 hsz'
        have uA := Upd.alloc (fun _ => False) wr (.cells #[.int .i64 kind, .int .i64 nn, .string src] 29)
        have bA := Blk.new wr #[.int .i64 kind, .int .i64 nn, .string src] 29
        have uL := Upd.alloc (fun _ => False) (wr.alloc (.cells #[.int .i64 kind, .int .i64 nn, .string src] 29)) (.cells #[.int .i64 low] 3)
        have bL := Blk.new (wr.alloc (.cells #[.int .i64 kind, .int .i64 nn, .string src] 29)) #[.int .i64 low] 3
        have bA2 := bA.upd uL id
        rw [World.size_alloc] at bL
        have zr := hu.size
        have hlt' := hI.lt
        have e1 := bA.cell 0
        have f1 : ((wr.alloc (.cells #[.int .i64 kind, .int .i64 nn, .string src] 29)).alloc (.cells #[.int .i64 low] 3)).cell? ⟨wr.heap.size, 0, none⟩ = some (.int .i64 kind) := bA2.cell 0
        have f2 : ((wr.alloc (.cells #[.int .i64 kind, .int .i64 nn, .string src] 29)).alloc (.cells #[.int .i64 low] 3)).cell? ⟨wr.heap.size, 2, none⟩ = some (.string src) := bA2.cell 2
        have kL := Lib.hid (markLow_c (n := 0) (hI.upd uA fun _ _ => id))
        have h2 := hI.upd (uA.trans' uL) fun _ _ => id
        have u2 := hu.trans' (uA.trans' uL)
        have nL : ¬ F (wr.heap.size + 1) := fun h => by have := hlt' _ h; omega
        have nA : ¬ F wr.heap.size := fun h => by have := hlt' _ h; omega
        by_cases hk1 : kind = 1
        · subst hk1
          have kS := Lib.hid (rise_see h2 ho hF u2 bA2 bL nL hsz')
          clear hI h2 ho hF hu u2 bA bA2 bL uA uL hlt' nL nA e1 hsz'
          gi_wp2_with (first | refine (⟨trivial, rfl, ?_⟩ : Fence.wide.fn _ ∧ Fence.wide.depth = none ∧ _) | (gi_at_call 9; (with_reducible refine kL.out.mono ?_); rintro e W2 ⟨rfl, e2⟩; (replace e2 := e2.symm); (subst e2)) | (gi_at_call 10; (with_reducible refine kS.out.mono ?_); rintro e W2 ⟨⟨b, rfl⟩, x1, x2, re, kk⟩; (replace kk := Lib.hid kk); (replace re := Lib.hid re); (cases b)) | (gi_at_call 11; (with_reducible refine (kk.out (by constructor <;> (try simp only [mxT]) <;> omega)).mono ?_); rintro e W3 ⟨⟨v, rfl⟩, re2⟩; (replace re := Lib.hid re2); (clear re2)) | refine (⟨trivial, ?_⟩ : Fence.wide.fn _ ∧ _))
          all_goals
            obtain ⟨x4, kE⟩ := re.out
            replace kE := Lib.hid kE
            clear re kk
            refine wpIn_eager [(0, true), (2, true), (1, false), (3, true)] (fun V => V.cell? ⟨wr.heap.size + 1, 0, none⟩ = some (.int .i64 low)) (by kernel_rfl) (by kernel_rfl) x4 ?_
            repeat (first | (refine wpE_fl rfl rfl (fun _ _ => rfl) ?_; go_simp) | (refine wpE_sk rfl rfl ?_; go_simp) | (refine wpE_fl (v := ?_) rfl rfl ?_ ?_; rotate_left; (intro W' h'; (try dsimp only at h'); go_simp; exact rfl); go_simp) | (refine wpE_ef rfl ?_; go_simp; gi_wp2_with (first | refine (⟨trivial, rfl, ?_⟩ : Fence.wide.fn _ ∧ Fence.wide.depth = none ∧ _) | refine (⟨trivial, trivial, rfl, ?_⟩ : Fence.wide.fn _ ∧ Fence.wide.fn _ ∧ Fence.wide.depth = none ∧ _) | (gi_at_call 9; (with_reducible refine kE.out.mono ?_); rintro e W9 ⟨rfl, x5, fin⟩; (replace fin := Lib.hid fin)) | refine (⟨trivial, ?_⟩ : Fence.wide.fn _ ∧ _)); (first | refine ⟨by first | exact x5 | exact x4, ?_⟩ | skip)))
            refine wpE_nil ?_
            gi_wp2_with (first | refine (⟨trivial, rfl, ?_⟩ : Fence.wide.fn _ ∧ Fence.wide.depth = none ∧ _) | refine (⟨trivial, ?_⟩ : Fence.wide.fn _ ∧ _))
            exact ⟨⟨k + 1, by go_num, by omega, fin.out⟩, by simp [intOf]; omega⟩
        · have hk1b : (kind == 1) = false := by simpa using hk1
          by_cases hk3 : kind = 3
          · subst hk3
            obtain ⟨m, hm0, hm1, hm2, hm3, hm4, hm5⟩ := mod20 nn
            have hnw := ho.nR
            simp only [mxT] at hnw
            have hw6 : IntKind.i64.wrap (now + m) = now + m := Go.IntWalk.i64_in _ ⟨by omega, by omega⟩
            have uD := Upd.drew (fun _ => False) ((wr.alloc (.cells #[.int .i64 3, .int .i64 nn, .string src] 29)).alloc (.cells #[.int .i64 low] 3))
            have g1 := (bA2.upd uD id).cell 1
            have kT := Lib.hid (rise_tick (m := m) (h2.upd uD fun _ _ => id) ho hF u2.stepDrew (bA2.upd uD id) (bL.upd uD id) nL nA (by omega))
            clear hI h2 ho hF hu u2 bA bA2 bL uA uL uD hlt' nL nA e1 hsz' hnw
            gi_wp2_with (first | refine (⟨trivial, rfl, ?_⟩ : Fence.wide.fn _ ∧ Fence.wide.depth = none ∧ _) | (gi_at_call 9; (with_reducible refine kL.out.mono ?_); rintro e W2 ⟨rfl, e2⟩; (replace e2 := e2.symm); (subst e2)) | refine (⟨trivial, ?_⟩ : Fence.wide.fn _ ∧ _))
            refine wpIn_eager [(0, true), (1, true), (3, true), (4, true), (5, true), (6, true), (7, true), (2, false), (8, true), (9, false)] (fun V => V.cell? ⟨wr.heap.size, 1, none⟩ = some (.int .i64 nn)) (by kernel_rfl) (by kernel_rfl) g1 ?_
            repeat (first | (refine wpE_fl rfl rfl (fun _ _ => rfl) ?_; go_simp) | (refine wpE_sk rfl rfl ?_; go_simp) | (refine wpE_fl (v := ?_) rfl rfl ?_ ?_; rotate_left; (intro W' h'; (try dsimp only at h'); go_simp; exact rfl); go_simp) | (refine wpE_ef rfl ?_; go_simp; gi_wp2_with (first | refine (⟨trivial, rfl, ?_⟩ : Fence.wide.fn _ ∧ Fence.wide.depth = none ∧ _) | refine (⟨trivial, trivial, rfl, ?_⟩ : Fence.wide.fn _ ∧ Fence.wide.fn _ ∧ Fence.wide.depth = none ∧ _) | (gi_at_call 13; (with_reducible refine kT.out.mono ?_); rintro e W2 ⟨rfl, g2, kU⟩; (replace kU := Lib.hid kU)) | (gi_at_call 12; (with_reducible refine kU.out.mono ?_); rintro e W3 ⟨⟨v, rfl⟩, g3, kV⟩; (replace kV := Lib.hid kV)) | refine (⟨trivial, ?_⟩ : Fence.wide.fn _ ∧ _)); (first | refine ⟨by first | exact g1 | exact g2 | exact g3, ?_⟩ | skip)))
            refine wpE_nil ?_
            gi_wp2_with (first | refine (⟨trivial, rfl, ?_⟩ : Fence.wide.fn _ ∧ Fence.wide.depth = none ∧ _) | (gi_at_call 9; (with_reducible refine kV.out.mono ?_); rintro e W4 ⟨l2, rfl, hl2, kW⟩; (replace kW := Lib.hid kW)) | (gi_at_call 14; (with_reducible refine kW.out.mono ?_); rintro e W6 ⟨bv, rfl, kX⟩; (replace kX := Lib.hid kX)) | ((with_reducible refine listV1 kX.out ?_ ?_ ?_); rfl; rfl; rintro v W7 ⟨y1, y2, y3, fin⟩; (replace fin := Lib.hid fin); (have hl3 : ¬ l2 < low := (by omega))) | refine (⟨trivial, ?_⟩ : Fence.wide.fn _ ∧ _))
            exact ⟨⟨k + 1, by go_num, by omega, fin.out⟩, by simp [intOf]; omega⟩
          · have hk3b : (kind == 3) = false := by simpa using hk3
            have fin := Lib.hid (show Fin13 mb idle 5 w ((wr.alloc (.cells #[.int .i64 kind, .int .i64 nn, .string src] 29)).alloc (.cells #[.int .i64 low] 3)) from ⟨now, low, ls, F, h2, ho, hF, u2⟩)
            clear hI h2 ho hF hu u2 bA bA2 bL uA uL hlt' nL nA e1 hsz'
            gi_wp2_with (first | refine (⟨trivial, rfl, ?_⟩ : Fence.wide.fn _ ∧ Fence.wide.depth = none ∧ _) | (gi_at_call 9; (with_reducible refine kL.out.mono ?_); rintro e W2 ⟨rfl, e2⟩; (replace e2 := e2.symm); (subst e2)) | refine (⟨trivial, ?_⟩ : Fence.wide.fn _ ∧ _))
            exact ⟨⟨k + 1, by go_num, by omega, fin.out⟩, by simp [intOf]; omega⟩
      · obtain rfl : k = acts.length := by omega
        replace hu := Lib.hid hu
        clear hI ho hF
        gi_wp2_with (first | refine (⟨trivial, rfl, ?_⟩ : Fence.wide.fn _ ∧ Fence.wide.depth = none ∧ _) | refine (⟨trivial, ?_⟩ : Fence.wide.fn _ ∧ _))
        go_ret
        exact ⟨rfl, hu.out⟩
  · have hl' : 60 < acts.length := by omega
    gi_wp2_with (first | refine (⟨trivial, rfl, ?_⟩ : Fence.wide.fn _ ∧ Fence.wide.depth = none ∧ _) | (gi_at_call 7; (with_reducible refine k1.out.mono ?_); rintro e W1 ⟨mb, rfl, k2⟩; (replace k2 := Lib.hid k2)) | (gi_at_call 8; (with_reducible refine k2.out.mono ?_); rintro e W2 ⟨rfl, _, k3⟩; (replace k3 := Lib.hid k3)) | (gi_at_call 8; (with_reducible refine k3.out.mono ?_); rintro e W3 ⟨rfl, u3⟩; (replace u3 := Lib.hid u3)) | refine (⟨trivial, ?_⟩ : Fence.wide.fn _ ∧ _))
    go_ret
    exact ⟨rfl, u3.out⟩
end Go.Proofs.Ytpljdckppmobeaa

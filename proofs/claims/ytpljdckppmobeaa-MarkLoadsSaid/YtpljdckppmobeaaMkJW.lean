/- MarkPlays: play's walk. -/
import Derived.Test.YtpljdckppmobeaaProg
import Derived.Test.YtpljdckppmobeaaBase
import Derived.Test.YtpljdckppmobeaaMkJ
import Derived.Test.YtpljdckppmobeaaMkRW
namespace Go.Proofs.Ytpljdckppmobeaa
open Go.RowKit Go.Shelf
attribute [local go_sem] Oper.semAt_some

set_option maxRecDepth 100000 in
set_option maxHeartbeats 8000000 in
theorem play13_c {n : Nat} {mb : Nat} {idle drain now low : Int} {ls : List (KSM × VSM)} {F : Nat → Prop} {A AA : Option Addr} {cap capA : Nat} {acts : List Act13} {w : World}
    (hI : MkI mb idle drain now low ls F w) (ho : MkOk idle drain now low ls) (hz : ∀ e ∈ ls, e.1.size ≤ maxLen) (hr : Reads1 w A (flatS ls)) (hc : ls.length ≤ cap) (hnA : ∀ j, blkOf' A (flatS ls).length j → ¬ F j)
    (hra : Reads1 w AA (acts.flatMap encC)) (hnAA : ∀ j, blkOf' AA (acts.flatMap encC).length j → ¬ F j) (hsz : ∀ a ∈ acts, a.src.size ≤ maxLen) (hal : acts.length ≤ 100000) :
    CallsIn Fence.wide n Try.prog 19 #[.pointer (some ⟨mb, 0, none⟩), .agg #[.int .i64 now, .int .i64 low, .slice A ls.length cap], .int .i64 idle, .int .i64 drain, .slice AA acts.length capA] w fun e w' => e = .returned (.bool true) ∧ Upd F w w' := by
  have hrwa := Lib.hid fun W (h : Upd F w W) => hra.agree' (w' := W) (h.agree fun j hj => ⟨hra.lt' j hj, hnAA j hj⟩)
  have u0 := Upd.alloc (fun _ => False) w (.cells #[.int .i64 now, .int .i64 low, .slice A ls.length cap] 43)
  have h0 : Fin13p mb w.heap.size idle drain F w (w.alloc (.cells #[.int .i64 now, .int .i64 low, .slice A ls.length cap] 43)) :=
    ⟨now, low, ls, F, A, cap, hI.upd u0 fun _ _ => id, ho, hz, Blk.new _ _ _, hr.agree' (u0.agree fun j hj => ⟨hr.lt' j hj, id⟩), hc, fun h => by have := hI.lt _ h; omega, fun j hj => ⟨hnA j hj, fun e => by have := hr.lt' j hj; omega⟩, fun j hj => .inl hj, Nat.le_refl _, u0.mono fun _ _ h => h.elim⟩
  replace h0 := Lib.hid h0
  clear hI ho hz hr hc hnA hra hnAA u0
  refine callsIn_any (n := 0) (callsIn_of_wp Try.func19 rfl trivial ?_)
  simp only [Try.ntmps19, List.size_toArray, List.length_cons, List.length_nil, Nat.reduceAdd, Nat.reduceSub, Array.replicate_succ, Array.replicate_zero, List.push_toArray, List.append_toArray, List.nil_append, List.cons_append]
  gi_wp2
  gi_loopw [18] (fun u wr => ∃ k : Nat, u = .int .i64 k ∧ k ≤ acts.length ∧ Fin13p mb w.heap.size idle drain F w wr) (fun u _ => acts.length - (intOf u).toNat)
  case atStart => exact ⟨0, rfl, Nat.zero_le _, h0.out⟩
  case round =>
    clear h0
    obtain ⟨k, rfl, hk, hF⟩ := hrel
    by_cases hlt : k < acts.length
    · obtain ⟨now, low, ls, F', A, cap, hP⟩ := hF
      have hsz' := hsz acts[k] (List.getElem_mem _)
      obtain ⟨g, o, rfl, c1, c2, c3⟩ := acts13_at (hrwa.out _ hP.upd) hlt
      have hw5 : IntKind.i64.wrap ((k : Int) + 1) = (k : Int) + 1 := Go.IntWalk.i64_in _ ⟨by omega, by omega⟩
      obtain ⟨a, ha⟩ : ∃ a, acts[k] = a := ⟨_, rfl⟩
      rw [ha] at c1 c2 c3 hsz'
      clear ha
      obtain ⟨kind, nn, src⟩ := a
      simp only at c1 c2 c3 hsz'
      have bA := Blk.new wr #[.int .i64 kind, .int .i64 nn, .string src] 29
      have hQ := hP.step (Upd.alloc (fun _ => False) wr (.cells #[.int .i64 kind, .int .i64 nn, .string src] 29))
      have hnF : ¬ F' wr.heap.size := fun h => by have := hP.mark.lt _ h; omega
      have hnw := hP.ok.nR
      simp only [mxT] at hnw
      have f0 : (wr.alloc (.cells #[.int .i64 kind, .int .i64 nn, .string src] 29)).cell? ⟨wr.heap.size, 0, none⟩ = some (.int .i64 kind) := bA.cell 0
      have f1 : (wr.alloc (.cells #[.int .i64 kind, .int .i64 nn, .string src] 29)).cell? ⟨wr.heap.size, 1, none⟩ = some (.int .i64 nn) := bA.cell 1
      have f2 : (wr.alloc (.cells #[.int .i64 kind, .int .i64 nn, .string src] 29)).cell? ⟨wr.heap.size, 2, none⟩ = some (.string src) := bA.cell 2
      obtain ⟨q0, q1, q2⟩ := d3 hQ.blk
      by_cases hk1 : kind = 1
      · subst hk1
        have kS := Lib.hid (hQ.act1 bA hnF hsz')
        clear hP hQ bA hsz' hnF
        by_cases hnn : 0 ≤ nn ∧ nn ≤ 1099511627776
        · obtain ⟨hn0, hn1⟩ := hnn
          gi_wp2_with (first | refine (⟨trivial, rfl, ?_⟩ : Fence.wide.fn _ ∧ Fence.wide.depth = none ∧ _) | (gi_at_call 10; (with_reducible refine kS.out.mono ?_); rintro e W2 ⟨⟨b, rfl⟩, x1, hS, kk⟩; (replace kk := Lib.hid (kk ⟨hn0, hn1⟩)); (replace hS := Lib.hid hS); (cases b)) | refine (⟨trivial, ?_⟩ : Fence.wide.fn _ ∧ _))
          · exact ⟨⟨k + 1, by go_num, by omega, hS.out⟩, by simp [intOf]; omega⟩
          · obtain ⟨⟨⟨p0, p1, p2⟩, p3⟩, kT⟩ := kk.out
            replace kT := Lib.hid kT
            clear kk hS kS
            refine wpIn_eager [(0, true), (1, true), (2, true), (4, true), (5, true), (6, true), (3, false), (7, false), (8, true)] (fun V => (V.cell? ⟨w.heap.size, 0, none⟩ = some (.int .i64 now) ∧ V.cell? ⟨w.heap.size, 1, none⟩ = some (.int .i64 low) ∧ V.cell? ⟨w.heap.size, 2, none⟩ = some (.slice A ls.length cap)) ∧ V.cell? ⟨wr.heap.size, 2, none⟩ = some (.string src)) (by kernel_rfl) (by kernel_rfl) ⟨⟨p0, p1, p2⟩, p3⟩ ?_
            repeat (first | (refine wpE_fl rfl rfl (fun _ _ => rfl) ?_; go_simp) | (refine wpE_sk rfl rfl ?_; go_simp) | (refine wpE_fl (v := ?_) rfl rfl ?_ ?_; rotate_left; (intro W' h'; (try dsimp only at h'); go_simp; exact rfl); go_simp) | (refine wpE_ef rfl ?_; go_simp; gi_wp2_with (first | refine (⟨trivial, rfl, ?_⟩ : Fence.wide.fn _ ∧ Fence.wide.depth = none ∧ _) | refine (⟨trivial, trivial, rfl, ?_⟩ : Fence.wide.fn _ ∧ Fence.wide.fn _ ∧ Fence.wide.depth = none ∧ _) | (gi_at_call 27; (with_reducible refine kT.out.mono ?_); rintro e W3 ⟨c, rfl, hV3, k3⟩; (replace k3 := Lib.hid k3)) | (gi_at_call 33; (with_reducible refine k3.out.mono ?_); rintro e W4 ⟨rfl, hV4, y1, k4⟩; (have y2 := hV4.2); (replace k4 := Lib.hid k4)) | refine (⟨trivial, ?_⟩ : Fence.wide.fn _ ∧ _)); (first | refine ⟨by first | exact ⟨⟨p0, p1, p2⟩, p3⟩ | exact hV3 | exact hV4, ?_⟩ | skip)))
            refine wpE_nil ?_
            gi_wp2_with (first | refine (⟨trivial, rfl, ?_⟩ : Fence.wide.fn _ ∧ Fence.wide.depth = none ∧ _) | (gi_at_call 11; (with_reducible refine k4.out.mono ?_); rintro e W5 ⟨rfl, ⟨⟨z0, z1, z2⟩, z3⟩, z4, k5⟩; (replace k5 := Lib.hid k5)) | (gi_at_call 34; (with_reducible refine k5.out.mono ?_); rintro e W6 ⟨A6, m6, c6, rfl, ⟨x0, x1, x2, hB⟩, kU⟩; (have b0 : W6.cell? ⟨w.heap.size, 0, none⟩ = some x0 := hB.cell 0); (have b1 : W6.cell? ⟨w.heap.size, 1, none⟩ = some x1 := hB.cell 1); (have b2 : W6.cell? ⟨w.heap.size, 2, none⟩ = some x2 := hB.cell 2); (have fr0 := hB.frozen 0); (have fr1 := hB.frozen 1); (have fr2 := hB.frozen 2); (have blt := hB.lt); (clear hB); (replace kU := Lib.hid kU)) | refine (⟨trivial, ?_⟩ : Fence.wide.fn _ ∧ _))
            obtain ⟨⟨p0, p1, p2⟩, t1⟩ := kU.out
            replace t1 := Lib.hid t1
            clear kU
            refine wpIn_eager [(0, true), (1, true), (2, true), (3, true), (4, true), (6, true), (7, true), (5, false), (8, true), (9, true), (10, true), (11, true), (13, true), (14, true), (12, false), (15, true), (16, true), (17, true), (18, true), (21, true), (19, false), (20, false), (22, false), (23, true), (24, true), (25, true), (26, true), (27, true), (28, true), (29, false), (30, false), (31, true), (32, true)] (fun V => V.cell? ⟨w.heap.size, 0, none⟩ = some (.int .i64 now) ∧ V.cell? ⟨w.heap.size, 1, none⟩ = some (.int .i64 low) ∧ V.cell? ⟨w.heap.size, 2, none⟩ = some (.slice A6 m6 c6)) (by kernel_rfl) (by kernel_rfl) ⟨p0, p1, p2⟩ ?_
            repeat (first | (refine wpE_fl rfl rfl (fun _ _ => rfl) ?_; go_simp) | (refine wpE_sk rfl rfl ?_; go_simp) | (refine wpE_fl (v := ?_) rfl rfl ?_ ?_; rotate_left; (intro W' h'; (try dsimp only at h'); go_simp; exact rfl); go_simp) | (refine wpE_ef rfl ?_; go_simp; gi_wp2_with (first | refine (⟨trivial, rfl, ?_⟩ : Fence.wide.fn _ ∧ Fence.wide.depth = none ∧ _) | refine (⟨trivial, trivial, rfl, ?_⟩ : Fence.wide.fn _ ∧ Fence.wide.fn _ ∧ Fence.wide.depth = none ∧ _) | (gi_at_call 13; (with_reducible refine t1.out.mono ?_); rintro e V1 ⟨rfl, hv1, t2⟩; (replace t2 := Lib.hid t2)) | (gi_at_call 9; (with_reducible refine t2.out.mono ?_); rintro e V2 ⟨rfl, hv2, t3⟩; (replace t3 := Lib.hid t3)) | (gi_at_call 18; (with_reducible refine t3.out.mono ?_); rintro e V3 ⟨s3, rfl, hv3, t4⟩; (replace t4 := Lib.hid t4)) | (gi_at_call 17; (with_reducible refine t4.out.mono ?_); rintro e V4 ⟨s4, rfl, hv4, t5⟩; (replace t5 := Lib.hid t5)) | (gi_at_call 16; (with_reducible refine t5.out.mono ?_); rintro e V5 ⟨rfl, hv5, t6⟩; (replace t6 := Lib.hid t6)) | (gi_at_call 37; (with_reducible refine t6.out.mono ?_); rintro e V6 ⟨s6, rfl, hv6, t7⟩; (replace t7 := Lib.hid t7)) | (gi_at_call 36; (with_reducible refine t7.out.mono ?_); rintro e V7 ⟨rfl, hv7, fin⟩; (replace fin := Lib.hid fin)) | refine (⟨trivial, ?_⟩ : Fence.wide.fn _ ∧ _)); (first | refine ⟨by first | exact ⟨p0, p1, p2⟩ | exact hv1 | exact hv2 | exact hv3 | exact hv4 | exact hv5 | exact hv6 | exact hv7, ?_⟩ | skip)))
            refine wpE_nil ?_
            gi_wp2_with (first | refine (⟨trivial, rfl, ?_⟩ : Fence.wide.fn _ ∧ Fence.wide.depth = none ∧ _) | refine (⟨trivial, ?_⟩ : Fence.wide.fn _ ∧ _))
            exact ⟨⟨k + 1, by go_num, by omega, fin.out⟩, by simp [intOf]; omega⟩
        · by_cases hn0 : 0 ≤ nn
          · have hn1 : ¬ nn ≤ 1099511627776 := fun h => hnn ⟨hn0, h⟩
            clear hnn
            gi_wp2_with (first | refine (⟨trivial, rfl, ?_⟩ : Fence.wide.fn _ ∧ Fence.wide.depth = none ∧ _) | (gi_at_call 10; (with_reducible refine kS.out.mono ?_); rintro e W2 ⟨⟨b, rfl⟩, x1, hS, kk⟩; (clear kk); (replace hS := Lib.hid hS); (cases b)) | refine (⟨trivial, ?_⟩ : Fence.wide.fn _ ∧ _))
            all_goals exact ⟨⟨k + 1, by go_num, by omega, hS.out⟩, by simp [intOf]; omega⟩
          · clear hnn
            gi_wp2_with (first | refine (⟨trivial, rfl, ?_⟩ : Fence.wide.fn _ ∧ Fence.wide.depth = none ∧ _) | (gi_at_call 10; (with_reducible refine kS.out.mono ?_); rintro e W2 ⟨⟨b, rfl⟩, x1, hS, kk⟩; (clear kk); (replace hS := Lib.hid hS); (cases b)) | refine (⟨trivial, ?_⟩ : Fence.wide.fn _ ∧ _))
            all_goals exact ⟨⟨k + 1, by go_num, by omega, hS.out⟩, by simp [intOf]; omega⟩
      · have hk1b : (kind == 1) = false := by simpa using hk1
        by_cases hk2 : kind = 2
        · subst hk2
          have kS := Lib.hid (hQ.tick bA hnF nn)
          clear hP hQ bA hsz' hnF
          gi_wp2_with (first | refine (⟨trivial, rfl, ?_⟩ : Fence.wide.fn _ ∧ Fence.wide.depth = none ∧ _) | (gi_at_call 12; (with_reducible refine kS.out.mono ?_); rintro e W5 ⟨c, rfl, ⟨z0, z1, z2⟩, z4, k5⟩; (replace k5 := Lib.hid k5)) | (gi_at_call 35; (with_reducible refine k5.out.mono ?_); rintro e W6 ⟨n2, l2, A6, m6, c6, rfl, ⟨x0, x1, x2, hB⟩, kU⟩; (have b0 : W6.cell? ⟨w.heap.size, 0, none⟩ = some x0 := hB.cell 0); (have b1 : W6.cell? ⟨w.heap.size, 1, none⟩ = some x1 := hB.cell 1); (have b2 : W6.cell? ⟨w.heap.size, 2, none⟩ = some x2 := hB.cell 2); (have fr0 := hB.frozen 0); (have fr1 := hB.frozen 1); (have fr2 := hB.frozen 2); (have blt := hB.lt); (clear hB); (replace kU := Lib.hid kU)) | refine (⟨trivial, ?_⟩ : Fence.wide.fn _ ∧ _))
          obtain ⟨⟨p0, p1, p2⟩, t1⟩ := kU.out
          replace t1 := Lib.hid t1
          clear kU
          refine wpIn_eager [(0, true), (1, true), (2, true), (3, true), (4, true), (6, true), (7, true), (5, false), (8, true), (9, true), (10, true), (11, true), (13, true), (14, true), (12, false), (15, true), (16, true), (17, true), (18, true), (21, true), (19, false), (20, false), (22, false), (23, true), (24, true), (25, true), (26, true), (27, true), (28, true), (29, false), (30, false), (31, true), (32, true)] (fun V => V.cell? ⟨w.heap.size, 0, none⟩ = some (.int .i64 n2) ∧ V.cell? ⟨w.heap.size, 1, none⟩ = some (.int .i64 l2) ∧ V.cell? ⟨w.heap.size, 2, none⟩ = some (.slice A6 m6 c6)) (by kernel_rfl) (by kernel_rfl) ⟨p0, p1, p2⟩ ?_
          repeat (first | (refine wpE_fl rfl rfl (fun _ _ => rfl) ?_; go_simp) | (refine wpE_sk rfl rfl ?_; go_simp) | (refine wpE_fl (v := ?_) rfl rfl ?_ ?_; rotate_left; (intro W' h'; (try dsimp only at h'); go_simp; exact rfl); go_simp) | (refine wpE_ef rfl ?_; go_simp; gi_wp2_with (first | refine (⟨trivial, rfl, ?_⟩ : Fence.wide.fn _ ∧ Fence.wide.depth = none ∧ _) | refine (⟨trivial, trivial, rfl, ?_⟩ : Fence.wide.fn _ ∧ Fence.wide.fn _ ∧ Fence.wide.depth = none ∧ _) | (gi_at_call 13; (with_reducible refine t1.out.mono ?_); rintro e V1 ⟨rfl, hv1, t2⟩; (replace t2 := Lib.hid t2)) | (gi_at_call 9; (with_reducible refine t2.out.mono ?_); rintro e V2 ⟨rfl, hv2, t3⟩; (replace t3 := Lib.hid t3)) | (gi_at_call 18; (with_reducible refine t3.out.mono ?_); rintro e V3 ⟨s3, rfl, hv3, t4⟩; (replace t4 := Lib.hid t4)) | (gi_at_call 17; (with_reducible refine t4.out.mono ?_); rintro e V4 ⟨s4, rfl, hv4, t5⟩; (replace t5 := Lib.hid t5)) | (gi_at_call 16; (with_reducible refine t5.out.mono ?_); rintro e V5 ⟨rfl, hv5, t6⟩; (replace t6 := Lib.hid t6)) | (gi_at_call 37; (with_reducible refine t6.out.mono ?_); rintro e V6 ⟨s6, rfl, hv6, t7⟩; (replace t7 := Lib.hid t7)) | (gi_at_call 36; (with_reducible refine t7.out.mono ?_); rintro e V7 ⟨rfl, hv7, fin⟩; (replace fin := Lib.hid fin)) | refine (⟨trivial, ?_⟩ : Fence.wide.fn _ ∧ _)); (first | refine ⟨by first | exact ⟨p0, p1, p2⟩ | exact hv1 | exact hv2 | exact hv3 | exact hv4 | exact hv5 | exact hv6 | exact hv7, ?_⟩ | skip)))
          refine wpE_nil ?_
          gi_wp2_with (first | refine (⟨trivial, rfl, ?_⟩ : Fence.wide.fn _ ∧ Fence.wide.depth = none ∧ _) | refine (⟨trivial, ?_⟩ : Fence.wide.fn _ ∧ _))
          exact ⟨⟨k + 1, by go_num, by omega, fin.out⟩, by simp [intOf]; omega⟩
        · have hk2b : (kind == 2) = false := by simpa using hk2
          by_cases hk3 : kind = 3
          · subst hk3
            obtain ⟨m, hm0, hm1, hm2, hm3, hm4, hm5⟩ := mod20 nn
            have hw6 : IntKind.i64.wrap (now + m) = now + m := Go.IntWalk.i64_in _ ⟨by omega, by omega⟩
            have kS := Lib.hid (hQ.tick bA hnF (now + m))
            clear hP hQ bA hsz' hnF
            gi_wp2_with (first | refine (⟨trivial, rfl, ?_⟩ : Fence.wide.fn _ ∧ Fence.wide.depth = none ∧ _) | (gi_at_call 12; (with_reducible refine kS.out.mono ?_); rintro e W5 ⟨c, rfl, ⟨z0, z1, z2⟩, z4, k5⟩; (replace k5 := Lib.hid k5)) | (gi_at_call 35; (with_reducible refine k5.out.mono ?_); rintro e W6 ⟨n2, l2, A6, m6, c6, rfl, ⟨x0, x1, x2, hB⟩, kU⟩; (have b0 : W6.cell? ⟨w.heap.size, 0, none⟩ = some x0 := hB.cell 0); (have b1 : W6.cell? ⟨w.heap.size, 1, none⟩ = some x1 := hB.cell 1); (have b2 : W6.cell? ⟨w.heap.size, 2, none⟩ = some x2 := hB.cell 2); (have fr0 := hB.frozen 0); (have fr1 := hB.frozen 1); (have fr2 := hB.frozen 2); (have blt := hB.lt); (clear hB); (replace kU := Lib.hid kU)) | refine (⟨trivial, ?_⟩ : Fence.wide.fn _ ∧ _))
            obtain ⟨⟨p0, p1, p2⟩, t1⟩ := kU.out
            replace t1 := Lib.hid t1
            clear kU
            refine wpIn_eager [(0, true), (1, true), (2, true), (3, true), (4, true), (6, true), (7, true), (5, false), (8, true), (9, true), (10, true), (11, true), (13, true), (14, true), (12, false), (15, true), (16, true), (17, true), (18, true), (21, true), (19, false), (20, false), (22, false), (23, true), (24, true), (25, true), (26, true), (27, true), (28, true), (29, false), (30, false), (31, true), (32, true)] (fun V => V.cell? ⟨w.heap.size, 0, none⟩ = some (.int .i64 n2) ∧ V.cell? ⟨w.heap.size, 1, none⟩ = some (.int .i64 l2) ∧ V.cell? ⟨w.heap.size, 2, none⟩ = some (.slice A6 m6 c6)) (by kernel_rfl) (by kernel_rfl) ⟨p0, p1, p2⟩ ?_
            repeat (first | (refine wpE_fl rfl rfl (fun _ _ => rfl) ?_; go_simp) | (refine wpE_sk rfl rfl ?_; go_simp) | (refine wpE_fl (v := ?_) rfl rfl ?_ ?_; rotate_left; (intro W' h'; (try dsimp only at h'); go_simp; exact rfl); go_simp) | (refine wpE_ef rfl ?_; go_simp; gi_wp2_with (first | refine (⟨trivial, rfl, ?_⟩ : Fence.wide.fn _ ∧ Fence.wide.depth = none ∧ _) | refine (⟨trivial, trivial, rfl, ?_⟩ : Fence.wide.fn _ ∧ Fence.wide.fn _ ∧ Fence.wide.depth = none ∧ _) | (gi_at_call 13; (with_reducible refine t1.out.mono ?_); rintro e V1 ⟨rfl, hv1, t2⟩; (replace t2 := Lib.hid t2)) | (gi_at_call 9; (with_reducible refine t2.out.mono ?_); rintro e V2 ⟨rfl, hv2, t3⟩; (replace t3 := Lib.hid t3)) | (gi_at_call 18; (with_reducible refine t3.out.mono ?_); rintro e V3 ⟨s3, rfl, hv3, t4⟩; (replace t4 := Lib.hid t4)) | (gi_at_call 17; (with_reducible refine t4.out.mono ?_); rintro e V4 ⟨s4, rfl, hv4, t5⟩; (replace t5 := Lib.hid t5)) | (gi_at_call 16; (with_reducible refine t5.out.mono ?_); rintro e V5 ⟨rfl, hv5, t6⟩; (replace t6 := Lib.hid t6)) | (gi_at_call 37; (with_reducible refine t6.out.mono ?_); rintro e V6 ⟨s6, rfl, hv6, t7⟩; (replace t7 := Lib.hid t7)) | (gi_at_call 36; (with_reducible refine t7.out.mono ?_); rintro e V7 ⟨rfl, hv7, fin⟩; (replace fin := Lib.hid fin)) | refine (⟨trivial, ?_⟩ : Fence.wide.fn _ ∧ _)); (first | refine ⟨by first | exact ⟨p0, p1, p2⟩ | exact hv1 | exact hv2 | exact hv3 | exact hv4 | exact hv5 | exact hv6 | exact hv7, ?_⟩ | skip)))
            refine wpE_nil ?_
            gi_wp2_with (first | refine (⟨trivial, rfl, ?_⟩ : Fence.wide.fn _ ∧ Fence.wide.depth = none ∧ _) | refine (⟨trivial, ?_⟩ : Fence.wide.fn _ ∧ _))
            exact ⟨⟨k + 1, by go_num, by omega, fin.out⟩, by simp [intOf]; omega⟩
          · have hk3b : (kind == 3) = false := by simpa using hk3
            have kT := Lib.hid hQ.tailD
            clear hP hQ bA hsz' hnF
            gi_wp2_with (first | refine (⟨trivial, rfl, ?_⟩ : Fence.wide.fn _ ∧ Fence.wide.depth = none ∧ _) | refine (⟨trivial, ?_⟩ : Fence.wide.fn _ ∧ _))
            obtain ⟨⟨p0, p1, p2⟩, t1⟩ := kT.out
            replace t1 := Lib.hid t1
            clear kT
            refine wpIn_eager [(0, true), (1, true), (2, true), (3, true), (4, true), (6, true), (7, true), (5, false), (8, true), (9, true), (10, true), (11, true), (13, true), (14, true), (12, false), (15, true), (16, true), (17, true), (18, true), (21, true), (19, false), (20, false), (22, false), (23, true), (24, true), (25, true), (26, true), (27, true), (28, true), (29, false), (30, false), (31, true), (32, true)] (fun V => V.cell? ⟨w.heap.size, 0, none⟩ = some (.int .i64 now) ∧ V.cell? ⟨w.heap.size, 1, none⟩ = some (.int .i64 low) ∧ V.cell? ⟨w.heap.size, 2, none⟩ = some (.slice A ls.length cap)) (by kernel_rfl) (by kernel_rfl) ⟨p0, p1, p2⟩ ?_
            repeat (first | (refine wpE_fl rfl rfl (fun _ _ => rfl) ?_; go_simp) | (refine wpE_sk rfl rfl ?_; go_simp) | (refine wpE_fl (v := ?_) rfl rfl ?_ ?_; rotate_left; (intro W' h'; (try dsimp only at h'); go_simp; exact rfl); go_simp) | (refine wpE_ef rfl ?_; go_simp; gi_wp2_with (first | refine (⟨trivial, rfl, ?_⟩ : Fence.wide.fn _ ∧ Fence.wide.depth = none ∧ _) | refine (⟨trivial, trivial, rfl, ?_⟩ : Fence.wide.fn _ ∧ Fence.wide.fn _ ∧ Fence.wide.depth = none ∧ _) | (gi_at_call 13; (with_reducible refine t1.out.mono ?_); rintro e V1 ⟨rfl, hv1, t2⟩; (replace t2 := Lib.hid t2)) | (gi_at_call 9; (with_reducible refine t2.out.mono ?_); rintro e V2 ⟨rfl, hv2, t3⟩; (replace t3 := Lib.hid t3)) | (gi_at_call 18; (with_reducible refine t3.out.mono ?_); rintro e V3 ⟨s3, rfl, hv3, t4⟩; (replace t4 := Lib.hid t4)) | (gi_at_call 17; (with_reducible refine t4.out.mono ?_); rintro e V4 ⟨s4, rfl, hv4, t5⟩; (replace t5 := Lib.hid t5)) | (gi_at_call 16; (with_reducible refine t5.out.mono ?_); rintro e V5 ⟨rfl, hv5, t6⟩; (replace t6 := Lib.hid t6)) | (gi_at_call 37; (with_reducible refine t6.out.mono ?_); rintro e V6 ⟨s6, rfl, hv6, t7⟩; (replace t7 := Lib.hid t7)) | (gi_at_call 36; (with_reducible refine t7.out.mono ?_); rintro e V7 ⟨rfl, hv7, fin⟩; (replace fin := Lib.hid fin)) | refine (⟨trivial, ?_⟩ : Fence.wide.fn _ ∧ _)); (first | refine ⟨by first | exact ⟨p0, p1, p2⟩ | exact hv1 | exact hv2 | exact hv3 | exact hv4 | exact hv5 | exact hv6 | exact hv7, ?_⟩ | skip)))
            refine wpE_nil ?_
            gi_wp2_with (first | refine (⟨trivial, rfl, ?_⟩ : Fence.wide.fn _ ∧ Fence.wide.depth = none ∧ _) | refine (⟨trivial, ?_⟩ : Fence.wide.fn _ ∧ _))
            exact ⟨⟨k + 1, by go_num, by omega, fin.out⟩, by simp [intOf]; omega⟩
    · obtain rfl : k = acts.length := by omega
      obtain ⟨now, low, v, ⟨q0, q1, q2⟩, kE⟩ := hF.end
      replace kE := Lib.hid kE
      clear hF
      gi_wp2_with (first | refine (⟨trivial, rfl, ?_⟩ : Fence.wide.fn _ ∧ Fence.wide.depth = none ∧ _) | (gi_at_call 37; (with_reducible refine kE.out.mono ?_); rintro e W6 ⟨a, rfl, k6⟩; (replace k6 := Lib.hid k6)) | (gi_at_call 36; (with_reducible refine k6.out.mono ?_); rintro e W7 ⟨rfl, u7⟩; (replace u7 := Lib.hid u7)) | refine (⟨trivial, ?_⟩ : Fence.wide.fn _ ∧ _))
      go_ret
      exact ⟨rfl, u7.out⟩
end Go.Proofs.Ytpljdckppmobeaa

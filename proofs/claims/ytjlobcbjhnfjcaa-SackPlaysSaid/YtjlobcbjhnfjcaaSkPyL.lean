/- SackPlays: the walk. -/
import Derived.Test.YtjlobcbjhnfjcaaProg
import Derived.Test.YtjlobcbjhnfjcaaBase
import Derived.Test.YtjlobcbjhnfjcaaSkPyA
namespace Go.Proofs.Ytjlobcbjhnfjcaa
open Go.RowKit Go.Shelf
attribute [local go_sem] Oper.semAt_some

set_option maxRecDepth 100000 in
set_option maxHeartbeats 8000000 in
theorem sackPlays_law {n : Nat} {w : World} {AA : Option Addr} {capA : Nat} {acts : List Act06} {room : Int} {mo : Nat} (hra : Reads1 w AA (acts.flatMap encB)) (hmo : mo < 256) :
    CallsIn Fence.wide n Try.prog 5 #[.int .i64 room, .slice AA acts.length capA, .int .u8 mo] w fun e w' => e = .returned (.bool true) ∧ Upd (fun _ => False) w w' := by
  have hrwa := Lib.hid fun W (h : Upd (fun _ => False) w W) => hra.agree' (w' := W) (h.agree fun j hj => ⟨hra.lt' j hj, id⟩)
  clear hra
  have k1 := (awake_c (n := 0) (w := w)).mono (R' := fun e W1 => e = .returned (.bool true) ∧ CallsIn Fence.wide 0 Try.prog 7 #[] W1 (fun e W2 => e = .returned (.bool true) ∧ Upd (fun _ => False) w W2) ∧
    (0 ≤ room ∧ room ≤ 1000 → CallsIn Fence.wide 0 Try.prog 15 #[.int .i64 room] W1 fun e W2 => ∃ sb, e = .returned (.tuple #[.pointer (some ⟨sb, 0, none⟩), .int .i64 0]) ∧ Fin06 sb room 0 none 0 w W2) ∧
    (¬ (0 ≤ room ∧ room ≤ 1000) → CallsIn Fence.wide 0 Try.prog 15 #[.int .i64 room] W1 fun e W2 => e = .returned (.tuple #[.pointer none, .int .i64 1]) ∧ Upd (fun _ => False) w W2)) (by
    rintro e W1 ⟨rfl, u1⟩
    refine ⟨rfl, (awake_c (n := 0)).mono (by rintro e W2 ⟨rfl, u2⟩; exact ⟨rfl, u1.trans' u2⟩), fun hr => (sackNewI (n := 0) hr).mono ?_, fun hr => (sackNewNoI (n := 0) hr).mono (by rintro e W2 ⟨rfl, u2⟩; exact ⟨rfl, u1.trans' u2⟩)⟩
    rintro e W2 ⟨sb, F, rfl, g1, g2, g3⟩
    have z1 := u1.size
    exact ⟨sb, rfl, [], F, rfl, g1, fun i v hv => by simp [intsV] at hv, Nat.le_refl _, List.Pairwise.nil, fun j hj => Nat.le_trans z1 (g2 j hj), fun j hj => (by obtain ⟨_, e, _⟩ := hj; cases e), u1.trans' g3⟩)
  replace k1 := Lib.hid k1
  refine callsIn_any (n := 0) (callsIn_of_wp Try.func5 rfl trivial ?_)
  simp only [Try.ntmps5, List.size_toArray, List.length_cons, List.length_nil, Nat.reduceAdd, Nat.reduceSub, Array.replicate_succ, Array.replicate_zero, List.push_toArray, List.append_toArray, List.nil_append, List.cons_append]
  by_cases hl : acts.length ≤ 100
  · by_cases hroom : 0 ≤ room ∧ room ≤ 1000
    · skip
      gi_wp2_with (first | refine (⟨trivial, rfl, ?_⟩ : Fence.wide.fn _ ∧ Fence.wide.depth = none ∧ _) | (gi_at_call 7; (with_reducible refine k1.out.mono ?_); rintro e W1 ⟨rfl, _, k2, _⟩; (replace k2 := Lib.hid (k2 hroom))) | (gi_at_call 15; (with_reducible refine k2.out.mono ?_); rintro e W2 ⟨sb, rfl, h0⟩; (replace h0 := Lib.hid h0)) | refine (⟨trivial, ?_⟩ : Fence.wide.fn _ ∧ _))
      clear k1
      gi_loopw [9, 48] (fun v u wr => ∃ (k m : Nat) (A : Option Addr) (cap : Nat), v = .slice A m cap ∧ u = .int .i64 k ∧ k ≤ acts.length ∧ Fin06 sb room m A cap w wr) (fun _ u _ => acts.length - (intOf u).toNat)
      case atStart => exact ⟨0, 0, none, 0, rfl, rfl, Nat.zero_le _, h0.out⟩
      case round =>
        clear h0
        obtain ⟨k, m, A, cap, rfl, rfl, hk, hF⟩ := hrel
        by_cases hlt : k < acts.length
        · obtain ⟨L, F, rfl, h⟩ := hF
          obtain ⟨g, o, rfl, c1, c2⟩ := acts6_at (hrwa.out _ h.base) hlt
          have hw5 : IntKind.i64.wrap ((k : Int) + 1) = (k : Int) + 1 := Go.IntWalk.i64_in _ ⟨by omega, by omega⟩
          have hnF : ¬ F wr.heap.size := fun hF => by have := h.sack.lt _ hF; omega
          have hLr := h.sack.len_le
          generalize acts[k] = a at *
          obtain ⟨kind, x⟩ := a
          simp only at c1 c2
          have hA := h.upd (Upd.alloc (fun _ => False) wr (.cells #[.int .i64 kind, .int .i64 x] 44))
          have hB := Blk.new wr #[.int .i64 kind, .int .i64 x] 44
          have e1 := hB.cell 0
          have e2 := hB.cell 1
          by_cases hk1 : kind = 1
          · subst hk1
            by_cases hfull : (L.length : Int) = room
            · have kA := Lib.hid (act1full hA hB hfull)
              have hge : room ≤ (L.length : Int) := by omega
              clear hA hB h hnF hfull e1 e2
              obtain ⟨m', hm'⟩ : ∃ m', L.length = m' := ⟨_, rfl⟩
              rw [hm'] at kA hge
              rw [hm']
              clear hm' hLr
              gi_wp2_with (first | refine (⟨trivial, rfl, ?_⟩ : Fence.wide.fn _ ∧ Fence.wide.depth = none ∧ _) | (gi_at_call 17; (with_reducible refine kA.out.mono ?_); rintro e W4 ⟨rfl, ask⟩; (obtain ⟨hm1, hm2, d0, t1⟩ := ask); (have hw6 := Go.IntWalk.i64_in (room - (m' : Int)) ⟨by omega, by omega⟩); (replace t1 := Lib.hid t1)) | refine (⟨trivial, ?_⟩ : Fence.wide.fn _ ∧ _))
              refine wpIn_eager [(0, true), (2, true), (3, true), (1, false), (4, true), (5, true), (6, true), (8, true), (9, true), (10, true), (11, true), (7, false), (12, true), (13, true), (14, true), (15, true), (16, true), (17, true), (19, true), (20, true), (21, true), (18, false), (22, false), (23, true), (24, true)] (fun V => V.cell? ⟨wr.heap.size, 1, none⟩ = some (.int .i64 x)) (by kernel_rfl) (by kernel_rfl) d0 ?_
              repeat (first | (refine wpE_fl rfl rfl (fun _ _ => rfl) ?_; go_simp) | (refine wpE_sk rfl rfl ?_; go_simp) | (refine wpE_fl (v := ?_) rfl rfl ?_ ?_; rotate_left; (intro W' h'; (try dsimp only at h'); go_simp; exact rfl); go_simp) | (refine wpE_ef rfl ?_; go_simp; gi_wp2_with (first | refine (⟨trivial, rfl, ?_⟩ : Fence.wide.fn _ ∧ Fence.wide.depth = none ∧ _) | refine (⟨trivial, trivial, rfl, ?_⟩ : Fence.wide.fn _ ∧ Fence.wide.fn _ ∧ Fence.wide.depth = none ∧ _) | (gi_at_call 21; (with_reducible refine t1.out.mono ?_); rintro e V1 ⟨rfl, d1, t2⟩; (replace t2 := Lib.hid t2)) | (gi_at_call 22; (with_reducible refine t2.out.mono ?_); rintro e V2 ⟨rfl, d2, cc, t3⟩; (replace t3 := Lib.hid t3)) | (gi_at_call 23; (with_reducible refine t3.out.mono ?_); rintro e V3 ⟨rfl, d3, t4⟩; (replace t4 := Lib.hid t4)) | (gi_at_call 14; (with_reducible refine t4.out.mono ?_); rintro e V4 ⟨rfl, d4, fin⟩; (replace fin := Lib.hid fin)) | refine (⟨trivial, ?_⟩ : Fence.wide.fn _ ∧ _)); (first | refine ⟨by first | exact d0 | exact d1 | exact d2 | exact d3 | exact d4, ?_⟩ | skip)))
              refine wpE_nil ?_
              gi_wp2_with (first | refine (⟨trivial, rfl, ?_⟩ : Fence.wide.fn _ ∧ Fence.wide.depth = none ∧ _) | refine (⟨trivial, ?_⟩ : Fence.wide.fn _ ∧ _))
              exact ⟨⟨k + 1, m', A, cap, rfl, by go_num, by omega, fin.out⟩, by simp [intOf]; omega⟩

            · have kA := Lib.hid (act1 hA hB hnF (by omega))
              have hge : (L.length : Int) < room := by omega
              clear hA hB h hnF hfull e1 e2
              obtain ⟨m0, hm0⟩ : ∃ m0, L.length = m0 := ⟨_, rfl⟩
              rw [hm0] at kA hge
              rw [hm0]
              clear hm0 hLr
              gi_wp2_with (first | refine (⟨trivial, rfl, ?_⟩ : Fence.wide.fn _ ∧ Fence.wide.depth = none ∧ _) | (gi_at_call 16; (with_reducible refine kA.out.mono ?_); rintro e W3 ⟨m', A', cap', rfl, d9, kB⟩; (replace kB := Lib.hid kB)) | (gi_at_call 17; (with_reducible refine kB.out.mono ?_); rintro e W4 ⟨rfl, ask⟩; (obtain ⟨hm1, hm2, d0, t1⟩ := ask); (have hw6 := Go.IntWalk.i64_in (room - (m' : Int)) ⟨by omega, by omega⟩); (replace t1 := Lib.hid t1)) | refine (⟨trivial, ?_⟩ : Fence.wide.fn _ ∧ _))
              refine wpIn_eager [(0, true), (2, true), (3, true), (1, false), (4, true), (5, true), (6, true), (8, true), (9, true), (10, true), (11, true), (7, false), (12, true), (13, true), (14, true), (15, true), (16, true), (17, true), (19, true), (20, true), (21, true), (18, false), (22, false), (23, true), (24, true)] (fun V => V.cell? ⟨wr.heap.size, 1, none⟩ = some (.int .i64 x)) (by kernel_rfl) (by kernel_rfl) d0 ?_
              repeat (first | (refine wpE_fl rfl rfl (fun _ _ => rfl) ?_; go_simp) | (refine wpE_sk rfl rfl ?_; go_simp) | (refine wpE_fl (v := ?_) rfl rfl ?_ ?_; rotate_left; (intro W' h'; (try dsimp only at h'); go_simp; exact rfl); go_simp) | (refine wpE_ef rfl ?_; go_simp; gi_wp2_with (first | refine (⟨trivial, rfl, ?_⟩ : Fence.wide.fn _ ∧ Fence.wide.depth = none ∧ _) | refine (⟨trivial, trivial, rfl, ?_⟩ : Fence.wide.fn _ ∧ Fence.wide.fn _ ∧ Fence.wide.depth = none ∧ _) | (gi_at_call 21; (with_reducible refine t1.out.mono ?_); rintro e V1 ⟨rfl, d1, t2⟩; (replace t2 := Lib.hid t2)) | (gi_at_call 22; (with_reducible refine t2.out.mono ?_); rintro e V2 ⟨rfl, d2, cc, t3⟩; (replace t3 := Lib.hid t3)) | (gi_at_call 23; (with_reducible refine t3.out.mono ?_); rintro e V3 ⟨rfl, d3, t4⟩; (replace t4 := Lib.hid t4)) | (gi_at_call 14; (with_reducible refine t4.out.mono ?_); rintro e V4 ⟨rfl, d4, fin⟩; (replace fin := Lib.hid fin)) | refine (⟨trivial, ?_⟩ : Fence.wide.fn _ ∧ _)); (first | refine ⟨by first | exact d0 | exact d1 | exact d2 | exact d3 | exact d4, ?_⟩ | skip)))
              refine wpE_nil ?_
              gi_wp2_with (first | refine (⟨trivial, rfl, ?_⟩ : Fence.wide.fn _ ∧ Fence.wide.depth = none ∧ _) | refine (⟨trivial, ?_⟩ : Fence.wide.fn _ ∧ _))
              exact ⟨⟨k + 1, m', A', cap', rfl, by go_num, by omega, fin.out⟩, by simp [intOf]; omega⟩

          · have hk1b : (kind == 1) = false := by simpa using hk1
            by_cases hk2 : kind = 2
            · subst hk2
              by_cases hc : cnt cmpI x L = 0
              · have kA := Lib.hid (act2no hA hB hc)
                clear hA hB h hnF hc e1 hk1 hk1b
                obtain ⟨m0, hm0⟩ : ∃ m0, L.length = m0 := ⟨_, rfl⟩
                rw [hm0] at kA
                rw [hm0]
                clear hm0 hLr
                gi_wp2_with (first | refine (⟨trivial, rfl, ?_⟩ : Fence.wide.fn _ ∧ Fence.wide.depth = none ∧ _) | (gi_at_call 14; (with_reducible refine kA.out.mono ?_); rintro e W2 ⟨rfl, d8, kB⟩; (replace kB := Lib.hid kB)) | (gi_at_call 18; (with_reducible refine kB.out.mono ?_); rintro e W3 ⟨m', A', cap', rfl, d9, kC⟩; (replace kC := Lib.hid kC)) | (gi_at_call 19; (with_reducible refine kC.out.mono ?_); rintro e W4 ⟨rfl, ask⟩; (obtain ⟨hm1, hm2, d0, t1⟩ := ask); (have hw6 := Go.IntWalk.i64_in (room - (m' : Int)) ⟨by omega, by omega⟩); (replace t1 := Lib.hid t1)) | refine (⟨trivial, ?_⟩ : Fence.wide.fn _ ∧ _))
                refine wpIn_eager [(0, true), (2, true), (3, true), (1, false), (4, true), (5, true), (6, true), (8, true), (9, true), (10, true), (11, true), (7, false), (12, true), (13, true), (14, true), (15, true), (16, true), (17, true), (19, true), (20, true), (21, true), (18, false), (22, false), (23, true), (24, true)] (fun V => V.cell? ⟨wr.heap.size, 1, none⟩ = some (.int .i64 x)) (by kernel_rfl) (by kernel_rfl) d0 ?_
                repeat (first | (refine wpE_fl rfl rfl (fun _ _ => rfl) ?_; go_simp) | (refine wpE_sk rfl rfl ?_; go_simp) | (refine wpE_fl (v := ?_) rfl rfl ?_ ?_; rotate_left; (intro W' h'; (try dsimp only at h'); go_simp; exact rfl); go_simp) | (refine wpE_ef rfl ?_; go_simp; gi_wp2_with (first | refine (⟨trivial, rfl, ?_⟩ : Fence.wide.fn _ ∧ Fence.wide.depth = none ∧ _) | refine (⟨trivial, trivial, rfl, ?_⟩ : Fence.wide.fn _ ∧ Fence.wide.fn _ ∧ Fence.wide.depth = none ∧ _) | (gi_at_call 21; (with_reducible refine t1.out.mono ?_); rintro e V1 ⟨rfl, d1, t2⟩; (replace t2 := Lib.hid t2)) | (gi_at_call 22; (with_reducible refine t2.out.mono ?_); rintro e V2 ⟨rfl, d2, cc, t3⟩; (replace t3 := Lib.hid t3)) | (gi_at_call 23; (with_reducible refine t3.out.mono ?_); rintro e V3 ⟨rfl, d3, t4⟩; (replace t4 := Lib.hid t4)) | (gi_at_call 14; (with_reducible refine t4.out.mono ?_); rintro e V4 ⟨rfl, d4, fin⟩; (replace fin := Lib.hid fin)) | refine (⟨trivial, ?_⟩ : Fence.wide.fn _ ∧ _)); (first | refine ⟨by first | exact d0 | exact d1 | exact d2 | exact d3 | exact d4, ?_⟩ | skip)))
                refine wpE_nil ?_
                gi_wp2_with (first | refine (⟨trivial, rfl, ?_⟩ : Fence.wide.fn _ ∧ Fence.wide.depth = none ∧ _) | refine (⟨trivial, ?_⟩ : Fence.wide.fn _ ∧ _))
                exact ⟨⟨k + 1, m', A', cap', rfl, by go_num, by omega, fin.out⟩, by simp [intOf]; omega⟩

              · have kA := Lib.hid (act2 hA hB hnF (by omega))
                clear hA hB h hnF hc e1 hk1 hk1b
                obtain ⟨m0, hm0⟩ : ∃ m0, L.length = m0 := ⟨_, rfl⟩
                rw [hm0] at kA
                rw [hm0]
                clear hm0 hLr
                gi_wp2_with (first | refine (⟨trivial, rfl, ?_⟩ : Fence.wide.fn _ ∧ Fence.wide.depth = none ∧ _) | (gi_at_call 14; (with_reducible refine kA.out.mono ?_); rintro e W2 ⟨c, rfl, hcb, d8, kB⟩; (replace kB := Lib.hid kB)) | (gi_at_call 18; (with_reducible refine kB.out.mono ?_); rintro e W3 ⟨m', A', cap', rfl, d9, kC⟩; (replace kC := Lib.hid kC)) | (gi_at_call 19; (with_reducible refine kC.out.mono ?_); rintro e W4 ⟨rfl, ask⟩; (obtain ⟨hm1, hm2, d0, t1⟩ := ask); (have hw6 := Go.IntWalk.i64_in (room - (m' : Int)) ⟨by omega, by omega⟩); (replace t1 := Lib.hid t1)) | refine (⟨trivial, ?_⟩ : Fence.wide.fn _ ∧ _))
                refine wpIn_eager [(0, true), (2, true), (3, true), (1, false), (4, true), (5, true), (6, true), (8, true), (9, true), (10, true), (11, true), (7, false), (12, true), (13, true), (14, true), (15, true), (16, true), (17, true), (19, true), (20, true), (21, true), (18, false), (22, false), (23, true), (24, true)] (fun V => V.cell? ⟨wr.heap.size, 1, none⟩ = some (.int .i64 x)) (by kernel_rfl) (by kernel_rfl) d0 ?_
                repeat (first | (refine wpE_fl rfl rfl (fun _ _ => rfl) ?_; go_simp) | (refine wpE_sk rfl rfl ?_; go_simp) | (refine wpE_fl (v := ?_) rfl rfl ?_ ?_; rotate_left; (intro W' h'; (try dsimp only at h'); go_simp; exact rfl); go_simp) | (refine wpE_ef rfl ?_; go_simp; gi_wp2_with (first | refine (⟨trivial, rfl, ?_⟩ : Fence.wide.fn _ ∧ Fence.wide.depth = none ∧ _) | refine (⟨trivial, trivial, rfl, ?_⟩ : Fence.wide.fn _ ∧ Fence.wide.fn _ ∧ Fence.wide.depth = none ∧ _) | (gi_at_call 21; (with_reducible refine t1.out.mono ?_); rintro e V1 ⟨rfl, d1, t2⟩; (replace t2 := Lib.hid t2)) | (gi_at_call 22; (with_reducible refine t2.out.mono ?_); rintro e V2 ⟨rfl, d2, cc, t3⟩; (replace t3 := Lib.hid t3)) | (gi_at_call 23; (with_reducible refine t3.out.mono ?_); rintro e V3 ⟨rfl, d3, t4⟩; (replace t4 := Lib.hid t4)) | (gi_at_call 14; (with_reducible refine t4.out.mono ?_); rintro e V4 ⟨rfl, d4, fin⟩; (replace fin := Lib.hid fin)) | refine (⟨trivial, ?_⟩ : Fence.wide.fn _ ∧ _)); (first | refine ⟨by first | exact d0 | exact d1 | exact d2 | exact d3 | exact d4, ?_⟩ | skip)))
                refine wpE_nil ?_
                gi_wp2_with (first | refine (⟨trivial, rfl, ?_⟩ : Fence.wide.fn _ ∧ Fence.wide.depth = none ∧ _) | refine (⟨trivial, ?_⟩ : Fence.wide.fn _ ∧ _))
                exact ⟨⟨k + 1, m', A', cap', rfl, by go_num, by omega, fin.out⟩, by simp [intOf]; omega⟩

            · have hk2b : (kind == 2) = false := by simpa using hk2
              by_cases hk3 : kind = 3
              · subst hk3
                have hw2 : IntKind.i64.wrap (2 * (L.length : Int)) = 2 * (L.length : Int) := Go.IntWalk.i64_in _ ⟨by omega, by omega⟩
                by_cases hfull : room < 2 * (L.length : Int)
                · skip
                  have kA := Lib.hid (act3full hA hB hfull)
                  clear hA hB h hnF e1 e2 hk1 hk2 hk1b hk2b
                  obtain ⟨m', hm'⟩ : ∃ m', L.length = m' := ⟨_, rfl⟩
                  rw [hm'] at kA hfull hw2
                  rw [hm']
                  clear hm' hLr
                  gi_wp2_with (first | refine (⟨trivial, rfl, ?_⟩ : Fence.wide.fn _ ∧ Fence.wide.depth = none ∧ _) | (gi_at_call 20; (with_reducible refine kA.out.mono ?_); rintro e W4 ⟨rfl, ask⟩; (obtain ⟨hm1, hm2, d0, t1⟩ := ask); (have hw6 := Go.IntWalk.i64_in (room - (m' : Int)) ⟨by omega, by omega⟩); (replace t1 := Lib.hid t1)) | refine (⟨trivial, ?_⟩ : Fence.wide.fn _ ∧ _))
                  refine wpIn_eager [(0, true), (2, true), (3, true), (1, false), (4, true), (5, true), (6, true), (8, true), (9, true), (10, true), (11, true), (7, false), (12, true), (13, true), (14, true), (15, true), (16, true), (17, true), (19, true), (20, true), (21, true), (18, false), (22, false), (23, true), (24, true)] (fun V => V.cell? ⟨wr.heap.size, 1, none⟩ = some (.int .i64 x)) (by kernel_rfl) (by kernel_rfl) d0 ?_
                  repeat (first | (refine wpE_fl rfl rfl (fun _ _ => rfl) ?_; go_simp) | (refine wpE_sk rfl rfl ?_; go_simp) | (refine wpE_fl (v := ?_) rfl rfl ?_ ?_; rotate_left; (intro W' h'; (try dsimp only at h'); go_simp; exact rfl); go_simp) | (refine wpE_ef rfl ?_; go_simp; gi_wp2_with (first | refine (⟨trivial, rfl, ?_⟩ : Fence.wide.fn _ ∧ Fence.wide.depth = none ∧ _) | refine (⟨trivial, trivial, rfl, ?_⟩ : Fence.wide.fn _ ∧ Fence.wide.fn _ ∧ Fence.wide.depth = none ∧ _) | (gi_at_call 21; (with_reducible refine t1.out.mono ?_); rintro e V1 ⟨rfl, d1, t2⟩; (replace t2 := Lib.hid t2)) | (gi_at_call 22; (with_reducible refine t2.out.mono ?_); rintro e V2 ⟨rfl, d2, cc, t3⟩; (replace t3 := Lib.hid t3)) | (gi_at_call 23; (with_reducible refine t3.out.mono ?_); rintro e V3 ⟨rfl, d3, t4⟩; (replace t4 := Lib.hid t4)) | (gi_at_call 14; (with_reducible refine t4.out.mono ?_); rintro e V4 ⟨rfl, d4, fin⟩; (replace fin := Lib.hid fin)) | refine (⟨trivial, ?_⟩ : Fence.wide.fn _ ∧ _)); (first | refine ⟨by first | exact d0 | exact d1 | exact d2 | exact d3 | exact d4, ?_⟩ | skip)))
                  refine wpE_nil ?_
                  gi_wp2_with (first | refine (⟨trivial, rfl, ?_⟩ : Fence.wide.fn _ ∧ Fence.wide.depth = none ∧ _) | refine (⟨trivial, ?_⟩ : Fence.wide.fn _ ∧ _))
                  exact ⟨⟨k + 1, m', A, cap, rfl, by go_num, by omega, fin.out⟩, by simp [intOf]; omega⟩

                · have hle : 2 * (L.length : Int) ≤ room := by omega
                  have hrd := hA.upd (Upd.alloc (fun _ => False) _ (.cells #[] 3))
                  have hrd' := Lib.hid hrd.list
                  clear hk1 hk2 hk1b hk2b e1 e2 hA
                  gi_wp2_with (first | refine (⟨trivial, rfl, ?_⟩ : Fence.wide.fn _ ∧ Fence.wide.depth = none ∧ _) | ((with_reducible refine appS (A := A) (m := L.length) (c := cap) Try.underlying22 infoElI rfl (by omega) (by omega) (own_empty1 wr _ _ 1) ?_ ?_ ?_ ?_ ?_ hrd'.out ?_ ?_); rfl; rfl; (focus ((try simp); (try omega))); (rw [intsV_len]; omega); omega; exact (ints_one _); intro v3 W3 h3 g3 e3; clear e3; rw [Nat.zero_add, List.nil_append] at h3; (replace g3 := Lib.hid g3); obtain ⟨A3, cap3, rfl, hn3, hr3, _, hb3⟩ := own_readsS h3; clear h3; (replace hr3 := Lib.hid hr3); (replace hb3 := Lib.hid hb3)) | refine (⟨trivial, ?_⟩ : Fence.wide.fn _ ∧ _))
                  have u3 := (Upd.alloc (fun _ => False) (wr.alloc (.cells #[.int .i64 3, .int .i64 x] 44)) (.cells #[] 3)).trans g3.out (fun j hj => .inr (by simp only [Value.ownBlock, Option.some.injEq] at hj; rw [World.size_alloc]; omega))
                  have hB3 := Lib.hid (hB.upd u3 id)
                  have hT3 := Lib.hid (h.upd ((Upd.alloc (fun _ => False) wr _).trans' u3))
                  have hrF := Lib.hid fun W (u : Upd (fun _ => False) W3 W) => hr3.out.agree' (w' := W) (u.agree fun j hj => ⟨hr3.out.lt' j hj, id⟩)
                  clear u3 hB g3 hrd hrd' hb3 h hr3
                  obtain ⟨wa, hwa⟩ : ∃ wa, wa = wr := ⟨_, rfl⟩
                  subst hwa
                  gi_loopw [98, 9] (fun u v wr2 => ∃ (j m' : Nat) (A' : Option Addr) (cap' : Nat) (D : List Int), u = .int .i64 j ∧ v = .slice A' m' cap' ∧ j ≤ L.length ∧ D = (L.take j).foldl (fun acc x => addL x acc) L ∧ D.length = m' ∧ Two sb L D room F A' cap' w wr2 ∧ Upd (fun _ => False) W3 wr2) (fun u _ _ => L.length - (intOf u).toNat)
                  case atStart => exact ⟨0, _, A, cap, L, rfl, rfl, Nat.zero_le _, rfl, rfl, hT3.out, Upd.refl _ _⟩
                  case round =>
                    obtain ⟨j, m', A', cap', D, rfl, rfl, hj, hD, hDl, hT, hu⟩ := hrel
                    have hDr := fold_rec (L.take j) L hT3.out.srt
                    rw [← hD, List.length_take] at hDr
                    by_cases hlt : j < L.length
                    · obtain ⟨g3, o3, rfl, c0⟩ := reads_at (hrF.out _ hu) (by rw [intsV_len]; omega)
                      have e0 := c0 j _ (intsV_get L j hlt)
                      have hw7 : IntKind.i64.wrap ((j : Int) + 1) = (j : Int) + 1 := Go.IntWalk.i64_in _ ⟨by omega, by omega⟩
                      have kA := (hT.addL (n := 0) (by rw [hDr.2.1]; omega) L[j]).mono (R' := fun e W2 => ∃ A'' cap'', e = .returned (.slice A'' (m' + 1) cap'') ∧ ∃ D', D' = (L.take (j + 1)).foldl (fun acc x => addL x acc) L ∧ D'.length = m' + 1 ∧ Two sb L D' room F A'' cap'' w W2 ∧ Upd (fun _ => False) W3 W2) (by
                        rintro e W2 ⟨A'', cap'', rfl, g1, g2⟩
                        have el : (addL L[j] D).length = m' + 1 := by rw [addL_len, hDl]
                        exact ⟨A'', cap'', by rw [el], _, by rw [List.take_succ_eq_append_getElem hlt, List.foldl_append, ← hD]; rfl, el, g1, hu.trans' g2⟩)
                      rw [hDl] at kA
                      replace kA := Lib.hid kA
                      have hm' : m' < 100000 := by have := hDr.2.1; omega
                      clear hD hDr hDl hT hu c0 hT3 hB3
                      obtain ⟨y, hy⟩ : ∃ y, L[j] = y := ⟨_, rfl⟩
                      rw [hy] at kA e0
                      clear hy
                      gi_wp2_with (first | refine (⟨trivial, rfl, ?_⟩ : Fence.wide.fn _ ∧ Fence.wide.depth = none ∧ _) | (gi_at_call 16; (with_reducible refine kA.out.mono ?_); rintro e W4 ⟨A'', cap'', rfl, D', h5⟩; (replace h5 := Lib.hid h5)) | refine (⟨trivial, ?_⟩ : Fence.wide.fn _ ∧ _))
                      exact ⟨⟨j + 1, m' + 1, A'', cap'', D', by go_num, rfl, by omega, h5.out⟩, by simp [intOf]; omega⟩
                    · obtain rfl : j = L.length := by omega
                      rw [List.take_length] at hD
                      obtain ⟨_, hDl2, hDc⟩ := fold_rec L L hT3.out.srt
                      rw [← hD] at hDl2 hDc
                      have kA := act3 (hT3.out.upd hu) hT (hB3.out.upd hu id) hnF hle hDc hDl2
                      rw [hDl] at kA
                      replace kA := Lib.hid kA
                      clear hD hDr hDl hT hu hT3 hB3 hDl2 hDc hrF hnF
                      gi_wp2_with (first | refine (⟨trivial, rfl, ?_⟩ : Fence.wide.fn _ ∧ Fence.wide.depth = none ∧ _) | (gi_at_call 20; (with_reducible refine kA.out.mono ?_); rintro e W4 ⟨rfl, ask⟩; (obtain ⟨hm1, hm2, d0, t1⟩ := ask); (have hw6 := Go.IntWalk.i64_in (room - (m' : Int)) ⟨by omega, by omega⟩); (replace t1 := Lib.hid t1)) | refine (⟨trivial, ?_⟩ : Fence.wide.fn _ ∧ _))
                      refine wpIn_eager [(0, true), (2, true), (3, true), (1, false), (4, true), (5, true), (6, true), (8, true), (9, true), (10, true), (11, true), (7, false), (12, true), (13, true), (14, true), (15, true), (16, true), (17, true), (19, true), (20, true), (21, true), (18, false), (22, false), (23, true), (24, true)] (fun V => V.cell? ⟨wa.heap.size, 1, none⟩ = some (.int .i64 x)) (by kernel_rfl) (by kernel_rfl) d0 ?_
                      repeat (first | (refine wpE_fl rfl rfl (fun _ _ => rfl) ?_; go_simp) | (refine wpE_sk rfl rfl ?_; go_simp) | (refine wpE_fl (v := ?_) rfl rfl ?_ ?_; rotate_left; (intro W' h'; (try dsimp only at h'); go_simp; exact rfl); go_simp) | (refine wpE_ef rfl ?_; go_simp; gi_wp2_with (first | refine (⟨trivial, rfl, ?_⟩ : Fence.wide.fn _ ∧ Fence.wide.depth = none ∧ _) | refine (⟨trivial, trivial, rfl, ?_⟩ : Fence.wide.fn _ ∧ Fence.wide.fn _ ∧ Fence.wide.depth = none ∧ _) | (gi_at_call 21; (with_reducible refine t1.out.mono ?_); rintro e V1 ⟨rfl, d1, t2⟩; (replace t2 := Lib.hid t2)) | (gi_at_call 22; (with_reducible refine t2.out.mono ?_); rintro e V2 ⟨rfl, d2, cc, t3⟩; (replace t3 := Lib.hid t3)) | (gi_at_call 23; (with_reducible refine t3.out.mono ?_); rintro e V3 ⟨rfl, d3, t4⟩; (replace t4 := Lib.hid t4)) | (gi_at_call 14; (with_reducible refine t4.out.mono ?_); rintro e V4 ⟨rfl, d4, fin⟩; (replace fin := Lib.hid fin)) | refine (⟨trivial, ?_⟩ : Fence.wide.fn _ ∧ _)); (first | refine ⟨by first | exact d0 | exact d1 | exact d2 | exact d3 | exact d4, ?_⟩ | skip)))
                      refine wpE_nil ?_
                      gi_wp2_with (first | refine (⟨trivial, rfl, ?_⟩ : Fence.wide.fn _ ∧ Fence.wide.depth = none ∧ _) | refine (⟨trivial, ?_⟩ : Fence.wide.fn _ ∧ _))
                      exact ⟨⟨k + 1, m', A', cap', rfl, by go_num, by omega, fin.out⟩, by simp [intOf]; omega⟩

              · have hk3b : (kind == 3) = false := by simpa using hk3
                obtain ⟨m', hm'⟩ : ∃ m', L.length = m' := ⟨_, rfl⟩
                have ask := hA.askD hB
                rw [hm'] at ask
                rw [hm']
                clear hm' hA hB h hnF e2 hk1 hk2 hk3 hLr
                obtain ⟨hm1, hm2, d0, t1⟩ := ask; have hw6 := Go.IntWalk.i64_in (room - (m' : Int)) ⟨by omega, by omega⟩; replace t1 := Lib.hid t1
                gi_wp2_with (first | refine (⟨trivial, rfl, ?_⟩ : Fence.wide.fn _ ∧ Fence.wide.depth = none ∧ _) | refine (⟨trivial, ?_⟩ : Fence.wide.fn _ ∧ _))
                refine wpIn_eager [(0, true), (2, true), (3, true), (1, false), (4, true), (5, true), (6, true), (8, true), (9, true), (10, true), (11, true), (7, false), (12, true), (13, true), (14, true), (15, true), (16, true), (17, true), (19, true), (20, true), (21, true), (18, false), (22, false), (23, true), (24, true)] (fun V => V.cell? ⟨wr.heap.size, 1, none⟩ = some (.int .i64 x)) (by kernel_rfl) (by kernel_rfl) d0 ?_
                repeat (first | (refine wpE_fl rfl rfl (fun _ _ => rfl) ?_; go_simp) | (refine wpE_sk rfl rfl ?_; go_simp) | (refine wpE_fl (v := ?_) rfl rfl ?_ ?_; rotate_left; (intro W' h'; (try dsimp only at h'); go_simp; exact rfl); go_simp) | (refine wpE_ef rfl ?_; go_simp; gi_wp2_with (first | refine (⟨trivial, rfl, ?_⟩ : Fence.wide.fn _ ∧ Fence.wide.depth = none ∧ _) | refine (⟨trivial, trivial, rfl, ?_⟩ : Fence.wide.fn _ ∧ Fence.wide.fn _ ∧ Fence.wide.depth = none ∧ _) | (gi_at_call 21; (with_reducible refine t1.out.mono ?_); rintro e V1 ⟨rfl, d1, t2⟩; (replace t2 := Lib.hid t2)) | (gi_at_call 22; (with_reducible refine t2.out.mono ?_); rintro e V2 ⟨rfl, d2, cc, t3⟩; (replace t3 := Lib.hid t3)) | (gi_at_call 23; (with_reducible refine t3.out.mono ?_); rintro e V3 ⟨rfl, d3, t4⟩; (replace t4 := Lib.hid t4)) | (gi_at_call 14; (with_reducible refine t4.out.mono ?_); rintro e V4 ⟨rfl, d4, fin⟩; (replace fin := Lib.hid fin)) | refine (⟨trivial, ?_⟩ : Fence.wide.fn _ ∧ _)); (first | refine ⟨by first | exact d0 | exact d1 | exact d2 | exact d3 | exact d4, ?_⟩ | skip)))
                refine wpE_nil ?_
                gi_wp2_with (first | refine (⟨trivial, rfl, ?_⟩ : Fence.wide.fn _ ∧ Fence.wide.depth = none ∧ _) | refine (⟨trivial, ?_⟩ : Fence.wide.fn _ ∧ _))
                exact ⟨⟨k + 1, m', A, cap, rfl, by go_num, by omega, fin.out⟩, by simp [intOf]; omega⟩

        · obtain rfl : k = acts.length := by omega
          obtain ⟨er, her⟩ : ∃ er, er = mo % 9 := ⟨_, rfl⟩
          have he1 : (mo : Int).tmod 9 = (er : Int) := by rw [Int.tmod_eq_emod_of_nonneg (by omega)]; omega
          have he2 : (mo : Int) % 9 = (er : Int) := by omega
          have he3 : IntKind.u8.wrap (er : Int) = (er : Int) := by simp [IntKind.wrap, IntKind.bits, IntKind.signed]; omega
          have he4 : IntKind.i64.wrap (er : Int) = (er : Int) := Go.IntWalk.i64_in _ ⟨by omega, by omega⟩
          have kA := Lib.hid (hF.fin (er : Int))
          clear her hF
          gi_wp2_with (first | refine (⟨trivial, rfl, ?_⟩ : Fence.wide.fn _ ∧ Fence.wide.depth = none ∧ _) | (gi_at_call 25; (with_reducible refine kA.out.mono ?_); rintro e W2 ⟨bv, rfl, kB⟩; (replace kB := Lib.hid kB)) | (gi_at_call 24; (with_reducible refine kB.out.mono ?_); rintro e W3 ⟨rfl, kC⟩; (replace kC := Lib.hid kC)) | (gi_at_call 25; (with_reducible refine kC.out.mono ?_); rintro e W4 ⟨bv', rfl, kD⟩; (replace kD := Lib.hid kD)) | (gi_at_call 24; (with_reducible refine kD.out.mono ?_); rintro e W5 ⟨rfl, u5⟩; (replace u5 := Lib.hid u5)) | refine (⟨trivial, ?_⟩ : Fence.wide.fn _ ∧ _))
          go_ret
          exact ⟨rfl, u5.out⟩
    · have hr2 : room < 0 ∨ 1000 < room := by omega
      rcases hr2 with hr2 | hr2
      all_goals
        gi_wp2_with (first | refine (⟨trivial, rfl, ?_⟩ : Fence.wide.fn _ ∧ Fence.wide.depth = none ∧ _) | (gi_at_call 7; (with_reducible refine k1.out.mono ?_); rintro e W1 ⟨rfl, _, _, k2⟩; (replace k2 := Lib.hid (k2 hroom))) | (gi_at_call 15; (with_reducible refine k2.out.mono ?_); rintro e W2 ⟨rfl, u2⟩; (replace u2 := Lib.hid u2)) | refine (⟨trivial, ?_⟩ : Fence.wide.fn _ ∧ _))
        go_ret
        exact ⟨rfl, u2.out⟩
  · have hl' : 100 < acts.length := by omega
    gi_wp2_with (first | refine (⟨trivial, rfl, ?_⟩ : Fence.wide.fn _ ∧ Fence.wide.depth = none ∧ _) | (gi_at_call 7; (with_reducible refine k1.out.mono ?_); rintro e W1 ⟨rfl, k2, _⟩; (replace k2 := Lib.hid k2)) | (gi_at_call 7; (with_reducible refine k2.out.mono ?_); rintro e W2 ⟨rfl, u2⟩; (replace u2 := Lib.hid u2)) | refine (⟨trivial, ?_⟩ : Fence.wide.fn _ ∧ _))
    go_ret
    exact ⟨rfl, u2.out⟩
end Go.Proofs.Ytjlobcbjhnfjcaa

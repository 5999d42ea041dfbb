/- Which states of a mark are right: the program's test. -/
import Derived.Test.YtpljdckppmobeaaProg
import Derived.Test.YtpljdckppmobeaaBase
import Derived.Test.YtpljdckppmobeaaMkQ
namespace Go.Proofs.Ytpljdckppmobeaa
open Go.RowKit Go.Shelf
attribute [local go_sem] Oper.semAt_some

section
variable {now low : Int} {ls : List (KSM × VSM)} {A : Option Addr} {cap : Nat} {W : World}
set_option maxRecDepth 100000 in
set_option maxHeartbeats 16000000 in
theorem right13_c {n : Nat} (hr : Reads1 W A (flatS ls)) (hl : ls.length ≤ 100000) (hsz : ∀ e ∈ ls, e.1.size ≤ maxLen) : CallsIn Fence.wide n Try.prog 38 #[.agg #[.int .i64 now, .int .i64 low, .slice A ls.length cap]] W fun e W2 => SaysB (rightP now low ls) e ∧ Upd (fun _ => False) W W2 := by
  have u1 := Upd.alloc (fun _ => False) W (.cells #[.int .i64 now, .int .i64 low, .slice A ls.length cap] 47)
  have b1 := Lib.hid (Blk.new W #[.int .i64 now, .int .i64 low, .slice A ls.length cap] 47)
  have hrW := Lib.hid fun V (u : Upd (fun _ => False) W V) => hr.agree' (w' := V) (u.agree fun j hj => ⟨hr.lt' j hj, id⟩)
  have hb1 := Lib.hid fun V (u : Upd (fun _ => False) (W.alloc (.cells #[.int .i64 now, .int .i64 low, .slice A ls.length cap] 47)) V) => b1.out.upd u id
  replace u1 := Lib.hid u1
  clear hr
  refine callsIn_any (n := 0) (callsIn_of_wp Try.func38 rfl trivial ?_)
  simp only [Try.ntmps38, List.size_toArray, List.length_cons, List.length_nil, Nat.reduceAdd, Nat.reduceSub, Array.replicate_succ, Array.replicate_zero, List.push_toArray, List.append_toArray, List.nil_append, List.cons_append]
  gi_wp2
  gi_loopw [8] (fun i wr => ∃ k : Nat, i = .int .i64 k ∧ k ≤ ls.length ∧ Hid (rowsTo now ls k) ∧ Upd (fun _ => False) (W.alloc (.cells #[.int .i64 now, .int .i64 low, .slice A ls.length cap] 47)) wr) (fun i _ => ls.length - (intOf i).toNat)
  case atStart => exact ⟨0, rfl, Nat.zero_le _, Lib.hid fun i h hi => by omega, Upd.refl _ _⟩
  case round =>
    obtain ⟨k, rfl, hk, hT, hu⟩ := hrel
    have hb := Lib.hid (hb1.out _ hu)
    have q0 : wr.cell? ⟨W.heap.size, 0, none⟩ = some (.int .i64 now) := hb.out.cell 0
    have q1 : wr.cell? ⟨W.heap.size, 1, none⟩ = some (.int .i64 low) := hb.out.cell 1
    have q2 : wr.cell? ⟨W.heap.size, 2, none⟩ = some (.slice A ls.length cap) := hb.out.cell 2
    have huW := Lib.hid (u1.out.trans' hu)
    have hzz := huW.out.size
    by_cases hlt : k < ls.length
    · have hzn := hsz _ (List.getElem_mem hlt)
      obtain ⟨g, o, rfl, hc⟩ := reads_at (hrW.out _ huW.out) (by rw [flatS_len]; omega)
      have c0 := hc _ _ (flatS_get ls k hlt)
      have c1 := hc _ _ (flatS_get1 ls k hlt)
      have c2 := hc _ _ (flatS_get2 ls k hlt)
      rw [← Nat.add_assoc] at c1 c2
      have hw5 : IntKind.i64.wrap ((k : Int) + 1) = (k : Int) + 1 := Go.IntWalk.i64_in _ ⟨by omega, by omega⟩
      obtain ⟨j, hj⟩ : ∃ j, k - 1 = j := ⟨_, rfl⟩
      have hjl : j < ls.length := by omega
      have hwj : 0 < k → IntKind.i64.wrap ((k : Int) - 1) = (j : Int) := fun h => by rw [Go.IntWalk.i64_in _ ⟨by omega, by omega⟩]; omega
      have hno := Lib.hid fun hn => rows_no (now := now) (low := low) hlt hn
      have hyes := Lib.hid fun hn => rows_succ (now := now) hT.out hlt hn
      have hzp := hsz _ (List.getElem_mem hjl)
      obtain ⟨p, hp⟩ : ∃ p, ls[j].1 = p := ⟨_, rfl⟩
      have hpe : ls[k - 1].1 = p := by simp only [hj]; exact hp
      have hcV := Lib.hid fun V (u : Upd (fun _ => False) W V) => show V.cell? ⟨g, o + j * 3, none⟩ = some (.string p) from by
        obtain ⟨g', o', e, hc'⟩ := reads_at (hrW.out V u) (by rw [flatS_len]; omega)
        cases e
        have := hc' _ _ (flatS_get ls j hjl)
        rw [hp] at this
        exact this
      obtain ⟨x, hx⟩ : ∃ x, ls[k] = x := ⟨_, rfl⟩
      unfold rowOk at hno hyes
      simp only [hx, hpe] at hno hyes
      rw [hx] at c0 c1 c2 hzn
      rw [hp] at hzp
      clear hx hp hpe hc hT
      obtain ⟨nm, tm, at0⟩ := x
      simp only at c0 c1 c2 hzn hno hyes
      have bD := Lib.hid ((Blk.new wr #[.string nm, .int .i64 tm, .int .i64 at0] 75).upd (Upd.drew (fun _ => False) _) id)
      have uD := Lib.hid ((Upd.alloc (fun _ => False) wr (.cells #[.string nm, .int .i64 tm, .int .i64 at0] 75)).stepDrew)
      have hold := Lib.hid fun V (u : Upd (fun _ => False) (wr.alloc (.cells #[.string nm, .int .i64 tm, .int .i64 at0] 75)).drew V) => show (V.cell? ⟨wr.heap.size, 0, none⟩ = some (.string nm) ∧ V.cell? ⟨wr.heap.size, 1, none⟩ = some (.int .i64 tm) ∧ V.cell? ⟨wr.heap.size, 2, none⟩ = some (.int .i64 at0)) ∧ (V.cell? ⟨W.heap.size, 0, none⟩ = some (.int .i64 now) ∧ V.cell? ⟨W.heap.size, 2, none⟩ = some (.slice (some ⟨g, o, none⟩) ls.length cap)) ∧ V.cell? ⟨g, o + j * 3, none⟩ = some (.string p) from
        ⟨⟨(bD.out.upd u id).cell 0, (bD.out.upd u id).cell 1, (bD.out.upd u id).cell 2⟩, ⟨((hb.out.upd uD.out id).upd u id).cell 0, ((hb.out.upd uD.out id).upd u id).cell 2⟩, hcV.out _ ((huW.out.trans' uD.out).trans' u)⟩
      clear hcV
      have kN0 := Lib.hid fun (V : World) => tagName_c (n := 0) (s := nm) (w := V) hzn
      have kD0 := Lib.hid fun (V : World) => contains_c (n := 0) nm V
      by_cases hN : nameP nm
      · have kN := Lib.hid fun (V : World) => (kN0.out V).mono (R' := fun e W2 => e = .returned (.bool true) ∧ W2 = V) (by rintro e W2 ⟨h, rfl⟩; exact ⟨boolP h (by simp [hN]), rfl⟩)
        by_cases hD : ¬ hasP 46 nm
        · have kD := Lib.hid fun (V : World) => (kD0.out V).mono (R' := fun e W2 => e = .returned (.bool false) ∧ W2 = V) (by rintro e W2 ⟨h, rfl⟩; exact ⟨boolP h (by simp [hD]), rfl⟩)
          clear kN0 kD0
          by_cases hk0 : 0 < k
          · have hwj := hwj hk0
            by_cases hC0 : cmpS p nm < 0
            · have hbl := (cmpS_lt p nm).1 hC0
              have hC : ∀ h' : 0 < k, cmpS p nm < 0 := fun _ => hC0
              by_cases hTm : 0 ≤ tm ∧ tm ≤ mxT
              · have kS := Lib.hid fun (V : World) => (span_c (n := 0) (W := V) (x := tm)).mono (R' := fun e W2 => e = .returned (.bool true) ∧ W2 = V) (by rintro e W2 ⟨rfl, rfl⟩; exact ⟨by simp [hTm], rfl⟩)
                by_cases hAt : 0 ≤ at0 ∧ at0 ≤ now
                · have hAt' := hAt
                  obtain ⟨a0, a1⟩ := hAt'
                  have a0n : (at0 < 0) = False := eq_false (by omega)
                  have a1n : (now < at0) = False := eq_false (by omega)
                  gi_wp2
                  refine wpIn_eager [(0, true), (1, true), (2, false), (3, true), (4, true), (5, true), (6, true), (7, false), (8, true), (9, true), (10, true), (11, true), (12, true), (13, true), (14, true), (15, true), (16, true), (17, true), (18, true), (19, true), (20, true), (21, true), (22, true), (23, true), (24, true), (25, true), (26, true), (27, true), (28, false), (29, true), (30, true), (31, true), (32, true), (33, true), (34, true), (35, true), (36, true), (37, true), (38, true), (39, true), (40, true), (41, true), (42, true)] (fun V => (V.cell? ⟨wr.heap.size, 0, none⟩ = some (.string nm) ∧ V.cell? ⟨wr.heap.size, 1, none⟩ = some (.int .i64 tm) ∧ V.cell? ⟨wr.heap.size, 2, none⟩ = some (.int .i64 at0)) ∧ (V.cell? ⟨W.heap.size, 0, none⟩ = some (.int .i64 now) ∧ V.cell? ⟨W.heap.size, 2, none⟩ = some (.slice (some ⟨g, o, none⟩) ls.length cap)) ∧ V.cell? ⟨g, o + j * 3, none⟩ = some (.string p)) (by kernel_rfl) (by kernel_rfl) (hold.out _ (Upd.refl _ _)) ?_
                  repeat (first | (refine wpE_fl rfl rfl (fun _ _ => rfl) ?_; go_simp) | (refine wpE_sk rfl rfl ?_; go_simp) | (refine wpE_fl (v := ?_) rfl rfl ?_ ?_; rotate_left; (intro W' h'; (try dsimp only at h'); go_simp; exact rfl); go_simp) | (refine wpE_ef rfl ?_; go_simp; gi_wp2_with (first | refine (⟨trivial, rfl, ?_⟩ : Fence.wide.fn _ ∧ Fence.wide.depth = none ∧ _) | refine (⟨trivial, trivial, rfl, ?_⟩ : Fence.wide.fn _ ∧ Fence.wide.fn _ ∧ Fence.wide.depth = none ∧ _) | (gi_at_call 48; (with_reducible refine (kN.out _).mono ?_); rintro e V2 ⟨rfl, rfl⟩) | (gi_at_call 49; (with_reducible refine (kD.out _).mono ?_); rintro e V3 ⟨rfl, rfl⟩) | (gi_at_call 22; (with_reducible refine (kS.out _).mono ?_); rintro e V4 ⟨rfl, rfl⟩) | refine (⟨trivial, ?_⟩ : Fence.wide.fn _ ∧ _)); (first | refine ⟨by first | exact (hold.out _ (Upd.refl _ _)), ?_⟩ | skip)) | (refine wpE_ef rfl ?_; go_simp; gi_wp2_with ((with_reducible refine listSkipV ?_ ?_ ?_); rfl; rfl); (first | refine ⟨by first | exact (hold.out _ (Upd.refl _ _)), ?_⟩ | skip)))
                  refine wpE_nil ?_
                  gi_wp2_with (first | refine (⟨trivial, rfl, ?_⟩ : Fence.wide.fn _ ∧ Fence.wide.depth = none ∧ _) | refine (⟨trivial, ?_⟩ : Fence.wide.fn _ ∧ _))
                  exact ⟨⟨k + 1, by go_num, by omega, Lib.hid (hyes.out ⟨⟨hN, hD⟩, hC, hTm, hAt⟩), hu.trans' uD.out⟩, by simp [intOf]; omega⟩
                · by_cases a0 : 0 ≤ at0
                  · have a1 : now < at0 := by omega
                    have a0n : (at0 < 0) = False := eq_false (by omega)
                    gi_wp2
                    refine wpIn_eager [(0, true), (1, true), (2, false), (3, true), (4, true), (5, true), (6, true), (7, false), (8, true), (9, true), (10, true), (11, true), (12, true), (13, true), (14, true), (15, true), (16, true), (17, true), (18, true), (19, true), (20, true), (21, true), (22, true), (23, true), (24, true), (25, true), (26, true), (27, true), (28, false), (29, true), (30, true), (31, true), (32, true), (33, true), (34, true), (35, true), (36, true), (37, true), (38, true), (39, true), (40, true), (41, true), (42, true)] (fun V => (V.cell? ⟨wr.heap.size, 0, none⟩ = some (.string nm) ∧ V.cell? ⟨wr.heap.size, 1, none⟩ = some (.int .i64 tm) ∧ V.cell? ⟨wr.heap.size, 2, none⟩ = some (.int .i64 at0)) ∧ (V.cell? ⟨W.heap.size, 0, none⟩ = some (.int .i64 now) ∧ V.cell? ⟨W.heap.size, 2, none⟩ = some (.slice (some ⟨g, o, none⟩) ls.length cap)) ∧ V.cell? ⟨g, o + j * 3, none⟩ = some (.string p)) (by kernel_rfl) (by kernel_rfl) (hold.out _ (Upd.refl _ _)) ?_
                    repeat (first | (refine wpE_fl rfl rfl (fun _ _ => rfl) ?_; go_simp) | (refine wpE_sk rfl rfl ?_; go_simp) | (refine wpE_fl (v := ?_) rfl rfl ?_ ?_; rotate_left; (intro W' h'; (try dsimp only at h'); go_simp; exact rfl); go_simp) | (refine wpE_ef rfl ?_; go_simp; gi_wp2_with (first | refine (⟨trivial, rfl, ?_⟩ : Fence.wide.fn _ ∧ Fence.wide.depth = none ∧ _) | refine (⟨trivial, trivial, rfl, ?_⟩ : Fence.wide.fn _ ∧ Fence.wide.fn _ ∧ Fence.wide.depth = none ∧ _) | (gi_at_call 48; (with_reducible refine (kN.out _).mono ?_); rintro e V2 ⟨rfl, rfl⟩) | (gi_at_call 49; (with_reducible refine (kD.out _).mono ?_); rintro e V3 ⟨rfl, rfl⟩) | (gi_at_call 22; (with_reducible refine (kS.out _).mono ?_); rintro e V4 ⟨rfl, rfl⟩) | refine (⟨trivial, ?_⟩ : Fence.wide.fn _ ∧ _)); (first | refine ⟨by first | exact (hold.out _ (Upd.refl _ _)), ?_⟩ | skip)) | (refine wpE_ef rfl ?_; go_simp; gi_wp2_with ((with_reducible refine listSkipV ?_ ?_ ?_); rfl; rfl); (first | refine ⟨by first | exact (hold.out _ (Upd.refl _ _)), ?_⟩ | skip)))
                    refine wpE_nil ?_
                    gi_wp2_with (first | refine (⟨trivial, rfl, ?_⟩ : Fence.wide.fn _ ∧ Fence.wide.depth = none ∧ _) | refine (⟨trivial, ?_⟩ : Fence.wide.fn _ ∧ _))
                    go_ret
                    exact ⟨⟨_, rfl, hno.out (by rintro ⟨⟨gN, gD⟩, gC, gT, gA⟩; exact hAt gA)⟩, huW.out.trans' uD.out⟩
                  · have a1 : at0 < 0 := by omega
                    gi_wp2
                    refine wpIn_eager [(0, true), (1, true), (2, false), (3, true), (4, true), (5, true), (6, true), (7, false), (8, true), (9, true), (10, true), (11, true), (12, true), (13, true), (14, true), (15, true), (16, true), (17, true), (18, true), (19, true), (20, true), (21, true), (22, true), (23, true), (24, true), (25, true), (26, true), (27, true), (28, false), (29, true), (30, true), (31, true), (32, true), (33, true), (34, true), (35, true), (36, true), (37, true), (38, true), (39, true), (40, true), (41, true), (42, true)] (fun V => (V.cell? ⟨wr.heap.size, 0, none⟩ = some (.string nm) ∧ V.cell? ⟨wr.heap.size, 1, none⟩ = some (.int .i64 tm) ∧ V.cell? ⟨wr.heap.size, 2, none⟩ = some (.int .i64 at0)) ∧ (V.cell? ⟨W.heap.size, 0, none⟩ = some (.int .i64 now) ∧ V.cell? ⟨W.heap.size, 2, none⟩ = some (.slice (some ⟨g, o, none⟩) ls.length cap)) ∧ V.cell? ⟨g, o + j * 3, none⟩ = some (.string p)) (by kernel_rfl) (by kernel_rfl) (hold.out _ (Upd.refl _ _)) ?_
                    repeat (first | (refine wpE_fl rfl rfl (fun _ _ => rfl) ?_; go_simp) | (refine wpE_sk rfl rfl ?_; go_simp) | (refine wpE_fl (v := ?_) rfl rfl ?_ ?_; rotate_left; (intro W' h'; (try dsimp only at h'); go_simp; exact rfl); go_simp) | (refine wpE_ef rfl ?_; go_simp; gi_wp2_with (first | refine (⟨trivial, rfl, ?_⟩ : Fence.wide.fn _ ∧ Fence.wide.depth = none ∧ _) | refine (⟨trivial, trivial, rfl, ?_⟩ : Fence.wide.fn _ ∧ Fence.wide.fn _ ∧ Fence.wide.depth = none ∧ _) | (gi_at_call 48; (with_reducible refine (kN.out _).mono ?_); rintro e V2 ⟨rfl, rfl⟩) | (gi_at_call 49; (with_reducible refine (kD.out _).mono ?_); rintro e V3 ⟨rfl, rfl⟩) | (gi_at_call 22; (with_reducible refine (kS.out _).mono ?_); rintro e V4 ⟨rfl, rfl⟩) | refine (⟨trivial, ?_⟩ : Fence.wide.fn _ ∧ _)); (first | refine ⟨by first | exact (hold.out _ (Upd.refl _ _)), ?_⟩ | skip)) | (refine wpE_ef rfl ?_; go_simp; gi_wp2_with ((with_reducible refine listSkipV ?_ ?_ ?_); rfl; rfl); (first | refine ⟨by first | exact (hold.out _ (Upd.refl _ _)), ?_⟩ | skip)))
                    refine wpE_nil ?_
                    gi_wp2_with (first | refine (⟨trivial, rfl, ?_⟩ : Fence.wide.fn _ ∧ Fence.wide.depth = none ∧ _) | refine (⟨trivial, ?_⟩ : Fence.wide.fn _ ∧ _))
                    go_ret
                    exact ⟨⟨_, rfl, hno.out (by rintro ⟨⟨gN, gD⟩, gC, gT, gA⟩; exact hAt gA)⟩, huW.out.trans' uD.out⟩
              · have kS := Lib.hid fun (V : World) => (span_c (n := 0) (W := V) (x := tm)).mono (R' := fun e W2 => e = .returned (.bool false) ∧ W2 = V) (by rintro e W2 ⟨rfl, rfl⟩; exact ⟨by simp only [hTm, decide_false], rfl⟩)
                gi_wp2
                refine wpIn_eager [(0, true), (1, true), (2, false), (3, true), (4, true), (5, true), (6, true), (7, false), (8, true), (9, true), (10, true), (11, true), (12, true), (13, true), (14, true), (15, true), (16, true), (17, true), (18, true), (19, true), (20, true), (21, true), (22, true), (23, true), (24, true), (25, true), (26, true), (27, true), (28, false), (29, true), (30, true), (31, true), (32, true), (33, true), (34, true), (35, true), (36, true), (37, true), (38, true), (39, true), (40, true), (41, true), (42, true)] (fun V => (V.cell? ⟨wr.heap.size, 0, none⟩ = some (.string nm) ∧ V.cell? ⟨wr.heap.size, 1, none⟩ = some (.int .i64 tm) ∧ V.cell? ⟨wr.heap.size, 2, none⟩ = some (.int .i64 at0)) ∧ (V.cell? ⟨W.heap.size, 0, none⟩ = some (.int .i64 now) ∧ V.cell? ⟨W.heap.size, 2, none⟩ = some (.slice (some ⟨g, o, none⟩) ls.length cap)) ∧ V.cell? ⟨g, o + j * 3, none⟩ = some (.string p)) (by kernel_rfl) (by kernel_rfl) (hold.out _ (Upd.refl _ _)) ?_
                repeat (first | (refine wpE_fl rfl rfl (fun _ _ => rfl) ?_; go_simp) | (refine wpE_sk rfl rfl ?_; go_simp) | (refine wpE_fl (v := ?_) rfl rfl ?_ ?_; rotate_left; (intro W' h'; (try dsimp only at h'); go_simp; exact rfl); go_simp) | (refine wpE_ef rfl ?_; go_simp; gi_wp2_with (first | refine (⟨trivial, rfl, ?_⟩ : Fence.wide.fn _ ∧ Fence.wide.depth = none ∧ _) | refine (⟨trivial, trivial, rfl, ?_⟩ : Fence.wide.fn _ ∧ Fence.wide.fn _ ∧ Fence.wide.depth = none ∧ _) | (gi_at_call 48; (with_reducible refine (kN.out _).mono ?_); rintro e V2 ⟨rfl, rfl⟩) | (gi_at_call 49; (with_reducible refine (kD.out _).mono ?_); rintro e V3 ⟨rfl, rfl⟩) | (gi_at_call 22; (with_reducible refine (kS.out _).mono ?_); rintro e V4 ⟨rfl, rfl⟩) | refine (⟨trivial, ?_⟩ : Fence.wide.fn _ ∧ _)); (first | refine ⟨by first | exact (hold.out _ (Upd.refl _ _)), ?_⟩ | skip)) | (refine wpE_ef rfl ?_; go_simp; gi_wp2_with ((with_reducible refine listSkipV ?_ ?_ ?_); rfl; rfl); (first | refine ⟨by first | exact (hold.out _ (Upd.refl _ _)), ?_⟩ | skip)))
                refine wpE_nil ?_
                gi_wp2_with (first | refine (⟨trivial, rfl, ?_⟩ : Fence.wide.fn _ ∧ Fence.wide.depth = none ∧ _) | refine (⟨trivial, ?_⟩ : Fence.wide.fn _ ∧ _))
                go_ret
                exact ⟨⟨_, rfl, hno.out (by rintro ⟨⟨gN, gD⟩, gC, gT, gA⟩; exact hTm gT)⟩, huW.out.trans' uD.out⟩
            · have hbl : Op.bytesLess p.toList nm.toList = false := by rw [cmpS_lt, Bool.not_eq_true] at hC0; exact hC0
              gi_wp2
              refine wpIn_eager [(0, true), (1, true), (2, false), (3, true), (4, true), (5, true), (6, true), (7, false), (8, true), (9, true), (10, true), (11, true), (12, true), (13, true), (14, true), (15, true), (16, true), (17, true), (18, true), (19, true), (20, true), (21, true), (22, true), (23, true), (24, true), (25, true), (26, true), (27, true), (28, false), (29, true), (30, true), (31, true), (32, true), (33, true), (34, true), (35, true), (36, true), (37, true), (38, true), (39, true), (40, true), (41, true), (42, true)] (fun V => (V.cell? ⟨wr.heap.size, 0, none⟩ = some (.string nm) ∧ V.cell? ⟨wr.heap.size, 1, none⟩ = some (.int .i64 tm) ∧ V.cell? ⟨wr.heap.size, 2, none⟩ = some (.int .i64 at0)) ∧ (V.cell? ⟨W.heap.size, 0, none⟩ = some (.int .i64 now) ∧ V.cell? ⟨W.heap.size, 2, none⟩ = some (.slice (some ⟨g, o, none⟩) ls.length cap)) ∧ V.cell? ⟨g, o + j * 3, none⟩ = some (.string p)) (by kernel_rfl) (by kernel_rfl) (hold.out _ (Upd.refl _ _)) ?_
              repeat (first | (refine wpE_fl rfl rfl (fun _ _ => rfl) ?_; go_simp) | (refine wpE_sk rfl rfl ?_; go_simp) | (refine wpE_fl (v := ?_) rfl rfl ?_ ?_; rotate_left; (intro W' h'; (try dsimp only at h'); go_simp; exact rfl); go_simp) | (refine wpE_ef rfl ?_; go_simp; gi_wp2_with (first | refine (⟨trivial, rfl, ?_⟩ : Fence.wide.fn _ ∧ Fence.wide.depth = none ∧ _) | refine (⟨trivial, trivial, rfl, ?_⟩ : Fence.wide.fn _ ∧ Fence.wide.fn _ ∧ Fence.wide.depth = none ∧ _) | (gi_at_call 48; (with_reducible refine (kN.out _).mono ?_); rintro e V2 ⟨rfl, rfl⟩) | (gi_at_call 49; (with_reducible refine (kD.out _).mono ?_); rintro e V3 ⟨rfl, rfl⟩) | refine (⟨trivial, ?_⟩ : Fence.wide.fn _ ∧ _)); (first | refine ⟨by first | exact (hold.out _ (Upd.refl _ _)), ?_⟩ | skip)) | (refine wpE_ef rfl ?_; go_simp; gi_wp2_with ((with_reducible refine listSkipV ?_ ?_ ?_); rfl; rfl); (first | refine ⟨by first | exact (hold.out _ (Upd.refl _ _)), ?_⟩ | skip)))
              refine wpE_nil ?_
              gi_wp2_with (first | refine (⟨trivial, rfl, ?_⟩ : Fence.wide.fn _ ∧ Fence.wide.depth = none ∧ _) | refine (⟨trivial, ?_⟩ : Fence.wide.fn _ ∧ _))
              go_ret
              exact ⟨⟨_, rfl, hno.out (by rintro ⟨⟨gN, gD⟩, gC, gT, gA⟩; have := gC hk0; omega)⟩, huW.out.trans' uD.out⟩
          · have hC : ∀ h' : 0 < k, cmpS p nm < 0 := fun h => absurd h hk0
            clear hwj
            by_cases hTm : 0 ≤ tm ∧ tm ≤ mxT
            · have kS := Lib.hid fun (V : World) => (span_c (n := 0) (W := V) (x := tm)).mono (R' := fun e W2 => e = .returned (.bool true) ∧ W2 = V) (by rintro e W2 ⟨rfl, rfl⟩; exact ⟨by simp [hTm], rfl⟩)
              by_cases hAt : 0 ≤ at0 ∧ at0 ≤ now
              · have hAt' := hAt
                obtain ⟨a0, a1⟩ := hAt'
                have a0n : (at0 < 0) = False := eq_false (by omega)
                have a1n : (now < at0) = False := eq_false (by omega)
                gi_wp2
                refine wpIn_eager [(0, true), (1, true), (2, false), (3, true), (4, true), (5, true), (6, true), (7, false), (8, true), (9, true), (10, true), (11, true), (12, true), (13, true), (14, true), (15, true), (16, true), (17, true), (18, true), (19, true), (20, true), (21, true), (22, true), (23, true), (24, true), (25, true), (26, true), (27, true), (28, false), (29, true), (30, true), (31, true), (32, true), (33, true), (34, true), (35, true), (36, true), (37, true), (38, true), (39, true), (40, true), (41, true), (42, true)] (fun V => (V.cell? ⟨wr.heap.size, 0, none⟩ = some (.string nm) ∧ V.cell? ⟨wr.heap.size, 1, none⟩ = some (.int .i64 tm) ∧ V.cell? ⟨wr.heap.size, 2, none⟩ = some (.int .i64 at0)) ∧ (V.cell? ⟨W.heap.size, 0, none⟩ = some (.int .i64 now) ∧ V.cell? ⟨W.heap.size, 2, none⟩ = some (.slice (some ⟨g, o, none⟩) ls.length cap)) ∧ V.cell? ⟨g, o + j * 3, none⟩ = some (.string p)) (by kernel_rfl) (by kernel_rfl) (hold.out _ (Upd.refl _ _)) ?_
                repeat (first | (refine wpE_fl rfl rfl (fun _ _ => rfl) ?_; go_simp) | (refine wpE_sk rfl rfl ?_; go_simp) | (refine wpE_fl (v := ?_) rfl rfl ?_ ?_; rotate_left; (intro W' h'; (try dsimp only at h'); go_simp; exact rfl); go_simp) | (refine wpE_ef rfl ?_; go_simp; gi_wp2_with (first | refine (⟨trivial, rfl, ?_⟩ : Fence.wide.fn _ ∧ Fence.wide.depth = none ∧ _) | refine (⟨trivial, trivial, rfl, ?_⟩ : Fence.wide.fn _ ∧ Fence.wide.fn _ ∧ Fence.wide.depth = none ∧ _) | (gi_at_call 48; (with_reducible refine (kN.out _).mono ?_); rintro e V2 ⟨rfl, rfl⟩) | (gi_at_call 49; (with_reducible refine (kD.out _).mono ?_); rintro e V3 ⟨rfl, rfl⟩) | (gi_at_call 22; (with_reducible refine (kS.out _).mono ?_); rintro e V4 ⟨rfl, rfl⟩) | refine (⟨trivial, ?_⟩ : Fence.wide.fn _ ∧ _)); (first | refine ⟨by first | exact (hold.out _ (Upd.refl _ _)), ?_⟩ | skip)) | (refine wpE_ef rfl ?_; go_simp; gi_wp2_with ((with_reducible refine listSkipV ?_ ?_ ?_); rfl; rfl); (first | refine ⟨by first | exact (hold.out _ (Upd.refl _ _)), ?_⟩ | skip)))
                refine wpE_nil ?_
                gi_wp2_with (first | refine (⟨trivial, rfl, ?_⟩ : Fence.wide.fn _ ∧ Fence.wide.depth = none ∧ _) | refine (⟨trivial, ?_⟩ : Fence.wide.fn _ ∧ _))
                exact ⟨⟨k + 1, by go_num, by omega, Lib.hid (hyes.out ⟨⟨hN, hD⟩, hC, hTm, hAt⟩), hu.trans' uD.out⟩, by simp [intOf]; omega⟩
              · by_cases a0 : 0 ≤ at0
                · have a1 : now < at0 := by omega
                  have a0n : (at0 < 0) = False := eq_false (by omega)
                  gi_wp2
                  refine wpIn_eager [(0, true), (1, true), (2, false), (3, true), (4, true), (5, true), (6, true), (7, false), (8, true), (9, true), (10, true), (11, true), (12, true), (13, true), (14, true), (15, true), (16, true), (17, true), (18, true), (19, true), (20, true), (21, true), (22, true), (23, true), (24, true), (25, true), (26, true), (27, true), (28, false), (29, true), (30, true), (31, true), (32, true), (33, true), (34, true), (35, true), (36, true), (37, true), (38, true), (39, true), (40, true), (41, true), (42, true)] (fun V => (V.cell? ⟨wr.heap.size, 0, none⟩ = some (.string nm) ∧ V.cell? ⟨wr.heap.size, 1, none⟩ = some (.int .i64 tm) ∧ V.cell? ⟨wr.heap.size, 2, none⟩ = some (.int .i64 at0)) ∧ (V.cell? ⟨W.heap.size, 0, none⟩ = some (.int .i64 now) ∧ V.cell? ⟨W.heap.size, 2, none⟩ = some (.slice (some ⟨g, o, none⟩) ls.length cap)) ∧ V.cell? ⟨g, o + j * 3, none⟩ = some (.string p)) (by kernel_rfl) (by kernel_rfl) (hold.out _ (Upd.refl _ _)) ?_
                  repeat (first | (refine wpE_fl rfl rfl (fun _ _ => rfl) ?_; go_simp) | (refine wpE_sk rfl rfl ?_; go_simp) | (refine wpE_fl (v := ?_) rfl rfl ?_ ?_; rotate_left; (intro W' h'; (try dsimp only at h'); go_simp; exact rfl); go_simp) | (refine wpE_ef rfl ?_; go_simp; gi_wp2_with (first | refine (⟨trivial, rfl, ?_⟩ : Fence.wide.fn _ ∧ Fence.wide.depth = none ∧ _) | refine (⟨trivial, trivial, rfl, ?_⟩ : Fence.wide.fn _ ∧ Fence.wide.fn _ ∧ Fence.wide.depth = none ∧ _) | (gi_at_call 48; (with_reducible refine (kN.out _).mono ?_); rintro e V2 ⟨rfl, rfl⟩) | (gi_at_call 49; (with_reducible refine (kD.out _).mono ?_); rintro e V3 ⟨rfl, rfl⟩) | (gi_at_call 22; (with_reducible refine (kS.out _).mono ?_); rintro e V4 ⟨rfl, rfl⟩) | refine (⟨trivial, ?_⟩ : Fence.wide.fn _ ∧ _)); (first | refine ⟨by first | exact (hold.out _ (Upd.refl _ _)), ?_⟩ | skip)) | (refine wpE_ef rfl ?_; go_simp; gi_wp2_with ((with_reducible refine listSkipV ?_ ?_ ?_); rfl; rfl); (first | refine ⟨by first | exact (hold.out _ (Upd.refl _ _)), ?_⟩ | skip)))
                  refine wpE_nil ?_
                  gi_wp2_with (first | refine (⟨trivial, rfl, ?_⟩ : Fence.wide.fn _ ∧ Fence.wide.depth = none ∧ _) | refine (⟨trivial, ?_⟩ : Fence.wide.fn _ ∧ _))
                  go_ret
                  exact ⟨⟨_, rfl, hno.out (by rintro ⟨⟨gN, gD⟩, gC, gT, gA⟩; exact hAt gA)⟩, huW.out.trans' uD.out⟩
                · have a1 : at0 < 0 := by omega
                  gi_wp2
                  refine wpIn_eager [(0, true), (1, true), (2, false), (3, true), (4, true), (5, true), (6, true), (7, false), (8, true), (9, true), (10, true), (11, true), (12, true), (13, true), (14, true), (15, true), (16, true), (17, true), (18, true), (19, true), (20, true), (21, true), (22, true), (23, true), (24, true), (25, true), (26, true), (27, true), (28, false), (29, true), (30, true), (31, true), (32, true), (33, true), (34, true), (35, true), (36, true), (37, true), (38, true), (39, true), (40, true), (41, true), (42, true)] (fun V => (V.cell? ⟨wr.heap.size, 0, none⟩ = some (.string nm) ∧ V.cell? ⟨wr.heap.size, 1, none⟩ = some (.int .i64 tm) ∧ V.cell? ⟨wr.heap.size, 2, none⟩ = some (.int .i64 at0)) ∧ (V.cell? ⟨W.heap.size, 0, none⟩ = some (.int .i64 now) ∧ V.cell? ⟨W.heap.size, 2, none⟩ = some (.slice (some ⟨g, o, none⟩) ls.length cap)) ∧ V.cell? ⟨g, o + j * 3, none⟩ = some (.string p)) (by kernel_rfl) (by kernel_rfl) (hold.out _ (Upd.refl _ _)) ?_
                  repeat (first | (refine wpE_fl rfl rfl (fun _ _ => rfl) ?_; go_simp) | (refine wpE_sk rfl rfl ?_; go_simp) | (refine wpE_fl (v := ?_) rfl rfl ?_ ?_; rotate_left; (intro W' h'; (try dsimp only at h'); go_simp; exact rfl); go_simp) | (refine wpE_ef rfl ?_; go_simp; gi_wp2_with (first | refine (⟨trivial, rfl, ?_⟩ : Fence.wide.fn _ ∧ Fence.wide.depth = none ∧ _) | refine (⟨trivial, trivial, rfl, ?_⟩ : Fence.wide.fn _ ∧ Fence.wide.fn _ ∧ Fence.wide.depth = none ∧ _) | (gi_at_call 48; (with_reducible refine (kN.out _).mono ?_); rintro e V2 ⟨rfl, rfl⟩) | (gi_at_call 49; (with_reducible refine (kD.out _).mono ?_); rintro e V3 ⟨rfl, rfl⟩) | (gi_at_call 22; (with_reducible refine (kS.out _).mono ?_); rintro e V4 ⟨rfl, rfl⟩) | refine (⟨trivial, ?_⟩ : Fence.wide.fn _ ∧ _)); (first | refine ⟨by first | exact (hold.out _ (Upd.refl _ _)), ?_⟩ | skip)) | (refine wpE_ef rfl ?_; go_simp; gi_wp2_with ((with_reducible refine listSkipV ?_ ?_ ?_); rfl; rfl); (first | refine ⟨by first | exact (hold.out _ (Upd.refl _ _)), ?_⟩ | skip)))
                  refine wpE_nil ?_
                  gi_wp2_with (first | refine (⟨trivial, rfl, ?_⟩ : Fence.wide.fn _ ∧ Fence.wide.depth = none ∧ _) | refine (⟨trivial, ?_⟩ : Fence.wide.fn _ ∧ _))
                  go_ret
                  exact ⟨⟨_, rfl, hno.out (by rintro ⟨⟨gN, gD⟩, gC, gT, gA⟩; exact hAt gA)⟩, huW.out.trans' uD.out⟩
            · have kS := Lib.hid fun (V : World) => (span_c (n := 0) (W := V) (x := tm)).mono (R' := fun e W2 => e = .returned (.bool false) ∧ W2 = V) (by rintro e W2 ⟨rfl, rfl⟩; exact ⟨by simp only [hTm, decide_false], rfl⟩)
              gi_wp2
              refine wpIn_eager [(0, true), (1, true), (2, false), (3, true), (4, true), (5, true), (6, true), (7, false), (8, true), (9, true), (10, true), (11, true), (12, true), (13, true), (14, true), (15, true), (16, true), (17, true), (18, true), (19, true), (20, true), (21, true), (22, true), (23, true), (24, true), (25, true), (26, true), (27, true), (28, false), (29, true), (30, true), (31, true), (32, true), (33, true), (34, true), (35, true), (36, true), (37, true), (38, true), (39, true), (40, true), (41, true), (42, true)] (fun V => (V.cell? ⟨wr.heap.size, 0, none⟩ = some (.string nm) ∧ V.cell? ⟨wr.heap.size, 1, none⟩ = some (.int .i64 tm) ∧ V.cell? ⟨wr.heap.size, 2, none⟩ = some (.int .i64 at0)) ∧ (V.cell? ⟨W.heap.size, 0, none⟩ = some (.int .i64 now) ∧ V.cell? ⟨W.heap.size, 2, none⟩ = some (.slice (some ⟨g, o, none⟩) ls.length cap)) ∧ V.cell? ⟨g, o + j * 3, none⟩ = some (.string p)) (by kernel_rfl) (by kernel_rfl) (hold.out _ (Upd.refl _ _)) ?_
              repeat (first | (refine wpE_fl rfl rfl (fun _ _ => rfl) ?_; go_simp) | (refine wpE_sk rfl rfl ?_; go_simp) | (refine wpE_fl (v := ?_) rfl rfl ?_ ?_; rotate_left; (intro W' h'; (try dsimp only at h'); go_simp; exact rfl); go_simp) | (refine wpE_ef rfl ?_; go_simp; gi_wp2_with (first | refine (⟨trivial, rfl, ?_⟩ : Fence.wide.fn _ ∧ Fence.wide.depth = none ∧ _) | refine (⟨trivial, trivial, rfl, ?_⟩ : Fence.wide.fn _ ∧ Fence.wide.fn _ ∧ Fence.wide.depth = none ∧ _) | (gi_at_call 48; (with_reducible refine (kN.out _).mono ?_); rintro e V2 ⟨rfl, rfl⟩) | (gi_at_call 49; (with_reducible refine (kD.out _).mono ?_); rintro e V3 ⟨rfl, rfl⟩) | (gi_at_call 22; (with_reducible refine (kS.out _).mono ?_); rintro e V4 ⟨rfl, rfl⟩) | refine (⟨trivial, ?_⟩ : Fence.wide.fn _ ∧ _)); (first | refine ⟨by first | exact (hold.out _ (Upd.refl _ _)), ?_⟩ | skip)) | (refine wpE_ef rfl ?_; go_simp; gi_wp2_with ((with_reducible refine listSkipV ?_ ?_ ?_); rfl; rfl); (first | refine ⟨by first | exact (hold.out _ (Upd.refl _ _)), ?_⟩ | skip)))
              refine wpE_nil ?_
              gi_wp2_with (first | refine (⟨trivial, rfl, ?_⟩ : Fence.wide.fn _ ∧ Fence.wide.depth = none ∧ _) | refine (⟨trivial, ?_⟩ : Fence.wide.fn _ ∧ _))
              go_ret
              exact ⟨⟨_, rfl, hno.out (by rintro ⟨⟨gN, gD⟩, gC, gT, gA⟩; exact hTm gT)⟩, huW.out.trans' uD.out⟩
        · have kD := Lib.hid fun (V : World) => (kD0.out V).mono (R' := fun e W2 => e = .returned (.bool true) ∧ W2 = V) (by rintro e W2 ⟨h, rfl⟩; exact ⟨boolP h (by simpa using hD), rfl⟩)
          clear kN0 kD0 hwj
          gi_wp2
          refine wpIn_eager [(0, true), (1, true), (2, false), (3, true), (4, true), (5, true), (6, true), (7, false), (8, true), (9, true), (10, true), (11, true), (12, true), (13, true), (14, true), (15, true), (16, true), (17, true), (18, true), (19, true), (20, true), (21, true), (22, true), (23, true), (24, true), (25, true), (26, true), (27, true), (28, false), (29, true), (30, true), (31, true), (32, true), (33, true), (34, true), (35, true), (36, true), (37, true), (38, true), (39, true), (40, true), (41, true), (42, true)] (fun V => (V.cell? ⟨wr.heap.size, 0, none⟩ = some (.string nm) ∧ V.cell? ⟨wr.heap.size, 1, none⟩ = some (.int .i64 tm) ∧ V.cell? ⟨wr.heap.size, 2, none⟩ = some (.int .i64 at0)) ∧ (V.cell? ⟨W.heap.size, 0, none⟩ = some (.int .i64 now) ∧ V.cell? ⟨W.heap.size, 2, none⟩ = some (.slice (some ⟨g, o, none⟩) ls.length cap)) ∧ V.cell? ⟨g, o + j * 3, none⟩ = some (.string p)) (by kernel_rfl) (by kernel_rfl) (hold.out _ (Upd.refl _ _)) ?_
          repeat (first | (refine wpE_fl rfl rfl (fun _ _ => rfl) ?_; go_simp) | (refine wpE_sk rfl rfl ?_; go_simp) | (refine wpE_fl (v := ?_) rfl rfl ?_ ?_; rotate_left; (intro W' h'; (try dsimp only at h'); go_simp; exact rfl); go_simp) | (refine wpE_ef rfl ?_; go_simp; gi_wp2_with (first | refine (⟨trivial, rfl, ?_⟩ : Fence.wide.fn _ ∧ Fence.wide.depth = none ∧ _) | refine (⟨trivial, trivial, rfl, ?_⟩ : Fence.wide.fn _ ∧ Fence.wide.fn _ ∧ Fence.wide.depth = none ∧ _) | (gi_at_call 48; (with_reducible refine (kN.out _).mono ?_); rintro e V2 ⟨rfl, rfl⟩) | (gi_at_call 49; (with_reducible refine (kD.out _).mono ?_); rintro e V3 ⟨rfl, rfl⟩) | refine (⟨trivial, ?_⟩ : Fence.wide.fn _ ∧ _)); (first | refine ⟨by first | exact (hold.out _ (Upd.refl _ _)), ?_⟩ | skip)) | (refine wpE_ef rfl ?_; go_simp; gi_wp2_with ((with_reducible refine listSkipV ?_ ?_ ?_); rfl; rfl); (first | refine ⟨by first | exact (hold.out _ (Upd.refl _ _)), ?_⟩ | skip)))
          refine wpE_nil ?_
          gi_wp2_with (first | refine (⟨trivial, rfl, ?_⟩ : Fence.wide.fn _ ∧ Fence.wide.depth = none ∧ _) | refine (⟨trivial, ?_⟩ : Fence.wide.fn _ ∧ _))
          go_ret
          exact ⟨⟨_, rfl, hno.out (by rintro ⟨⟨gN, gD⟩, gC, gT, gA⟩; exact hD gD)⟩, huW.out.trans' uD.out⟩
      · have kN := Lib.hid fun (V : World) => (kN0.out V).mono (R' := fun e W2 => e = .returned (.bool false) ∧ W2 = V) (by rintro e W2 ⟨h, rfl⟩; exact ⟨boolP h (by simp [hN]), rfl⟩)
        clear kN0 kD0 hwj
        gi_wp2
        refine wpIn_eager [(0, true), (1, true), (2, false), (3, true), (4, true), (5, true), (6, true), (7, false), (8, true), (9, true), (10, true), (11, true), (12, true), (13, true), (14, true), (15, true), (16, true), (17, true), (18, true), (19, true), (20, true), (21, true), (22, true), (23, true), (24, true), (25, true), (26, true), (27, true), (28, false), (29, true), (30, true), (31, true), (32, true), (33, true), (34, true), (35, true), (36, true), (37, true), (38, true), (39, true), (40, true), (41, true), (42, true)] (fun V => (V.cell? ⟨wr.heap.size, 0, none⟩ = some (.string nm) ∧ V.cell? ⟨wr.heap.size, 1, none⟩ = some (.int .i64 tm) ∧ V.cell? ⟨wr.heap.size, 2, none⟩ = some (.int .i64 at0)) ∧ (V.cell? ⟨W.heap.size, 0, none⟩ = some (.int .i64 now) ∧ V.cell? ⟨W.heap.size, 2, none⟩ = some (.slice (some ⟨g, o, none⟩) ls.length cap)) ∧ V.cell? ⟨g, o + j * 3, none⟩ = some (.string p)) (by kernel_rfl) (by kernel_rfl) (hold.out _ (Upd.refl _ _)) ?_
        repeat (first | (refine wpE_fl rfl rfl (fun _ _ => rfl) ?_; go_simp) | (refine wpE_sk rfl rfl ?_; go_simp) | (refine wpE_fl (v := ?_) rfl rfl ?_ ?_; rotate_left; (intro W' h'; (try dsimp only at h'); go_simp; exact rfl); go_simp) | (refine wpE_ef rfl ?_; go_simp; gi_wp2_with (first | refine (⟨trivial, rfl, ?_⟩ : Fence.wide.fn _ ∧ Fence.wide.depth = none ∧ _) | refine (⟨trivial, trivial, rfl, ?_⟩ : Fence.wide.fn _ ∧ Fence.wide.fn _ ∧ Fence.wide.depth = none ∧ _) | (gi_at_call 48; (with_reducible refine (kN.out _).mono ?_); rintro e V2 ⟨rfl, rfl⟩) | refine (⟨trivial, ?_⟩ : Fence.wide.fn _ ∧ _)); (first | refine ⟨by first | exact (hold.out _ (Upd.refl _ _)), ?_⟩ | skip)) | (refine wpE_ef rfl ?_; go_simp; gi_wp2_with ((with_reducible refine listSkipV ?_ ?_ ?_); rfl; rfl); (first | refine ⟨by first | exact (hold.out _ (Upd.refl _ _)), ?_⟩ | skip)))
        refine wpE_nil ?_
        gi_wp2_with (first | refine (⟨trivial, rfl, ?_⟩ : Fence.wide.fn _ ∧ Fence.wide.depth = none ∧ _) | refine (⟨trivial, ?_⟩ : Fence.wide.fn _ ∧ _))
        go_ret
        exact ⟨⟨_, rfl, hno.out (by rintro ⟨⟨gN, gD⟩, gC, gT, gA⟩; exact hN gN)⟩, huW.out.trans' uD.out⟩
    · obtain rfl : k = ls.length := by omega
      have hE := Lib.hid fun (b : Bool) hb => rows_end (low := low) hT.out (b := b) hb
      clear hT hb
      have kS0 := Lib.hid fun (V : World) => span_c (n := 0) (W := V) (x := now)
      by_cases h1 : 0 ≤ now ∧ now ≤ mxT
      · have kS := Lib.hid fun (V : World) => (kS0.out V).mono (R' := fun e W2 => e = .returned (.bool true) ∧ W2 = V) (by rintro e W2 ⟨rfl, rfl⟩; exact ⟨by simp [h1], rfl⟩)
        have h1' := Lib.hid h1
        clear h1 kS0
        by_cases h3 : 0 ≤ low <;> by_cases h4 : low ≤ 2199023255552 <;> by_cases h5 : (ls.length : Int) ≤ 8 <;> first | (exfalso; omega) | skip
        all_goals
          gi_wp2_with (first | refine (⟨trivial, rfl, ?_⟩ : Fence.wide.fn _ ∧ Fence.wide.depth = none ∧ _) | (gi_at_call 22; (with_reducible refine (kS.out _).mono ?_); rintro e V4 ⟨rfl, rfl⟩) | refine (⟨trivial, ?_⟩ : Fence.wide.fn _ ∧ _))
          go_ret
          exact ⟨⟨_, rfl, hE.out _ (by have h1 := h1'.out; simp only [mxT] at h1 ⊢; simp only [true_iff, false_iff, Bool.false_eq_true, decide_eq_true_eq]; omega)⟩, huW.out⟩
      · have kS := Lib.hid fun (V : World) => (kS0.out V).mono (R' := fun e W2 => e = .returned (.bool false) ∧ W2 = V) (by rintro e W2 ⟨rfl, rfl⟩; exact ⟨by simp only [h1, decide_false], rfl⟩)
        clear kS0
        gi_wp2_with (first | refine (⟨trivial, rfl, ?_⟩ : Fence.wide.fn _ ∧ Fence.wide.depth = none ∧ _) | (gi_at_call 22; (with_reducible refine (kS.out _).mono ?_); rintro e V4 ⟨rfl, rfl⟩) | refine (⟨trivial, ?_⟩ : Fence.wide.fn _ ∧ _))
        go_ret
        exact ⟨⟨_, rfl, hE.out _ ⟨fun h => (by cases h), fun h => absurd h.1 h1⟩⟩, huW.out⟩
end
end Go.Proofs.Ytpljdckppmobeaa

/- MarkLoads: the walk of the law. -/
import Derived.Test.YtpljdckppmobeaaProg
import Derived.Test.YtpljdckppmobeaaBase
import Derived.Test.YtpljdckppmobeaaMkLd
import Derived.Test.YtpljdckppmobeaaMkQb
import Derived.Test.YtpljdckppmobeaaMkJW
namespace Go.Proofs.Ytpljdckppmobeaa
open Go.RowKit Go.Shelf
attribute [local go_sem] Oper.semAt_some

section
variable {w W : World} {A AA : Option Addr} {cap capA : Nat} {ls : List (KSM × VSM)} {acts : List Act13} {idle drain now low : Int} {bs : Nat}
/-- Where the state is right: all behind Load. -/
def LoadYes (mb bs : Nat) (idle drain now low : Int) (v : Value) (acts : Value) (w W : World) : Prop :=
  D3 bs now low v W ∧ CallsIn Fence.wide 0 Try.prog 17 #[.agg #[.int .i64 now, .int .i64 low, v]] W fun e W3 => ∃ r, e = .returned r ∧
    CallsIn Fence.wide 0 Try.prog 21 #[r] W3 fun e W4 => e = .returned (.bool true) ∧ D3 bs now low v W4.drew ∧
      CallsIn Fence.wide 0 Try.prog 18 #[.pointer (some ⟨mb, 0, none⟩)] W4.drew fun e W5 => ∃ s5, e = .returned s5 ∧ D3 bs now low v W5 ∧
        CallsIn Fence.wide 0 Try.prog 17 #[s5] W5 fun e W6 => ∃ r6, e = .returned r6 ∧ D3 bs now low v W6 ∧
          CallsIn Fence.wide 0 Try.prog 17 #[.agg #[.int .i64 now, .int .i64 low, v]] W6 fun e W7 => ∃ r7, e = .returned r7 ∧ D3 bs now low v W7 ∧
            CallsIn Fence.wide 0 Try.prog 16 #[r6, r7] W7 fun e W8 => e = .returned (.bool true) ∧ D3 bs now low v W8 ∧
              CallsIn Fence.wide 0 Try.prog 17 #[.agg #[.int .i64 now, .int .i64 low, v]] W8 fun e W9 => ∃ r9, e = .returned r9 ∧ D3 bs now low v W9 ∧
                CallsIn Fence.wide 0 Try.prog 19 #[.pointer (some ⟨mb, 0, none⟩), r9, .int .i64 idle, .int .i64 drain, acts] W9 fun e W10 => e = .returned (.bool true) ∧ D3 bs now low v W10 ∧ Upd (fun _ => False) w W10
theorem loadYes {mb : Nat} {F : Nat → Prop} (hI : MkI mb idle drain now low ls F W) (hi : 0 ≤ idle ∧ idle ≤ mxT) (hd : 0 ≤ drain ∧ drain ≤ mxT) (hp : rightP now low ls) (hF : ∀ j, F j → w.heap.size ≤ j) (hu : Upd (fun _ => False) w W) (hB : Blk W bs #[.int .i64 now, .int .i64 low, .slice A ls.length cap] 47) (hnB : ¬ F bs)
    (hr : Reads1 w A (flatS ls)) (hsz : ∀ e ∈ ls, e.1.size ≤ maxLen) (hra : Reads1 w AA (acts.flatMap encC)) (hsza : ∀ a ∈ acts, a.src.size ≤ maxLen) (hal : acts.length ≤ 60) : LoadYes mb bs idle drain now low (.slice A ls.length cap) (.slice AA acts.length capA) w W := by
  have hl : ls.length ≤ 8 := hp.2.2.2
  have hrW := fun V (u : Upd (fun _ => False) w V) => hr.agree' (w' := V) (u.agree fun j hj => ⟨hr.lt' j hj, id⟩)
  refine ⟨d3 hB, (ref_c (hrW _ hu) (by omega)).mono ?_⟩
  rintro e W3 ⟨A3, c3, rfl, _, r3, _, u3⟩
  have hu3 := hu.trans' u3
  refine ⟨_, rfl, (Right13_c r3 (by omega) hsz).mono ?_⟩
  rintro e W4 ⟨h4, u4⟩
  have hu4 := (hu3.trans' u4).stepDrew
  have B4 := hB.upd ((u3.trans' u4).stepDrew) id
  have I4 := hI.upd ((u3.trans' u4).stepDrew) fun _ _ => id
  refine ⟨boolP h4 (by simp [hp]), d3 B4, (markState_c I4 (by omega)).mono ?_⟩
  rintro e W5 ⟨A5, c5, rfl, r5, _, u5⟩
  refine ⟨_, rfl, d3 (B4.upd u5 id), (ref_c r5 (by omega)).mono ?_⟩
  rintro e W6 ⟨A6, c6, rfl, _, r6, _, u6⟩
  have u56 := u5.trans' u6
  have hu6 := hu4.trans' u56
  refine ⟨_, rfl, d3 (B4.upd u56 id), (ref_c (hrW _ hu6) (by omega)).mono ?_⟩
  rintro e W7 ⟨A7, c7, rfl, _, r7, _, u7⟩
  have u57 := u56.trans' u7
  refine ⟨_, rfl, d3 (B4.upd u57 id), (same_c (r6.agree' (u7.agree fun j hj => ⟨r6.lt' j hj, id⟩)) r7 (by omega)).mono ?_⟩
  rintro e W8 ⟨rfl, u8⟩
  have u58 := u57.trans' u8
  have hu8 := hu4.trans' u58
  refine ⟨rfl, d3 (B4.upd u58 id), (ref_c (hrW _ hu8) (by omega)).mono ?_⟩
  rintro e W9 ⟨A9, c9, rfl, hc9, r9, b9, u9⟩
  have u59 := u58.trans' u9
  have hu9 := hu4.trans' u59
  have I9 := I4.upd u59 fun _ _ => id
  have I8 := I4.upd u58 fun _ _ => id
  refine ⟨_, rfl, d3 (B4.upd u59 id), (play13_c (n := 0) I9 (hp.ok hi hd) hsz r9 hc9 (fun j hj hF9 => by have := (b9 j hj.2).1; have := I8.lt j hF9; omega) (hra.agree' (hu9.agree fun j hj => ⟨hra.lt' j hj, id⟩)) (fun j hj hF9 => by have := hra.lt' j hj; have := hF j hF9; omega) hsza (by omega)).mono ?_⟩
  rintro e W10 ⟨rfl, u10⟩
  exact ⟨rfl, d3 ((B4.upd u59 id).upd u10 hnB), hu9.trans u10 fun j hj => .inr (hF j hj)⟩
set_option maxRecDepth 100000 in
set_option maxHeartbeats 8000000 in
theorem markLoads_law {n : Nat} (hr : Reads1 w A (flatS ls)) (hsz : ∀ e ∈ ls, e.1.size ≤ maxLen) (hra : Reads1 w AA (acts.flatMap encC)) (hsza : ∀ a ∈ acts, a.src.size ≤ maxLen) :
    CallsIn Fence.wide n Try.prog 6 #[.agg #[.int .i64 idle, .int .i64 drain], .agg #[.int .i64 now, .int .i64 low, .slice A ls.length cap], .slice AA acts.length capA] w fun e w' => e = .returned (.bool true) ∧ Upd (fun _ => False) w w' := by
  have u0 := ((Upd.refl (fun _ => False) w).stepAlloc (.cells #[.int .i64 idle, .int .i64 drain] 52)).stepAlloc (.cells #[.int .i64 now, .int .i64 low, .slice A ls.length cap] 47)
  have be := (Blk.new w #[.int .i64 idle, .int .i64 drain] 52).alloc (.cells #[.int .i64 now, .int .i64 low, .slice A ls.length cap] 47)
  have bs := Blk.new (w.alloc (.cells #[.int .i64 idle, .int .i64 drain] 52)) #[.int .i64 now, .int .i64 low, .slice A ls.length cap] 47
  rw [World.size_alloc] at bs
  have hrW := fun V (u : Upd (fun _ => False) w V) => hr.agree' (w' := V) (u.agree fun j hj => ⟨hr.lt' j hj, id⟩)
  have k1 := (awake_c (n := 0) (w := (w.alloc (.cells #[.int .i64 idle, .int .i64 drain] 52)).alloc (.cells #[.int .i64 now, .int .i64 low, .slice A ls.length cap] 47))).mono (R' := fun e W1 => e = .returned (.bool true) ∧ W1.cell? ⟨w.heap.size + 1, 2, none⟩ = some (.slice A ls.length cap) ∧ CallsIn Fence.wide 0 Try.prog 8 #[] W1 (fun e W2 => e = .returned (.bool true) ∧ Upd (fun _ => False) w W2) ∧
      (D3 (w.heap.size + 1) now low (.slice A ls.length cap) W1 ∧ W1.cell? ⟨w.heap.size, 0, none⟩ = some (.int .i64 idle) ∧ W1.cell? ⟨w.heap.size, 1, none⟩ = some (.int .i64 drain)) ∧
      (¬ (0 ≤ idle ∧ idle ≤ mxT ∧ 0 ≤ drain ∧ drain ≤ mxT) → CallsIn Fence.wide 0 Try.prog 20 #[.int .i64 idle, .int .i64 drain, .agg #[.int .i64 now, .int .i64 low, .slice A ls.length cap]] W1.drew fun e W2 => e = .returned (.tuple #[.pointer none, .int .i64 1]) ∧ Upd (fun _ => False) w W2) ∧
      ((0 ≤ idle ∧ idle ≤ mxT) → (0 ≤ drain ∧ drain ≤ mxT) → ls.length ≤ 20 → ¬ rightP now low ls → CallsIn Fence.wide 0 Try.prog 20 #[.int .i64 idle, .int .i64 drain, .agg #[.int .i64 now, .int .i64 low, .slice A ls.length cap]] W1.drew fun e W2 => e = .returned (.tuple #[.pointer none, .int .i64 2]) ∧ D3 (w.heap.size + 1) now low (.slice A ls.length cap) W2 ∧
        CallsIn Fence.wide 0 Try.prog 17 #[.agg #[.int .i64 now, .int .i64 low, .slice A ls.length cap]] W2 fun e W3 => ∃ r, e = .returned r ∧ CallsIn Fence.wide 0 Try.prog 21 #[r] W3 fun e W4 => e = .returned (.bool false) ∧ Upd (fun _ => False) w W4) ∧
      ((0 ≤ idle ∧ idle ≤ mxT) → (0 ≤ drain ∧ drain ≤ mxT) → acts.length ≤ 60 → rightP now low ls → CallsIn Fence.wide 0 Try.prog 20 #[.int .i64 idle, .int .i64 drain, .agg #[.int .i64 now, .int .i64 low, .slice A ls.length cap]] W1.drew fun e W2 => ∃ mb, e = .returned (.tuple #[.pointer (some ⟨mb, 0, none⟩), .int .i64 0]) ∧ LoadYes mb (w.heap.size + 1) idle drain now low (.slice A ls.length cap) (.slice AA acts.length capA) w W2)) (by
    rintro e W1 ⟨rfl, u1⟩
    have hu1 := u0.trans' u1
    have hu1d := hu1.stepDrew
    have bs1 := bs.upd u1 id
    have be1 := be.upd u1 id
    have bs1d := bs1.upd (Upd.drew (fun _ => False) _) id
    refine ⟨rfl, bs1.cell 2, (awake_c (n := 0)).mono ?_, ⟨d3 bs1, be1.cell 0, be1.cell 1⟩, fun hb => (loadBad_c hb).mono ?_, fun hi hd hl hp => (loadNo_c hi hd (hrW _ hu1d) (by omega) hsz hp).mono ?_, fun hi hd hl hp => (load_c hi hd (hrW _ hu1d) hsz hp).mono ?_⟩
    · rintro e W2 ⟨rfl, u2⟩
      exact ⟨rfl, hu1.trans' u2⟩
    · rintro e W2 ⟨rfl, u2⟩
      exact ⟨rfl, hu1d.trans' u2⟩
    · rintro e W2 ⟨rfl, u2⟩
      have hu2 := hu1d.trans' u2
      refine ⟨rfl, d3 (bs1d.upd u2 id), (ref_c (hrW _ hu2) (by omega)).mono ?_⟩
      rintro e W3 ⟨A3, c3, rfl, _, r3, _, u3⟩
      refine ⟨_, rfl, (Right13_c r3 (by omega) hsz).mono ?_⟩
      rintro e W4 ⟨h4, u4⟩
      exact ⟨boolP h4 (by simp [hp]), (hu2.trans' u3).trans' u4⟩
    · rintro e W2 ⟨mb, F, rfl, g1, g2, g3⟩
      have hz := hu1d.size
      have hbl := bs1d.lt
      exact ⟨mb, rfl, loadYes g1 hi hd hp (fun j hj => by have := g2 j hj; omega) (hu1d.trans' g3) (bs1d.upd g3 id) (fun hh => by have := g2 _ hh; omega) hr hsz hra hsza hl⟩)
  replace k1 := Lib.hid k1
  clear hr hsz hra hsza hrW u0 be bs
  refine callsIn_any (n := 0) (callsIn_of_wp Try.func6 rfl trivial ?_)
  simp only [Try.ntmps6, List.size_toArray, List.length_cons, List.length_nil, Nat.reduceAdd, Nat.reduceSub, Array.replicate_succ, Array.replicate_zero, List.push_toArray, List.append_toArray, List.nil_append, List.cons_append]
  by_cases hl : acts.length ≤ 60
  · by_cases hs : ls.length ≤ 20
    · skip
      gi_wp2_with (first | refine (⟨trivial, rfl, ?_⟩ : Fence.wide.fn _ ∧ Fence.wide.depth = none ∧ _) | (gi_at_call 8; (with_reducible refine k1.out.mono ?_); rintro e W1 ⟨rfl, d2, _, ⟨⟨q0, q1, _⟩, e0, e1⟩, kB, kN, kY⟩; (replace kB := Lib.hid kB); (replace kN := Lib.hid kN); (replace kY := Lib.hid kY)) | refine (⟨trivial, ?_⟩ : Fence.wide.fn _ ∧ _))
      clear k1
      have ht3 : (Try.prog.types[3]'(of_decide_eq_true (by kernel_rfl))).size = 1 := by kernel_rfl
      refine wpIn_eager [(0, true), (1, true), (2, true), (3, true), (4, true), (5, true)] (fun V => V.cell? ⟨w.heap.size, 0, none⟩ = some (.int .i64 idle) ∧ V.cell? ⟨w.heap.size, 1, none⟩ = some (.int .i64 drain)) (by kernel_rfl) (by kernel_rfl) ⟨e0, e1⟩ ?_
      repeat (first | (refine wpE_fl rfl rfl (fun _ _ => rfl) ?_; go_simp) | (refine wpE_sk rfl rfl ?_; go_simp) | (refine wpE_fl (v := ?_) rfl rfl ?_ ?_; rotate_left; (intro W' h'; (try dsimp only at h'); go_simp; exact rfl); go_simp) | (refine wpE_ef rfl ?_; go_simp; gi_wp2_with (first | refine (⟨trivial, rfl, ?_⟩ : Fence.wide.fn _ ∧ Fence.wide.depth = none ∧ _) | refine (⟨trivial, trivial, rfl, ?_⟩ : Fence.wide.fn _ ∧ Fence.wide.fn _ ∧ Fence.wide.depth = none ∧ _) | refine (⟨trivial, ?_⟩ : Fence.wide.fn _ ∧ _)); (first | refine ⟨by first | exact trivial, ?_⟩ | skip)))
      refine wpE_nil ?_
      clear ht3
      by_cases hi : 0 ≤ idle ∧ idle ≤ mxT
      · by_cases hd : 0 ≤ drain ∧ drain ≤ mxT
        · have hi' := hi
          have hd' := hd
          simp only [mxT] at hi' hd'
          obtain ⟨i0, i1⟩ := hi'
          obtain ⟨d0, d1⟩ := hd'
          by_cases hp : rightP now low ls
          · have kL := Lib.hid (kY.out hi hd hl hp)
            clear kB kN kY
            gi_wp2_with (first | refine (⟨trivial, rfl, ?_⟩ : Fence.wide.fn _ ∧ Fence.wide.depth = none ∧ _) | (gi_at_call 20; (with_reducible refine kL.out.mono ?_); rintro e W2 ⟨mb, rfl, ⟨⟨y0, y1, y2⟩, k3⟩⟩; (replace k3 := Lib.hid k3)) | (gi_at_call 17; (with_reducible refine k3.out.mono ?_); rintro e W3 ⟨r3, rfl, k4⟩; (replace k4 := Lib.hid k4)) | (gi_at_call 21; (with_reducible refine k4.out.mono ?_); rintro e W4 ⟨rfl, h4, k5⟩; (replace k5 := Lib.hid k5)) | refine (⟨trivial, ?_⟩ : Fence.wide.fn _ ∧ _))
            clear kL k3 k4
            refine wpIn_eager [(0, true), (1, true), (2, true), (3, true), (4, true), (5, true), (6, true), (7, true), (10, true), (8, false), (9, false), (11, false), (12, false), (13, true), (14, true), (15, true), (16, true), (18, true), (19, true), (20, true), (17, false), (21, false), (22, true), (23, true)] (fun V => V.cell? ⟨w.heap.size + 1, 0, none⟩ = some (.int .i64 now) ∧ V.cell? ⟨w.heap.size + 1, 1, none⟩ = some (.int .i64 low) ∧ V.cell? ⟨w.heap.size + 1, 2, none⟩ = some (.slice A ls.length cap)) (by kernel_rfl) (by kernel_rfl) h4 ?_
            repeat (first | (refine wpE_fl rfl rfl (fun _ _ => rfl) ?_; go_simp) | (refine wpE_sk rfl rfl ?_; go_simp) | (refine wpE_fl (v := ?_) rfl rfl ?_ ?_; rotate_left; (intro W' h'; (try dsimp only at h'); go_simp; exact rfl); go_simp) | (refine wpE_ef rfl ?_; go_simp; gi_wp2_with (first | refine (⟨trivial, rfl, ?_⟩ : Fence.wide.fn _ ∧ Fence.wide.depth = none ∧ _) | refine (⟨trivial, trivial, rfl, ?_⟩ : Fence.wide.fn _ ∧ Fence.wide.fn _ ∧ Fence.wide.depth = none ∧ _) | (gi_at_call 18; (with_reducible refine k5.out.mono ?_); rintro e W5 ⟨s5, rfl, h5, k6⟩; (replace k6 := Lib.hid k6)) | (gi_at_call 17; (with_reducible refine k6.out.mono ?_); rintro e W6 ⟨r6, rfl, h6, k7⟩; (replace k7 := Lib.hid k7)) | (gi_at_call 17; (with_reducible refine k7.out.mono ?_); rintro e W7 ⟨r7, rfl, h7, k8⟩; (replace k8 := Lib.hid k8)) | (gi_at_call 16; (with_reducible refine k8.out.mono ?_); rintro e W8 ⟨rfl, h8, k9⟩; (replace k9 := Lib.hid k9)) | (gi_at_call 17; (with_reducible refine k9.out.mono ?_); rintro e W9 ⟨r9, rfl, h9, k10⟩; (replace k10 := Lib.hid k10)) | (gi_at_call 19; (with_reducible refine k10.out.mono ?_); rintro e W10 ⟨rfl, h10, u10⟩; (replace u10 := Lib.hid u10)) | refine (⟨trivial, ?_⟩ : Fence.wide.fn _ ∧ _)); (first | refine ⟨by first | exact h4 | exact h5 | exact h6 | exact h7 | exact h8 | exact h9 | exact h10, ?_⟩ | skip)))
            refine wpE_nil ?_
            gi_wp2_with (first | refine (⟨trivial, rfl, ?_⟩ : Fence.wide.fn _ ∧ Fence.wide.depth = none ∧ _) | refine (⟨trivial, ?_⟩ : Fence.wide.fn _ ∧ _))
            go_ret
            exact ⟨rfl, u10.out⟩
          · have kL := Lib.hid (kN.out hi hd hs hp)
            clear kB kN kY
            gi_wp2_with (first | refine (⟨trivial, rfl, ?_⟩ : Fence.wide.fn _ ∧ Fence.wide.depth = none ∧ _) | (gi_at_call 20; (with_reducible refine kL.out.mono ?_); rintro e W2 ⟨rfl, ⟨y0, y1, y2⟩, k3⟩; (replace k3 := Lib.hid k3)) | (gi_at_call 17; (with_reducible refine k3.out.mono ?_); rintro e W3 ⟨r3, rfl, k4⟩; (replace k4 := Lib.hid k4)) | (gi_at_call 21; (with_reducible refine k4.out.mono ?_); rintro e W4 ⟨rfl, u4⟩; (replace u4 := Lib.hid u4)) | refine (⟨trivial, ?_⟩ : Fence.wide.fn _ ∧ _))
            go_ret
            exact ⟨rfl, u4.out⟩
        · have hb : ¬ (0 ≤ idle ∧ idle ≤ mxT ∧ 0 ≤ drain ∧ drain ≤ mxT) := fun h => hd h.2.2
          have kL := Lib.hid (kB.out hb)
          clear kB kN kY hb
          obtain ⟨i0, i1⟩ := hi
          simp only [mxT] at i1 hd
          by_cases d0 : 0 ≤ drain
          · have d1 : 1099511627776 < drain := by omega
            gi_wp2_with (first | refine (⟨trivial, rfl, ?_⟩ : Fence.wide.fn _ ∧ Fence.wide.depth = none ∧ _) | (gi_at_call 20; (with_reducible refine kL.out.mono ?_); rintro e W2 ⟨rfl, u2⟩; (replace u2 := Lib.hid u2)) | refine (⟨trivial, ?_⟩ : Fence.wide.fn _ ∧ _))
            go_ret
            exact ⟨rfl, u2.out⟩
          · have d1 : drain < 0 := by omega
            gi_wp2_with (first | refine (⟨trivial, rfl, ?_⟩ : Fence.wide.fn _ ∧ Fence.wide.depth = none ∧ _) | (gi_at_call 20; (with_reducible refine kL.out.mono ?_); rintro e W2 ⟨rfl, u2⟩; (replace u2 := Lib.hid u2)) | refine (⟨trivial, ?_⟩ : Fence.wide.fn _ ∧ _))
            go_ret
            exact ⟨rfl, u2.out⟩
      · have hb : ¬ (0 ≤ idle ∧ idle ≤ mxT ∧ 0 ≤ drain ∧ drain ≤ mxT) := fun h => hi ⟨h.1, h.2.1⟩
        have kL := Lib.hid (kB.out hb)
        clear kB kN kY hb
        simp only [mxT] at hi
        by_cases i0 : 0 ≤ idle
        · have i1 : 1099511627776 < idle := by omega
          gi_wp2_with (first | refine (⟨trivial, rfl, ?_⟩ : Fence.wide.fn _ ∧ Fence.wide.depth = none ∧ _) | (gi_at_call 20; (with_reducible refine kL.out.mono ?_); rintro e W2 ⟨rfl, u2⟩; (replace u2 := Lib.hid u2)) | refine (⟨trivial, ?_⟩ : Fence.wide.fn _ ∧ _))
          go_ret
          exact ⟨rfl, u2.out⟩
        · have i1 : idle < 0 := by omega
          gi_wp2_with (first | refine (⟨trivial, rfl, ?_⟩ : Fence.wide.fn _ ∧ Fence.wide.depth = none ∧ _) | (gi_at_call 20; (with_reducible refine kL.out.mono ?_); rintro e W2 ⟨rfl, u2⟩; (replace u2 := Lib.hid u2)) | refine (⟨trivial, ?_⟩ : Fence.wide.fn _ ∧ _))
          go_ret
          exact ⟨rfl, u2.out⟩
    · have hs' : 20 < ls.length := by omega
      gi_wp2_with (first | refine (⟨trivial, rfl, ?_⟩ : Fence.wide.fn _ ∧ Fence.wide.depth = none ∧ _) | (gi_at_call 8; (with_reducible refine k1.out.mono ?_); rintro e W1 ⟨rfl, d2, k2, _⟩; (replace k2 := Lib.hid k2)) | (gi_at_call 8; (with_reducible refine k2.out.mono ?_); rintro e W2 ⟨rfl, u3⟩; (replace u3 := Lib.hid u3)) | refine (⟨trivial, ?_⟩ : Fence.wide.fn _ ∧ _))
      go_ret
      exact ⟨rfl, u3.out⟩
  · have hl' : 60 < acts.length := by omega
    gi_wp2_with (first | refine (⟨trivial, rfl, ?_⟩ : Fence.wide.fn _ ∧ Fence.wide.depth = none ∧ _) | (gi_at_call 8; (with_reducible refine k1.out.mono ?_); rintro e W1 ⟨rfl, d2, k2, _⟩; (replace k2 := Lib.hid k2)) | (gi_at_call 8; (with_reducible refine k2.out.mono ?_); rintro e W2 ⟨rfl, u3⟩; (replace u3 := Lib.hid u3)) | refine (⟨trivial, ?_⟩ : Fence.wide.fn _ ∧ _))
    go_ret
    exact ⟨rfl, u3.out⟩
end
end Go.Proofs.Ytpljdckppmobeaa

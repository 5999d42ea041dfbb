/- SiloRanges: the walk of the law. -/
import Derived.Test.YtadeechoknpjhaaProg
import Derived.Test.YtadeechoknpjhaaBase
import Derived.Test.YtadeechoknpjhaaSlT
import Derived.Test.YtadeechoknpjhaaSlW
namespace Go.Proofs.Ytadeechoknpjhaa
open Go.RowKit Go.Shelf
attribute [local go_sem] Oper.semAt_some

section
variable {sb mb : Nat} {f : Int} {vs : List VCE} {F : Nat → Prop} {A : Option Addr} {cap : Nat} {W w : World} {kb : Nat}
/-- Behind the loop. -/
theorem ranges_end (h : RngS sb mb f vs F A cap W) (hu : Upd (fun _ => False) w W) {k : KCE} {to : Int} (hk : Blk W kb #[.string (k).1, .string (k).2.1, .int .i64 (k).2.2.1, .int .i64 (k).2.2.2] 24) (hl : vs.length ≤ 100000) :
    CallsIn Fence.wide 0 Try.prog 13 #[.agg #[.int .i64 f, .slice A vs.length cap], .string k.1, .string k.2.1, .int .i64 k.2.2.1, .int .i64 k.2.2.2, .int .i64 to] W fun e W2 => ∃ A2 c2 n2, e = .returned (.slice A2 n2 c2) ∧ (W2.cell? ⟨kb, 0, none⟩ = some (.string (k).1) ∧ W2.cell? ⟨kb, 1, none⟩ = some (.string (k).2.1) ∧ W2.cell? ⟨kb, 2, none⟩ = some (.int .i64 (k).2.2.1) ∧ W2.cell? ⟨kb, 3, none⟩ = some (.int .i64 (k).2.2.2)) ∧
      CallsIn Fence.wide 0 Try.prog 15 #[.pointer (some ⟨sb, 0, none⟩), .string k.1, .string k.2.1, .int .i64 k.2.2.1, .int .i64 k.2.2.2, .int .i64 to] W2 fun e W3 => ∃ fk fc, e = .returned (.func (.func fk) #[] fc) ∧
        ∀ m, CallsIn Fence.wide 0 Try.prog 14 #[.func (.func fk) #[] fc, .slice A2 n2 c2, .int .i64 m] W3 fun e W4 => e = .returned (.bool true) ∧ (W4.cell? ⟨kb, 0, none⟩ = some (.string (k).1) ∧ W4.cell? ⟨kb, 1, none⟩ = some (.string (k).2.1) ∧ W4.cell? ⟨kb, 2, none⟩ = some (.int .i64 (k).2.2.1) ∧ W4.cell? ⟨kb, 3, none⟩ = some (.int .i64 (k).2.2.2)) ∧
          CallsIn Fence.wide 0 Try.prog 15 #[.pointer (some ⟨sb, 0, none⟩), .string k.1, .string k.2.1, .int .i64 k.2.2.1, .int .i64 k.2.2.2, .int .i64 to] W4 fun e W5 => ∃ fk fc, e = .returned (.func (.func fk) #[] fc) ∧
            ∀ m, CallsIn Fence.wide 0 Try.prog 14 #[.func (.func fk) #[] fc, .slice A2 n2 c2, .int .i64 m] W5 fun e W6 => e = .returned (.bool true) ∧ Upd (fun _ => False) w W6 := by
  have hri := h.si.rise
  have hcell : ∀ {V}, Blk V kb #[.string (k).1, .string (k).2.1, .int .i64 (k).2.2.1, .int .i64 (k).2.2.2] 24 → (V.cell? ⟨kb, 0, none⟩ = some (.string (k).1) ∧ V.cell? ⟨kb, 1, none⟩ = some (.string (k).2.1) ∧ V.cell? ⟨kb, 2, none⟩ = some (.int .i64 (k).2.2.1) ∧ V.cell? ⟨kb, 3, none⟩ = some (.int .i64 (k).2.2.2)) := fun b => ⟨b.cell 0, b.cell 1, b.cell 2, b.cell 3⟩
  have hfl : (fitL k to vs).length ≤ 100000 := by
    have : (fitL k to vs).length ≤ vs.length := List.length_filter_le _ _
    omega
  refine (range20_c (f := f) h.rd hl).mono ?_
  rintro e W2 ⟨A2, c2, rfl, p1, p2, p3, p4⟩
  have k2 := hk.upd p4 id
  refine ⟨A2, c2, _, rfl, hcell k2, siloRange_c.mono ?_⟩
  rintro e W3 ⟨bk, bp, bd, bf, bs, bt, rfl, q1, q2, q3⟩
  have si3 := (h.si.upd p4 fun _ _ => id).upd q3 fun _ _ => id
  have hs3 := rangeSilo si3 q1
  rw [rangeL_eq hri] at hs3
  have rd3 := p2.agree' (w' := W3) (q3.agree fun j hj => ⟨(p3 j hj.2).2, id⟩)
  refine ⟨_, _, rfl, fun m => (goes_c hs3 rfl rd3 hfl).mono ?_⟩
  rintro e W4 ⟨rfl, q4⟩
  have k4 := (k2.upd q3 id).upd q4 id
  refine ⟨rfl, hcell k4, siloRange_c.mono ?_⟩
  rintro e W5 ⟨bk', bp', bd', bf', bs', bt', rfl, r1, r2, r3⟩
  have si5 := (si3.upd q4 fun _ _ => id).upd r3 fun _ _ => id
  have hs5 := rangeSilo si5 r1
  rw [rangeL_eq hri] at hs5
  have rd5 := rd3.agree' (w' := W5) ((q4.trans' r3).agree fun j hj => ⟨rd3.lt' j hj, id⟩)
  refine ⟨_, _, rfl, fun m => (goes_c hs5 rfl rd5 hfl).mono ?_⟩
  rintro e W6 ⟨rfl, r4⟩
  exact ⟨rfl, ((((hu.trans' p4).trans' q3).trans' q4).trans' r3).trans' r4⟩
/-- A round's two calls, from the act's own variable. -/
theorem ranges_put (h : RngS sb mb f vs F A cap W) {a : Act20} {ab : Nat} (hb : Blk W ab #[.int .i64 a.1, .int .i64 (a.2).ep, .string (a.2).key, .string (a.2).pol, .int .i64 (a.2).kd, .int .i64 (a.2).st, .int .i64 (a.2).rev, .bool (a.2).fin, .int .i64 (a.2).rk, .int .i64 (a.2).cnt, .int .i64 (a.2).sum, .int .i64 (a.2).mn, .int .i64 (a.2).mx, .int .i64 (a.2).q0, .int .i64 (a.2).q1, .int .i64 (a.2).q2, .bool (a.2).over] 40) (hF : ¬ F ab) (hm : ab ≠ mb) (hv : a.2.key.size ≤ 300 ∧ a.2.pol.size ≤ 300) (hl : vs.length ≤ 50000) :
    CallsIn Fence.wide 0 Try.prog 11 #[.pointer (some ⟨sb, 0, none⟩), .int .i64 a.2.ep, .agg #[.string (a.2).key, .string (a.2).pol, .int .i64 (a.2).kd, .int .i64 (a.2).st, .int .i64 (a.2).rev, .bool (a.2).fin, .int .i64 (a.2).rk, .int .i64 (a.2).cnt, .int .i64 (a.2).sum, .int .i64 (a.2).mn, .int .i64 (a.2).mx, .int .i64 (a.2).q0, .int .i64 (a.2).q1, .int .i64 (a.2).q2, .bool (a.2).over]] W fun e W2 => ∃ c, e = .returned (.int .i64 c) ∧ (W2.cell? ⟨mb, 0, none⟩ = some (.int .i64 f) ∧ W2.cell? ⟨mb, 1, none⟩ = some (.slice A vs.length cap)) ∧ (W2.cell? ⟨ab, 1, none⟩ = some (.int .i64 (a.2).ep) ∧ W2.cell? ⟨ab, 2, none⟩ = some (.string (a.2).key) ∧ W2.cell? ⟨ab, 3, none⟩ = some (.string (a.2).pol) ∧ W2.cell? ⟨ab, 4, none⟩ = some (.int .i64 (a.2).kd) ∧ W2.cell? ⟨ab, 5, none⟩ = some (.int .i64 (a.2).st) ∧ W2.cell? ⟨ab, 6, none⟩ = some (.int .i64 (a.2).rev) ∧ W2.cell? ⟨ab, 7, none⟩ = some (.bool (a.2).fin) ∧ W2.cell? ⟨ab, 8, none⟩ = some (.int .i64 (a.2).rk) ∧ W2.cell? ⟨ab, 9, none⟩ = some (.int .i64 (a.2).cnt) ∧ W2.cell? ⟨ab, 10, none⟩ = some (.int .i64 (a.2).sum) ∧ W2.cell? ⟨ab, 11, none⟩ = some (.int .i64 (a.2).mn) ∧ W2.cell? ⟨ab, 12, none⟩ = some (.int .i64 (a.2).mx) ∧ W2.cell? ⟨ab, 13, none⟩ = some (.int .i64 (a.2).q0) ∧ W2.cell? ⟨ab, 14, none⟩ = some (.int .i64 (a.2).q1) ∧ W2.cell? ⟨ab, 15, none⟩ = some (.int .i64 (a.2).q2) ∧ W2.cell? ⟨ab, 16, none⟩ = some (.bool (a.2).over)) ∧
      CallsIn Fence.wide 0 Try.prog 12 #[.agg #[.int .i64 f, .slice A vs.length cap], .int .i64 a.2.ep, .agg #[.string (a.2).key, .string (a.2).pol, .int .i64 (a.2).kd, .int .i64 (a.2).st, .int .i64 (a.2).rev, .bool (a.2).fin, .int .i64 (a.2).rk, .int .i64 (a.2).cnt, .int .i64 (a.2).sum, .int .i64 (a.2).mn, .int .i64 (a.2).mx, .int .i64 (a.2).q0, .int .i64 (a.2).q1, .int .i64 (a.2).q2, .bool (a.2).over]] W2 fun e W3 => ∃ f' vs' F' A' cap', e = .returned (.tuple #[.agg #[.int .i64 f', .slice A' vs'.length cap'], .int .i64 c]) ∧
        (W3.cell? ⟨mb, 0, none⟩ = some (.int .i64 f) ∧ W3.cell? ⟨mb, 1, none⟩ = some (.slice A vs.length cap) ∧ W3.frozen? ⟨mb, 0, none⟩ = false ∧ W3.frozen? ⟨mb, 1, none⟩ = false ∧ mb < W3.heap.size) ∧ vs'.length ≤ vs.length + 1 ∧
        RngS sb mb f' vs' F' A' cap' ((W3.setCell ⟨mb, 0, none⟩ (.int .i64 f')).setCell ⟨mb, 1, none⟩ (.slice A' vs'.length cap')) ∧ (∀ j, F' j → F j ∨ W.heap.size ≤ j) ∧
        Upd (fun j => F j ∨ j = mb) W ((W3.setCell ⟨mb, 0, none⟩ (.int .i64 f')).setCell ⟨mb, 1, none⟩ (.slice A' vs'.length cap')) := by
  refine (rng_put h hv hl).mono ?_
  rintro e W2 ⟨c, rfl, u, hc, k2⟩
  have b2 := hb.upd u hF
  exact ⟨c, rfl, hc, ⟨b2.cell (0 + 1), b2.cell (1 + 1), b2.cell (2 + 1), b2.cell (3 + 1), b2.cell (4 + 1), b2.cell (5 + 1), b2.cell (6 + 1), b2.cell (7 + 1), b2.cell (8 + 1), b2.cell (9 + 1), b2.cell (10 + 1), b2.cell (11 + 1), b2.cell (12 + 1), b2.cell (13 + 1), b2.cell (14 + 1), b2.cell (15 + 1)⟩, k2⟩
end
set_option maxRecDepth 100000 in
set_option maxHeartbeats 8000000 in
theorem siloRangesNo1_w {n : Nat} {acts : List Act20} {A : Option Addr} {cap : Nat} {k : KCE} {to most : Int} {W : World} (hr : Reads1 W A (flatA acts)) (hl : acts.length ≤ maxLen) (hm : 0 ≤ most ∧ most < 256) (h1 : ¬ k.1.size ≤ 300) :
    CallsIn Fence.wide n Try.prog 3 #[.slice A acts.length cap, .agg #[.string (k).1, .string (k).2.1, .int .i64 (k).2.2.1, .int .i64 (k).2.2.2], .agg #[.int .i64 to, .int .u8 most]] W fun e W2 => e = .returned (.bool true) ∧ Upd (fun _ => False) W W2 := by
  obtain ⟨W0, hW0⟩ : ∃ W0, (W.alloc (.cells #[.string (k).1, .string (k).2.1, .int .i64 (k).2.2.1, .int .i64 (k).2.2.2] 24)).alloc (.cells #[.int .i64 to, .int .u8 most] 26) = W0 := ⟨_, rfl⟩
  have u0 : Upd (fun _ => False) W W0 := by rw [← hW0]; exact (Upd.alloc _ _ _).stepAlloc _
  have bk : Blk W0 W.heap.size #[.string (k).1, .string (k).2.1, .int .i64 (k).2.2.1, .int .i64 (k).2.2.2] 24 := by rw [← hW0]; exact (Blk.new _ _ _).alloc _
  have be : Blk W0 (W.heap.size + 1) #[.int .i64 to, .int .u8 most] 26 := by rw [← hW0]; exact Blk.new' (by simp)
  have hz0 : W0.heap.size = W.heap.size + 2 := by rw [← hW0]; simp
  have ud : Upd (fun _ => False) W0 W0.drew := Upd.drew _ _
  have hEn := Lib.hid fun V (u : Upd (fun _ => False) W0 V) => show V.cell? ⟨W.heap.size + 1, 0, none⟩ = some (.int .i64 to) ∧ V.cell? ⟨W.heap.size + 1, 1, none⟩ = some (.int .u8 most) from ⟨(be.upd u id).cell 0, (be.upd u id).cell 1⟩
  have h0 := hEn.out _ ud
  have hK := Lib.hid fun V (u : Upd (fun _ => False) W0 V) => bk.upd u id
  have hKc := Lib.hid fun V (u : Upd (fun _ => False) W0 V) => show (V.cell? ⟨W.heap.size, 0, none⟩ = some (.string (k).1) ∧ V.cell? ⟨W.heap.size, 1, none⟩ = some (.string (k).2.1) ∧ V.cell? ⟨W.heap.size, 2, none⟩ = some (.int .i64 (k).2.2.1) ∧ V.cell? ⟨W.heap.size, 3, none⟩ = some (.int .i64 (k).2.2.2)) from ⟨(bk.upd u id).cell 0, (bk.upd u id).cell 1, (bk.upd u id).cell 2, (bk.upd u id).cell 3⟩
  have kNew := Lib.hid ((siloNew_c (n := 0) (W := W0.drew)).mono (R' := fun e W1 => ∃ sb F, e = .returned (.pointer (some ⟨sb, 0, none⟩)) ∧ SiloI sb 0 [] F W1 ∧ (∀ j, F j → W0.heap.size ≤ j) ∧ Upd (fun _ => False) W0 W1) (by
    rintro e W1 ⟨sb, F, rfl, s1, s2, s3⟩
    exact ⟨sb, F, rfl, s1, s2, ud.trans' s3⟩))
  have kAw := Lib.hid fun V => awake20_c (n := 0) (W := V)
  have hrW := Lib.hid fun V (u : Upd (fun _ => False) W0 V) => hr.agree' (w' := V) ((u0.trans' u).agree fun j hj => ⟨hr.lt' j hj, id⟩)
  have kFew := Lib.hid fun V (u : Upd (fun _ => False) W0 V) => few20_c (n := 0) (cap := cap) (hrW.out V u) hl
  clear bk be hr
  unfold maxLen at hl
  replace u0 := Lib.hid u0
  refine callsIn_any (n := 0) (callsIn_of_wp Try.func3 rfl trivial ?_)
  simp only [Try.ntmps3, List.size_toArray, List.length_cons, List.length_nil, Nat.reduceAdd, Nat.reduceSub, Array.replicate_succ, Array.replicate_zero, List.push_toArray, List.append_toArray, List.nil_append, List.cons_append]
  gi_wp2_with (first | (rw [hW0]; skip))
  refine wpIn_eager [(0, true), (1, true), (2, true), (3, true), (4, true), (5, true)] (fun V => V.cell? ⟨W.heap.size + 1, 0, none⟩ = some (.int .i64 to) ∧ V.cell? ⟨W.heap.size + 1, 1, none⟩ = some (.int .u8 most)) (by kernel_rfl) (by kernel_rfl) h0 ?_
  repeat (first | (refine wpE_fl rfl rfl (fun _ _ => rfl) ?_; go_simp) | (refine wpE_sk rfl rfl ?_; go_simp) | (refine wpE_fl (v := ?_) rfl rfl ?_ ?_; rotate_left; (intro W' h'; (try dsimp only at h'); go_simp; exact rfl); go_simp) | (refine wpE_ef rfl ?_; go_simp; gi_wp2_with (first | refine (⟨trivial, rfl, ?_⟩ : Fence.wide.fn _ ∧ Fence.wide.depth = none ∧ _) | refine (⟨trivial, trivial, rfl, ?_⟩ : Fence.wide.fn _ ∧ Fence.wide.fn _ ∧ Fence.wide.depth = none ∧ _) | refine (⟨trivial, ?_⟩ : Fence.wide.fn _ ∧ _)); (first | refine ⟨by first | exact h0, ?_⟩ | skip)))
  refine wpE_nil ?_
  gi_wp2_with (first | refine (⟨trivial, rfl, ?_⟩ : Fence.wide.fn _ ∧ Fence.wide.depth = none ∧ _) | (gi_at_call 8; (with_reducible refine kNew.out.mono ?_); rintro e W1 ⟨sb, F0, rfl, hsi, hF0, hu⟩; (clear hsi hF0)) | (gi_at_call 9; (with_reducible refine (kAw.out _).mono ?_); rintro e W2 ⟨rfl, u2⟩; (replace hu := hu.trans' u2); (have hkc := hKc.out _ hu)) | ((gi_at_call 10); (refine (kFew.out _ hu).mono ?_); rintro e W3 ⟨b, rfl, hb, u3⟩; (replace hu := hu.trans' u3); (have hkc := hKc.out _ hu); clear hb; cases b) | refine (⟨trivial, ?_⟩ : Fence.wide.fn _ ∧ _))
  all_goals
    go_ret
    exact ⟨rfl, u0.out.trans' hu⟩
set_option maxRecDepth 100000 in
set_option maxHeartbeats 8000000 in
theorem siloRangesNo2_w {n : Nat} {acts : List Act20} {A : Option Addr} {cap : Nat} {k : KCE} {to most : Int} {W : World} (hr : Reads1 W A (flatA acts)) (hl : acts.length ≤ maxLen) (hm : 0 ≤ most ∧ most < 256) (h1 : k.1.size ≤ 300) (h2 : ¬ k.2.1.size ≤ 300) :
    CallsIn Fence.wide n Try.prog 3 #[.slice A acts.length cap, .agg #[.string (k).1, .string (k).2.1, .int .i64 (k).2.2.1, .int .i64 (k).2.2.2], .agg #[.int .i64 to, .int .u8 most]] W fun e W2 => e = .returned (.bool true) ∧ Upd (fun _ => False) W W2 := by
  obtain ⟨W0, hW0⟩ : ∃ W0, (W.alloc (.cells #[.string (k).1, .string (k).2.1, .int .i64 (k).2.2.1, .int .i64 (k).2.2.2] 24)).alloc (.cells #[.int .i64 to, .int .u8 most] 26) = W0 := ⟨_, rfl⟩
  have u0 : Upd (fun _ => False) W W0 := by rw [← hW0]; exact (Upd.alloc _ _ _).stepAlloc _
  have bk : Blk W0 W.heap.size #[.string (k).1, .string (k).2.1, .int .i64 (k).2.2.1, .int .i64 (k).2.2.2] 24 := by rw [← hW0]; exact (Blk.new _ _ _).alloc _
  have be : Blk W0 (W.heap.size + 1) #[.int .i64 to, .int .u8 most] 26 := by rw [← hW0]; exact Blk.new' (by simp)
  have hz0 : W0.heap.size = W.heap.size + 2 := by rw [← hW0]; simp
  have ud : Upd (fun _ => False) W0 W0.drew := Upd.drew _ _
  have hEn := Lib.hid fun V (u : Upd (fun _ => False) W0 V) => show V.cell? ⟨W.heap.size + 1, 0, none⟩ = some (.int .i64 to) ∧ V.cell? ⟨W.heap.size + 1, 1, none⟩ = some (.int .u8 most) from ⟨(be.upd u id).cell 0, (be.upd u id).cell 1⟩
  have h0 := hEn.out _ ud
  have hK := Lib.hid fun V (u : Upd (fun _ => False) W0 V) => bk.upd u id
  have hKc := Lib.hid fun V (u : Upd (fun _ => False) W0 V) => show (V.cell? ⟨W.heap.size, 0, none⟩ = some (.string (k).1) ∧ V.cell? ⟨W.heap.size, 1, none⟩ = some (.string (k).2.1) ∧ V.cell? ⟨W.heap.size, 2, none⟩ = some (.int .i64 (k).2.2.1) ∧ V.cell? ⟨W.heap.size, 3, none⟩ = some (.int .i64 (k).2.2.2)) from ⟨(bk.upd u id).cell 0, (bk.upd u id).cell 1, (bk.upd u id).cell 2, (bk.upd u id).cell 3⟩
  have kNew := Lib.hid ((siloNew_c (n := 0) (W := W0.drew)).mono (R' := fun e W1 => ∃ sb F, e = .returned (.pointer (some ⟨sb, 0, none⟩)) ∧ SiloI sb 0 [] F W1 ∧ (∀ j, F j → W0.heap.size ≤ j) ∧ Upd (fun _ => False) W0 W1) (by
    rintro e W1 ⟨sb, F, rfl, s1, s2, s3⟩
    exact ⟨sb, F, rfl, s1, s2, ud.trans' s3⟩))
  have kAw := Lib.hid fun V => awake20_c (n := 0) (W := V)
  have hrW := Lib.hid fun V (u : Upd (fun _ => False) W0 V) => hr.agree' (w' := V) ((u0.trans' u).agree fun j hj => ⟨hr.lt' j hj, id⟩)
  have kFew := Lib.hid fun V (u : Upd (fun _ => False) W0 V) => few20_c (n := 0) (cap := cap) (hrW.out V u) hl
  clear bk be hr
  unfold maxLen at hl
  replace u0 := Lib.hid u0
  refine callsIn_any (n := 0) (callsIn_of_wp Try.func3 rfl trivial ?_)
  simp only [Try.ntmps3, List.size_toArray, List.length_cons, List.length_nil, Nat.reduceAdd, Nat.reduceSub, Array.replicate_succ, Array.replicate_zero, List.push_toArray, List.append_toArray, List.nil_append, List.cons_append]
  gi_wp2_with (first | (rw [hW0]; skip))
  refine wpIn_eager [(0, true), (1, true), (2, true), (3, true), (4, true), (5, true)] (fun V => V.cell? ⟨W.heap.size + 1, 0, none⟩ = some (.int .i64 to) ∧ V.cell? ⟨W.heap.size + 1, 1, none⟩ = some (.int .u8 most)) (by kernel_rfl) (by kernel_rfl) h0 ?_
  repeat (first | (refine wpE_fl rfl rfl (fun _ _ => rfl) ?_; go_simp) | (refine wpE_sk rfl rfl ?_; go_simp) | (refine wpE_fl (v := ?_) rfl rfl ?_ ?_; rotate_left; (intro W' h'; (try dsimp only at h'); go_simp; exact rfl); go_simp) | (refine wpE_ef rfl ?_; go_simp; gi_wp2_with (first | refine (⟨trivial, rfl, ?_⟩ : Fence.wide.fn _ ∧ Fence.wide.depth = none ∧ _) | refine (⟨trivial, trivial, rfl, ?_⟩ : Fence.wide.fn _ ∧ Fence.wide.fn _ ∧ Fence.wide.depth = none ∧ _) | refine (⟨trivial, ?_⟩ : Fence.wide.fn _ ∧ _)); (first | refine ⟨by first | exact h0, ?_⟩ | skip)))
  refine wpE_nil ?_
  gi_wp2_with (first | refine (⟨trivial, rfl, ?_⟩ : Fence.wide.fn _ ∧ Fence.wide.depth = none ∧ _) | (gi_at_call 8; (with_reducible refine kNew.out.mono ?_); rintro e W1 ⟨sb, F0, rfl, hsi, hF0, hu⟩; (clear hsi hF0)) | (gi_at_call 9; (with_reducible refine (kAw.out _).mono ?_); rintro e W2 ⟨rfl, u2⟩; (replace hu := hu.trans' u2); (have hkc := hKc.out _ hu)) | ((gi_at_call 10); (refine (kFew.out _ hu).mono ?_); rintro e W3 ⟨b, rfl, hb, u3⟩; (replace hu := hu.trans' u3); (have hkc := hKc.out _ hu); clear hb; cases b) | refine (⟨trivial, ?_⟩ : Fence.wide.fn _ ∧ _))
  all_goals
    go_ret
    exact ⟨rfl, u0.out.trans' hu⟩
end Go.Proofs.Ytadeechoknpjhaa

/- SiloLoads: the law. -/
import Derived.Test.YtadeechoknpjhaaProg
import Derived.Test.YtadeechoknpjhaaBase
import Derived.Test.YtadeechoknpjhaaSlLr
import Derived.Test.YtadeechoknpjhaaSlLw
import Derived.Test.YtadeechoknpjhaaSlS
import Derived.Test.YtadeechoknpjhaaSlW
import Derived.Test.YtadeechoknpjhaaSlT
set_option linter.unusedSimpArgs false
set_option linter.unusedVariables false
namespace Go.Proofs.Ytadeechoknpjhaa
open Go.RowKit Go.Shelf
attribute [local go_sem] Oper.semAt_some

section
variable {sb : Nat} {f : Int} {vs : List VCE} {F : Nat → Prop} {A : Option Addr} {cap : Nat} {V W W2 : World} {v : VCE} {e : Ending}
theorem load_yes (hR : RightE f vs) (h : LoadR f vs W e W2) : ∃ sb F, e = .returned (.tuple #[.pointer (some ⟨sb, 0, none⟩), .int .i64 0]) ∧ SiloV sb f vs F W2 ∧ (∀ j, F j → W.heap.size ≤ j) ∧ Upd (fun _ => False) W W2 :=
  h.elim (fun h => h.2) fun h => absurd hR h.1
theorem load_no (hR : ¬ RightE f vs) (h : LoadR f vs W e W2) : e = .returned (.tuple #[.pointer none, .int .i64 2]) ∧ Upd (fun _ => False) W W2 :=
  h.elim (fun h => absurd h.1 hR) fun h => h.2
theorem right_yes (hR : RightE f vs) (h : RightR f vs W e W2) : e = .returned (.bool true) ∧ Upd (fun _ => False) W W2 := by
  obtain ⟨⟨b, rfl, h1⟩, h2⟩ := h
  rw [h1.2 hR]
  exact ⟨rfl, h2⟩
theorem right_no (hR : ¬ RightE f vs) (h : RightR f vs W e W2) : e = .returned (.bool false) ∧ Upd (fun _ => False) W W2 := by
  obtain ⟨⟨b, rfl, h1⟩, h2⟩ := h
  cases b
  · exact ⟨rfl, h2⟩
  · exact absurd (h1.1 rfl) hR
abbrev allV (bs : Nat) : Value := .func (.func 37) #[] #[.pointer (some ⟨bs, 0, none⟩)]
theorem all_goes (h : SiloV sb f vs F V) (hr : Reads1 V A (flatE vs)) (hl : vs.length ≤ 100000) : CallsIn Fence.wide 0 Try.prog 24 #[.pointer (some ⟨sb, 0, none⟩)] V fun e W5 => ∃ bs, e = .returned (allV bs) ∧ Upd (fun _ => False) V W5 ∧
    CallsIn Fence.wide 0 Try.prog 14 #[allV bs, .slice A vs.length cap, .int .i64 500] W5 fun e W6 => e = .returned (.bool true) ∧ Upd (fun _ => False) W5 W6 := by
  refine siloAll_c.mono ?_
  rintro e W5 ⟨bs, rfl, hb, _, u⟩
  exact ⟨bs, rfl, u, goes_c (allSilo (h.upd u fun _ _ => id) hb) rfl (hr.agree' (u.agree fun j hj => ⟨hr.lt' j hj, id⟩)) hl⟩
/-- The document's Put, then the silo's; what both have then. -/
theorem load_puts (hI : SiloV sb f vs F V) (hr : Reads1 V A (flatE vs)) (hcp : vs.length ≤ cap) (hA : ∀ j, blkOf' A (flatE vs).length j → ¬ F j) (hl : vs.length ≤ 400) (hsz : ∀ v ∈ vs, v.key.size ≤ maxLen ∧ v.pol.size ≤ maxLen) :
    CallsIn Fence.wide 0 Try.prog 12 #[.agg #[.int .i64 f, .slice A vs.length cap], .int .i64 v.ep, .agg #[.string (v).key, .string (v).pol, .int .i64 (v).kd, .int .i64 (v).st, .int .i64 (v).rev, .bool (v).fin, .int .i64 (v).rk, .int .i64 (v).cnt, .int .i64 (v).sum, .int .i64 (v).mn, .int .i64 (v).mx, .int .i64 (v).q0, .int .i64 (v).q1, .int .i64 (v).q2, .bool (v).over]] V fun e W8 => ∃ (f' c : Int) (m : Nat) (A' : Option Addr) (cap' : Nat), e = .returned (.tuple #[.agg #[.int .i64 f', .slice A' m cap'], .int .i64 c]) ∧ Upd (fun _ => False) V W8 ∧
      ∀ V2, Upd (fun _ => False) W8 V2 → CallsIn Fence.wide 0 Try.prog 11 #[.pointer (some ⟨sb, 0, none⟩), .int .i64 v.ep, .agg #[.string (v).key, .string (v).pol, .int .i64 (v).kd, .int .i64 (v).st, .int .i64 (v).rev, .bool (v).fin, .int .i64 (v).rk, .int .i64 (v).cnt, .int .i64 (v).sum, .int .i64 (v).mn, .int .i64 (v).mx, .int .i64 (v).q0, .int .i64 (v).q1, .int .i64 (v).q2, .bool (v).over]] V2 fun e W9 => e = .returned (.int .i64 c) ∧ Upd F V2 W9 ∧
        CallsIn Fence.wide 0 Try.prog 24 #[.pointer (some ⟨sb, 0, none⟩)] W9 fun e W10 => ∃ bs, e = .returned (allV bs) ∧ Upd (fun _ => False) W9 W10 ∧
          CallsIn Fence.wide 0 Try.prog 14 #[allV bs, .slice A' m cap', .int .i64 500] W10 fun e W11 => e = .returned (.bool true) ∧ Upd (fun _ => False) W10 W11 := by
  have hri := hI.rise
  have hFl := hI.lt
  by_cases hc : codeP f (vs.map prE) v.ep v = 0
  · refine (put20Yes_c (f := f) hr hcp hri (by omega) hsz hc).mono ?_
    rintro e W8 ⟨A', cap', rfl, p1, p2, p3, p4⟩
    refine ⟨_, _, _, A', cap', rfl, p4, fun V2 u2 => ?_⟩
    have uV := p4.trans' u2
    refine (siloPutYes_c (hI.upd uV fun _ _ => id) (by simp; omega) hc).mono ?_
    rintro e W9 ⟨rfl, F', s1, s2, s3⟩
    rw [putV_pr hri] at s1
    have r9 := (p2.agree' (w' := V2) (u2.agree fun j hj => ⟨p2.lt' j hj, id⟩)).agree' (w' := W9) (s3.agree fun j hj => ⟨by have := p2.lt' j hj; have := u2.size; omega, fun h => by have := hFl j h; have := (p3 j hj.2).1; omega⟩)
    have hlen := putV_len (x := v.ep) (v := v) hri
    exact ⟨rfl, s3, all_goes s1 r9 (by omega)⟩
  · refine (put20No_c (f := f) hr hri (by omega) hsz hc).mono ?_
    rintro e W8 ⟨rfl, p4⟩
    refine ⟨_, _, _, A, cap, rfl, p4, fun V2 u2 => ?_⟩
    have uV := p4.trans' u2
    refine (siloPutNo_c (hI.upd uV fun _ _ => id) hc).mono ?_
    rintro e W9 ⟨rfl, s3⟩
    have uW := uV.trans' s3
    exact ⟨rfl, s3.mono fun _ _ h => h.elim, all_goes (hI.upd uW fun _ _ => id) (hr.agree' (uW.agree fun j hj => ⟨hr.lt' j hj, id⟩)) (by omega)⟩
end
theorem fieldS0 (x y : Value) (w : World) : (Instr.field 55 (.agg #[x, y]) 0).run Try.prog w = .ok x w := by kernel_rfl
set_option maxRecDepth 100000 in
set_option maxHeartbeats 8000000 in
theorem siloLoads_w {n : Nat} {f : Int} {vs : List VCE} {A : Option Addr} {cap : Nat} {a : Act20} {W : World} (hr : Reads1 W A (flatE vs)) (hl : vs.length ≤ maxLen) (hsz : ∀ v ∈ vs, v.key.size ≤ maxLen ∧ v.pol.size ≤ maxLen) :
    CallsIn Fence.wide n Try.prog 7 #[.agg #[.int .i64 f, .slice A vs.length cap], .agg #[.int .i64 a.1, .int .i64 (a.2).ep, .string (a.2).key, .string (a.2).pol, .int .i64 (a.2).kd, .int .i64 (a.2).st, .int .i64 (a.2).rev, .bool (a.2).fin, .int .i64 (a.2).rk, .int .i64 (a.2).cnt, .int .i64 (a.2).sum, .int .i64 (a.2).mn, .int .i64 (a.2).mx, .int .i64 (a.2).q0, .int .i64 (a.2).q1, .int .i64 (a.2).q2, .bool (a.2).over]] W fun e W2 => e = .returned (.bool true) ∧ Upd (fun _ => False) W W2 := by
  obtain ⟨kd, v⟩ := a
  obtain ⟨Wb, hWb⟩ : ∃ Wb, (W.alloc (.cells #[.int .i64 f, .slice A vs.length cap] 55)).alloc (.cells #[.int .i64 kd, .int .i64 (v).ep, .string (v).key, .string (v).pol, .int .i64 (v).kd, .int .i64 (v).st, .int .i64 (v).rev, .bool (v).fin, .int .i64 (v).rk, .int .i64 (v).cnt, .int .i64 (v).sum, .int .i64 (v).mn, .int .i64 (v).mx, .int .i64 (v).q0, .int .i64 (v).q1, .int .i64 (v).q2, .bool (v).over] 40) = Wb := ⟨_, rfl⟩
  have ub : Upd (fun _ => False) W Wb := by rw [← hWb]; exact (Upd.alloc _ _ _).stepAlloc _
  have bS : Blk Wb W.heap.size #[.int .i64 f, .slice A vs.length cap] 55 := by rw [← hWb]; exact (Blk.new _ _ _).alloc _
  have bC : Blk Wb (W.heap.size + 1) #[.int .i64 kd, .int .i64 (v).ep, .string (v).key, .string (v).pol, .int .i64 (v).kd, .int .i64 (v).st, .int .i64 (v).rev, .bool (v).fin, .int .i64 (v).rk, .int .i64 (v).cnt, .int .i64 (v).sum, .int .i64 (v).mn, .int .i64 (v).mx, .int .i64 (v).q0, .int .i64 (v).q1, .int .i64 (v).q2, .bool (v).over] 40 := by rw [← hWb]; exact Blk.new' (by simp)
  have hzb : Wb.heap.size = W.heap.size + 2 := by rw [← hWb]; simp
  have kAw := Lib.hid fun V => awake20_c (n := 0) (W := V)
  have hrW := fun V (u : Upd (fun _ => False) Wb V) => hr.agree' (w' := V) ((ub.trans' u).agree fun j hj => ⟨hr.lt' j hj, id⟩)
  have hSt := Lib.hid fun V (u : Upd (fun _ => False) Wb V) => show V.cell? ⟨W.heap.size, 0, none⟩ = some (.int .i64 f) ∧ V.cell? ⟨W.heap.size, 1, none⟩ = some (.slice A vs.length cap) from ⟨(bS.upd u id).cell 0, (bS.upd u id).cell 1⟩
  replace hzb := Lib.hid hzb
  replace bC := Lib.hid bC
  unfold maxLen at hl
  by_cases h60 : vs.length ≤ 60
  · have kRef := Lib.hid fun V (u : Upd (fun _ => False) Wb V) => ref20_c (n := 0) (f := f) (cap := cap) (hrW V u) (by omega)
    have kLd := Lib.hid fun V (u : Upd (fun _ => False) Wb V) => load20_c (n := 0) (f := f) (cap := cap) (hrW V u) (by omega)
    clear hr hrW bS
    replace ub := Lib.hid ub
    by_cases hR : RightE f vs
    · replace hR := Lib.hid hR
      refine callsIn_any (n := 0) (callsIn_of_wp Try.func7 rfl trivial ?_)
      simp only [Try.ntmps7, List.size_toArray, List.length_cons, List.length_nil, Nat.reduceAdd, Nat.reduceSub, Array.replicate_succ, Array.replicate_zero, List.push_toArray, List.append_toArray, List.nil_append, List.cons_append]
      gi_wp2_with (first | (rw [hWb]; skip))
      gi_wp2_with (first | refine (⟨trivial, rfl, ?_⟩ : Fence.wide.fn _ ∧ Fence.wide.depth = none ∧ _) | (gi_at_call 9; (with_reducible refine (kAw.out _).mono ?_); rintro e W1 ⟨rfl, u1⟩; (obtain ⟨s0, s1⟩ := hSt.out _ u1)) | (gi_at_call 16; (with_reducible refine (kRef.out _ u1).mono ?_); rintro e W2 ⟨A2, c2, rfl, hc2, r2, g2, u2⟩; (obtain ⟨s2, s3⟩ := hSt.out _ (u1.trans' (u2.stepAlloc (.cells #[.int .i64 f, .slice A2 vs.length c2] 33)))); (have bm := Lib.hid (Blk.new W2 #[.int .i64 f, .slice A2 vs.length c2] 33)); (have hlA := Lib.hid (r2.lt')); (have rm := r2.agree' (w' := W2.alloc (.cells #[.int .i64 f, .slice A2 vs.length c2] 33)) ((Upd.alloc (fun _ => False) W2 (.cells #[.int .i64 f, .slice A2 vs.length c2] 33)).agree fun j hj => ⟨r2.lt' j hj, id⟩)); (replace rm := Lib.hid rm); (clear r2 g2)) | (gi_at_call 22; (with_reducible refine (kLd.out _ (u1.trans' (u2.stepAlloc (.cells #[.int .i64 f, .slice A2 vs.length c2] 33)))).mono ?_); rintro e W3 hL; (obtain ⟨sb, F, rfl, hI, hF, u3⟩ := load_yes hR.out hL); (have m0 : W3.cell? ⟨W2.heap.size, 0, none⟩ = some (.int .i64 f) := (bm.out.upd u3 id).cell 0); (have m1 : W3.cell? ⟨W2.heap.size, 1, none⟩ = some (.slice A2 vs.length c2) := (bm.out.upd u3 id).cell 1); (have rm3 := Lib.hid (rm.out.agree' (w' := W3) (u3.agree fun j hj => ⟨rm.out.lt' j hj, id⟩))); (have kRt := Lib.hid (right20_c (n := 0) (f := f) (cap := c2) rm3.out (by omega) hsz)); (replace hI := Lib.hid hI); (replace hF := Lib.hid hF)) | (gi_at_call 23; (with_reducible refine kRt.out.mono ?_); rintro e W4 hQ; (obtain ⟨rfl, u4⟩ := right_yes hR.out hQ)) | refine (⟨trivial, ?_⟩ : Fence.wide.fn _ ∧ _))
      have hM := Lib.hid fun V (u : Upd (fun _ => False) W4 V) => show V.cell? ⟨W2.heap.size, 0, none⟩ = some (.int .i64 f) ∧ V.cell? ⟨W2.heap.size, 1, none⟩ = some (.slice A2 vs.length c2) from ⟨cell_upd (u4.trans' u) m0, cell_upd (u4.trans' u) m1⟩
      have uD : Upd (fun _ => False) W4 W4.drew := Upd.drew _ _
      have hIW := Lib.hid fun V (u : Upd (fun _ => False) W4 V) => hI.out.upd (u4.trans' u) fun _ _ => id
      have hrm := Lib.hid fun V (u : Upd (fun _ => False) W4 V) => rm3.out.agree' (w' := V) ((u4.trans' u).agree fun j hj => ⟨rm3.out.lt' j hj, id⟩)
      have k8 := Lib.hid (all_goes (cap := c2) (hIW.out _ uD) (hrm.out _ uD) (by omega))
      have uB4 := ((u1.trans' (u2.stepAlloc (.cells #[.int .i64 f, .slice A2 vs.length c2] 33))).trans' u3).trans' u4
      have hC := Lib.hid fun V (u : Upd (fun _ => False) W4 V) => bC.out.upd (uB4.trans' u) id
      have hA2 : ∀ j, blkOf' A2 (flatE vs).length j → ¬ F j := fun j hj h => by have := hlA.out j hj; have := hF.out j h; simp only [World.size_alloc] at this; omega
      have hFl := Lib.hid hI.out.lt
      have hFg := Lib.hid fun j (h : F j) => show W.heap.size + 1 < j from by have := hF.out j h; have := (u1.trans' u2).size; have := hzb.out; simp only [World.size_alloc] at *; omega
      have uW4 := Lib.hid (ub.out.trans' uB4)
      have hz34 := u4.size
      replace hA2 := Lib.hid hA2
      have hhM := hM.out _ uD
      clear kRt kLd kRef hSt s0 s1 s2 s3 m0 m1 rm rm3 bm hI hF u1 u2 u3 u4 uB4 hlA kAw
      have qf := fun (x y : Value) w => fieldS0 x y w
      refine wpIn_eager [(0, true), (1, true), (2, true), (3, true), (4, true), (5, true), (6, true), (7, true), (9, true), (10, true), (8, false), (11, false), (12, true), (13, true), (14, true), (15, true), (18, true), (19, true), (16, false), (17, true), (20, true), (21, true)] (fun V => V.cell? ⟨W2.heap.size, 0, none⟩ = some (.int .i64 f) ∧ V.cell? ⟨W2.heap.size, 1, none⟩ = some (.slice A2 vs.length c2)) (by kernel_rfl) (by kernel_rfl) hhM ?_
      repeat (first | (refine wpE_fl rfl rfl (fun _ _ => rfl) ?_; go_simp) | (refine wpE_sk rfl rfl ?_; go_simp) | (refine wpE_fl (v := ?_) rfl rfl ?_ ?_; rotate_left; (intro W' h'; (try dsimp only at h'); go_simp; exact rfl); go_simp) | (refine wpE_ef rfl ?_; go_simp; gi_wp2_with (first | refine (⟨trivial, rfl, ?_⟩ : Fence.wide.fn _ ∧ Fence.wide.depth = none ∧ _) | refine (⟨trivial, trivial, rfl, ?_⟩ : Fence.wide.fn _ ∧ Fence.wide.fn _ ∧ Fence.wide.depth = none ∧ _) | (gi_at_call 24; (with_reducible refine k8.out.mono ?_); rintro e W5 ⟨bs, rfl, u5, k11⟩; (replace k11 := Lib.hid k11)) | (gi_at_call 14; (with_reducible refine k11.out.mono ?_); rintro e W6 ⟨rfl, u6⟩; (have kS := Lib.hid (siloState_c (n := 0) (hIW.out _ ((uD.trans' u5).trans' u6)) (by omega)))) | (gi_at_call 17; (with_reducible refine kS.out.mono ?_); rintro e W7 ⟨A7, c7, rfl, _, _, _, u7⟩; (skip)) | refine (⟨trivial, ?_⟩ : Fence.wide.fn _ ∧ _)); (first | refine ⟨by first | exact (hM.out _ (uD.trans' u5)) | exact (hM.out _ ((uD.trans' u5).trans' u6)) | exact (hM.out _ (((uD.trans' u5).trans' u6).trans' u7)), ?_⟩ | skip)))
      refine wpE_nil ?_
      have u47 := ((uD.trans' u5).trans' u6).trans' u7
      obtain ⟨m0, m1⟩ := hM.out _ u47
      have bC7 := hC.out _ u47
      have hC7 : W7.cell? ⟨W.heap.size + 1, 1, none⟩ = some (.int .i64 v.ep) ∧ (W7.cell? ⟨W.heap.size + 1, 2, none⟩ = some (.string v.key) ∧ W7.cell? ⟨W.heap.size + 1, 3, none⟩ = some (.string v.pol) ∧ W7.cell? ⟨W.heap.size + 1, 4, none⟩ = some (.int .i64 v.kd) ∧ W7.cell? ⟨W.heap.size + 1, 5, none⟩ = some (.int .i64 v.st) ∧ W7.cell? ⟨W.heap.size + 1, 6, none⟩ = some (.int .i64 v.rev) ∧ W7.cell? ⟨W.heap.size + 1, 7, none⟩ = some (.bool v.fin) ∧ W7.cell? ⟨W.heap.size + 1, 8, none⟩ = some (.int .i64 v.rk) ∧ W7.cell? ⟨W.heap.size + 1, 9, none⟩ = some (.int .i64 v.cnt) ∧ W7.cell? ⟨W.heap.size + 1, 10, none⟩ = some (.int .i64 v.sum) ∧ W7.cell? ⟨W.heap.size + 1, 11, none⟩ = some (.int .i64 v.mn) ∧ W7.cell? ⟨W.heap.size + 1, 12, none⟩ = some (.int .i64 v.mx) ∧ W7.cell? ⟨W.heap.size + 1, 13, none⟩ = some (.int .i64 v.q0) ∧ W7.cell? ⟨W.heap.size + 1, 14, none⟩ = some (.int .i64 v.q1) ∧ W7.cell? ⟨W.heap.size + 1, 15, none⟩ = some (.int .i64 v.q2) ∧ W7.cell? ⟨W.heap.size + 1, 16, none⟩ = some (.bool v.over)) := ⟨bC7.cell 1, ⟨bC7.cell 2, bC7.cell 3, bC7.cell 4, bC7.cell 5, bC7.cell 6, bC7.cell 7, bC7.cell 8, bC7.cell 9, bC7.cell 10, bC7.cell 11, bC7.cell 12, bC7.cell 13, bC7.cell 14, bC7.cell 15, bC7.cell 16⟩⟩
      obtain ⟨d0, d10, d11, d12, d13, d14, d15, d16, d17, d18, d19, d110, d111, d112, d113, d114⟩ := hC7
      have kP := Lib.hid (load_puts (v := v) (hIW.out _ u47) (hrm.out _ u47) hc2 hA2.out (by omega) hsz)
      replace bC7 := Lib.hid bC7
      have hz47 := u47.size
      replace uW4 := Lib.hid (uW4.out.trans' u47)
      clear u5 u6 u7 uD u47 hhM k8
      gi_wp2_with (first | refine (⟨trivial, rfl, ?_⟩ : Fence.wide.fn _ ∧ Fence.wide.depth = none ∧ _) | (gi_at_call 12; (with_reducible refine kP.out.mono ?_); rintro e W8 ⟨f', c, m, A', cap', rfl, u8, k9⟩; (replace k9 := Lib.hid k9)) | refine (⟨trivial, ?_⟩ : Fence.wide.fn _ ∧ _))
      have uA := Upd.alloc (fun _ => False) W8 (.cells #[.int .i64 f', .slice A' m cap'] 33)
      have bN := Blk.new W8 #[.int .i64 f', .slice A' m cap'] 33
      have bC8 := bC7.out.upd (u8.trans' uA) id
      have hz8 := u8.size
      have hX := Lib.hid fun V (u : Upd F (W8.alloc (.cells #[.int .i64 f', .slice A' m cap'] 33)) V) => show (V.cell? ⟨W.heap.size + 1, 1, none⟩ = some (.int .i64 v.ep) ∧ (V.cell? ⟨W.heap.size + 1, 2, none⟩ = some (.string v.key) ∧ V.cell? ⟨W.heap.size + 1, 3, none⟩ = some (.string v.pol) ∧ V.cell? ⟨W.heap.size + 1, 4, none⟩ = some (.int .i64 v.kd) ∧ V.cell? ⟨W.heap.size + 1, 5, none⟩ = some (.int .i64 v.st) ∧ V.cell? ⟨W.heap.size + 1, 6, none⟩ = some (.int .i64 v.rev) ∧ V.cell? ⟨W.heap.size + 1, 7, none⟩ = some (.bool v.fin) ∧ V.cell? ⟨W.heap.size + 1, 8, none⟩ = some (.int .i64 v.rk) ∧ V.cell? ⟨W.heap.size + 1, 9, none⟩ = some (.int .i64 v.cnt) ∧ V.cell? ⟨W.heap.size + 1, 10, none⟩ = some (.int .i64 v.sum) ∧ V.cell? ⟨W.heap.size + 1, 11, none⟩ = some (.int .i64 v.mn) ∧ V.cell? ⟨W.heap.size + 1, 12, none⟩ = some (.int .i64 v.mx) ∧ V.cell? ⟨W.heap.size + 1, 13, none⟩ = some (.int .i64 v.q0) ∧ V.cell? ⟨W.heap.size + 1, 14, none⟩ = some (.int .i64 v.q1) ∧ V.cell? ⟨W.heap.size + 1, 15, none⟩ = some (.int .i64 v.q2) ∧ V.cell? ⟨W.heap.size + 1, 16, none⟩ = some (.bool v.over))) ∧ V.cell? ⟨W8.heap.size, 1, none⟩ = some (.slice A' m cap') from
        ⟨⟨(bC8.upd u fun h => by have := hFg.out _ h; omega).cell 1, ⟨(bC8.upd u fun h => by have := hFg.out _ h; omega).cell 2, (bC8.upd u fun h => by have := hFg.out _ h; omega).cell 3, (bC8.upd u fun h => by have := hFg.out _ h; omega).cell 4, (bC8.upd u fun h => by have := hFg.out _ h; omega).cell 5, (bC8.upd u fun h => by have := hFg.out _ h; omega).cell 6, (bC8.upd u fun h => by have := hFg.out _ h; omega).cell 7, (bC8.upd u fun h => by have := hFg.out _ h; omega).cell 8, (bC8.upd u fun h => by have := hFg.out _ h; omega).cell 9, (bC8.upd u fun h => by have := hFg.out _ h; omega).cell 10, (bC8.upd u fun h => by have := hFg.out _ h; omega).cell 11, (bC8.upd u fun h => by have := hFg.out _ h; omega).cell 12, (bC8.upd u fun h => by have := hFg.out _ h; omega).cell 13, (bC8.upd u fun h => by have := hFg.out _ h; omega).cell 14, (bC8.upd u fun h => by have := hFg.out _ h; omega).cell 15, (bC8.upd u fun h => by have := hFg.out _ h; omega).cell 16⟩⟩, (bN.upd u fun h => by have := hFl.out _ h; omega).cell 1⟩
      have uD : Upd F (W8.alloc (.cells #[.int .i64 f', .slice A' m cap'] 33)) (W8.alloc (.cells #[.int .i64 f', .slice A' m cap'] 33)).drew := Upd.drew _ _
      have hhX := hX.out _ uD
      have k5 := Lib.hid (k9.out _ ((Upd.alloc (fun _ => False) W8 (.cells #[.int .i64 f', .slice A' m cap'] 33)).stepDrew))
      have hFW := Lib.hid fun j (h : F j) => show False ∨ W.heap.size ≤ j from .inr (by have := hFg.out j h; omega)
      have u08 := Lib.hid ((uW4.out.trans' u8).trans' (uA.stepDrew))
      clear d0 d10 d11 d12 d13 d14 d15 d16 d17 d18 d19 d110 d111 d112 d113 d114 m0 m1 bC7 bC8 bN uA k9 kP hC hM hIW hrm u8
      refine wpIn_eager [(0, true), (1, true), (2, true), (3, true), (4, true), (6, true), (5, false), (7, true), (8, true), (9, true), (11, true), (12, true), (10, false), (13, false), (14, true), (15, true)] (fun V => (V.cell? ⟨W.heap.size + 1, 1, none⟩ = some (.int .i64 v.ep) ∧ (V.cell? ⟨W.heap.size + 1, 2, none⟩ = some (.string v.key) ∧ V.cell? ⟨W.heap.size + 1, 3, none⟩ = some (.string v.pol) ∧ V.cell? ⟨W.heap.size + 1, 4, none⟩ = some (.int .i64 v.kd) ∧ V.cell? ⟨W.heap.size + 1, 5, none⟩ = some (.int .i64 v.st) ∧ V.cell? ⟨W.heap.size + 1, 6, none⟩ = some (.int .i64 v.rev) ∧ V.cell? ⟨W.heap.size + 1, 7, none⟩ = some (.bool v.fin) ∧ V.cell? ⟨W.heap.size + 1, 8, none⟩ = some (.int .i64 v.rk) ∧ V.cell? ⟨W.heap.size + 1, 9, none⟩ = some (.int .i64 v.cnt) ∧ V.cell? ⟨W.heap.size + 1, 10, none⟩ = some (.int .i64 v.sum) ∧ V.cell? ⟨W.heap.size + 1, 11, none⟩ = some (.int .i64 v.mn) ∧ V.cell? ⟨W.heap.size + 1, 12, none⟩ = some (.int .i64 v.mx) ∧ V.cell? ⟨W.heap.size + 1, 13, none⟩ = some (.int .i64 v.q0) ∧ V.cell? ⟨W.heap.size + 1, 14, none⟩ = some (.int .i64 v.q1) ∧ V.cell? ⟨W.heap.size + 1, 15, none⟩ = some (.int .i64 v.q2) ∧ V.cell? ⟨W.heap.size + 1, 16, none⟩ = some (.bool v.over))) ∧ V.cell? ⟨W8.heap.size, 1, none⟩ = some (.slice A' m cap')) (by kernel_rfl) (by kernel_rfl) hhX ?_
      repeat (first | (refine wpE_fl rfl rfl (fun _ _ => rfl) ?_; go_simp) | (refine wpE_sk rfl rfl ?_; go_simp) | (refine wpE_fl (v := ?_) rfl rfl ?_ ?_; rotate_left; (intro W' h'; (try dsimp only at h'); go_simp; exact rfl); go_simp) | (refine wpE_ef rfl ?_; go_simp; gi_wp2_with (first | refine (⟨trivial, rfl, ?_⟩ : Fence.wide.fn _ ∧ Fence.wide.depth = none ∧ _) | refine (⟨trivial, trivial, rfl, ?_⟩ : Fence.wide.fn _ ∧ Fence.wide.fn _ ∧ Fence.wide.depth = none ∧ _) | (gi_at_call 11; (with_reducible refine k5.out.mono ?_); rintro e W9 ⟨rfl, u9, k10⟩; (replace k10 := Lib.hid k10)) | (gi_at_call 24; (with_reducible refine k10.out.mono ?_); rintro e W10 ⟨bs2, rfl, u10, k13⟩; (replace k13 := Lib.hid k13)) | (gi_at_call 14; (with_reducible refine k13.out.mono ?_); rintro e W11 ⟨rfl, u11⟩; (skip)) | refine (⟨trivial, ?_⟩ : Fence.wide.fn _ ∧ _)); (first | refine ⟨by first | exact (hX.out _ (uD.trans' u9)) | exact (hX.out _ ((uD.trans' u9).trans' (u10.mono fun _ _ h => h.elim))) | exact (hX.out _ (((uD.trans' u9).trans' (u10.mono fun _ _ h => h.elim)).trans' (u11.mono fun _ _ h => h.elim))), ?_⟩ | skip)))
      refine wpE_nil ?_
      gi_wp2
      go_ret
      exact ⟨rfl, ((u08.out.trans u9 hFW.out).trans' u10).trans' u11⟩
    · replace hR := Lib.hid hR
      refine callsIn_any (n := 0) (callsIn_of_wp Try.func7 rfl trivial ?_)
      simp only [Try.ntmps7, List.size_toArray, List.length_cons, List.length_nil, Nat.reduceAdd, Nat.reduceSub, Array.replicate_succ, Array.replicate_zero, List.push_toArray, List.append_toArray, List.nil_append, List.cons_append]
      gi_wp2_with (first | (rw [hWb]; skip))
      gi_wp2_with (first | refine (⟨trivial, rfl, ?_⟩ : Fence.wide.fn _ ∧ Fence.wide.depth = none ∧ _) | (gi_at_call 9; (with_reducible refine (kAw.out _).mono ?_); rintro e W1 ⟨rfl, u1⟩; (obtain ⟨s0, s1⟩ := hSt.out _ u1)) | (gi_at_call 16; (with_reducible refine (kRef.out _ u1).mono ?_); rintro e W2 ⟨A2, c2, rfl, hc2, r2, g2, u2⟩; (obtain ⟨s2, s3⟩ := hSt.out _ (u1.trans' (u2.stepAlloc (.cells #[.int .i64 f, .slice A2 vs.length c2] 33)))); (have bm := Lib.hid (Blk.new W2 #[.int .i64 f, .slice A2 vs.length c2] 33)); (have rm := r2.agree' (w' := W2.alloc (.cells #[.int .i64 f, .slice A2 vs.length c2] 33)) ((Upd.alloc (fun _ => False) W2 (.cells #[.int .i64 f, .slice A2 vs.length c2] 33)).agree fun j hj => ⟨r2.lt' j hj, id⟩)); (replace rm := Lib.hid rm); (clear r2 g2)) | (gi_at_call 22; (with_reducible refine (kLd.out _ (u1.trans' (u2.stepAlloc (.cells #[.int .i64 f, .slice A2 vs.length c2] 33)))).mono ?_); rintro e W3 hL; (obtain ⟨rfl, u3⟩ := load_no hR.out hL); (have m0 : W3.cell? ⟨W2.heap.size, 0, none⟩ = some (.int .i64 f) := (bm.out.upd u3 id).cell 0); (have m1 : W3.cell? ⟨W2.heap.size, 1, none⟩ = some (.slice A2 vs.length c2) := (bm.out.upd u3 id).cell 1); (have kRt := Lib.hid (right20_c (n := 0) (f := f) (cap := c2) (rm.out.agree' (w' := W3) (u3.agree fun j hj => ⟨rm.out.lt' j hj, id⟩)) (by omega) hsz))) | (gi_at_call 23; (with_reducible refine kRt.out.mono ?_); rintro e W4 hQ; (obtain ⟨rfl, u4⟩ := right_no hR.out hQ)) | refine (⟨trivial, ?_⟩ : Fence.wide.fn _ ∧ _))
      go_ret
      exact ⟨rfl, ((ub.out.trans' (u1.trans' (u2.stepAlloc _))).trans' u3).trans' u4⟩
  · clear hr hrW bS hsz
    have h60' : ((60 : Int) < (vs.length : Int)) = True := eq_true (by omega)
    refine callsIn_any (n := 0) (callsIn_of_wp Try.func7 rfl trivial ?_)
    simp only [Try.ntmps7, List.size_toArray, List.length_cons, List.length_nil, Nat.reduceAdd, Nat.reduceSub, Array.replicate_succ, Array.replicate_zero, List.push_toArray, List.append_toArray, List.nil_append, List.cons_append]
    gi_wp2_with (first | (rw [hWb]; skip))
    gi_wp2_with (first | refine (⟨trivial, rfl, ?_⟩ : Fence.wide.fn _ ∧ Fence.wide.depth = none ∧ _) | (gi_at_call 9; (with_reducible refine (kAw.out _).mono ?_); rintro e W1 ⟨rfl, u1⟩; (obtain ⟨s0, s1⟩ := hSt.out _ u1); (clear hSt)) | (gi_at_call 9; (with_reducible refine (kAw.out _).mono ?_); rintro e W2 ⟨rfl, u2⟩; (skip)) | refine (⟨trivial, ?_⟩ : Fence.wide.fn _ ∧ _))
    go_ret
    exact ⟨rfl, (ub.trans' u1).trans' u2⟩
end Go.Proofs.Ytadeechoknpjhaa

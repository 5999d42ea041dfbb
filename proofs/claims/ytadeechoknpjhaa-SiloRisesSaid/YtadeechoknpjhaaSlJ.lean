/- silo: the document's Can. -/
import Derived.Test.YtadeechoknpjhaaProg
import Derived.Test.YtadeechoknpjhaaBase
import Derived.Test.YtadeechoknpjhaaSlI
set_option linter.unusedSimpArgs false
set_option linter.unusedVariables false
namespace Go.Proofs.Ytadeechoknpjhaa
open Go.RowKit Go.Shelf
attribute [local go_sem] Oper.semAt_some

section
variable {vs : List VCE} {A : Option Addr} {cap : Nat} {W : World} {f : Int}
set_option maxRecDepth 100000 in
set_option maxHeartbeats 4000000 in
theorem can20_c {n : Nat} {x : Int} {v : VCE} (hr : Reads1 W A (flatE vs)) (hrise : Rise cmpC (vs.map prE)) (hl : vs.length ≤ 100000) (hsz : ∀ v ∈ vs, v.key.size ≤ maxLen ∧ v.pol.size ≤ maxLen) :
    CallsIn Fence.wide n Try.prog 29 #[.agg #[.int .i64 f, .slice A vs.length cap], .int .i64 x, .agg #[.string (v).key, .string (v).pol, .int .i64 (v).kd, .int .i64 (v).st, .int .i64 (v).rev, .bool (v).fin, .int .i64 (v).rk, .int .i64 (v).cnt, .int .i64 (v).sum, .int .i64 (v).mn, .int .i64 (v).mx, .int .i64 (v).q0, .int .i64 (v).q1, .int .i64 (v).q2, .bool (v).over]] W fun e w' => e = .returned (.int .i64 (codeP f (vs.map prE) x v)) ∧ Upd (fun _ => False) W w' := by
  obtain ⟨W0, hW0⟩ : ∃ W0, (W.alloc (.cells #[.int .i64 f, .slice A vs.length cap] 33)).alloc (.cells #[.string (v).key, .string (v).pol, .int .i64 (v).kd, .int .i64 (v).st, .int .i64 (v).rev, .bool (v).fin, .int .i64 (v).rk, .int .i64 (v).cnt, .int .i64 (v).sum, .int .i64 (v).mn, .int .i64 (v).mx, .int .i64 (v).q0, .int .i64 (v).q1, .int .i64 (v).q2, .bool (v).over] 38) = W0 := ⟨_, rfl⟩
  have u0 : Upd (fun _ => False) W W0 := by rw [← hW0]; exact (Upd.alloc _ _ _).stepAlloc _
  have bs : Blk W0 W.heap.size #[.int .i64 f, .slice A vs.length cap] 33 := by rw [← hW0]; exact (Blk.new _ _ _).alloc _
  have be : Blk W0 (W.heap.size + 1) #[.string (v).key, .string (v).pol, .int .i64 (v).kd, .int .i64 (v).st, .int .i64 (v).rev, .bool (v).fin, .int .i64 (v).rk, .int .i64 (v).cnt, .int .i64 (v).sum, .int .i64 (v).mn, .int .i64 (v).mx, .int .i64 (v).q0, .int .i64 (v).q1, .int .i64 (v).q2, .bool (v).over] 38 := by rw [← hW0]; exact Blk.new' (by simp)
  have hrw := fun V (u : Upd (fun _ => False) W0 V) => hr.agree' (w' := V) ((u0.trans' u).agree fun j hj => ⟨hr.lt' j hj, id⟩)
  have kF := Lib.hid fun V (u : Upd (fun _ => False) W0 V) => find20_c (n := 0) (cap := cap) (k := cellE v) (hrw V u) hrise hl hsz
  have c0 : W0.cell? ⟨W.heap.size, 0, none⟩ = some (.int .i64 f) := bs.cell 0
  have c1 : W0.cell? ⟨W.heap.size, 1, none⟩ = some (.slice A vs.length cap) := bs.cell 1
  have hce : (W0.cell? ⟨W.heap.size + 1, 0, none⟩ = some (.string (v).key) ∧ W0.cell? ⟨W.heap.size + 1, 1, none⟩ = some (.string (v).pol) ∧ W0.cell? ⟨W.heap.size + 1, 2, none⟩ = some (.int .i64 (v).kd) ∧ W0.cell? ⟨W.heap.size + 1, 3, none⟩ = some (.int .i64 (v).st) ∧ W0.cell? ⟨W.heap.size + 1, 4, none⟩ = some (.int .i64 (v).rev) ∧ W0.cell? ⟨W.heap.size + 1, 5, none⟩ = some (.bool (v).fin) ∧ W0.cell? ⟨W.heap.size + 1, 6, none⟩ = some (.int .i64 (v).rk) ∧ W0.cell? ⟨W.heap.size + 1, 7, none⟩ = some (.int .i64 (v).cnt) ∧ W0.cell? ⟨W.heap.size + 1, 8, none⟩ = some (.int .i64 (v).sum) ∧ W0.cell? ⟨W.heap.size + 1, 9, none⟩ = some (.int .i64 (v).mn) ∧ W0.cell? ⟨W.heap.size + 1, 10, none⟩ = some (.int .i64 (v).mx) ∧ W0.cell? ⟨W.heap.size + 1, 11, none⟩ = some (.int .i64 (v).q0) ∧ W0.cell? ⟨W.heap.size + 1, 12, none⟩ = some (.int .i64 (v).q1) ∧ W0.cell? ⟨W.heap.size + 1, 13, none⟩ = some (.int .i64 (v).q2) ∧ W0.cell? ⟨W.heap.size + 1, 14, none⟩ = some (.bool (v).over)) := ⟨be.cell 0, be.cell 1, be.cell 2, be.cell 3, be.cell 4, be.cell 5, be.cell 6, be.cell 7, be.cell 8, be.cell 9, be.cell 10, be.cell 11, be.cell 12, be.cell 13, be.cell 14⟩
  have hH := Lib.hid fun V (u : Upd (fun _ => False) W0 V) => show V.cell? ⟨W.heap.size, 1, none⟩ = some (.slice A vs.length cap) ∧ V.cell? ⟨W.heap.size + 1, 4, none⟩ = some (.int .i64 v.rev) from ⟨(bs.upd u id).cell 1, (be.upd u id).cell 4⟩
  obtain ⟨e0, e1, e2, e3, e4, e5, e6, e7, e8, e9, e10, e11, e12, e13, e14⟩ := hce
  have hg := get_at (c := cmpC) (k := cellE v) ordrC hrise
  have hgn := get_none (c := cmpC) (k := cellE v) (l := vs.map prE)
  have hlen : (vs.map prE).length = vs.length := by simp
  have hu0 : Upd (fun _ => False) W0 W0 := Upd.refl _ _
  replace u0 := Lib.hid u0
  clear bs be
  by_cases h1 : 0 ≤ x ∧ x ≤ mxE
  · have h10 : 0 ≤ x := h1.1
    have h11 : x ≤ 1099511627776 := h1.2
    by_cases h2 : x < f
    · have hcf : codeP f (vs.map prE) x v = 20 := by simp [codeP, codeF, h1, h2]
      rw [hcf]
      clear hcf hr hrw hrise hsz hg hgn kF
      refine callsIn_any (n := 0) (callsIn_of_wp Try.func29 rfl trivial ?_)
      simp only [Try.ntmps29, List.size_toArray, List.length_cons, List.length_nil, Nat.reduceAdd, Nat.reduceSub, Array.replicate_succ, Array.replicate_zero, List.push_toArray, List.append_toArray, List.nil_append, List.cons_append]
      gi_wp2_with (first | (rw [hW0]; skip))
      gi_wp2
      go_ret
      exact ⟨rfl, u0.out⟩
    · have hcf : codeP f (vs.map prE) x v = codeG (vs.map prE) v := by simp [codeP, codeF, h1, h2]
      rw [hcf]
      clear hcf
      cases hh : hadL cmpC (cellE v) (vs.map prE) with
      | true =>
        obtain ⟨hlt, hge⟩ := hg hh
        have hlt' : rankL cmpC (cellE v) (vs.map prE) < vs.length := by rw [hlen] at hlt; exact hlt
        rw [getPr vs _ hlt'] at hge
        have hA := fun V u => atE_at (hrw V u) hlt'
        obtain ⟨g, o, rfl, hat⟩ := hA W0 hu0
        rw [hh] at kF
        obtain ⟨a, ha⟩ : ∃ a, rankL cmpC (cellE v) (vs.map prE) = a := ⟨_, rfl⟩
        obtain ⟨ov, hov⟩ : ∃ ov, vs[rankL cmpC (cellE v) (vs.map prE)] = ov := ⟨_, rfl⟩
        rw [hov] at hat hge
        rw [ha] at hat kF hlt'
        have hA5 := Lib.hid fun V (u : Upd (fun _ => False) W0 V) => (⟨(hH.out V u).1, (hH.out V u).2, cell_upd u hat.c5⟩ : V.cell? ⟨W.heap.size, 1, none⟩ = some (.slice (some ⟨g, o, none⟩) vs.length cap) ∧ V.cell? ⟨W.heap.size + 1, 4, none⟩ = some (.int .i64 v.rev) ∧ V.cell? ⟨g, o + a * 16 + 5, none⟩ = some (.int .i64 ov.rev))
        have hcg : codeG (vs.map prE) v = if v.rev ≤ ov.rev then 21 else 0 := by simp only [codeG, hge]
        rw [hcg]
        clear hcg hg hgn hge hov ha hh hlt hlen hat hA hr hrw hrise hsz
        refine callsIn_any (n := 0) (callsIn_of_wp Try.func29 rfl trivial ?_)
        simp only [Try.ntmps29, List.size_toArray, List.length_cons, List.length_nil, Nat.reduceAdd, Nat.reduceSub, Array.replicate_succ, Array.replicate_zero, List.push_toArray, List.append_toArray, List.nil_append, List.cons_append]
        gi_wp2_with (first | (rw [hW0]; skip))
        gi_wp2_with (first | refine (⟨trivial, rfl, ?_⟩ : Fence.wide.fn _ ∧ Fence.wide.depth = none ∧ _) | (gi_at_call 30; (with_reducible refine (kF.out _ hu0).mono ?_); rintro e V1 ⟨rfl, u1⟩; (skip)) | refine (⟨trivial, ?_⟩ : Fence.wide.fn _ ∧ _))
        have h5 := hA5.out _ u1.stepDrew
        have h6 := h5.1
        refine wpIn_eager [(0, true), (1, true), (2, true), (3, true), (4, true), (5, true), (6, true), (7, true), (8, true), (9, true), (10, true), (11, true), (12, true)] (fun V => V.cell? ⟨W.heap.size, 1, none⟩ = some (.slice (some ⟨g, o, none⟩) vs.length cap) ∧ V.cell? ⟨W.heap.size + 1, 4, none⟩ = some (.int .i64 v.rev) ∧ V.cell? ⟨g, o + a * 16 + 5, none⟩ = some (.int .i64 ov.rev)) (by kernel_rfl) (by kernel_rfl) h5 ?_
        repeat (first | (refine wpE_fl rfl rfl (fun _ _ => rfl) ?_; go_simp) | (refine wpE_sk rfl rfl ?_; go_simp) | (refine wpE_fl (v := ?_) rfl rfl ?_ ?_; rotate_left; (intro W' h'; (try dsimp only at h'); go_simp; exact rfl); go_simp) | (refine wpE_ef rfl ?_; go_simp; gi_wp2_with (first | refine (⟨trivial, rfl, ?_⟩ : Fence.wide.fn _ ∧ Fence.wide.depth = none ∧ _) | refine (⟨trivial, trivial, rfl, ?_⟩ : Fence.wide.fn _ ∧ Fence.wide.fn _ ∧ Fence.wide.depth = none ∧ _) | refine (⟨trivial, ?_⟩ : Fence.wide.fn _ ∧ _)); (first | refine ⟨by first | exact h5, ?_⟩ | skip)))
        refine wpE_nil ?_
        by_cases hrv : v.rev ≤ ov.rev
        all_goals
          gi_wp2_with (first | refine (⟨trivial, rfl, ?_⟩ : Fence.wide.fn _ ∧ Fence.wide.depth = none ∧ _) | refine (⟨trivial, ?_⟩ : Fence.wide.fn _ ∧ _))
          go_ret
          refine ⟨?_, u0.out.trans' u1.stepDrew⟩
          first | rfl | (rw [if_pos hrv]; rfl) | (rw [if_neg (by omega)]; rfl)
      | false =>
        rw [hh] at kF
        have hcg : codeG (vs.map prE) v = if 400 ≤ vs.length then 3 else 0 := by simp only [codeG, hgn hh, hlen]
        rw [hcg]
        generalize rankL cmpC (cellE v) (vs.map prE) = a at *
        clear hcg hg hgn hh hlen hr hrw hrise hsz
        refine callsIn_any (n := 0) (callsIn_of_wp Try.func29 rfl trivial ?_)
        simp only [Try.ntmps29, List.size_toArray, List.length_cons, List.length_nil, Nat.reduceAdd, Nat.reduceSub, Array.replicate_succ, Array.replicate_zero, List.push_toArray, List.append_toArray, List.nil_append, List.cons_append]
        gi_wp2_with (first | (rw [hW0]; skip))
        gi_wp2_with (first | refine (⟨trivial, rfl, ?_⟩ : Fence.wide.fn _ ∧ Fence.wide.depth = none ∧ _) | (gi_at_call 30; (with_reducible refine (kF.out _ hu0).mono ?_); rintro e V1 ⟨rfl, u1⟩; (skip)) | refine (⟨trivial, ?_⟩ : Fence.wide.fn _ ∧ _))
        have h5 := hH.out _ u1.stepDrew
        have h6 := (hH.out _ u1).1
        refine wpIn_eager [(0, true), (1, true), (2, true), (3, true), (4, true), (5, true), (6, true), (7, true), (8, true), (9, true), (10, true), (11, true), (12, true)] (fun _ => True) (by kernel_rfl) (by kernel_rfl) trivial ?_
        repeat (first | (refine wpE_fl rfl rfl (fun _ _ => rfl) ?_; go_simp) | (refine wpE_sk rfl rfl ?_; go_simp) | (refine wpE_fl (v := ?_) rfl rfl ?_ ?_; rotate_left; (intro W' h'; (try dsimp only at h'); go_simp; exact rfl); go_simp) | (refine wpE_ef rfl ?_; go_simp; gi_wp2_with (first | refine (⟨trivial, rfl, ?_⟩ : Fence.wide.fn _ ∧ Fence.wide.depth = none ∧ _) | refine (⟨trivial, trivial, rfl, ?_⟩ : Fence.wide.fn _ ∧ Fence.wide.fn _ ∧ Fence.wide.depth = none ∧ _) | refine (⟨trivial, ?_⟩ : Fence.wide.fn _ ∧ _)); (first | refine ⟨by first | exact trivial, ?_⟩ | skip)))
        refine wpE_nil ?_
        by_cases hrv : (400 : Int) ≤ vs.length
        all_goals
          gi_wp2_with (first | refine (⟨trivial, rfl, ?_⟩ : Fence.wide.fn _ ∧ Fence.wide.depth = none ∧ _) | refine (⟨trivial, ?_⟩ : Fence.wide.fn _ ∧ _))
          go_ret
          refine ⟨?_, u0.out.trans' u1.stepDrew⟩
          first | rfl | (rw [if_pos (by omega)]; rfl) | (rw [if_neg (by omega)]; rfl)
  · have hcf : codeP f (vs.map prE) x v = 1 := by simp [codeP, codeF, h1]
    rw [hcf]
    clear hcf hr hrw hrise hsz hg hgn kF
    by_cases h3 : 0 ≤ x
    · have h4 : ¬ x ≤ 1099511627776 := fun h => h1 ⟨h3, h⟩
      refine callsIn_any (n := 0) (callsIn_of_wp Try.func29 rfl trivial ?_)
      simp only [Try.ntmps29, List.size_toArray, List.length_cons, List.length_nil, Nat.reduceAdd, Nat.reduceSub, Array.replicate_succ, Array.replicate_zero, List.push_toArray, List.append_toArray, List.nil_append, List.cons_append]
      gi_wp2_with (first | (rw [hW0]; skip))
      gi_wp2
      go_ret
      exact ⟨rfl, u0.out⟩
    · skip
      refine callsIn_any (n := 0) (callsIn_of_wp Try.func29 rfl trivial ?_)
      simp only [Try.ntmps29, List.size_toArray, List.length_cons, List.length_nil, Nat.reduceAdd, Nat.reduceSub, Array.replicate_succ, Array.replicate_zero, List.push_toArray, List.append_toArray, List.nil_append, List.cons_append]
      gi_wp2_with (first | (rw [hW0]; skip))
      gi_wp2
      go_ret
      exact ⟨rfl, u0.out⟩
end
end Go.Proofs.Ytadeechoknpjhaa

/- silo: Put. -/
import Derived.Test.YtadeechoknpjhaaProg
import Derived.Test.YtadeechoknpjhaaBase
import Derived.Test.YtadeechoknpjhaaSlD
set_option linter.unusedSimpArgs false
set_option linter.unusedVariables false
namespace Go.Proofs.Ytadeechoknpjhaa
open Go.RowKit Go.Shelf
attribute [local go_sem] Oper.semAt_some

abbrev atE (x : Int) (v : VCE) : VCE := { v with ep := x }
section
variable {sb : Nat} {f : Int} {l : List (KCE × VCE)} {F : Nat → Prop} {W W2 : World}
theorem siloCan_c {n : Nat} {x : Int} {v : VCE} (h : SiloI sb f l F W) : CallsIn Fence.wide n Try.prog 27 #[.pointer (some ⟨sb, 0, none⟩), .int .i64 x, .agg #[.string (v).key, .string (v).pol, .int .i64 (v).kd, .int .i64 (v).st, .int .i64 (v).rev, .bool (v).fin, .int .i64 (v).rk, .int .i64 (v).cnt, .int .i64 (v).sum, .int .i64 (v).mn, .int .i64 (v).mx, .int .i64 (v).q0, .int .i64 (v).q1, .int .i64 (v).q2, .bool (v).over]] W fun e W2 => e = .returned (.int .i64 (codeP f l x v)) ∧ Upd (fun _ => False) W W2 := by
  by_cases hc : codeF f x = 0
  · exact siloCanG_c h hc
  · exact siloCanF_c h hc
set_option maxRecDepth 100000 in
set_option maxHeartbeats 1000000 in
theorem siloPutNo_c {n : Nat} {x : Int} {v : VCE} (h : SiloI sb f l F W) (hc : codeP f l x v ≠ 0) : CallsIn Fence.wide n Try.prog 11 #[.pointer (some ⟨sb, 0, none⟩), .int .i64 x, .agg #[.string (v).key, .string (v).pol, .int .i64 (v).kd, .int .i64 (v).st, .int .i64 (v).rev, .bool (v).fin, .int .i64 (v).rk, .int .i64 (v).cnt, .int .i64 (v).sum, .int .i64 (v).mn, .int .i64 (v).mx, .int .i64 (v).q0, .int .i64 (v).q1, .int .i64 (v).q2, .bool (v).over]] W fun e W2 => e = .returned (.int .i64 (codeP f l x v)) ∧ Upd (fun _ => False) W W2 := by
  have u0 := Upd.alloc (fun _ => False) W (.cells #[.string (v).key, .string (v).pol, .int .i64 (v).kd, .int .i64 (v).st, .int .i64 (v).rev, .bool (v).fin, .int .i64 (v).rk, .int .i64 (v).cnt, .int .i64 (v).sum, .int .i64 (v).mn, .int .i64 (v).mx, .int .i64 (v).q0, .int .i64 (v).q1, .int .i64 (v).q2, .bool (v).over] 38)
  have kC := Lib.hid ((siloCan_c (n := 0) (x := x) (v := v) (h.upd u0 fun _ _ => id)).mono (R' := fun e W2 => e = .returned (.int .i64 (codeP f l x v)) ∧ Upd (fun _ => False) W W2) (by
    rintro e W2 ⟨rfl, u⟩
    exact ⟨rfl, u0.trans' u⟩))
  clear h u0
  obtain ⟨c, hcc⟩ : ∃ c, codeP f l x v = c := ⟨_, rfl⟩
  rw [hcc] at hc kC ⊢
  clear hcc
  refine callsIn_any (n := 0) (callsIn_of_wp Try.func11 rfl trivial ?_)
  simp only [Try.ntmps11, List.size_toArray, List.length_cons, List.length_nil, Nat.reduceAdd, Nat.reduceSub, Array.replicate_succ, Array.replicate_zero, List.push_toArray, List.append_toArray, List.nil_append, List.cons_append]
  gi_wp2_with (first | refine (⟨trivial, rfl, ?_⟩ : Fence.wide.fn _ ∧ Fence.wide.depth = none ∧ _) | (gi_at_call 27; (with_reducible refine kC.out.mono ?_); rintro e W1 ⟨rfl, u1⟩; (skip)) | refine (⟨trivial, ?_⟩ : Fence.wide.fn _ ∧ _))
  go_ret
  exact ⟨rfl, u1⟩
set_option maxRecDepth 100000 in
set_option maxHeartbeats 2000000 in
theorem siloPutYes_c {n : Nat} {x : Int} {v : VCE} (h : SiloI sb f l F W) (hn : l.length < 100000) (hc : codeP f l x v = 0) : CallsIn Fence.wide n Try.prog 11 #[.pointer (some ⟨sb, 0, none⟩), .int .i64 x, .agg #[.string (v).key, .string (v).pol, .int .i64 (v).kd, .int .i64 (v).st, .int .i64 (v).rev, .bool (v).fin, .int .i64 (v).rk, .int .i64 (v).cnt, .int .i64 (v).sum, .int .i64 (v).mn, .int .i64 (v).mx, .int .i64 (v).q0, .int .i64 (v).q1, .int .i64 (v).q2, .bool (v).over]] W fun e W2 => e = .returned (.int .i64 0) ∧ ∃ F', SiloI sb x (putL cmpC (cellE v) (atE x v) l) F' W2 ∧ (∀ j, F' j → F j ∨ W.heap.size ≤ j) ∧ Upd F W W2 := by
  have hfx : ¬ x < f := by
    intro h2
    unfold codeP codeF at hc
    by_cases h1 : 0 ≤ x ∧ x ≤ mxE <;> simp [h1, h2] at hc
  have hfx2 : f ≤ x := by omega
  obtain ⟨q, t, g1, g2, g3, g4⟩ := id h
  have u0 := Upd.alloc (fun _ => False) W (.cells #[.string (v).key, .string (v).pol, .int .i64 (v).kd, .int .i64 (v).st, .int .i64 (v).rev, .bool (v).fin, .int .i64 (v).rk, .int .i64 (v).cnt, .int .i64 (v).sum, .int .i64 (v).mn, .int .i64 (v).mx, .int .i64 (v).q0, .int .i64 (v).q1, .int .i64 (v).q2, .bool (v).over] 38)
  have b0 := Blk.new W #[.string (v).key, .string (v).pol, .int .i64 (v).kd, .int .i64 (v).st, .int .i64 (v).rev, .bool (v).fin, .int .i64 (v).rk, .int .i64 (v).cnt, .int .i64 (v).sum, .int .i64 (v).mn, .int .i64 (v).mx, .int .i64 (v).q0, .int .i64 (v).q1, .int .i64 (v).q2, .bool (v).over] 38
  have hlt := g2.lt
  have hsb := g1.lt
  have kC := Lib.hid ((siloCan_c (n := 0) (x := x) (v := v) (h.upd u0 fun _ _ => id)).mono (R' := fun e W2 => e = .returned (.int .i64 0) ∧ (W2.cell? ⟨sb, 0, none⟩ = some (.int .i64 f) ∧ W2.frozen? ⟨sb, 0, none⟩ = false ∧ sb < W2.heap.size) ∧
      ∀ V, Upd (fun _ => False) (W2.setCell ⟨sb, 0, none⟩ (.int .i64 x)) V → (V.cell? ⟨sb, 1, none⟩ = some (.pointer (some ⟨q, 0, none⟩)) ∧ (V.cell? ⟨W.heap.size, 0, none⟩ = some (.string (v).key) ∧ V.cell? ⟨W.heap.size, 1, none⟩ = some (.string (v).pol) ∧ V.cell? ⟨W.heap.size, 2, none⟩ = some (.int .i64 (v).kd) ∧ V.cell? ⟨W.heap.size, 3, none⟩ = some (.int .i64 (v).st) ∧ V.cell? ⟨W.heap.size, 4, none⟩ = some (.int .i64 (v).rev) ∧ V.cell? ⟨W.heap.size, 5, none⟩ = some (.bool (v).fin) ∧ V.cell? ⟨W.heap.size, 6, none⟩ = some (.int .i64 (v).rk) ∧ V.cell? ⟨W.heap.size, 7, none⟩ = some (.int .i64 (v).cnt) ∧ V.cell? ⟨W.heap.size, 8, none⟩ = some (.int .i64 (v).sum) ∧ V.cell? ⟨W.heap.size, 9, none⟩ = some (.int .i64 (v).mn) ∧ V.cell? ⟨W.heap.size, 10, none⟩ = some (.int .i64 (v).mx) ∧ V.cell? ⟨W.heap.size, 11, none⟩ = some (.int .i64 (v).q0) ∧ V.cell? ⟨W.heap.size, 12, none⟩ = some (.int .i64 (v).q1) ∧ V.cell? ⟨W.heap.size, 13, none⟩ = some (.int .i64 (v).q2) ∧ V.cell? ⟨W.heap.size, 14, none⟩ = some (.bool (v).over)) ∧
        CallsIn Fence.wide 0 Try.prog 28 #[.pointer (some ⟨q, 0, none⟩), .agg #[.string (v).key, .string (v).pol, .int .i64 (v).kd, .int .i64 (v).st], .agg #[.int .i64 (atE x v).ep, .string (atE x v).key, .string (atE x v).pol, .int .i64 (atE x v).kd, .int .i64 (atE x v).st, .int .i64 (atE x v).rev, .bool (atE x v).fin, .int .i64 (atE x v).rk, .int .i64 (atE x v).cnt, .int .i64 (atE x v).sum, .int .i64 (atE x v).mn, .int .i64 (atE x v).mx, .int .i64 (atE x v).q0, .int .i64 (atE x v).q1, .int .i64 (atE x v).q2, .bool (atE x v).over]] V fun e W3 => ∃ b, e = .returned (.bool b) ∧ (W3.cell? ⟨sb, 1, none⟩ = some (.pointer (some ⟨q, 0, none⟩)) ∧ (W3.cell? ⟨W.heap.size, 0, none⟩ = some (.string (v).key) ∧ W3.cell? ⟨W.heap.size, 1, none⟩ = some (.string (v).pol) ∧ W3.cell? ⟨W.heap.size, 2, none⟩ = some (.int .i64 (v).kd) ∧ W3.cell? ⟨W.heap.size, 3, none⟩ = some (.int .i64 (v).st) ∧ W3.cell? ⟨W.heap.size, 4, none⟩ = some (.int .i64 (v).rev) ∧ W3.cell? ⟨W.heap.size, 5, none⟩ = some (.bool (v).fin) ∧ W3.cell? ⟨W.heap.size, 6, none⟩ = some (.int .i64 (v).rk) ∧ W3.cell? ⟨W.heap.size, 7, none⟩ = some (.int .i64 (v).cnt) ∧ W3.cell? ⟨W.heap.size, 8, none⟩ = some (.int .i64 (v).sum) ∧ W3.cell? ⟨W.heap.size, 9, none⟩ = some (.int .i64 (v).mn) ∧ W3.cell? ⟨W.heap.size, 10, none⟩ = some (.int .i64 (v).mx) ∧ W3.cell? ⟨W.heap.size, 11, none⟩ = some (.int .i64 (v).q0) ∧ W3.cell? ⟨W.heap.size, 12, none⟩ = some (.int .i64 (v).q1) ∧ W3.cell? ⟨W.heap.size, 13, none⟩ = some (.int .i64 (v).q2) ∧ W3.cell? ⟨W.heap.size, 14, none⟩ = some (.bool (v).over))) ∧ ∃ F', SiloI sb x (putL cmpC (cellE v) (atE x v) l) F' W3 ∧ (∀ j, F' j → F j ∨ W.heap.size ≤ j) ∧ Upd F W W3)) (by
    rintro e W2 ⟨rfl, u⟩
    have u2 := u0.trans' u
    have b2 := g1.upd u2 id
    refine ⟨by rw [hc], ⟨b2.cell 0, b2.frozen 0, b2.lt⟩, fun V uV => ?_⟩
    have us := Upd.setCell (M := fun j => j = sb) (w := W2) (a := ⟨sb, 0, none⟩) rfl (.int .i64 x)
    have b3 : Blk V sb #[.int .i64 x, .pointer (some ⟨q, 0, none⟩)] 76 := by
      have := b2.set 0 (.int .i64 x)
      simp at this
      exact this.upd uV id
    have uWV : Upd (fun j => j = sb) W V := ((u2.mono fun _ _ h => h.elim).trans' us).trans' (uV.mono fun _ _ h => h.elim)
    have e3 := ((b0.upd u id).upd us (by omega)).upd uV id
    have g2V := g2.upd uWV (fun j hj e => g4 (by rw [← e]; exact hj))
    refine ⟨b3.cell 1, ⟨e3.cell 0, e3.cell 1, e3.cell 2, e3.cell 3, e3.cell 4, e3.cell 5, e3.cell 6, e3.cell 7, e3.cell 8, e3.cell 9, e3.cell 10, e3.cell 11, e3.cell 12, e3.cell 13, e3.cell 14⟩, ?_⟩
    refine (rackPutCE (n := 0) cmpV_cell (k := cellE v) (v := atE x v) g2V hn).mono ?_
    rintro e W3 ⟨rfl, t', p1, p2, p3⟩
    have zV := uWV.size
    have ut : ∀ j, t'.has j → t.has j ∨ W.heap.size ≤ j := fun j hj => (p2 j hj).imp id fun h => by omega
    have he : ¬ (W.heap.size = q ∨ t.has W.heap.size) := fun h => by have := hlt _ h; omega
    refine ⟨_, rfl, ⟨(b3.upd p3 g4).cell 1, (e3.upd p3 he).cell 0, (e3.upd p3 he).cell 1, (e3.upd p3 he).cell 2, (e3.upd p3 he).cell 3, (e3.upd p3 he).cell 4, (e3.upd p3 he).cell 5, (e3.upd p3 he).cell 6, (e3.upd p3 he).cell 7, (e3.upd p3 he).cell 8, (e3.upd p3 he).cell 9, (e3.upd p3 he).cell 10, (e3.upd p3 he).cell 11, (e3.upd p3 he).cell 12, (e3.upd p3 he).cell 13, (e3.upd p3 he).cell 14⟩, fun j => j = sb ∨ j = q ∨ t'.has j, ⟨q, t', b3.upd p3 g4, p1, fun j => Iff.rfl, ?_⟩, ?_, ?_⟩
    · rintro (h | h)
      · exact g4 (.inl h)
      · rcases ut _ h with h | h
        · exact g4 (.inr h)
        · omega
    · rintro j (h | h | h)
      · exact .inl ((g3 j).2 (.inl h))
      · exact .inl ((g3 j).2 (.inr (.inl h)))
      · exact (ut j h).imp (fun h => (g3 j).2 (.inr (.inr h))) id
    · exact (uWV.mono fun j _ hj => (g3 j).2 (.inl hj)).trans (p3.mono fun j _ hj => (g3 j).2 (.inr hj)) fun j hj => .inl hj))
  clear g1 g2 g3 g4 h hc hn b0 hfx
  refine callsIn_any (n := 0) (callsIn_of_wp Try.func11 rfl trivial ?_)
  simp only [Try.ntmps11, List.size_toArray, List.length_cons, List.length_nil, Nat.reduceAdd, Nat.reduceSub, Array.replicate_succ, Array.replicate_zero, List.push_toArray, List.append_toArray, List.nil_append, List.cons_append]
  gi_wp2_with (first | refine (⟨trivial, rfl, ?_⟩ : Fence.wide.fn _ ∧ Fence.wide.depth = none ∧ _) | (gi_at_call 27; (with_reducible refine kC.out.mono ?_); rintro e W1 ⟨rfl, hcs, hV⟩; (obtain ⟨c0, f0, l0⟩ := hcs); (replace hV := Lib.hid hV)) | refine (⟨trivial, ?_⟩ : Fence.wide.fn _ ∧ _))
  all_goals
    (first | (have hxf : x = f := (by omega); subst hxf) | skip)
    have hV1 := hV.out _ ((Upd.refl (fun _ => False) (W1.setCell ⟨sb, 0, none⟩ (.int .i64 x))).stepDrew)
    obtain ⟨d1, dE, kP⟩ := hV1
    replace kP := Lib.hid kP
    replace hV := Lib.hid (fun V (u : Upd (fun _ => False) (W1.setCell ⟨sb, 0, none⟩ (.int .i64 x)) V) => (⟨(hV.out V u).1, (hV.out V u).2.1⟩ : V.cell? ⟨sb, 1, none⟩ = some (.pointer (some ⟨q, 0, none⟩)) ∧ (V.cell? ⟨W.heap.size, 0, none⟩ = some (.string (v).key) ∧ V.cell? ⟨W.heap.size, 1, none⟩ = some (.string (v).pol) ∧ V.cell? ⟨W.heap.size, 2, none⟩ = some (.int .i64 (v).kd) ∧ V.cell? ⟨W.heap.size, 3, none⟩ = some (.int .i64 (v).st) ∧ V.cell? ⟨W.heap.size, 4, none⟩ = some (.int .i64 (v).rev) ∧ V.cell? ⟨W.heap.size, 5, none⟩ = some (.bool (v).fin) ∧ V.cell? ⟨W.heap.size, 6, none⟩ = some (.int .i64 (v).rk) ∧ V.cell? ⟨W.heap.size, 7, none⟩ = some (.int .i64 (v).cnt) ∧ V.cell? ⟨W.heap.size, 8, none⟩ = some (.int .i64 (v).sum) ∧ V.cell? ⟨W.heap.size, 9, none⟩ = some (.int .i64 (v).mn) ∧ V.cell? ⟨W.heap.size, 10, none⟩ = some (.int .i64 (v).mx) ∧ V.cell? ⟨W.heap.size, 11, none⟩ = some (.int .i64 (v).q0) ∧ V.cell? ⟨W.heap.size, 12, none⟩ = some (.int .i64 (v).q1) ∧ V.cell? ⟨W.heap.size, 13, none⟩ = some (.int .i64 (v).q2) ∧ V.cell? ⟨W.heap.size, 14, none⟩ = some (.bool (v).over))))
    refine wpIn_eager [(0, true), (1, true), (2, true), (3, true), (4, true), (5, true), (6, true), (7, true), (8, true), (9, false)] (fun V => V.cell? ⟨sb, 1, none⟩ = some (.pointer (some ⟨q, 0, none⟩)) ∧ (V.cell? ⟨W.heap.size, 0, none⟩ = some (.string (v).key) ∧ V.cell? ⟨W.heap.size, 1, none⟩ = some (.string (v).pol) ∧ V.cell? ⟨W.heap.size, 2, none⟩ = some (.int .i64 (v).kd) ∧ V.cell? ⟨W.heap.size, 3, none⟩ = some (.int .i64 (v).st) ∧ V.cell? ⟨W.heap.size, 4, none⟩ = some (.int .i64 (v).rev) ∧ V.cell? ⟨W.heap.size, 5, none⟩ = some (.bool (v).fin) ∧ V.cell? ⟨W.heap.size, 6, none⟩ = some (.int .i64 (v).rk) ∧ V.cell? ⟨W.heap.size, 7, none⟩ = some (.int .i64 (v).cnt) ∧ V.cell? ⟨W.heap.size, 8, none⟩ = some (.int .i64 (v).sum) ∧ V.cell? ⟨W.heap.size, 9, none⟩ = some (.int .i64 (v).mn) ∧ V.cell? ⟨W.heap.size, 10, none⟩ = some (.int .i64 (v).mx) ∧ V.cell? ⟨W.heap.size, 11, none⟩ = some (.int .i64 (v).q0) ∧ V.cell? ⟨W.heap.size, 12, none⟩ = some (.int .i64 (v).q1) ∧ V.cell? ⟨W.heap.size, 13, none⟩ = some (.int .i64 (v).q2) ∧ V.cell? ⟨W.heap.size, 14, none⟩ = some (.bool (v).over))) (by kernel_rfl) (by kernel_rfl) ⟨d1, dE⟩ ?_
    repeat (first | (refine wpE_fl rfl rfl (fun _ _ => rfl) ?_; go_simp) | (refine wpE_sk rfl rfl ?_; go_simp) | (refine wpE_fl (v := ?_) rfl rfl ?_ ?_; rotate_left; (intro W' h'; (try dsimp only at h'); go_simp; exact rfl); go_simp) | (refine wpE_ef rfl ?_; go_simp; gi_wp2_with (first | refine (⟨trivial, rfl, ?_⟩ : Fence.wide.fn _ ∧ Fence.wide.depth = none ∧ _) | refine (⟨trivial, trivial, rfl, ?_⟩ : Fence.wide.fn _ ∧ Fence.wide.fn _ ∧ Fence.wide.depth = none ∧ _) | (gi_at_call 28; (with_reducible refine kP.out.mono ?_); rintro e W3 ⟨bb, rfl, hH3, hP⟩; (replace hP := Lib.hid hP)) | refine (⟨trivial, ?_⟩ : Fence.wide.fn _ ∧ _)); (first | refine ⟨by first | exact hH3, ?_⟩ | skip)))
    refine wpE_nil ?_
    gi_wp2
    go_ret
    exact ⟨rfl, hP.out⟩
end
end Go.Proofs.Ytadeechoknpjhaa

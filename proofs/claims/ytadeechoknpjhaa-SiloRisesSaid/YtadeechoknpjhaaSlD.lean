/- silo: Can. -/
import Derived.Test.YtadeechoknpjhaaProg
import Derived.Test.YtadeechoknpjhaaBase
import Derived.Test.YtadeechoknpjhaaSlB
set_option linter.unusedSimpArgs false
set_option linter.unusedVariables false
namespace Go.Proofs.Ytadeechoknpjhaa
open Go.RowKit Go.Shelf
attribute [local go_sem] Oper.semAt_some

section
variable {sb : Nat} {f : Int} {l : List (KCE × VCE)} {F : Nat → Prop} {W W2 : World}
theorem getE_c {n q : Nat} {t : Tr KCE VCE} (h : RackC q t l W) (v : VCE) :
    CallsIn Fence.wide n Try.prog 42 #[.pointer (some ⟨q, 0, none⟩), .agg #[.string (v).key, .string (v).pol, .int .i64 (v).kd, .int .i64 (v).st]] W fun e W2 => (∃ o : VCE, e = .returned (.tuple #[.agg #[.int .i64 (o).ep, .string (o).key, .string (o).pol, .int .i64 (o).kd, .int .i64 (o).st, .int .i64 (o).rev, .bool (o).fin, .int .i64 (o).rk, .int .i64 (o).cnt, .int .i64 (o).sum, .int .i64 (o).mn, .int .i64 (o).mx, .int .i64 (o).q0, .int .i64 (o).q1, .int .i64 (o).q2, .bool (o).over], .bool (getL cmpC (cellE v) l).isSome]) ∧ ((getL cmpC (cellE v) l) = none ∨ (getL cmpC (cellE v) l) = some o)) ∧ Upd (fun _ => False) W W2 := by
  refine (rackGetCE (n := n) h cmpV_cell (cellE v)).mono ?_
  rintro e W2 ⟨rfl, u⟩
  refine ⟨⟨_, rfl, ?_⟩, u⟩
  cases getL cmpC (cellE v) l with
  | none => exact .inl rfl
  | some o => exact .inr rfl
theorem siloCanF_c {n : Nat} {x : Int} {v : VCE} (h : SiloI sb f l F W) (hc : codeF f x ≠ 0) : CallsIn Fence.wide n Try.prog 27 #[.pointer (some ⟨sb, 0, none⟩), .int .i64 x, .agg #[.string (v).key, .string (v).pol, .int .i64 (v).kd, .int .i64 (v).st, .int .i64 (v).rev, .bool (v).fin, .int .i64 (v).rk, .int .i64 (v).cnt, .int .i64 (v).sum, .int .i64 (v).mn, .int .i64 (v).mx, .int .i64 (v).q0, .int .i64 (v).q1, .int .i64 (v).q2, .bool (v).over]] W fun e W2 => e = .returned (.int .i64 (codeP f l x v)) ∧ Upd (fun _ => False) W W2 := by
  obtain ⟨q, t, g1, g2, g3, g4⟩ := id h
  have u0 := Upd.alloc (fun _ => False) W (.cells #[.string (v).key, .string (v).pol, .int .i64 (v).kd, .int .i64 (v).st, .int .i64 (v).rev, .bool (v).fin, .int .i64 (v).rk, .int .i64 (v).cnt, .int .i64 (v).sum, .int .i64 (v).mn, .int .i64 (v).mx, .int .i64 (v).q0, .int .i64 (v).q1, .int .i64 (v).q2, .bool (v).over] 38)
  have c0 : (W.alloc (.cells #[.string (v).key, .string (v).pol, .int .i64 (v).kd, .int .i64 (v).st, .int .i64 (v).rev, .bool (v).fin, .int .i64 (v).rk, .int .i64 (v).cnt, .int .i64 (v).sum, .int .i64 (v).mn, .int .i64 (v).mx, .int .i64 (v).q0, .int .i64 (v).q1, .int .i64 (v).q2, .bool (v).over] 38)).cell? ⟨sb, 0, none⟩ = some (.int .i64 f) := (g1.upd u0 id).cell 0
  have ke := Lib.hid fun (W : World) => epoch_c (n := 0) (x := x) (W := W)
  simp only [codeP, if_neg hc]
  clear g1 g2 g3 g4 h
  by_cases h1 : 0 ≤ x ∧ x ≤ mxE
  · simp only [decide_eq_true h1] at ke
    have h2 : x < f := by
      apply Classical.byContradiction
      intro h2
      simp [codeF, h1, h2] at hc
    have hcf : codeF f x = 20 := by simp [codeF, h1, h2]
    rw [hcf]
    clear hcf hc
    refine callsIn_any (n := 0) (callsIn_of_wp Try.func27 rfl trivial ?_)
    simp only [Try.ntmps27, List.size_toArray, List.length_cons, List.length_nil, Nat.reduceAdd, Nat.reduceSub, Array.replicate_succ, Array.replicate_zero, List.push_toArray, List.append_toArray, List.nil_append, List.cons_append]
    gi_wp2_with (first | refine (⟨trivial, rfl, ?_⟩ : Fence.wide.fn _ ∧ Fence.wide.depth = none ∧ _) | (gi_at_call 35; (with_reducible refine (ke.out _).mono ?_); rintro e W1 ⟨rfl, hW1⟩; (replace hW1 := hW1.symm); (subst hW1)) | refine (⟨trivial, ?_⟩ : Fence.wide.fn _ ∧ _))
    go_ret
    exact ⟨rfl, u0⟩
  · simp only [decide_eq_false h1] at ke
    have hcf : codeF f x = 1 := by simp only [codeF, if_neg h1]
    rw [hcf]
    clear hcf hc
    refine callsIn_any (n := 0) (callsIn_of_wp Try.func27 rfl trivial ?_)
    simp only [Try.ntmps27, List.size_toArray, List.length_cons, List.length_nil, Nat.reduceAdd, Nat.reduceSub, Array.replicate_succ, Array.replicate_zero, List.push_toArray, List.append_toArray, List.nil_append, List.cons_append]
    gi_wp2_with (first | refine (⟨trivial, rfl, ?_⟩ : Fence.wide.fn _ ∧ Fence.wide.depth = none ∧ _) | (gi_at_call 35; (with_reducible refine (ke.out _).mono ?_); rintro e W1 ⟨rfl, hW1⟩; (replace hW1 := hW1.symm); (subst hW1)) | refine (⟨trivial, ?_⟩ : Fence.wide.fn _ ∧ _))
    go_ret
    exact ⟨rfl, u0⟩
set_option maxRecDepth 100000 in
set_option maxHeartbeats 1500000 in
theorem siloCanG_c {n : Nat} {x : Int} {v : VCE} (h : SiloI sb f l F W) (hc : codeF f x = 0) : CallsIn Fence.wide n Try.prog 27 #[.pointer (some ⟨sb, 0, none⟩), .int .i64 x, .agg #[.string (v).key, .string (v).pol, .int .i64 (v).kd, .int .i64 (v).st, .int .i64 (v).rev, .bool (v).fin, .int .i64 (v).rk, .int .i64 (v).cnt, .int .i64 (v).sum, .int .i64 (v).mn, .int .i64 (v).mx, .int .i64 (v).q0, .int .i64 (v).q1, .int .i64 (v).q2, .bool (v).over]] W fun e W2 => e = .returned (.int .i64 (codeP f l x v)) ∧ Upd (fun _ => False) W W2 := by
  obtain ⟨q, t, g1, g2, g3, g4⟩ := id h
  have u0 := Upd.alloc (fun _ => False) W (.cells #[.string (v).key, .string (v).pol, .int .i64 (v).kd, .int .i64 (v).st, .int .i64 (v).rev, .bool (v).fin, .int .i64 (v).rk, .int .i64 (v).cnt, .int .i64 (v).sum, .int .i64 (v).mn, .int .i64 (v).mx, .int .i64 (v).q0, .int .i64 (v).q1, .int .i64 (v).q2, .bool (v).over] 38)
  have b0 := Blk.new W #[.string (v).key, .string (v).pol, .int .i64 (v).kd, .int .i64 (v).st, .int .i64 (v).rev, .bool (v).fin, .int .i64 (v).rk, .int .i64 (v).cnt, .int .i64 (v).sum, .int .i64 (v).mn, .int .i64 (v).mx, .int .i64 (v).q0, .int .i64 (v).q1, .int .i64 (v).q2, .bool (v).over] 38
  have hk : codeP f l x v = codeG l v := by simp only [codeP, if_pos hc]
  obtain ⟨W0, hW0⟩ : ∃ W0, W.alloc (.cells #[.string (v).key, .string (v).pol, .int .i64 (v).kd, .int .i64 (v).st, .int .i64 (v).rev, .bool (v).fin, .int .i64 (v).rk, .int .i64 (v).cnt, .int .i64 (v).sum, .int .i64 (v).mn, .int .i64 (v).mx, .int .i64 (v).q0, .int .i64 (v).q1, .int .i64 (v).q2, .bool (v).over] 38) = W0 := ⟨_, rfl⟩
  rw [hW0] at u0 b0
  have c0 : W0.cell? ⟨sb, 0, none⟩ = some (.int .i64 f) := (g1.upd u0 id).cell 0
  have ke := Lib.hid fun (W : World) => epoch_c (n := 0) (x := x) (W := W)
  have h1 : 0 ≤ x ∧ x ≤ mxE := by
    apply Classical.byContradiction
    intro h1
    simp [codeF, h1] at hc
  have h2 : ¬ x < f := by
    intro h2
    simp [codeF, h1, h2] at hc
  simp only [decide_eq_true h1] at ke
  have kG := Lib.hid fun V (u : Upd (fun _ => False) W0 V) => getE_c (n := 0) (W := V) (g2.upd (u0.trans' u) fun _ _ => id) v
  have kL := Lib.hid fun V (u : Upd (fun _ => False) W0 V) => rackLenCE (n := 0) (w := V) (g2.upd (u0.trans' u) fun _ _ => id)
  have hH := Lib.hid fun V (u : Upd (fun _ => False) W0 V) => show V.cell? ⟨sb, 1, none⟩ = some (.pointer (some ⟨q, 0, none⟩)) ∧ V.cell? ⟨W.heap.size, 0, none⟩ = some (.string v.key) ∧ V.cell? ⟨W.heap.size, 1, none⟩ = some (.string v.pol) ∧ V.cell? ⟨W.heap.size, 2, none⟩ = some (.int .i64 v.kd) ∧ V.cell? ⟨W.heap.size, 3, none⟩ = some (.int .i64 v.st) ∧ V.cell? ⟨W.heap.size, 4, none⟩ = some (.int .i64 v.rev) from
    ⟨(g1.upd (u0.trans' u) id).cell 1, (b0.upd u id).cell 0, (b0.upd u id).cell 1, (b0.upd u id).cell 2, (b0.upd u id).cell 3, (b0.upd u id).cell 4⟩
  rw [hk]
  clear g1 g2 g3 g4 h hk hc b0
  have hu : Upd (fun _ => False) W0 W0.drew := (Upd.refl _ _).stepDrew
  have hhu := hH.out _ hu
  have hz := Lib.hid fun V (u : Upd (fun _ => False) (W0.alloc (.cells #[.int .i64 0, .string ⟨#[]⟩, .string ⟨#[]⟩, .int .i64 0, .int .i64 0, .int .i64 0, .bool false, .int .i64 0, .int .i64 0, .int .i64 0, .int .i64 0, .int .i64 0, .int .i64 0, .int .i64 0, .int .i64 0, .bool false] 63)).drew V) => ((Blk.new W0 #[.int .i64 0, .string ⟨#[]⟩, .string ⟨#[]⟩, .int .i64 0, .int .i64 0, .int .i64 0, .bool false, .int .i64 0, .int .i64 0, .int .i64 0, .int .i64 0, .int .i64 0, .int .i64 0, .int .i64 0, .int .i64 0, .bool false] 63).upd (Upd.drew (fun _ => False) _) id).upd u id
  cases hg : getL cmpC (cellE v) l with
  | none =>
    have kg := Lib.hid fun V (u : Upd (fun _ => False) W0 V) => (kG.out V u).mono (R' := fun e W2 => (∃ o : VCE, e = .returned (.tuple #[.agg #[.int .i64 (o).ep, .string (o).key, .string (o).pol, .int .i64 (o).kd, .int .i64 (o).st, .int .i64 (o).rev, .bool (o).fin, .int .i64 (o).rk, .int .i64 (o).cnt, .int .i64 (o).sum, .int .i64 (o).mn, .int .i64 (o).mx, .int .i64 (o).q0, .int .i64 (o).q1, .int .i64 (o).q2, .bool (o).over], .bool false])) ∧ Upd (fun _ => False) W0 W2 ∧ Upd (fun _ => False) V W2) (by
      rintro e W2 ⟨⟨o2, rfl, ho⟩, u2⟩
      rw [hg] at ho ⊢
      exact ⟨⟨o2, rfl⟩, u.trans' u2, u2⟩)
    clear kG
    refine callsIn_any (n := 0) (callsIn_of_wp Try.func27 rfl trivial ?_)
    simp only [Try.ntmps27, List.size_toArray, List.length_cons, List.length_nil, Nat.reduceAdd, Nat.reduceSub, Array.replicate_succ, Array.replicate_zero, List.push_toArray, List.append_toArray, List.nil_append, List.cons_append]
    gi_wp2_with (first | (rw [hW0]; skip))
    gi_wp2_with (first | refine (⟨trivial, rfl, ?_⟩ : Fence.wide.fn _ ∧ Fence.wide.depth = none ∧ _) | (gi_at_call 35; (with_reducible refine (ke.out _).mono ?_); rintro e W1 ⟨rfl, hW1⟩; (replace hW1 := hW1.symm); (subst hW1)) | refine (⟨trivial, ?_⟩ : Fence.wide.fn _ ∧ _))
    refine wpIn_plan (.fl 0 (.fl 1 (.fl 2 (.fl 3 (.fl 4 (.fl 5 (.fork 6 (.fl 7 (.fl 8 (.fl 9 (.ef 10 (.ef 11 (.fl 12 .done)))))) 10 (.ef 6 (.fl 7 (.fl 8 (.fl 9 (.ef 11 (.fl 12 .done))))))))))))) (fun V => V.cell? ⟨sb, 1, none⟩ = some (.pointer (some ⟨q, 0, none⟩)) ∧ V.cell? ⟨W.heap.size, 0, none⟩ = some (.string v.key) ∧ V.cell? ⟨W.heap.size, 1, none⟩ = some (.string v.pol) ∧ V.cell? ⟨W.heap.size, 2, none⟩ = some (.int .i64 v.kd) ∧ V.cell? ⟨W.heap.size, 3, none⟩ = some (.int .i64 v.st) ∧ V.cell? ⟨W.heap.size, 4, none⟩ = some (.int .i64 v.rev)) (by kernel_rfl) (by kernel_rfl) hhu ?_
    repeat' (first | (refine wpT_fl rfl rfl (fun _ _ => rfl) ?_; go_simp) | (refine wpT_fl (v := ?_) rfl rfl ?_ ?_; rotate_left; (intro W' h'; (try dsimp only at h'); go_simp; exact rfl); go_simp) | (refine wpT_ef rfl ?_; (go_simp; gi_wp2_with (first | refine (⟨trivial, rfl, ?_⟩ : Fence.wide.fn _ ∧ Fence.wide.depth = none ∧ _) | refine (⟨trivial, trivial, rfl, ?_⟩ : Fence.wide.fn _ ∧ Fence.wide.fn _ ∧ Fence.wide.depth = none ∧ _) | (gi_at_call 42; (with_reducible refine (kg.out _ hu).mono ?_); rintro e V1 ⟨⟨o, rfl⟩, u1, u1'⟩; (have hle := u1.size)) | (gi_at_call 42; (with_reducible refine (kg.out _ (((Upd.refl (fun _ => False) W0).stepAlloc _).stepDrew)).mono ?_); rintro e V1 ⟨⟨o, rfl⟩, u1, u1'⟩; (have hle := Nat.le_refl W0.heap.size); (have hz1 := hz.out V1 u1'); (have z0 : V1.cell? ⟨W0.heap.size, 0, none⟩ = some (.int .i64 0) := hz1.cell 0); (have y0 := hz1.frozen 0); (have z1 : V1.cell? ⟨W0.heap.size, 1, none⟩ = some (.string ⟨#[]⟩) := hz1.cell 1); (have y1 := hz1.frozen 1); (have z2 : V1.cell? ⟨W0.heap.size, 2, none⟩ = some (.string ⟨#[]⟩) := hz1.cell 2); (have y2 := hz1.frozen 2); (have z3 : V1.cell? ⟨W0.heap.size, 3, none⟩ = some (.int .i64 0) := hz1.cell 3); (have y3 := hz1.frozen 3); (have z4 : V1.cell? ⟨W0.heap.size, 4, none⟩ = some (.int .i64 0) := hz1.cell 4); (have y4 := hz1.frozen 4); (have z5 : V1.cell? ⟨W0.heap.size, 5, none⟩ = some (.int .i64 0) := hz1.cell 5); (have y5 := hz1.frozen 5); (have z6 : V1.cell? ⟨W0.heap.size, 6, none⟩ = some (.bool false) := hz1.cell 6); (have y6 := hz1.frozen 6); (have z7 : V1.cell? ⟨W0.heap.size, 7, none⟩ = some (.int .i64 0) := hz1.cell 7); (have y7 := hz1.frozen 7); (have z8 : V1.cell? ⟨W0.heap.size, 8, none⟩ = some (.int .i64 0) := hz1.cell 8); (have y8 := hz1.frozen 8); (have z9 : V1.cell? ⟨W0.heap.size, 9, none⟩ = some (.int .i64 0) := hz1.cell 9); (have y9 := hz1.frozen 9); (have z10 : V1.cell? ⟨W0.heap.size, 10, none⟩ = some (.int .i64 0) := hz1.cell 10); (have y10 := hz1.frozen 10); (have z11 : V1.cell? ⟨W0.heap.size, 11, none⟩ = some (.int .i64 0) := hz1.cell 11); (have y11 := hz1.frozen 11); (have z12 : V1.cell? ⟨W0.heap.size, 12, none⟩ = some (.int .i64 0) := hz1.cell 12); (have y12 := hz1.frozen 12); (have z13 : V1.cell? ⟨W0.heap.size, 13, none⟩ = some (.int .i64 0) := hz1.cell 13); (have y13 := hz1.frozen 13); (have z14 : V1.cell? ⟨W0.heap.size, 14, none⟩ = some (.int .i64 0) := hz1.cell 14); (have y14 := hz1.frozen 14); (have z15 : V1.cell? ⟨W0.heap.size, 15, none⟩ = some (.bool false) := hz1.cell 15); (have y15 := hz1.frozen 15); (have zl := hz1.lt)) | refine (⟨trivial, ?_⟩ : Fence.wide.fn _ ∧ _)); (first | refine ⟨by first | exact True.intro | with_reducible exact (hH.out _ (hu.stepAlloc _)) | with_reducible exact (hH.out _ (((Upd.refl (fun _ => False) W0).stepAlloc _).stepDrew)) | with_reducible exact (hH.out _ u1) | with_reducible exact (hH.out _ (u1.stepAlloc _)) | with_reducible exact (hH.out _ (upd_set16 (u1.stepAlloc _) (.inr hle))) | with_reducible exact (hH.out _ (upd_set16 u1 (.inr hle))), ?_⟩ | skip))) | (refine wpT_fork rfl rfl ?_ ?_ <;> (go_simp; gi_wp2_with (first | refine (⟨trivial, rfl, ?_⟩ : Fence.wide.fn _ ∧ Fence.wide.depth = none ∧ _) | refine (⟨trivial, trivial, rfl, ?_⟩ : Fence.wide.fn _ ∧ Fence.wide.fn _ ∧ Fence.wide.depth = none ∧ _) | (gi_at_call 42; (with_reducible refine (kg.out _ hu).mono ?_); rintro e V1 ⟨⟨o, rfl⟩, u1, u1'⟩; (have hle := u1.size)) | (gi_at_call 42; (with_reducible refine (kg.out _ (((Upd.refl (fun _ => False) W0).stepAlloc _).stepDrew)).mono ?_); rintro e V1 ⟨⟨o, rfl⟩, u1, u1'⟩; (have hle := Nat.le_refl W0.heap.size); (have hz1 := hz.out V1 u1'); (have z0 : V1.cell? ⟨W0.heap.size, 0, none⟩ = some (.int .i64 0) := hz1.cell 0); (have y0 := hz1.frozen 0); (have z1 : V1.cell? ⟨W0.heap.size, 1, none⟩ = some (.string ⟨#[]⟩) := hz1.cell 1); (have y1 := hz1.frozen 1); (have z2 : V1.cell? ⟨W0.heap.size, 2, none⟩ = some (.string ⟨#[]⟩) := hz1.cell 2); (have y2 := hz1.frozen 2); (have z3 : V1.cell? ⟨W0.heap.size, 3, none⟩ = some (.int .i64 0) := hz1.cell 3); (have y3 := hz1.frozen 3); (have z4 : V1.cell? ⟨W0.heap.size, 4, none⟩ = some (.int .i64 0) := hz1.cell 4); (have y4 := hz1.frozen 4); (have z5 : V1.cell? ⟨W0.heap.size, 5, none⟩ = some (.int .i64 0) := hz1.cell 5); (have y5 := hz1.frozen 5); (have z6 : V1.cell? ⟨W0.heap.size, 6, none⟩ = some (.bool false) := hz1.cell 6); (have y6 := hz1.frozen 6); (have z7 : V1.cell? ⟨W0.heap.size, 7, none⟩ = some (.int .i64 0) := hz1.cell 7); (have y7 := hz1.frozen 7); (have z8 : V1.cell? ⟨W0.heap.size, 8, none⟩ = some (.int .i64 0) := hz1.cell 8); (have y8 := hz1.frozen 8); (have z9 : V1.cell? ⟨W0.heap.size, 9, none⟩ = some (.int .i64 0) := hz1.cell 9); (have y9 := hz1.frozen 9); (have z10 : V1.cell? ⟨W0.heap.size, 10, none⟩ = some (.int .i64 0) := hz1.cell 10); (have y10 := hz1.frozen 10); (have z11 : V1.cell? ⟨W0.heap.size, 11, none⟩ = some (.int .i64 0) := hz1.cell 11); (have y11 := hz1.frozen 11); (have z12 : V1.cell? ⟨W0.heap.size, 12, none⟩ = some (.int .i64 0) := hz1.cell 12); (have y12 := hz1.frozen 12); (have z13 : V1.cell? ⟨W0.heap.size, 13, none⟩ = some (.int .i64 0) := hz1.cell 13); (have y13 := hz1.frozen 13); (have z14 : V1.cell? ⟨W0.heap.size, 14, none⟩ = some (.int .i64 0) := hz1.cell 14); (have y14 := hz1.frozen 14); (have z15 : V1.cell? ⟨W0.heap.size, 15, none⟩ = some (.bool false) := hz1.cell 15); (have y15 := hz1.frozen 15); (have zl := hz1.lt)) | refine (⟨trivial, ?_⟩ : Fence.wide.fn _ ∧ _)); (first | refine ⟨by first | exact True.intro | with_reducible exact (hH.out _ (hu.stepAlloc _)) | with_reducible exact (hH.out _ (((Upd.refl (fun _ => False) W0).stepAlloc _).stepDrew)) | with_reducible exact (hH.out _ u1) | with_reducible exact (hH.out _ (u1.stepAlloc _)) | with_reducible exact (hH.out _ (upd_set16 (u1.stepAlloc _) (.inr hle))) | with_reducible exact (hH.out _ (upd_set16 u1 (.inr hle))), ?_⟩ | skip))))
    · refine wpT_nil' ?_
      intro WF hWF
      have uF : Upd (fun _ => False) W0 WF := by rw [hWF]; exact u1.stepAlloc _
      have bF : Blk WF V1.heap.size #[.int .i64 (o).ep, .string (o).key, .string (o).pol, .int .i64 (o).kd, .int .i64 (o).st, .int .i64 (o).rev, .bool (o).fin, .int .i64 (o).rk, .int .i64 (o).cnt, .int .i64 (o).sum, .int .i64 (o).mn, .int .i64 (o).mx, .int .i64 (o).q0, .int .i64 (o).q1, .int .i64 (o).q2, .bool (o).over] 63 := by rw [hWF]; exact Blk.new V1 #[.int .i64 (o).ep, .string (o).key, .string (o).pol, .int .i64 (o).kd, .int .i64 (o).st, .int .i64 (o).rev, .bool (o).fin, .int .i64 (o).rk, .int .i64 (o).cnt, .int .i64 (o).sum, .int .i64 (o).mn, .int .i64 (o).mx, .int .i64 (o).q0, .int .i64 (o).q1, .int .i64 (o).q2, .bool (o).over] 63
      have c5 : WF.cell? ⟨V1.heap.size, 5, none⟩ = some (.int .i64 o.rev) := bF.cell 5
      clear bF
      clear hWF
      have hHF := hH.out _ uF
      have kLF := Lib.hid (kL.out _ uF)
      by_cases hr : (400 : Int) ≤ l.length
      all_goals
        gi_wp2_with (first | refine (⟨trivial, rfl, ?_⟩ : Fence.wide.fn _ ∧ Fence.wide.depth = none ∧ _) | (gi_at_call 43; (with_reducible refine kLF.out.mono ?_); rintro e V9 ⟨rfl, hW9⟩; (replace hW9 := hW9.symm); (subst hW9)) | refine (⟨trivial, ?_⟩ : Fence.wide.fn _ ∧ _))
        go_ret
        refine ⟨?_, u0.trans' uF⟩
        simp only [codeG, hg]
        first | (rw [if_pos (by omega)]; rfl) | (rw [if_neg (by omega)]; rfl)
    · refine wpT_nil' ?_
      intro WF hWF
      have uF : Upd (fun _ => False) W0 WF := by rw [hWF]; exact upd_set16 u1 (.inr hle)
      have bF : Blk WF W0.heap.size #[.int .i64 (o).ep, .string (o).key, .string (o).pol, .int .i64 (o).kd, .int .i64 (o).st, .int .i64 (o).rev, .bool (o).fin, .int .i64 (o).rk, .int .i64 (o).cnt, .int .i64 (o).sum, .int .i64 (o).mn, .int .i64 (o).mx, .int .i64 (o).q0, .int .i64 (o).q1, .int .i64 (o).q2, .bool (o).over] 63 := by rw [hWF]; exact blk_set16 hz1
      have c5 : WF.cell? ⟨W0.heap.size, 5, none⟩ = some (.int .i64 o.rev) := bF.cell 5
      clear bF hz1 z0 y0 z1 y1 z2 y2 z3 y3 z4 y4 z5 y5 z6 y6 z7 y7 z8 y8 z9 y9 z10 y10 z11 y11 z12 y12 z13 y13 z14 y14 z15 y15
      clear hWF
      have hHF := hH.out _ uF
      have kLF := Lib.hid (kL.out _ uF)
      by_cases hr : (400 : Int) ≤ l.length
      all_goals
        gi_wp2_with (first | refine (⟨trivial, rfl, ?_⟩ : Fence.wide.fn _ ∧ Fence.wide.depth = none ∧ _) | (gi_at_call 43; (with_reducible refine kLF.out.mono ?_); rintro e V9 ⟨rfl, hW9⟩; (replace hW9 := hW9.symm); (subst hW9)) | refine (⟨trivial, ?_⟩ : Fence.wide.fn _ ∧ _))
        go_ret
        refine ⟨?_, u0.trans' uF⟩
        simp only [codeG, hg]
        first | (rw [if_pos (by omega)]; rfl) | (rw [if_neg (by omega)]; rfl)
  | some o0 =>
    have kg := Lib.hid fun V (u : Upd (fun _ => False) W0 V) => (kG.out V u).mono (R' := fun e W2 => (∃ o : VCE, e = .returned (.tuple #[.agg #[.int .i64 (o).ep, .string (o).key, .string (o).pol, .int .i64 (o).kd, .int .i64 (o).st, .int .i64 (o).rev, .bool (o).fin, .int .i64 (o).rk, .int .i64 (o).cnt, .int .i64 (o).sum, .int .i64 (o).mn, .int .i64 (o).mx, .int .i64 (o).q0, .int .i64 (o).q1, .int .i64 (o).q2, .bool (o).over], .bool true]) ∧ o = o0) ∧ Upd (fun _ => False) W0 W2 ∧ Upd (fun _ => False) V W2) (by
      rintro e W2 ⟨⟨o2, rfl, ho⟩, u2⟩
      rw [hg] at ho ⊢
      exact ⟨⟨o2, rfl, by rcases ho with h | h <;> simp at h; exact h.symm⟩, u.trans' u2, u2⟩)
    clear kG
    refine callsIn_any (n := 0) (callsIn_of_wp Try.func27 rfl trivial ?_)
    simp only [Try.ntmps27, List.size_toArray, List.length_cons, List.length_nil, Nat.reduceAdd, Nat.reduceSub, Array.replicate_succ, Array.replicate_zero, List.push_toArray, List.append_toArray, List.nil_append, List.cons_append]
    gi_wp2_with (first | (rw [hW0]; skip))
    gi_wp2_with (first | refine (⟨trivial, rfl, ?_⟩ : Fence.wide.fn _ ∧ Fence.wide.depth = none ∧ _) | (gi_at_call 35; (with_reducible refine (ke.out _).mono ?_); rintro e W1 ⟨rfl, hW1⟩; (replace hW1 := hW1.symm); (subst hW1)) | refine (⟨trivial, ?_⟩ : Fence.wide.fn _ ∧ _))
    refine wpIn_plan (.fl 0 (.fl 1 (.fl 2 (.fl 3 (.fl 4 (.fl 5 (.fork 6 (.fl 7 (.fl 8 (.fl 9 (.ef 10 (.ef 11 (.fl 12 .done)))))) 10 (.ef 6 (.fl 7 (.fl 8 (.fl 9 (.ef 11 (.fl 12 .done))))))))))))) (fun V => V.cell? ⟨sb, 1, none⟩ = some (.pointer (some ⟨q, 0, none⟩)) ∧ V.cell? ⟨W.heap.size, 0, none⟩ = some (.string v.key) ∧ V.cell? ⟨W.heap.size, 1, none⟩ = some (.string v.pol) ∧ V.cell? ⟨W.heap.size, 2, none⟩ = some (.int .i64 v.kd) ∧ V.cell? ⟨W.heap.size, 3, none⟩ = some (.int .i64 v.st) ∧ V.cell? ⟨W.heap.size, 4, none⟩ = some (.int .i64 v.rev)) (by kernel_rfl) (by kernel_rfl) hhu ?_
    repeat' (first | (refine wpT_fl rfl rfl (fun _ _ => rfl) ?_; go_simp) | (refine wpT_fl (v := ?_) rfl rfl ?_ ?_; rotate_left; (intro W' h'; (try dsimp only at h'); go_simp; exact rfl); go_simp) | (refine wpT_ef rfl ?_; (go_simp; gi_wp2_with (first | refine (⟨trivial, rfl, ?_⟩ : Fence.wide.fn _ ∧ Fence.wide.depth = none ∧ _) | refine (⟨trivial, trivial, rfl, ?_⟩ : Fence.wide.fn _ ∧ Fence.wide.fn _ ∧ Fence.wide.depth = none ∧ _) | (gi_at_call 42; (with_reducible refine (kg.out _ hu).mono ?_); rintro e V1 ⟨⟨o, rfl, rfl⟩, u1, u1'⟩; (have hle := u1.size)) | (gi_at_call 42; (with_reducible refine (kg.out _ (((Upd.refl (fun _ => False) W0).stepAlloc _).stepDrew)).mono ?_); rintro e V1 ⟨⟨o, rfl, rfl⟩, u1, u1'⟩; (have hle := Nat.le_refl W0.heap.size); (have hz1 := hz.out V1 u1'); (have z0 : V1.cell? ⟨W0.heap.size, 0, none⟩ = some (.int .i64 0) := hz1.cell 0); (have y0 := hz1.frozen 0); (have z1 : V1.cell? ⟨W0.heap.size, 1, none⟩ = some (.string ⟨#[]⟩) := hz1.cell 1); (have y1 := hz1.frozen 1); (have z2 : V1.cell? ⟨W0.heap.size, 2, none⟩ = some (.string ⟨#[]⟩) := hz1.cell 2); (have y2 := hz1.frozen 2); (have z3 : V1.cell? ⟨W0.heap.size, 3, none⟩ = some (.int .i64 0) := hz1.cell 3); (have y3 := hz1.frozen 3); (have z4 : V1.cell? ⟨W0.heap.size, 4, none⟩ = some (.int .i64 0) := hz1.cell 4); (have y4 := hz1.frozen 4); (have z5 : V1.cell? ⟨W0.heap.size, 5, none⟩ = some (.int .i64 0) := hz1.cell 5); (have y5 := hz1.frozen 5); (have z6 : V1.cell? ⟨W0.heap.size, 6, none⟩ = some (.bool false) := hz1.cell 6); (have y6 := hz1.frozen 6); (have z7 : V1.cell? ⟨W0.heap.size, 7, none⟩ = some (.int .i64 0) := hz1.cell 7); (have y7 := hz1.frozen 7); (have z8 : V1.cell? ⟨W0.heap.size, 8, none⟩ = some (.int .i64 0) := hz1.cell 8); (have y8 := hz1.frozen 8); (have z9 : V1.cell? ⟨W0.heap.size, 9, none⟩ = some (.int .i64 0) := hz1.cell 9); (have y9 := hz1.frozen 9); (have z10 : V1.cell? ⟨W0.heap.size, 10, none⟩ = some (.int .i64 0) := hz1.cell 10); (have y10 := hz1.frozen 10); (have z11 : V1.cell? ⟨W0.heap.size, 11, none⟩ = some (.int .i64 0) := hz1.cell 11); (have y11 := hz1.frozen 11); (have z12 : V1.cell? ⟨W0.heap.size, 12, none⟩ = some (.int .i64 0) := hz1.cell 12); (have y12 := hz1.frozen 12); (have z13 : V1.cell? ⟨W0.heap.size, 13, none⟩ = some (.int .i64 0) := hz1.cell 13); (have y13 := hz1.frozen 13); (have z14 : V1.cell? ⟨W0.heap.size, 14, none⟩ = some (.int .i64 0) := hz1.cell 14); (have y14 := hz1.frozen 14); (have z15 : V1.cell? ⟨W0.heap.size, 15, none⟩ = some (.bool false) := hz1.cell 15); (have y15 := hz1.frozen 15); (have zl := hz1.lt)) | refine (⟨trivial, ?_⟩ : Fence.wide.fn _ ∧ _)); (first | refine ⟨by first | exact True.intro | with_reducible exact (hH.out _ (hu.stepAlloc _)) | with_reducible exact (hH.out _ (((Upd.refl (fun _ => False) W0).stepAlloc _).stepDrew)) | with_reducible exact (hH.out _ u1) | with_reducible exact (hH.out _ (u1.stepAlloc _)) | with_reducible exact (hH.out _ (upd_set16 (u1.stepAlloc _) (.inr hle))) | with_reducible exact (hH.out _ (upd_set16 u1 (.inr hle))), ?_⟩ | skip))) | (refine wpT_fork rfl rfl ?_ ?_ <;> (go_simp; gi_wp2_with (first | refine (⟨trivial, rfl, ?_⟩ : Fence.wide.fn _ ∧ Fence.wide.depth = none ∧ _) | refine (⟨trivial, trivial, rfl, ?_⟩ : Fence.wide.fn _ ∧ Fence.wide.fn _ ∧ Fence.wide.depth = none ∧ _) | (gi_at_call 42; (with_reducible refine (kg.out _ hu).mono ?_); rintro e V1 ⟨⟨o, rfl, rfl⟩, u1, u1'⟩; (have hle := u1.size)) | (gi_at_call 42; (with_reducible refine (kg.out _ (((Upd.refl (fun _ => False) W0).stepAlloc _).stepDrew)).mono ?_); rintro e V1 ⟨⟨o, rfl, rfl⟩, u1, u1'⟩; (have hle := Nat.le_refl W0.heap.size); (have hz1 := hz.out V1 u1'); (have z0 : V1.cell? ⟨W0.heap.size, 0, none⟩ = some (.int .i64 0) := hz1.cell 0); (have y0 := hz1.frozen 0); (have z1 : V1.cell? ⟨W0.heap.size, 1, none⟩ = some (.string ⟨#[]⟩) := hz1.cell 1); (have y1 := hz1.frozen 1); (have z2 : V1.cell? ⟨W0.heap.size, 2, none⟩ = some (.string ⟨#[]⟩) := hz1.cell 2); (have y2 := hz1.frozen 2); (have z3 : V1.cell? ⟨W0.heap.size, 3, none⟩ = some (.int .i64 0) := hz1.cell 3); (have y3 := hz1.frozen 3); (have z4 : V1.cell? ⟨W0.heap.size, 4, none⟩ = some (.int .i64 0) := hz1.cell 4); (have y4 := hz1.frozen 4); (have z5 : V1.cell? ⟨W0.heap.size, 5, none⟩ = some (.int .i64 0) := hz1.cell 5); (have y5 := hz1.frozen 5); (have z6 : V1.cell? ⟨W0.heap.size, 6, none⟩ = some (.bool false) := hz1.cell 6); (have y6 := hz1.frozen 6); (have z7 : V1.cell? ⟨W0.heap.size, 7, none⟩ = some (.int .i64 0) := hz1.cell 7); (have y7 := hz1.frozen 7); (have z8 : V1.cell? ⟨W0.heap.size, 8, none⟩ = some (.int .i64 0) := hz1.cell 8); (have y8 := hz1.frozen 8); (have z9 : V1.cell? ⟨W0.heap.size, 9, none⟩ = some (.int .i64 0) := hz1.cell 9); (have y9 := hz1.frozen 9); (have z10 : V1.cell? ⟨W0.heap.size, 10, none⟩ = some (.int .i64 0) := hz1.cell 10); (have y10 := hz1.frozen 10); (have z11 : V1.cell? ⟨W0.heap.size, 11, none⟩ = some (.int .i64 0) := hz1.cell 11); (have y11 := hz1.frozen 11); (have z12 : V1.cell? ⟨W0.heap.size, 12, none⟩ = some (.int .i64 0) := hz1.cell 12); (have y12 := hz1.frozen 12); (have z13 : V1.cell? ⟨W0.heap.size, 13, none⟩ = some (.int .i64 0) := hz1.cell 13); (have y13 := hz1.frozen 13); (have z14 : V1.cell? ⟨W0.heap.size, 14, none⟩ = some (.int .i64 0) := hz1.cell 14); (have y14 := hz1.frozen 14); (have z15 : V1.cell? ⟨W0.heap.size, 15, none⟩ = some (.bool false) := hz1.cell 15); (have y15 := hz1.frozen 15); (have zl := hz1.lt)) | refine (⟨trivial, ?_⟩ : Fence.wide.fn _ ∧ _)); (first | refine ⟨by first | exact True.intro | with_reducible exact (hH.out _ (hu.stepAlloc _)) | with_reducible exact (hH.out _ (((Upd.refl (fun _ => False) W0).stepAlloc _).stepDrew)) | with_reducible exact (hH.out _ u1) | with_reducible exact (hH.out _ (u1.stepAlloc _)) | with_reducible exact (hH.out _ (upd_set16 (u1.stepAlloc _) (.inr hle))) | with_reducible exact (hH.out _ (upd_set16 u1 (.inr hle))), ?_⟩ | skip))))
    · refine wpT_nil' ?_
      intro WF hWF
      have uF : Upd (fun _ => False) W0 WF := by rw [hWF]; exact u1.stepAlloc _
      have bF : Blk WF V1.heap.size #[.int .i64 (o).ep, .string (o).key, .string (o).pol, .int .i64 (o).kd, .int .i64 (o).st, .int .i64 (o).rev, .bool (o).fin, .int .i64 (o).rk, .int .i64 (o).cnt, .int .i64 (o).sum, .int .i64 (o).mn, .int .i64 (o).mx, .int .i64 (o).q0, .int .i64 (o).q1, .int .i64 (o).q2, .bool (o).over] 63 := by rw [hWF]; exact Blk.new V1 #[.int .i64 (o).ep, .string (o).key, .string (o).pol, .int .i64 (o).kd, .int .i64 (o).st, .int .i64 (o).rev, .bool (o).fin, .int .i64 (o).rk, .int .i64 (o).cnt, .int .i64 (o).sum, .int .i64 (o).mn, .int .i64 (o).mx, .int .i64 (o).q0, .int .i64 (o).q1, .int .i64 (o).q2, .bool (o).over] 63
      have c5 : WF.cell? ⟨V1.heap.size, 5, none⟩ = some (.int .i64 o.rev) := bF.cell 5
      clear bF
      clear hWF
      have hHF := hH.out _ uF
      have kLF := Lib.hid (kL.out _ uF)
      by_cases hr : v.rev ≤ o.rev
      all_goals
        gi_wp2_with (first | refine (⟨trivial, rfl, ?_⟩ : Fence.wide.fn _ ∧ Fence.wide.depth = none ∧ _) | (gi_at_call 43; (with_reducible refine kLF.out.mono ?_); rintro e V9 ⟨rfl, hW9⟩; (replace hW9 := hW9.symm); (subst hW9)) | refine (⟨trivial, ?_⟩ : Fence.wide.fn _ ∧ _))
        go_ret
        refine ⟨?_, u0.trans' uF⟩
        simp only [codeG, hg]
        first | (rw [if_pos (by omega)]; rfl) | (rw [if_neg (by omega)]; rfl)
    · refine wpT_nil' ?_
      intro WF hWF
      have uF : Upd (fun _ => False) W0 WF := by rw [hWF]; exact upd_set16 u1 (.inr hle)
      have bF : Blk WF W0.heap.size #[.int .i64 (o).ep, .string (o).key, .string (o).pol, .int .i64 (o).kd, .int .i64 (o).st, .int .i64 (o).rev, .bool (o).fin, .int .i64 (o).rk, .int .i64 (o).cnt, .int .i64 (o).sum, .int .i64 (o).mn, .int .i64 (o).mx, .int .i64 (o).q0, .int .i64 (o).q1, .int .i64 (o).q2, .bool (o).over] 63 := by rw [hWF]; exact blk_set16 hz1
      have c5 : WF.cell? ⟨W0.heap.size, 5, none⟩ = some (.int .i64 o.rev) := bF.cell 5
      clear bF hz1 z0 y0 z1 y1 z2 y2 z3 y3 z4 y4 z5 y5 z6 y6 z7 y7 z8 y8 z9 y9 z10 y10 z11 y11 z12 y12 z13 y13 z14 y14 z15 y15
      clear hWF
      have hHF := hH.out _ uF
      have kLF := Lib.hid (kL.out _ uF)
      by_cases hr : v.rev ≤ o.rev
      all_goals
        gi_wp2_with (first | refine (⟨trivial, rfl, ?_⟩ : Fence.wide.fn _ ∧ Fence.wide.depth = none ∧ _) | (gi_at_call 43; (with_reducible refine kLF.out.mono ?_); rintro e V9 ⟨rfl, hW9⟩; (replace hW9 := hW9.symm); (subst hW9)) | refine (⟨trivial, ?_⟩ : Fence.wide.fn _ ∧ _))
        go_ret
        refine ⟨?_, u0.trans' uF⟩
        simp only [codeG, hg]
        first | (rw [if_pos (by omega)]; rfl) | (rw [if_neg (by omega)]; rfl)
end
end Go.Proofs.Ytadeechoknpjhaa

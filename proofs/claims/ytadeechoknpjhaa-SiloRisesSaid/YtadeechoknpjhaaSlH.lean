/- silo: the document's order of cells. -/
import Derived.Test.YtadeechoknpjhaaProg
import Derived.Test.YtadeechoknpjhaaBase
import Derived.Test.YtadeechoknpjhaaSlE
import Derived.Test.YtadeechoknpjhaaR01
set_option linter.unusedSimpArgs false
set_option linter.unusedVariables false
namespace Go.Proofs.Ytadeechoknpjhaa
open Go.RowKit Go.Shelf
attribute [local go_sem] Oper.semAt_some

theorem blk_set4' {w w' : World} {k : Nat} {T : TypeId} {x0 x1 x2 x3 y0 y1 y2 y3 : Value} (h : Blk w k #[y0, y1, y2, y3] T) (e : w' = (((w.setCell ⟨k, 0, none⟩ x0).setCell ⟨k, 1, none⟩ x1).setCell ⟨k, 2, none⟩ x2).setCell ⟨k, 3, none⟩ x3) : Blk w' k #[x0, x1, x2, x3] T := by subst e; exact blk_set4 h
theorem upd_set4' {M : Nat → Prop} {a b w' : World} {k : Nat} {x0 x1 x2 x3 : Value} (h : Upd M a b) (hp : a.heap.size ≤ k) (e : w' = (((b.setCell ⟨k, 0, none⟩ x0).setCell ⟨k, 1, none⟩ x1).setCell ⟨k, 2, none⟩ x2).setCell ⟨k, 3, none⟩ x3) : Upd M a w' := by subst e; exact upd_set4 h (.inr hp)
theorem blk_new' {w w' : World} {T : TypeId} {cs : Array Value} (e : w' = w.alloc (.cells cs T)) : Blk w' w.heap.size cs T := by subst e; exact Blk.new _ _ _
theorem upd_new' {M : Nat → Prop} {a w w' : World} {o : Obj} (h : Upd M a w) (e : w' = w.alloc o) : Upd M a w' := by subst e; exact h.stepAlloc _
set_option maxRecDepth 100000 in
set_option maxHeartbeats 8000000 in
theorem cmp20_c {n : Nat} {a b : KCE} {W : World} (h1 : a.1.size ≤ maxLen) (h2 : a.2.1.size ≤ maxLen) : CallsIn Fence.wide n Try.prog 36 #[.agg #[.string (a).1, .string (a).2.1, .int .i64 (a).2.2.1, .int .i64 (a).2.2.2], .agg #[.string (b).1, .string (b).2.1, .int .i64 (b).2.2.1, .int .i64 (b).2.2.2]] W fun e W2 => e = .returned (.int .i64 (cmpC a b)) ∧ Upd (fun _ => False) W W2 := by
  obtain ⟨W0, hW0⟩ : ∃ W0, (W.alloc (.cells #[.string (a).1, .string (a).2.1, .int .i64 (a).2.2.1, .int .i64 (a).2.2.2] 24)).alloc (.cells #[.string (b).1, .string (b).2.1, .int .i64 (b).2.2.1, .int .i64 (b).2.2.2] 24) = W0 := ⟨_, rfl⟩
  have u0 : Upd (fun _ => False) W W0 := by rw [← hW0]; exact (Upd.alloc _ _ _).stepAlloc _
  have ba : Blk W0 W.heap.size #[.string (a).1, .string (a).2.1, .int .i64 (a).2.2.1, .int .i64 (a).2.2.2] 24 := by rw [← hW0]; exact (Blk.new _ _ _).alloc _
  have bb : Blk W0 (W.heap.size + 1) #[.string (b).1, .string (b).2.1, .int .i64 (b).2.2.1, .int .i64 (b).2.2.2] 24 := by rw [← hW0]; exact Blk.new' (by simp)
  have hH := Lib.hid fun V (u : Upd (fun _ => False) W0 V) => show (V.cell? ⟨W.heap.size, 0, none⟩ = some (.string (a).1) ∧ V.cell? ⟨W.heap.size, 1, none⟩ = some (.string (a).2.1) ∧ V.cell? ⟨W.heap.size, 2, none⟩ = some (.int .i64 (a).2.2.1) ∧ V.cell? ⟨W.heap.size, 3, none⟩ = some (.int .i64 (a).2.2.2)) ∧ (V.cell? ⟨W.heap.size + 1, 0, none⟩ = some (.string (b).1) ∧ V.cell? ⟨W.heap.size + 1, 1, none⟩ = some (.string (b).2.1) ∧ V.cell? ⟨W.heap.size + 1, 2, none⟩ = some (.int .i64 (b).2.2.1) ∧ V.cell? ⟨W.heap.size + 1, 3, none⟩ = some (.int .i64 (b).2.2.2)) from ⟨⟨(ba.upd u id).cell 0, (ba.upd u id).cell 1, (ba.upd u id).cell 2, (ba.upd u id).cell 3⟩, ⟨(bb.upd u id).cell 0, (bb.upd u id).cell 1, (bb.upd u id).cell 2, (bb.upd u id).cell 3⟩⟩
  have t1 := Lib.hid fun V => texts_c (n := 0) (b := b.1) (w := V) h1
  have t2 := Lib.hid fun V => texts_c (n := 0) (b := b.2.1) (w := V) h2
  have i1 := Lib.hid fun V => (ints_c (n := 0) (a := a.2.2.1) (b := b.2.2.1) (w := V)).mono (R' := fun e W2 => e = .returned (.int .i64 (cmpI a.2.2.1 b.2.2.1)) ∧ Upd (fun _ => False) V W2) (by rintro e W2 ⟨rfl, rfl⟩; exact ⟨rfl, Upd.refl _ _⟩)
  have i2 := Lib.hid fun V => (ints_c (n := 0) (a := a.2.2.2) (b := b.2.2.2) (w := V)).mono (R' := fun e W2 => e = .returned (.int .i64 (cmpI a.2.2.2 b.2.2.2)) ∧ Upd (fun _ => False) V W2) (by rintro e W2 ⟨rfl, rfl⟩; exact ⟨rfl, Upd.refl _ _⟩)
  have hfn := cmpC_first a b
  rw [hfn]
  clear hfn ba bb h1 h2
  obtain ⟨s, hs⟩ : ∃ s : List Int, [cmpS a.1 b.1, cmpS a.2.1 b.2.1, cmpI a.2.2.1 b.2.2.1, cmpI a.2.2.2 b.2.2.2] = s := ⟨_, rfl⟩
  have hs0 : ∀ {V : World} {bf : Nat}, Blk V bf #[.int .i64 (cmpS a.1 b.1), .int .i64 (cmpS a.2.1 b.2.1), .int .i64 (cmpI a.2.2.1 b.2.2.1), .int .i64 (cmpI a.2.2.2 b.2.2.2)] 100 → ∀ i (h : i < s.length), V.cell? ⟨bf, i, none⟩ = some (.int .i64 s[i]) := by
    intro V bf hb i hi
    subst hs
    match i, hi with
    | 0, _ => exact hb.cell 0
    | 1, _ => exact hb.cell 1
    | 2, _ => exact hb.cell 2
    | 3, _ => exact hb.cell 3
  have hsl : s.length = 4 := by rw [← hs]; rfl
  replace hs0 := Lib.hid (fun V bf h => @hs0 V bf h)
  rw [hs]
  generalize cmpS a.1 b.1 = x0 at *
  generalize cmpS a.2.1 b.2.1 = x1 at *
  generalize cmpI a.2.2.1 b.2.2.1 = x2 at *
  generalize cmpI a.2.2.2 b.2.2.2 = x3 at *
  clear hs
  have hu : Upd (fun _ => False) W0 W0.drew := Upd.drew _ _
  have hhd := hH.out _ hu
  have hle := Nat.le_refl W0.heap.size
  replace u0 := Lib.hid u0
  refine callsIn_any (n := 0) (callsIn_of_wp Try.func36 rfl trivial ?_)
  simp only [Try.ntmps36, List.size_toArray, List.length_cons, List.length_nil, Nat.reduceAdd, Nat.reduceSub, Array.replicate_succ, Array.replicate_zero, List.push_toArray, List.append_toArray, List.nil_append, List.cons_append]
  gi_wp2_with (first | (rw [hW0]; skip))
  clear hW0
  refine wpIn_planE (.fl 0 (.fl 1 (.fl 2 (.fl 3 (.fl 5 (.fl 6 (.fl 7 (.fl 8 (.fl 10 (.fl 11 (.fl 12 (.fl 13 (.fl 15 (.fl 16 (.fl 17 (.fl 18 (.fork 4 (.fork 9 (.fork 14 (.fork 19 (.fl 20 (.ef 21 (.ef 22 .done))) 21 (.ef 19 (.fl 20 (.ef 22 .done)))) 21 (.ef 14 (.ef 19 (.fl 20 (.ef 22 .done))))) 21 (.ef 9 (.ef 14 (.ef 19 (.fl 20 (.ef 22 .done)))))) 21 (.ef 4 (.ef 9 (.ef 14 (.ef 19 (.fl 20 (.ef 22 .done))))))))))))))))))))))) 22 (fun V => (V.cell? ⟨W.heap.size, 0, none⟩ = some (.string (a).1) ∧ V.cell? ⟨W.heap.size, 1, none⟩ = some (.string (a).2.1) ∧ V.cell? ⟨W.heap.size, 2, none⟩ = some (.int .i64 (a).2.2.1) ∧ V.cell? ⟨W.heap.size, 3, none⟩ = some (.int .i64 (a).2.2.2)) ∧ (V.cell? ⟨W.heap.size + 1, 0, none⟩ = some (.string (b).1) ∧ V.cell? ⟨W.heap.size + 1, 1, none⟩ = some (.string (b).2.1) ∧ V.cell? ⟨W.heap.size + 1, 2, none⟩ = some (.int .i64 (b).2.2.1) ∧ V.cell? ⟨W.heap.size + 1, 3, none⟩ = some (.int .i64 (b).2.2.2))) (by kernel_rfl) (by kernel_rfl) hhd ?_
  repeat' (first | (refine wpU_fl rfl rfl (fun _ _ => rfl) ?_; go_simp) | (refine wpU_fl (v := ?_) rfl rfl ?_ ?_; rotate_left; (intro W' h'; (try dsimp only at h'); go_simp; exact rfl); go_simp) | (refine wpU_ef rfl ?_; (go_simp; gi_wp2_with (first | refine (⟨trivial, rfl, ?_⟩ : Fence.wide.fn _ ∧ Fence.wide.depth = none ∧ _) | refine (⟨trivial, trivial, rfl, ?_⟩ : Fence.wide.fn _ ∧ Fence.wide.fn _ ∧ Fence.wide.depth = none ∧ _) | (gi_at_call 49; (with_reducible refine (t1.out _).mono ?_); rintro e V1 ⟨rfl, u1⟩; (first | have hz := hz.upd u1 id | (have hle := hu.size; have hz := (Blk.new _ #[.int .i64 0, .int .i64 0, .int .i64 0, .int .i64 0] 100).upd u1 id) | (have hz := ((Blk.new W0 #[.int .i64 0, .int .i64 0, .int .i64 0, .int .i64 0] 100).upd (Upd.drew (fun _ => False) _) id).upd u1 id) | skip); (first | have hu := hu.trans' u1 | have hu := (hu.stepAlloc _).trans' u1 | have hu := (((Upd.refl (fun _ => False) W0).stepAlloc _).stepDrew).trans' u1); (first | (have z0 : V1.cell? ⟨_, 0, none⟩ = some (.int .i64 0) := hz.cell 0; have z1 : V1.cell? ⟨_, 1, none⟩ = some (.int .i64 0) := hz.cell 1; have z2 : V1.cell? ⟨_, 2, none⟩ = some (.int .i64 0) := hz.cell 2; have z3 : V1.cell? ⟨_, 3, none⟩ = some (.int .i64 0) := hz.cell 3; have y0 := hz.frozen 0; have y1 := hz.frozen 1; have y2 := hz.frozen 2; have y3 := hz.frozen 3; have zl := hz.lt) | skip)) | (gi_at_call 49; (with_reducible refine (t2.out _).mono ?_); rintro e V1 ⟨rfl, u1⟩; (first | have hz := hz.upd u1 id | (have hle := hu.size; have hz := (Blk.new _ #[.int .i64 0, .int .i64 0, .int .i64 0, .int .i64 0] 100).upd u1 id) | (have hz := ((Blk.new W0 #[.int .i64 0, .int .i64 0, .int .i64 0, .int .i64 0] 100).upd (Upd.drew (fun _ => False) _) id).upd u1 id) | skip); (first | have hu := hu.trans' u1 | have hu := (hu.stepAlloc _).trans' u1 | have hu := (((Upd.refl (fun _ => False) W0).stepAlloc _).stepDrew).trans' u1); (first | (have z0 : V1.cell? ⟨_, 0, none⟩ = some (.int .i64 0) := hz.cell 0; have z1 : V1.cell? ⟨_, 1, none⟩ = some (.int .i64 0) := hz.cell 1; have z2 : V1.cell? ⟨_, 2, none⟩ = some (.int .i64 0) := hz.cell 2; have z3 : V1.cell? ⟨_, 3, none⟩ = some (.int .i64 0) := hz.cell 3; have y0 := hz.frozen 0; have y1 := hz.frozen 1; have y2 := hz.frozen 2; have y3 := hz.frozen 3; have zl := hz.lt) | skip)) | (gi_at_call 50; (with_reducible refine (i1.out _).mono ?_); rintro e V1 ⟨rfl, u1⟩; (first | have hz := hz.upd u1 id | (have hle := hu.size; have hz := (Blk.new _ #[.int .i64 0, .int .i64 0, .int .i64 0, .int .i64 0] 100).upd u1 id) | (have hz := ((Blk.new W0 #[.int .i64 0, .int .i64 0, .int .i64 0, .int .i64 0] 100).upd (Upd.drew (fun _ => False) _) id).upd u1 id) | skip); (first | have hu := hu.trans' u1 | have hu := (hu.stepAlloc _).trans' u1 | have hu := (((Upd.refl (fun _ => False) W0).stepAlloc _).stepDrew).trans' u1); (first | (have z0 : V1.cell? ⟨_, 0, none⟩ = some (.int .i64 0) := hz.cell 0; have z1 : V1.cell? ⟨_, 1, none⟩ = some (.int .i64 0) := hz.cell 1; have z2 : V1.cell? ⟨_, 2, none⟩ = some (.int .i64 0) := hz.cell 2; have z3 : V1.cell? ⟨_, 3, none⟩ = some (.int .i64 0) := hz.cell 3; have y0 := hz.frozen 0; have y1 := hz.frozen 1; have y2 := hz.frozen 2; have y3 := hz.frozen 3; have zl := hz.lt) | skip)) | (gi_at_call 50; (with_reducible refine (i2.out _).mono ?_); rintro e V1 ⟨rfl, u1⟩; (first | have hz := hz.upd u1 id | (have hle := hu.size; have hz := (Blk.new _ #[.int .i64 0, .int .i64 0, .int .i64 0, .int .i64 0] 100).upd u1 id) | (have hz := ((Blk.new W0 #[.int .i64 0, .int .i64 0, .int .i64 0, .int .i64 0] 100).upd (Upd.drew (fun _ => False) _) id).upd u1 id) | skip); (first | have hu := hu.trans' u1 | have hu := (hu.stepAlloc _).trans' u1 | have hu := (((Upd.refl (fun _ => False) W0).stepAlloc _).stepDrew).trans' u1); (first | (have z0 : V1.cell? ⟨_, 0, none⟩ = some (.int .i64 0) := hz.cell 0; have z1 : V1.cell? ⟨_, 1, none⟩ = some (.int .i64 0) := hz.cell 1; have z2 : V1.cell? ⟨_, 2, none⟩ = some (.int .i64 0) := hz.cell 2; have z3 : V1.cell? ⟨_, 3, none⟩ = some (.int .i64 0) := hz.cell 3; have y0 := hz.frozen 0; have y1 := hz.frozen 1; have y2 := hz.frozen 2; have y3 := hz.frozen 3; have zl := hz.lt) | skip)) | refine (⟨trivial, ?_⟩ : Fence.wide.fn _ ∧ _)); (first | refine ⟨by first | exact True.intro | with_reducible exact .inl rfl | with_reducible exact hH.out _ hu | with_reducible exact .inr (hH.out _ hu) | with_reducible exact hH.out _ (hu.stepAlloc _) | with_reducible exact .inr (hH.out _ (hu.stepAlloc _)) | with_reducible exact hH.out _ (((Upd.refl (fun _ => False) W0).stepAlloc _).stepDrew) | with_reducible exact .inr (hH.out _ (((Upd.refl (fun _ => False) W0).stepAlloc _).stepDrew)), ?_⟩ | skip))) | (refine wpU_fork rfl rfl ?_ ?_ <;> (go_simp; gi_wp2_with (first | refine (⟨trivial, rfl, ?_⟩ : Fence.wide.fn _ ∧ Fence.wide.depth = none ∧ _) | refine (⟨trivial, trivial, rfl, ?_⟩ : Fence.wide.fn _ ∧ Fence.wide.fn _ ∧ Fence.wide.depth = none ∧ _) | (gi_at_call 49; (with_reducible refine (t1.out _).mono ?_); rintro e V1 ⟨rfl, u1⟩; (first | have hz := hz.upd u1 id | (have hle := hu.size; have hz := (Blk.new _ #[.int .i64 0, .int .i64 0, .int .i64 0, .int .i64 0] 100).upd u1 id) | (have hz := ((Blk.new W0 #[.int .i64 0, .int .i64 0, .int .i64 0, .int .i64 0] 100).upd (Upd.drew (fun _ => False) _) id).upd u1 id) | skip); (first | have hu := hu.trans' u1 | have hu := (hu.stepAlloc _).trans' u1 | have hu := (((Upd.refl (fun _ => False) W0).stepAlloc _).stepDrew).trans' u1); (first | (have z0 : V1.cell? ⟨_, 0, none⟩ = some (.int .i64 0) := hz.cell 0; have z1 : V1.cell? ⟨_, 1, none⟩ = some (.int .i64 0) := hz.cell 1; have z2 : V1.cell? ⟨_, 2, none⟩ = some (.int .i64 0) := hz.cell 2; have z3 : V1.cell? ⟨_, 3, none⟩ = some (.int .i64 0) := hz.cell 3; have y0 := hz.frozen 0; have y1 := hz.frozen 1; have y2 := hz.frozen 2; have y3 := hz.frozen 3; have zl := hz.lt) | skip)) | (gi_at_call 49; (with_reducible refine (t2.out _).mono ?_); rintro e V1 ⟨rfl, u1⟩; (first | have hz := hz.upd u1 id | (have hle := hu.size; have hz := (Blk.new _ #[.int .i64 0, .int .i64 0, .int .i64 0, .int .i64 0] 100).upd u1 id) | (have hz := ((Blk.new W0 #[.int .i64 0, .int .i64 0, .int .i64 0, .int .i64 0] 100).upd (Upd.drew (fun _ => False) _) id).upd u1 id) | skip); (first | have hu := hu.trans' u1 | have hu := (hu.stepAlloc _).trans' u1 | have hu := (((Upd.refl (fun _ => False) W0).stepAlloc _).stepDrew).trans' u1); (first | (have z0 : V1.cell? ⟨_, 0, none⟩ = some (.int .i64 0) := hz.cell 0; have z1 : V1.cell? ⟨_, 1, none⟩ = some (.int .i64 0) := hz.cell 1; have z2 : V1.cell? ⟨_, 2, none⟩ = some (.int .i64 0) := hz.cell 2; have z3 : V1.cell? ⟨_, 3, none⟩ = some (.int .i64 0) := hz.cell 3; have y0 := hz.frozen 0; have y1 := hz.frozen 1; have y2 := hz.frozen 2; have y3 := hz.frozen 3; have zl := hz.lt) | skip)) | (gi_at_call 50; (with_reducible refine (i1.out _).mono ?_); rintro e V1 ⟨rfl, u1⟩; (first | have hz := hz.upd u1 id | (have hle := hu.size; have hz := (Blk.new _ #[.int .i64 0, .int .i64 0, .int .i64 0, .int .i64 0] 100).upd u1 id) | (have hz := ((Blk.new W0 #[.int .i64 0, .int .i64 0, .int .i64 0, .int .i64 0] 100).upd (Upd.drew (fun _ => False) _) id).upd u1 id) | skip); (first | have hu := hu.trans' u1 | have hu := (hu.stepAlloc _).trans' u1 | have hu := (((Upd.refl (fun _ => False) W0).stepAlloc _).stepDrew).trans' u1); (first | (have z0 : V1.cell? ⟨_, 0, none⟩ = some (.int .i64 0) := hz.cell 0; have z1 : V1.cell? ⟨_, 1, none⟩ = some (.int .i64 0) := hz.cell 1; have z2 : V1.cell? ⟨_, 2, none⟩ = some (.int .i64 0) := hz.cell 2; have z3 : V1.cell? ⟨_, 3, none⟩ = some (.int .i64 0) := hz.cell 3; have y0 := hz.frozen 0; have y1 := hz.frozen 1; have y2 := hz.frozen 2; have y3 := hz.frozen 3; have zl := hz.lt) | skip)) | (gi_at_call 50; (with_reducible refine (i2.out _).mono ?_); rintro e V1 ⟨rfl, u1⟩; (first | have hz := hz.upd u1 id | (have hle := hu.size; have hz := (Blk.new _ #[.int .i64 0, .int .i64 0, .int .i64 0, .int .i64 0] 100).upd u1 id) | (have hz := ((Blk.new W0 #[.int .i64 0, .int .i64 0, .int .i64 0, .int .i64 0] 100).upd (Upd.drew (fun _ => False) _) id).upd u1 id) | skip); (first | have hu := hu.trans' u1 | have hu := (hu.stepAlloc _).trans' u1 | have hu := (((Upd.refl (fun _ => False) W0).stepAlloc _).stepDrew).trans' u1); (first | (have z0 : V1.cell? ⟨_, 0, none⟩ = some (.int .i64 0) := hz.cell 0; have z1 : V1.cell? ⟨_, 1, none⟩ = some (.int .i64 0) := hz.cell 1; have z2 : V1.cell? ⟨_, 2, none⟩ = some (.int .i64 0) := hz.cell 2; have z3 : V1.cell? ⟨_, 3, none⟩ = some (.int .i64 0) := hz.cell 3; have y0 := hz.frozen 0; have y1 := hz.frozen 1; have y2 := hz.frozen 2; have y3 := hz.frozen 3; have zl := hz.lt) | skip)) | refine (⟨trivial, ?_⟩ : Fence.wide.fn _ ∧ _)); (first | refine ⟨by first | exact True.intro | with_reducible exact .inl rfl | with_reducible exact hH.out _ hu | with_reducible exact .inr (hH.out _ hu) | with_reducible exact hH.out _ (hu.stepAlloc _) | with_reducible exact .inr (hH.out _ (hu.stepAlloc _)) | with_reducible exact hH.out _ (((Upd.refl (fun _ => False) W0).stepAlloc _).stepDrew) | with_reducible exact .inr (hH.out _ (((Upd.refl (fun _ => False) W0).stepAlloc _).stepDrew)), ?_⟩ | skip))))
  all_goals
    refine wpU_nil' ?_
    intro WF hWF
    (first | have hb := blk_set4' hz hWF | have hb := blk_new' hWF)
    have uF : Upd (fun _ => False) W WF := u0.out.trans' (by first | exact upd_set4' hu hle hWF | exact upd_new' hu hWF)
    have hcs := Lib.hid (hs0.out _ _ hb)
    clear hb hWF hs0 hH t1 t2 i1 i2 u0 hhd hu hle
    gi_wp2
    gi_loopw [28] (fun i wr => ∃ k : Nat, i = .int .i64 k ∧ k ≤ 4 ∧ Hid (∀ i (h : i < s.length), i < k → s[i] = 0) ∧ Upd (fun _ => False) WF wr) (fun i _ => 4 - (intOf i).toNat)
    case atStart => exact ⟨0, rfl, Nat.zero_le _, Lib.hid fun i h hi => by omega, Upd.refl _ _⟩
    case round =>
      obtain ⟨k, rfl, hk, hT, hu⟩ := hrel
      by_cases hlt : k < 4
      · have he := cell_upd hu (hcs.out k (by omega))
        have hw5 : IntKind.i64.wrap ((k : Int) + 1) = (k : Int) + 1 := Go.IntWalk.i64_in _ ⟨by omega, by omega⟩
        have hfn := firstNZ_zero hT.out
        have hlt2 : k < s.length := by omega
        rw [List.drop_eq_getElem_cons hlt2] at hfn
        have hsk : s[k] = 0 → ∀ i (h : i < s.length), i < k + 1 → s[i] = 0 := fun h0 i h hi => by
          by_cases e : i = k
          · subst e; exact h0
          · exact hT.out i h (by omega)
        generalize s[k] = x at *
        replace hfn := Lib.hid hfn
        replace hsk := Lib.hid hsk
        by_cases hx : x = 0
        · subst hx
          gi_wp2
          exact ⟨⟨k + 1, by go_num, by omega, Lib.hid (hsk.out rfl), by first | exact hu | exact hu.stepDrew⟩, by simp [intOf]; omega⟩
        · gi_wp2
          go_ret
          refine ⟨?_, uF.trans' (by first | exact hu | exact hu.stepDrew)⟩
          rw [hfn.out, firstNZ, if_neg hx]
          rfl
      · obtain rfl : k = 4 := by omega
        have hfn := Lib.hid (firstNZ_zero hT.out)
        gi_wp2
        go_ret
        refine ⟨?_, uF.trans' (by first | exact hu | exact hu.stepDrew)⟩
        rw [hfn.out, List.drop_of_length_le (by omega), firstNZ]
        rfl
end Go.Proofs.Ytadeechoknpjhaa

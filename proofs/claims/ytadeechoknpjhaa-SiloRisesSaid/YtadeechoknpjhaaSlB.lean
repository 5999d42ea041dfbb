/- silo: New, Fence, Can. -/
import Derived.Test.YtadeechoknpjhaaProg
import Derived.Test.YtadeechoknpjhaaBase
import Derived.Test.YtadeechoknpjhaaSlA
import Derived.Test.YtadeechoknpjhaaForkE
set_option linter.unusedSimpArgs false
set_option linter.unusedVariables false
namespace Go.Proofs.Ytadeechoknpjhaa
open Go.RowKit Go.Shelf
attribute [local go_sem] Oper.semAt_some

abbrev mxE : Int := 1099511627776
theorem upd_set2 {M : Nat → Prop} {a b : World} {k : Nat} {x0 x1 : Value} (h : Upd M a b) (hp : M k ∨ a.heap.size ≤ k) : Upd M a (((b).setCell ⟨k, 0, none⟩ x0).setCell ⟨k, 1, none⟩ x1) := ((h).stepSet (p := ⟨k, 0, none⟩) hp x0).stepSet (p := ⟨k, 1, none⟩) hp x1
theorem blk_set2 {w : World} {k : Nat} {T : TypeId} {x0 x1 y0 y1 : Value} (h : Blk w k #[y0, y1] T) : Blk (((w).setCell ⟨k, 0, none⟩ x0).setCell ⟨k, 1, none⟩ x1) k #[x0, x1] T := by
  simpa using ((h).set 0 x0).set 1 x1
theorem upd_set4 {M : Nat → Prop} {a b : World} {k : Nat} {x0 x1 x2 x3 : Value} (h : Upd M a b) (hp : M k ∨ a.heap.size ≤ k) : Upd M a (((((b).setCell ⟨k, 0, none⟩ x0).setCell ⟨k, 1, none⟩ x1).setCell ⟨k, 2, none⟩ x2).setCell ⟨k, 3, none⟩ x3) := ((((h).stepSet (p := ⟨k, 0, none⟩) hp x0).stepSet (p := ⟨k, 1, none⟩) hp x1).stepSet (p := ⟨k, 2, none⟩) hp x2).stepSet (p := ⟨k, 3, none⟩) hp x3
theorem blk_set4 {w : World} {k : Nat} {T : TypeId} {x0 x1 x2 x3 y0 y1 y2 y3 : Value} (h : Blk w k #[y0, y1, y2, y3] T) : Blk (((((w).setCell ⟨k, 0, none⟩ x0).setCell ⟨k, 1, none⟩ x1).setCell ⟨k, 2, none⟩ x2).setCell ⟨k, 3, none⟩ x3) k #[x0, x1, x2, x3] T := by
  simpa using ((((h).set 0 x0).set 1 x1).set 2 x2).set 3 x3
theorem upd_set15 {M : Nat → Prop} {a b : World} {k : Nat} {x0 x1 x2 x3 x4 x5 x6 x7 x8 x9 x10 x11 x12 x13 x14 : Value} (h : Upd M a b) (hp : M k ∨ a.heap.size ≤ k) : Upd M a ((((((((((((((((b).setCell ⟨k, 0, none⟩ x0).setCell ⟨k, 1, none⟩ x1).setCell ⟨k, 2, none⟩ x2).setCell ⟨k, 3, none⟩ x3).setCell ⟨k, 4, none⟩ x4).setCell ⟨k, 5, none⟩ x5).setCell ⟨k, 6, none⟩ x6).setCell ⟨k, 7, none⟩ x7).setCell ⟨k, 8, none⟩ x8).setCell ⟨k, 9, none⟩ x9).setCell ⟨k, 10, none⟩ x10).setCell ⟨k, 11, none⟩ x11).setCell ⟨k, 12, none⟩ x12).setCell ⟨k, 13, none⟩ x13).setCell ⟨k, 14, none⟩ x14) := (((((((((((((((h).stepSet (p := ⟨k, 0, none⟩) hp x0).stepSet (p := ⟨k, 1, none⟩) hp x1).stepSet (p := ⟨k, 2, none⟩) hp x2).stepSet (p := ⟨k, 3, none⟩) hp x3).stepSet (p := ⟨k, 4, none⟩) hp x4).stepSet (p := ⟨k, 5, none⟩) hp x5).stepSet (p := ⟨k, 6, none⟩) hp x6).stepSet (p := ⟨k, 7, none⟩) hp x7).stepSet (p := ⟨k, 8, none⟩) hp x8).stepSet (p := ⟨k, 9, none⟩) hp x9).stepSet (p := ⟨k, 10, none⟩) hp x10).stepSet (p := ⟨k, 11, none⟩) hp x11).stepSet (p := ⟨k, 12, none⟩) hp x12).stepSet (p := ⟨k, 13, none⟩) hp x13).stepSet (p := ⟨k, 14, none⟩) hp x14
theorem blk_set15 {w : World} {k : Nat} {T : TypeId} {x0 x1 x2 x3 x4 x5 x6 x7 x8 x9 x10 x11 x12 x13 x14 y0 y1 y2 y3 y4 y5 y6 y7 y8 y9 y10 y11 y12 y13 y14 : Value} (h : Blk w k #[y0, y1, y2, y3, y4, y5, y6, y7, y8, y9, y10, y11, y12, y13, y14] T) : Blk ((((((((((((((((w).setCell ⟨k, 0, none⟩ x0).setCell ⟨k, 1, none⟩ x1).setCell ⟨k, 2, none⟩ x2).setCell ⟨k, 3, none⟩ x3).setCell ⟨k, 4, none⟩ x4).setCell ⟨k, 5, none⟩ x5).setCell ⟨k, 6, none⟩ x6).setCell ⟨k, 7, none⟩ x7).setCell ⟨k, 8, none⟩ x8).setCell ⟨k, 9, none⟩ x9).setCell ⟨k, 10, none⟩ x10).setCell ⟨k, 11, none⟩ x11).setCell ⟨k, 12, none⟩ x12).setCell ⟨k, 13, none⟩ x13).setCell ⟨k, 14, none⟩ x14) k #[x0, x1, x2, x3, x4, x5, x6, x7, x8, x9, x10, x11, x12, x13, x14] T := by
  simpa using (((((((((((((((h).set 0 x0).set 1 x1).set 2 x2).set 3 x3).set 4 x4).set 5 x5).set 6 x6).set 7 x7).set 8 x8).set 9 x9).set 10 x10).set 11 x11).set 12 x12).set 13 x13).set 14 x14
theorem upd_set16 {M : Nat → Prop} {a b : World} {k : Nat} {x0 x1 x2 x3 x4 x5 x6 x7 x8 x9 x10 x11 x12 x13 x14 x15 : Value} (h : Upd M a b) (hp : M k ∨ a.heap.size ≤ k) : Upd M a (((((((((((((((((b).setCell ⟨k, 0, none⟩ x0).setCell ⟨k, 1, none⟩ x1).setCell ⟨k, 2, none⟩ x2).setCell ⟨k, 3, none⟩ x3).setCell ⟨k, 4, none⟩ x4).setCell ⟨k, 5, none⟩ x5).setCell ⟨k, 6, none⟩ x6).setCell ⟨k, 7, none⟩ x7).setCell ⟨k, 8, none⟩ x8).setCell ⟨k, 9, none⟩ x9).setCell ⟨k, 10, none⟩ x10).setCell ⟨k, 11, none⟩ x11).setCell ⟨k, 12, none⟩ x12).setCell ⟨k, 13, none⟩ x13).setCell ⟨k, 14, none⟩ x14).setCell ⟨k, 15, none⟩ x15) := ((((((((((((((((h).stepSet (p := ⟨k, 0, none⟩) hp x0).stepSet (p := ⟨k, 1, none⟩) hp x1).stepSet (p := ⟨k, 2, none⟩) hp x2).stepSet (p := ⟨k, 3, none⟩) hp x3).stepSet (p := ⟨k, 4, none⟩) hp x4).stepSet (p := ⟨k, 5, none⟩) hp x5).stepSet (p := ⟨k, 6, none⟩) hp x6).stepSet (p := ⟨k, 7, none⟩) hp x7).stepSet (p := ⟨k, 8, none⟩) hp x8).stepSet (p := ⟨k, 9, none⟩) hp x9).stepSet (p := ⟨k, 10, none⟩) hp x10).stepSet (p := ⟨k, 11, none⟩) hp x11).stepSet (p := ⟨k, 12, none⟩) hp x12).stepSet (p := ⟨k, 13, none⟩) hp x13).stepSet (p := ⟨k, 14, none⟩) hp x14).stepSet (p := ⟨k, 15, none⟩) hp x15
theorem blk_set16 {w : World} {k : Nat} {T : TypeId} {x0 x1 x2 x3 x4 x5 x6 x7 x8 x9 x10 x11 x12 x13 x14 x15 y0 y1 y2 y3 y4 y5 y6 y7 y8 y9 y10 y11 y12 y13 y14 y15 : Value} (h : Blk w k #[y0, y1, y2, y3, y4, y5, y6, y7, y8, y9, y10, y11, y12, y13, y14, y15] T) : Blk (((((((((((((((((w).setCell ⟨k, 0, none⟩ x0).setCell ⟨k, 1, none⟩ x1).setCell ⟨k, 2, none⟩ x2).setCell ⟨k, 3, none⟩ x3).setCell ⟨k, 4, none⟩ x4).setCell ⟨k, 5, none⟩ x5).setCell ⟨k, 6, none⟩ x6).setCell ⟨k, 7, none⟩ x7).setCell ⟨k, 8, none⟩ x8).setCell ⟨k, 9, none⟩ x9).setCell ⟨k, 10, none⟩ x10).setCell ⟨k, 11, none⟩ x11).setCell ⟨k, 12, none⟩ x12).setCell ⟨k, 13, none⟩ x13).setCell ⟨k, 14, none⟩ x14).setCell ⟨k, 15, none⟩ x15) k #[x0, x1, x2, x3, x4, x5, x6, x7, x8, x9, x10, x11, x12, x13, x14, x15] T := by
  simpa using ((((((((((((((((h).set 0 x0).set 1 x1).set 2 x2).set 3 x3).set 4 x4).set 5 x5).set 6 x6).set 7 x7).set 8 x8).set 9 x9).set 10 x10).set 11 x11).set 12 x12).set 13 x13).set 14 x14).set 15 x15
theorem cell_upd {W V : World} (u : Upd (fun _ => False) W V) {p : Addr} {v : Value} (h : W.cell? p = some v) : V.cell? p = some v :=
  ((u.agree (D := fun k => k = p.block) fun k hk => ⟨by rw [hk]; exact World.block_lt_of_cell? W _ h, id⟩).cell rfl).trans h
/-- The cell of an entry. -/
abbrev cellE (v : VCE) : KCE := (v.key, v.pol, v.kd, v.st)
abbrev prE (v : VCE) : KCE × VCE := (cellE v, v)
abbrev emV (v : VCE) : Value := .agg #[.string (v).key, .string (v).pol, .int .i64 (v).kd, .int .i64 (v).st, .int .i64 (v).rev, .bool (v).fin, .int .i64 (v).rk, .int .i64 (v).cnt, .int .i64 (v).sum, .int .i64 (v).mn, .int .i64 (v).mx, .int .i64 (v).q0, .int .i64 (v).q1, .int .i64 (v).q2, .bool (v).over]
theorem wpU_nil' {F : Fence} {n : Nat} {P : Program} {ops : Array Oper} {Hold : World → Prop} {Q : Exit → Act → World → Prop} {a : Act} {w : World} (h : ∀ w', w' = w → Q .normal a w') : wpU F n P ops Hold Q .done a w := wpU_nil (h w rfl)
theorem epoch_c {n : Nat} {W : World} {x : Int} : CallsIn Fence.wide n Try.prog 35 #[.int .i64 x] W fun e W2 => e = .returned (.bool (decide (0 ≤ x ∧ x ≤ mxE))) ∧ W2 = W := by
  refine callsIn_any (n := 0) (callsIn_of_wp Try.func35 rfl trivial ?_)
  simp only [Try.ntmps35, List.size_toArray, List.length_cons, List.length_nil, Nat.reduceAdd, Nat.reduceSub, Array.replicate_succ, Array.replicate_zero, List.push_toArray, List.append_toArray, List.nil_append, List.cons_append]
  by_cases h1 : 0 ≤ x <;> by_cases h2 : x ≤ 1099511627776
  all_goals
    gi_wp2_with (first | refine (⟨trivial, rfl, ?_⟩ : Fence.wide.fn _ ∧ Fence.wide.depth = none ∧ _) | refine (⟨trivial, ?_⟩ : Fence.wide.fn _ ∧ _))
    go_ret
    exact ⟨by simp [h1, h2, mxE], rfl⟩
theorem siloNew_c {n : Nat} {W : World} : CallsIn Fence.wide n Try.prog 8 #[] W fun e W2 => ∃ sb F, e = .returned (.pointer (some ⟨sb, 0, none⟩)) ∧ SiloI sb 0 [] F W2 ∧ (∀ j, F j → W.heap.size ≤ j) ∧ Upd (fun _ => False) W W2 := by
  refine callsIn_any (n := 0) (callsIn_of_wp Try.func8 rfl trivial ?_)
  simp only [Try.ntmps8, List.size_toArray, List.length_cons, List.length_nil, Nat.reduceAdd, Nat.reduceSub, Array.replicate_succ, Array.replicate_zero, List.push_toArray, List.append_toArray, List.nil_append, List.cons_append]
  gi_wp2_with (first | refine (⟨trivial, rfl, ?_⟩ : Fence.wide.fn _ ∧ Fence.wide.depth = none ∧ _) | (gi_at_call 25; (with_reducible refine (rackNewCE (c := cmpC)).mono ?_); rintro e W2 ⟨rfl, ra, ua⟩; (replace ra := Lib.hid ra); (replace ua := Lib.hid ua)) | refine (⟨trivial, ?_⟩ : Fence.wide.fn _ ∧ _))
  go_ret
  have z := ua.out.size
  have zr := ra.out.blk.lt
  refine ⟨W2.heap.size, fun j => j = W2.heap.size ∨ j = W.heap.size, rfl, ⟨W.heap.size, .nil, Blk.new _ _ _, ra.out.upd (Upd.alloc (fun _ => False) _ _) (fun _ _ => id), fun j => ⟨fun h => h.elim .inl fun h => .inr (.inl h), fun h => h.elim .inl fun h => h.elim .inr fun h => h.elim⟩, fun h => h.elim (fun h => by omega) fun h => h.elim⟩, fun j hj => by rcases hj with h | h <;> omega, ua.out.stepAlloc _⟩
/-- The answer to a fence. -/
def codeF (f n : Int) : Int := if 0 ≤ n ∧ n ≤ mxE then if n < f then 20 else 0 else 1
def codeG (l : List (KCE × VCE)) (x : VCE) : Int := match getL cmpC (cellE x) l with
  | some o => if x.rev ≤ o.rev then 21 else 0
  | none => if 400 ≤ l.length then 3 else 0
/-- The answer to an emission. -/
def codeP (f : Int) (l : List (KCE × VCE)) (n : Int) (x : VCE) : Int := if codeF f n = 0 then codeG l x else codeF f n
/-- As wpT_nil, with the world named. -/
theorem wpT_nil' {F : Fence} {n : Nat} {P : Program} {ops : Array Oper} {Hold : World → Prop} {Q : Exit → Act → World → Prop} {a : Act} {w : World} (h : ∀ w', w' = w → Q .normal a w') : wpT F n P ops Hold Q .done a w := wpT_nil (h w rfl)
section
variable {sb : Nat} {f : Int} {l : List (KCE × VCE)} {F : Nat → Prop} {W W2 : World}
set_option maxHeartbeats 1000000 in
theorem siloFence_c {n : Nat} {x : Int} (h : SiloI sb f l F W) : CallsIn Fence.wide n Try.prog 19 #[.pointer (some ⟨sb, 0, none⟩), .int .i64 x] W fun e W2 => e = .returned (.int .i64 (codeF f x)) ∧ SiloI sb (if codeF f x = 0 then x else f) l F W2 ∧ Upd (fun j => j = sb) W W2 := by
  obtain ⟨q, t, g1, g2, g3, g4⟩ := id h
  have c0 : W.cell? ⟨sb, 0, none⟩ = some (.int .i64 f) := g1.cell 0
  have f0 := g1.frozen 0
  have ll := g1.lt
  have ke := Lib.hid fun (W : World) => epoch_c (n := 0) (x := x) (W := W)
  by_cases h1 : 0 ≤ x ∧ x ≤ mxE
  · simp only [decide_eq_true h1] at ke
    by_cases h2 : x < f
    · have hcf : codeF f x = 20 := by simp [codeF, h1, h2]
      rw [hcf, if_neg (by decide)]
      clear g1 g2 g3 g4 hcf
      refine callsIn_any (n := 0) (callsIn_of_wp Try.func19 rfl trivial ?_)
      simp only [Try.ntmps19, List.size_toArray, List.length_cons, List.length_nil, Nat.reduceAdd, Nat.reduceSub, Array.replicate_succ, Array.replicate_zero, List.push_toArray, List.append_toArray, List.nil_append, List.cons_append]
      gi_wp2_with (first | refine (⟨trivial, rfl, ?_⟩ : Fence.wide.fn _ ∧ Fence.wide.depth = none ∧ _) | (gi_at_call 35; (with_reducible refine (ke.out _).mono ?_); rintro e W1 ⟨rfl, hW1⟩; (replace hW1 := hW1.symm); (subst hW1)) | refine (⟨trivial, ?_⟩ : Fence.wide.fn _ ∧ _))
      go_ret
      exact ⟨rfl, h, Upd.refl _ _⟩
    · have hcf : codeF f x = 0 := by simp [codeF, h1, h2]
      rw [hcf, if_pos rfl]
      have q1 := g1.set 0 (.int .i64 x)
      replace g1 := Lib.hid g1
      have hfin : SiloI sb x l F (W.setCell ⟨sb, 0, none⟩ (.int .i64 x)) := ⟨q, t, by simpa using q1, g2.upd (Upd.setCell (M := fun j => j = sb) rfl _) (fun j hj e => g4 (by rw [← e]; exact hj)), g3, g4⟩
      replace hfin := Lib.hid hfin
      clear g2 g3 g4 q1 hcf
      refine callsIn_any (n := 0) (callsIn_of_wp Try.func19 rfl trivial ?_)
      simp only [Try.ntmps19, List.size_toArray, List.length_cons, List.length_nil, Nat.reduceAdd, Nat.reduceSub, Array.replicate_succ, Array.replicate_zero, List.push_toArray, List.append_toArray, List.nil_append, List.cons_append]
      gi_wp2_with (first | refine (⟨trivial, rfl, ?_⟩ : Fence.wide.fn _ ∧ Fence.wide.depth = none ∧ _) | (gi_at_call 35; (with_reducible refine (ke.out _).mono ?_); rintro e W1 ⟨rfl, hW1⟩; (replace hW1 := hW1.symm); (subst hW1)) | refine (⟨trivial, ?_⟩ : Fence.wide.fn _ ∧ _))
      go_ret
      exact ⟨rfl, hfin.out, Upd.setCell (M := fun j => j = sb) rfl _⟩
  · simp only [decide_eq_false h1] at ke
    have hcf : codeF f x = 1 := by simp only [codeF, if_neg h1]
    rw [hcf, if_neg (by decide)]
    clear g1 g2 g3 g4 hcf
    refine callsIn_any (n := 0) (callsIn_of_wp Try.func19 rfl trivial ?_)
    simp only [Try.ntmps19, List.size_toArray, List.length_cons, List.length_nil, Nat.reduceAdd, Nat.reduceSub, Array.replicate_succ, Array.replicate_zero, List.push_toArray, List.append_toArray, List.nil_append, List.cons_append]
    gi_wp2_with (first | refine (⟨trivial, rfl, ?_⟩ : Fence.wide.fn _ ∧ Fence.wide.depth = none ∧ _) | (gi_at_call 35; (with_reducible refine (ke.out _).mono ?_); rintro e W1 ⟨rfl, hW1⟩; (replace hW1 := hW1.symm); (subst hW1)) | refine (⟨trivial, ?_⟩ : Fence.wide.fn _ ∧ _))
    go_ret
    exact ⟨rfl, h, Upd.refl _ _⟩
end
end Go.Proofs.Ytadeechoknpjhaa

/- silo: awake. -/
import Derived.Test.YtadeechoknpjhaaProg
import Derived.Test.YtadeechoknpjhaaBase
import Derived.Test.YtadeechoknpjhaaSlS
set_option linter.unusedSimpArgs false
set_option linter.unusedVariables false
namespace Go.Proofs.Ytadeechoknpjhaa
open Go.RowKit Go.Shelf
attribute [local go_sem] Oper.semAt_some

abbrev awV (r : Int) : VCE := ⟨0, ⟨#[97]⟩, ⟨#[112]⟩, 1, 0, r, false, 0, 0, 0, 0, 0, 0, 0, 0, false⟩
theorem aw_get (x r : Int) (y : Int) : getL cmpC (cellE (awV r)) [prE (atE x (awV y))] = some (atE x (awV y)) := by
  have h : cmpC (cellE (awV r)) (cellE (awV r)) = 0 := (ordrC.eq _ _).2 rfl
  simp only [getL, List.find?_cons, prE, atE]
  rw [show cmpC (cellE (awV r)) (cellE { awV y with ep := x }) = 0 from h]
  rfl
theorem aw_put (x r : Int) (x' y : Int) : putL cmpC (cellE (awV r)) (atE x (awV r)) [prE (atE x' (awV y))] = [prE (atE x (awV r))] := by
  have h : cmpC (cellE (awV r)) (cellE (awV r)) = 0 := (ordrC.eq _ _).2 rfl
  simp only [putL, List.filter_cons, prE, atE]
  rw [show cmpC (cellE (awV r)) (cellE { awV y with ep := x' }) = 0 from h]
  rfl
theorem aw1 : codeP 0 [] 1 (awV 9) = 0 := by decide
theorem aw2 : codeP 1 [prE (atE 1 (awV 9))] 2 (awV 9) = 21 := by
  simp only [codeP, codeG, aw_get]; decide
theorem aw3 : codeP 1 [prE (atE 1 (awV 9))] 2 (awV 10) = 0 := by
  simp only [codeP, codeG, aw_get]; decide
theorem aw4 : codeP 2 [prE (atE 2 (awV 10))] 1 (awV 11) = 20 := by
  simp only [codeP, codeG, aw_get]; decide
abbrev cellAt (W : World) (b : Nat) : Prop := W.cell? ⟨b, 0, none⟩ = some (.string ⟨#[97]⟩) ∧ W.cell? ⟨b, 1, none⟩ = some (.string ⟨#[112]⟩) ∧ W.cell? ⟨b, 2, none⟩ = some (.int .i64 1) ∧ W.cell? ⟨b, 3, none⟩ = some (.int .i64 0)
set_option maxRecDepth 100000 in
set_option maxHeartbeats 4000000 in
theorem awake20_c {n : Nat} {W : World} : CallsIn Fence.wide n Try.prog 9 #[] W fun e W2 => e = .returned (.bool true) ∧ Upd (fun _ => False) W W2 := by
  have k0 := Lib.hid ((siloNew_c (n := 0) (W := W)).mono (R' := fun e W1 => ∃ sb, e = .returned (.pointer (some ⟨sb, 0, none⟩)) ∧ ∀ V, V = W1.alloc (.cells #[.string ⟨#[97]⟩, .string ⟨#[112]⟩, .int .i64 1, .int .i64 0] 24) →
      CallsIn Fence.wide 0 Try.prog 11 #[.pointer (some ⟨sb, 0, none⟩), .int .i64 1, .agg #[.string ((awV 9)).key, .string ((awV 9)).pol, .int .i64 ((awV 9)).kd, .int .i64 ((awV 9)).st, .int .i64 ((awV 9)).rev, .bool ((awV 9)).fin, .int .i64 ((awV 9)).rk, .int .i64 ((awV 9)).cnt, .int .i64 ((awV 9)).sum, .int .i64 ((awV 9)).mn, .int .i64 ((awV 9)).mx, .int .i64 ((awV 9)).q0, .int .i64 ((awV 9)).q1, .int .i64 ((awV 9)).q2, .bool ((awV 9)).over]] V fun e W2 => e = .returned (.int .i64 0) ∧ cellAt W2 W1.heap.size ∧
        CallsIn Fence.wide 0 Try.prog 11 #[.pointer (some ⟨sb, 0, none⟩), .int .i64 2, .agg #[.string ((awV 9)).key, .string ((awV 9)).pol, .int .i64 ((awV 9)).kd, .int .i64 ((awV 9)).st, .int .i64 ((awV 9)).rev, .bool ((awV 9)).fin, .int .i64 ((awV 9)).rk, .int .i64 ((awV 9)).cnt, .int .i64 ((awV 9)).sum, .int .i64 ((awV 9)).mn, .int .i64 ((awV 9)).mx, .int .i64 ((awV 9)).q0, .int .i64 ((awV 9)).q1, .int .i64 ((awV 9)).q2, .bool ((awV 9)).over]] W2 fun e W3 => e = .returned (.int .i64 21) ∧ cellAt W3 W1.heap.size ∧
          CallsIn Fence.wide 0 Try.prog 11 #[.pointer (some ⟨sb, 0, none⟩), .int .i64 2, .agg #[.string ((awV 10)).key, .string ((awV 10)).pol, .int .i64 ((awV 10)).kd, .int .i64 ((awV 10)).st, .int .i64 ((awV 10)).rev, .bool ((awV 10)).fin, .int .i64 ((awV 10)).rk, .int .i64 ((awV 10)).cnt, .int .i64 ((awV 10)).sum, .int .i64 ((awV 10)).mn, .int .i64 ((awV 10)).mx, .int .i64 ((awV 10)).q0, .int .i64 ((awV 10)).q1, .int .i64 ((awV 10)).q2, .bool ((awV 10)).over]] W3 fun e W4 => e = .returned (.int .i64 0) ∧ cellAt W4 W1.heap.size ∧
            CallsIn Fence.wide 0 Try.prog 11 #[.pointer (some ⟨sb, 0, none⟩), .int .i64 1, .agg #[.string ((awV 11)).key, .string ((awV 11)).pol, .int .i64 ((awV 11)).kd, .int .i64 ((awV 11)).st, .int .i64 ((awV 11)).rev, .bool ((awV 11)).fin, .int .i64 ((awV 11)).rk, .int .i64 ((awV 11)).cnt, .int .i64 ((awV 11)).sum, .int .i64 ((awV 11)).mn, .int .i64 ((awV 11)).mx, .int .i64 ((awV 11)).q0, .int .i64 ((awV 11)).q1, .int .i64 ((awV 11)).q2, .bool ((awV 11)).over]] W4 fun e W5 => e = .returned (.int .i64 20) ∧ Upd (fun _ => False) W W5) (by
    rintro e W1 ⟨sb, F, rfl, s1, s2, s3⟩
    refine ⟨sb, rfl, ?_⟩
    rintro V rfl
    have ua := Upd.alloc (fun _ => False) W1 (.cells #[.string ⟨#[97]⟩, .string ⟨#[112]⟩, .int .i64 1, .int .i64 0] 24)
    have ba := Blk.new W1 #[.string ⟨#[97]⟩, .string ⟨#[112]⟩, .int .i64 1, .int .i64 0] 24
    have hF := s1.lt
    have s1' := s1.upd ua fun _ _ => id
    have hcell : ∀ {V}, Blk V W1.heap.size #[.string ⟨#[97]⟩, .string ⟨#[112]⟩, .int .i64 1, .int .i64 0] 24 → cellAt V W1.heap.size := fun b => ⟨b.cell 0, b.cell 1, b.cell 2, b.cell 3⟩
    refine (siloPutYes_c (v := awV 9) s1' (by decide) aw1).mono ?_
    rintro e W2 ⟨rfl, F2, p1, p2, p3⟩
    have b2 := ba.upd p3 fun h => by have := hF _ h; omega
    have hz : W1.heap.size < (W1.alloc (.cells #[.string ⟨#[97]⟩, .string ⟨#[112]⟩, .int .i64 1, .int .i64 0] 24)).heap.size := ba.lt
    have hF2 : ¬ F2 W1.heap.size := fun h => by
      rcases p2 _ h with h | h
      · have := hF _ h; omega
      · omega
    have p1' : SiloI sb 1 [prE (atE 1 (awV 9))] F2 W2 := p1
    refine ⟨rfl, hcell b2, ?_⟩
    have k2 := siloPutNo_c (n := 0) (x := 2) (v := awV 9) p1' (by rw [aw2]; decide)
    rw [aw2] at k2
    refine k2.mono ?_
    rintro e W3 ⟨rfl, p5⟩
    have b3 := b2.upd p5 id
    refine ⟨rfl, hcell b3, ?_⟩
    refine (siloPutYes_c (v := awV 10) (x := 2) (p1'.upd p5 fun _ _ => id) (by decide) aw3).mono ?_
    rintro e W4 ⟨rfl, F4, r1, r2, r3⟩
    rw [aw_put] at r1
    refine ⟨rfl, hcell (b3.upd r3 hF2), ?_⟩
    have k4 := siloPutNo_c (n := 0) (x := 1) (v := awV 11) r1 (by rw [aw4]; decide)
    rw [aw4] at k4
    refine k4.mono ?_
    rintro e W5 ⟨rfl, r5⟩
    refine ⟨rfl, ?_⟩
    have z1 := s3.size
    have z2 := ua.size
    have hW2 : Upd (fun _ => False) W W2 := (s3.trans' ua).trans p3 fun j hj => .inr (s2 j hj)
    have hW4 : Upd (fun _ => False) W W4 := (hW2.trans' p5).trans r3 fun j hj => .inr (by
      rcases p2 j hj with h | h
      · exact s2 j h
      · omega)
    exact hW4.trans' r5))
  refine callsIn_any (n := 0) (callsIn_of_wp Try.func9 rfl trivial ?_)
  simp only [Try.ntmps9, List.size_toArray, List.length_cons, List.length_nil, Nat.reduceAdd, Nat.reduceSub, Array.replicate_succ, Array.replicate_zero, List.push_toArray, List.append_toArray, List.nil_append, List.cons_append]
  gi_wp2_with (first | refine (⟨trivial, rfl, ?_⟩ : Fence.wide.fn _ ∧ Fence.wide.depth = none ∧ _) | (gi_at_call 8; (with_reducible refine k0.out.mono ?_); rintro e W1 ⟨sb, rfl, k1⟩; (replace k1 := Lib.hid (k1 _ rfl))) | (gi_at_call 11; (with_reducible refine k1.out.mono ?_); rintro e W2 ⟨rfl, ⟨c0, c1, c2, c3⟩, k2⟩; (replace k2 := Lib.hid k2)) | (gi_at_call 11; (with_reducible refine k2.out.mono ?_); rintro e W3 ⟨rfl, ⟨d0, d1, d2, d3⟩, k3⟩; (replace k3 := Lib.hid k3)) | (gi_at_call 11; (with_reducible refine k3.out.mono ?_); rintro e W4 ⟨rfl, ⟨f0, f1, f2, f3⟩, k4⟩; (replace k4 := Lib.hid k4)) | (gi_at_call 11; (with_reducible refine k4.out.mono ?_); rintro e W5 ⟨rfl, u5⟩; (skip)) | refine (⟨trivial, ?_⟩ : Fence.wide.fn _ ∧ _))
  go_ret
  exact ⟨rfl, u5⟩
end Go.Proofs.Ytadeechoknpjhaa

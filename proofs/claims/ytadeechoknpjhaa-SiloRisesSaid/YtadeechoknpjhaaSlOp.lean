/- silo: acts, cells, ends as a row's arguments. -/
import Derived.Test.YtadeechoknpjhaaProg
import Derived.Test.YtadeechoknpjhaaRowG
import Derived.Test.YtadeechoknpjhaaRowP
import Derived.Test.YtadeechoknpjhaaSlT
import Derived.Test.YtadeechoknpjhaaSlQ
import Derived.Laws.IdiomArrays
set_option linter.unusedSimpArgs false
set_option linter.unusedVariables false
namespace Go.Proofs.Ytadeechoknpjhaa
open Go.ChangeShapes Go.WideShapes Go.ChangeAt Go.RowKit

theorem cSt : Try.prog.cellsOf 9 = 1 := by kernel_rfl
theorem cIn : Try.prog.cellsOf 3 = 1 := by kernel_rfl
theorem cBo : Try.prog.cellsOf 4 = 1 := by kernel_rfl
theorem cU8 : Try.prog.cellsOf 5 = 1 := by kernel_rfl
theorem cA3 : Try.prog.cellsOf 34 = 3 := by kernel_rfl
theorem cCe : Try.prog.cellsOf 24 = 4 := by kernel_rfl
theorem cRe : Try.prog.cellsOf 36 = 9 := by kernel_rfl
theorem cEm : Try.prog.cellsOf 38 = 15 := by kernel_rfl
theorem cAc : Try.prog.cellsOf 40 = 17 := by kernel_rfl
theorem cEn : Try.prog.cellsOf 26 = 2 := by kernel_rfl
section
variable {H : Type} {enc : TypeId × Value → H} {W : World} {fuel : Nat} {cs : List Value} {x : DataW H × List MemPlace}
set_option maxRecDepth 100000 in
set_option maxHeartbeats 2000000 in
theorem op_cell (h : DataW.trod enc Try.prog W 0 (fun _ => true) true fuel 24 cs = some x) : ∃ k : KCE, cs = [.string (k).1, .string (k).2.1, .int .i64 (k).2.2.1, .int .i64 (k).2.2.2] ∧ k.1.size ≤ maxLen ∧ k.2.1.size ≤ maxLen := by
  obtain ⟨xs, n, _, _, hl, hxl, hf⟩ := DataW.trod_struct Try.underlying24 h
  rw [cCe] at hl
  match cs, hl, xs, hxl with
  | [v0, v1, v2, v3], _, [y0, y1, y2, y3], _ =>
    have g0 := hf 0 _ rfl
    have g1 := hf 1 _ rfl
    have g2 := hf 2 _ rfl
    have g3 := hf 3 _ rfl
    simp [cSt, cIn, cBo, cU8, cA3, cCe, cRe, cEm] at g0 g1 g2 g3
    obtain ⟨s0, e0, _, m0⟩ := DataW.trod_string Try.underlying9 g0
    obtain ⟨s1, e1, _, m1⟩ := DataW.trod_string Try.underlying9 g1
    obtain ⟨s2, e2, _⟩ := DataW.trod_int Try.underlying3 g2
    obtain ⟨s3, e3, _⟩ := DataW.trod_int Try.underlying3 g3
    cases e0; cases e1; cases e2; cases e3
    exact ⟨(s0, s1, s2, s3), rfl, m0, m1⟩
set_option maxRecDepth 100000 in
set_option maxHeartbeats 2000000 in
theorem op_res (h : DataW.trod enc Try.prog W 0 (fun _ => true) true fuel 36 cs = some x) : ∃ r : Res9, cs = [.int .i64 r.rk, .int .i64 r.cnt, .int .i64 r.sum, .int .i64 r.mn, .int .i64 r.mx, .int .i64 r.q0, .int .i64 r.q1, .int .i64 r.q2, .bool r.over] := by
  obtain ⟨xs, n, _, _, hl, hxl, hf⟩ := DataW.trod_struct Try.underlying36 h
  rw [cRe] at hl
  match cs, hl, xs, hxl with
  | [v0, v1, v2, v3, v4, v5, v6, v7, v8], _, [y0, y1, y2, y3, y4, y5, y6], _ =>
    have g0 := hf 0 _ rfl
    have g1 := hf 1 _ rfl
    have g2 := hf 2 _ rfl
    have g3 := hf 3 _ rfl
    have g4 := hf 4 _ rfl
    have g5 := hf 5 _ rfl
    have g6 := hf 6 _ rfl
    simp [cSt, cIn, cBo, cU8, cA3, cCe, cRe, cEm] at g0 g1 g2 g3 g4 g5 g6
    obtain ⟨s0, e0, _⟩ := DataW.trod_int Try.underlying3 g0
    obtain ⟨s1, e1, _⟩ := DataW.trod_int Try.underlying3 g1
    obtain ⟨s2, e2, _⟩ := DataW.trod_int Try.underlying3 g2
    obtain ⟨s3, e3, _⟩ := DataW.trod_int Try.underlying3 g3
    obtain ⟨s4, e4, _⟩ := DataW.trod_int Try.underlying3 g4
    obtain ⟨z0, z1, z2, n2, _, k0, k1, k2⟩ := trod_array3 Try.underlying34 cIn g5
    obtain ⟨s5, e5, _⟩ := DataW.trod_int Try.underlying3 k0
    obtain ⟨s6, e6, _⟩ := DataW.trod_int Try.underlying3 k1
    obtain ⟨s7, e7, _⟩ := DataW.trod_int Try.underlying3 k2
    obtain ⟨s8, e8, _⟩ := DataW.trod_bool Try.underlying4 g6
    cases e0; cases e1; cases e2; cases e3; cases e4; cases e5; cases e6; cases e7; cases e8
    exact ⟨⟨s0, s1, s2, s3, s4, s5, s6, s7, s8⟩, rfl⟩
set_option maxRecDepth 100000 in
set_option maxHeartbeats 2000000 in
theorem op_emi (h : DataW.trod enc Try.prog W 0 (fun _ => true) true fuel 38 cs = some x) : ∃ v : VCE, v.ep = 0 ∧ cs = [.string (v).key, .string (v).pol, .int .i64 (v).kd, .int .i64 (v).st, .int .i64 (v).rev, .bool (v).fin, .int .i64 (v).rk, .int .i64 (v).cnt, .int .i64 (v).sum, .int .i64 (v).mn, .int .i64 (v).mx, .int .i64 (v).q0, .int .i64 (v).q1, .int .i64 (v).q2, .bool (v).over] := by
  obtain ⟨xs, n, _, _, hl, hxl, hf⟩ := DataW.trod_struct Try.underlying38 h
  rw [cEm] at hl
  match cs, hl, xs, hxl with
  | [v0, v1, v2, v3, v4, v5, v6, v7, v8, v9, v10, v11, v12, v13, v14], _, [y0, y1, y2, y3], _ =>
    have g0 := hf 0 _ rfl
    have g1 := hf 1 _ rfl
    have g2 := hf 2 _ rfl
    have g3 := hf 3 _ rfl
    simp [cSt, cIn, cBo, cU8, cA3, cCe, cRe, cEm] at g0 g1 g2 g3
    obtain ⟨k, e0, _⟩ := op_cell g0
    obtain ⟨s1, e1, _⟩ := DataW.trod_int Try.underlying3 g1
    obtain ⟨s2, e2, _⟩ := DataW.trod_bool Try.underlying4 g2
    obtain ⟨r, e3⟩ := op_res g3
    cases e0; cases e1; cases e2; cases e3
    exact ⟨⟨0, k.1, k.2.1, k.2.2.1, k.2.2.2, s1, s2, r.rk, r.cnt, r.sum, r.mn, r.mx, r.q0, r.q1, r.q2, r.over⟩, rfl, rfl⟩
set_option maxRecDepth 100000 in
set_option maxHeartbeats 2000000 in
theorem op_act (h : DataW.trod enc Try.prog W 0 (fun _ => true) true fuel 40 cs = some x) : ∃ a : Act20, cs = encA a ∧ True := by
  obtain ⟨xs, n, _, _, hl, hxl, hf⟩ := DataW.trod_struct Try.underlying40 h
  rw [cAc] at hl
  match cs, hl, xs, hxl with
  | [v0, v1, v2, v3, v4, v5, v6, v7, v8, v9, v10, v11, v12, v13, v14, v15, v16], _, [y0, y1, y2], _ =>
    have g0 := hf 0 _ rfl
    have g1 := hf 1 _ rfl
    have g2 := hf 2 _ rfl
    simp [cSt, cIn, cBo, cU8, cA3, cCe, cRe, cEm] at g0 g1 g2
    obtain ⟨s0, e0, _⟩ := DataW.trod_int Try.underlying3 g0
    obtain ⟨s1, e1, _⟩ := DataW.trod_int Try.underlying3 g1
    obtain ⟨v, _, e2⟩ := op_emi g2
    cases e0; cases e1; cases e2
    exact ⟨(s0, { v with ep := s1 }), rfl, trivial⟩
set_option maxRecDepth 100000 in
set_option maxHeartbeats 2000000 in
theorem op_ends (h : DataW.trod enc Try.prog W 0 (fun _ => true) true fuel 26 cs = some x) : ∃ to most : Int, cs = [.int .i64 to, .int .u8 most] ∧ 0 ≤ most ∧ most < 256 := by
  obtain ⟨xs, n, _, _, hl, hxl, hf⟩ := DataW.trod_struct Try.underlying26 h
  rw [cEn] at hl
  match cs, hl, xs, hxl with
  | [v0, v1], _, [y0, y1], _ =>
    have g0 := hf 0 _ rfl
    have g1 := hf 1 _ rfl
    simp [cSt, cIn, cBo, cU8, cA3, cCe, cRe, cEm] at g0 g1
    obtain ⟨s0, e0, _⟩ := DataW.trod_int Try.underlying3 g0
    obtain ⟨s1, e1, _, w1⟩ := DataW.trod_int Try.underlying5 g1
    cases e0; cases e1
    exact ⟨s0, s1, rfl, byte_in w1⟩
end
section
variable {H : Type} {enc : TypeId × Value → H} {W : World} {b0 : Nat} {v : Value} {d : DataW H} {ps : List MemPlace}
set_option maxRecDepth 100000 in
theorem open_acts (hval : Value.okWide Try.prog W .any b0 22 v) (hd : DataW.Trod enc Try.prog W 0 (fun _ => true) true 22 v d ps) :
    ∃ (A : Option Addr) (cap : Nat) (L : List Act20), v = .slice A L.length cap ∧ Reads1 W A (flatA L) ∧ L.length ≤ cap ∧ cap ≤ maxLen := by
  obtain ⟨A, cap, L, h1, h2, h3, h4, _⟩ := open_els (n := 17) encA (fun _ => True) encA_len Try.underlying22 cAc (fun fuel cs x h => op_act h) hval hd
  exact ⟨A, cap, L, h1, h2, h3, h4⟩
set_option maxRecDepth 100000 in
theorem open_cell20 (hval : Value.okWide Try.prog W .any b0 24 v) (hd : DataW.Trod enc Try.prog W 0 (fun _ => true) true 24 v d ps) : ∃ k : KCE, v = .agg #[.string (k).1, .string (k).2.1, .int .i64 (k).2.2.1, .int .i64 (k).2.2.2] := by
  obtain ⟨cs, rfl, hsz⟩ := okWide_struct Try.underlying24 hval
  obtain ⟨fuel, hf⟩ := hd
  simp only [Value.cells] at hf
  obtain ⟨k, e, _⟩ := op_cell hf
  exact ⟨k, congrArg Value.agg (Array.toList_inj.1 e)⟩
set_option maxRecDepth 100000 in
theorem open_ends20 (hval : Value.okWide Try.prog W .any b0 26 v) (hd : DataW.Trod enc Try.prog W 0 (fun _ => true) true 26 v d ps) : ∃ to most : Int, v = .agg #[.int .i64 to, .int .u8 most] ∧ 0 ≤ most ∧ most < 256 := by
  obtain ⟨cs, rfl, hsz⟩ := okWide_struct Try.underlying26 hval
  obtain ⟨fuel, hf⟩ := hd
  simp only [Value.cells] at hf
  obtain ⟨to, most, e, h⟩ := op_ends hf
  exact ⟨to, most, congrArg Value.agg (Array.toList_inj.1 e), h⟩
end
end Go.Proofs.Ytadeechoknpjhaa

/- A silo's state, an act with its sizes, as a row's arguments. -/
import Derived.Test.YtadeechoknpjhaaProg
import Derived.Test.YtadeechoknpjhaaRowG
import Derived.Test.YtadeechoknpjhaaSlOp
set_option linter.unusedSimpArgs false
set_option linter.unusedVariables false
namespace Go.Proofs.Ytadeechoknpjhaa
open Go.ChangeShapes Go.WideShapes Go.ChangeAt Go.RowKit
theorem cEs : Try.prog.cellsOf 63 = 16 := by kernel_rfl
theorem cSs : Try.prog.cellsOf 55 = 2 := by kernel_rfl
theorem cSl : Try.prog.cellsOf 53 = 1 := by kernel_rfl
section
variable {H : Type} {enc : TypeId × Value → H} {W : World} {fuel : Nat} {cs : List Value} {x : DataW H × List MemPlace}
set_option maxRecDepth 100000 in
set_option maxHeartbeats 2000000 in
theorem op_emiS (h : DataW.trod enc Try.prog W 0 (fun _ => true) true fuel 38 cs = some x) : ∃ v : VCE, v.ep = 0 ∧ cs = [.string (v).key, .string (v).pol, .int .i64 (v).kd, .int .i64 (v).st, .int .i64 (v).rev, .bool (v).fin, .int .i64 (v).rk, .int .i64 (v).cnt, .int .i64 (v).sum, .int .i64 (v).mn, .int .i64 (v).mx, .int .i64 (v).q0, .int .i64 (v).q1, .int .i64 (v).q2, .bool (v).over] ∧ v.key.size ≤ maxLen ∧ v.pol.size ≤ maxLen := by
  obtain ⟨xs, n, _, _, hl, hxl, hf⟩ := DataW.trod_struct Try.underlying38 h
  rw [cEm] at hl
  match cs, hl, xs, hxl with
  | [v0, v1, v2, v3, v4, v5, v6, v7, v8, v9, v10, v11, v12, v13, v14], _, [y0, y1, y2, y3], _ =>
    have g0 := hf 0 _ rfl
    have g1 := hf 1 _ rfl
    have g2 := hf 2 _ rfl
    have g3 := hf 3 _ rfl
    simp [cSt, cIn, cBo, cU8, cA3, cCe, cRe, cEm] at g0 g1 g2 g3
    obtain ⟨k, e0, z1, z2⟩ := op_cell g0
    obtain ⟨s1, e1, _⟩ := DataW.trod_int Try.underlying3 g1
    obtain ⟨s2, e2, _⟩ := DataW.trod_bool Try.underlying4 g2
    obtain ⟨r, e3⟩ := op_res g3
    cases e0; cases e1; cases e2; cases e3
    exact ⟨⟨0, k.1, k.2.1, k.2.2.1, k.2.2.2, s1, s2, r.rk, r.cnt, r.sum, r.mn, r.mx, r.q0, r.q1, r.q2, r.over⟩, rfl, rfl, z1, z2⟩
set_option maxRecDepth 100000 in
set_option maxHeartbeats 2000000 in
theorem op_ent (h : DataW.trod enc Try.prog W 0 (fun _ => true) true fuel 63 cs = some x) : ∃ v : VCE, cs = cellsE v ∧ v.key.size ≤ maxLen ∧ v.pol.size ≤ maxLen := by
  obtain ⟨xs, n, _, _, hl, hxl, hf⟩ := DataW.trod_struct Try.underlying63 h
  rw [cEs] at hl
  match cs, hl, xs, hxl with
  | [v0, v1, v2, v3, v4, v5, v6, v7, v8, v9, v10, v11, v12, v13, v14, v15], _, [y0, y1], _ =>
    have g0 := hf 0 _ rfl
    have g1 := hf 1 _ rfl
    simp [cSt, cIn, cBo, cU8, cA3, cCe, cRe, cEm] at g0 g1
    obtain ⟨s0, e0, _⟩ := DataW.trod_int Try.underlying3 g0
    obtain ⟨v, _, e1, z1, z2⟩ := op_emiS g1
    cases e0; cases e1
    exact ⟨{ v with ep := s0 }, rfl, z1, z2⟩
end
section
variable {H : Type} {enc : TypeId × Value → H} {W : World} {b0 : Nat} {v : Value} {d : DataW H} {ps : List MemPlace}
set_option maxRecDepth 100000 in
theorem open_state20 (hval : Value.okWide Try.prog W .any b0 55 v) (hd : DataW.Trod enc Try.prog W 0 (fun _ => true) true 55 v d ps) :
    ∃ (f : Int) (A : Option Addr) (cap : Nat) (L : List VCE), v = .agg #[.int .i64 f, .slice A L.length cap] ∧ Reads1 W A (flatE L) ∧ L.length ≤ cap ∧ cap ≤ maxLen ∧ ∀ v ∈ L, v.key.size ≤ maxLen ∧ v.pol.size ≤ maxLen := by
  obtain ⟨cs, rfl, hsz⟩ := okWide_struct Try.underlying55 hval
  obtain ⟨fuel, hf⟩ := hd
  simp only [Value.cells] at hf
  obtain ⟨xs, n, _, _, hl, hxl, hf2⟩ := DataW.trod_struct Try.underlying55 hf
  rw [cSs] at hl
  obtain ⟨cs, rfl⟩ : ∃ l : List Value, cs = l.toArray := ⟨cs.toList, by simp⟩
  simp only [List.toList_toArray] at hl hf2
  match cs, hl, xs, hxl with
  | [v0, v1], _, [y0, y1], _ =>
    have g0 := hf2 0 _ rfl
    have g1 := hf2 1 _ rfl
    simp [cIn, cSl] at g0 g1
    obtain ⟨s0, e0, _⟩ := DataW.trod_int Try.underlying3 g0
    cases e0
    obtain ⟨A, cap, L, h1, h2, h3, h4, h5⟩ := open_cells (n := 16) cellsE (fun v => v.key.size ≤ maxLen ∧ v.pol.size ≤ maxLen) cellsE_len Try.underlying53 cEs (fun fuel cs x h => op_ent h) g1
    cases h1
    exact ⟨s0, A, cap, L, rfl, h2, h3, h4, h5⟩
set_option maxRecDepth 100000 in
theorem open_act20 (hval : Value.okWide Try.prog W .any b0 40 v) (hd : DataW.Trod enc Try.prog W 0 (fun _ => true) true 40 v d ps) : ∃ a : Act20, v = .agg #[.int .i64 a.1, .int .i64 (a.2).ep, .string (a.2).key, .string (a.2).pol, .int .i64 (a.2).kd, .int .i64 (a.2).st, .int .i64 (a.2).rev, .bool (a.2).fin, .int .i64 (a.2).rk, .int .i64 (a.2).cnt, .int .i64 (a.2).sum, .int .i64 (a.2).mn, .int .i64 (a.2).mx, .int .i64 (a.2).q0, .int .i64 (a.2).q1, .int .i64 (a.2).q2, .bool (a.2).over] := by
  obtain ⟨cs, rfl, hsz⟩ := okWide_struct Try.underlying40 hval
  obtain ⟨fuel, hf⟩ := hd
  simp only [Value.cells] at hf
  obtain ⟨a, e, _⟩ := op_act hf
  exact ⟨a, congrArg Value.agg (Array.toList_inj.1 e)⟩
end
end Go.Proofs.Ytadeechoknpjhaa

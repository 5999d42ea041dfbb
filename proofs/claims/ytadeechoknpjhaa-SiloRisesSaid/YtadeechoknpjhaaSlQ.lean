/- silo: '==' on cells and on entries. -/
import Derived.Test.YtadeechoknpjhaaProg
import Derived.Test.YtadeechoknpjhaaBase
import Derived.Test.YtadeechoknpjhaaSlE
import Derived.Laws.StructEq
set_option linter.unusedSimpArgs false
set_option linter.unusedVariables false
namespace Go.Proofs.Ytadeechoknpjhaa
open Go.RowKit Go.Shelf Go.Lib

theorem toList_inj {a b : ByteArray} : a.toList = b.toList ↔ a = b := ⟨bytes_ext, fun h => by rw [h]⟩
set_option maxHeartbeats 4000000 in
theorem eq3 (d : Nat) (a b c x y z : Int) (w : World) : (Op.equalIn (d + 1 + 1) 34 (.agg #[.int .i64 a, .int .i64 b, .int .i64 c]) (.agg #[.int .i64 x, .int .i64 y, .int .i64 z])).run Try.prog w = .ok (decide (a = x) && decide (b = y) && decide (c = z)) w := by
  have h : Try.prog.underlying 34 = some (.array 3 3) := by kernel_rfl
  have u3 := Try.underlying3
  simp only [Op.equalIn, Sem.run_bind, run_underlying h]
  go_simp
  rw [show List.range' 0 3 = [0, 1, 2] from rfl]
  simp only [List.forIn_cons, List.forIn_nil]
  go_simp
  by_cases h1 : a = x <;> by_cases h2 : b = y <;> by_cases h3 : c = z <;> simp [h1, h2, h3]
theorem cellEq (d : Nat) (a b : KCE) (w : World) : (Op.equalIn (d + 1 + 1) 24 (.agg #[.string (a).1, .string (a).2.1, .int .i64 (a).2.2.1, .int .i64 (a).2.2.2]) (.agg #[.string (b).1, .string (b).2.1, .int .i64 (b).2.2.1, .int .i64 (b).2.2.2])).run Try.prog w = .ok (decide (a = b)) w := by
  have hS : Try.prog.underlying 24 = some (.struct (Try.prog.fieldsOf 24)) := by kernel_rfl
  have hp : Try.prog.stoodInHeld 24 = false := by kernel_rfl
  have u3 := Try.underlying3
  have u9 := Try.underlying9
  rw [run_equalIn_agg w (d + 1) 24 _ _ hS hp]
  simp only [Program.fieldsOf, Try.underlying24]
  go_simp
  obtain ⟨a0, a1, a2, a3⟩ := a
  obtain ⟨b0, b1, b2, b3⟩ := b
  simp only [toList_inj, Prod.mk.injEq]
  by_cases h0 : a0 = b0 <;> by_cases h1 : a1 = b1 <;> by_cases h2 : a2 = b2 <;> by_cases h3 : a3 = b3 <;> simp [h0, h1, h2, h3]
theorem eqlC1 (a b : KCE) (w : World) : (binOp .eql 24 (.agg #[.string (a).1, .string (a).2.1, .int .i64 (a).2.2.1, .int .i64 (a).2.2.2]) (.agg #[.string (b).1, .string (b).2.1, .int .i64 (b).2.2.1, .int .i64 (b).2.2.2])).run Try.prog w = .ok (.bool (decide (a = b))) w := by
  rw [run_eql_struct, show (10000 : Nat) = 9998 + 1 + 1 from rfl, cellEq]; rfl
theorem neqC1 (a b : KCE) (w : World) : (binOp .neq 24 (.agg #[.string (a).1, .string (a).2.1, .int .i64 (a).2.2.1, .int .i64 (a).2.2.2]) (.agg #[.string (b).1, .string (b).2.1, .int .i64 (b).2.2.1, .int .i64 (b).2.2.2])).run Try.prog w = .ok (.bool (!decide (a = b))) w := by
  rw [run_neq_struct, show (10000 : Nat) = 9998 + 1 + 1 from rfl, cellEq]; rfl
/-- A result's nine numbers. -/
structure Res9 where
  rk : Int
  cnt : Int
  sum : Int
  mn : Int
  mx : Int
  q0 : Int
  q1 : Int
  q2 : Int
  over : Bool
  deriving DecidableEq
set_option maxRecDepth 100000 in
set_option maxHeartbeats 4000000 in
theorem resEq (d : Nat) (a b : Res9) (w : World) : (Op.equalIn (d + 1 + 1 + 1) 36 (.agg #[.int .i64 a.rk, .int .i64 a.cnt, .int .i64 a.sum, .int .i64 a.mn, .int .i64 a.mx, .int .i64 a.q0, .int .i64 a.q1, .int .i64 a.q2, .bool a.over]) (.agg #[.int .i64 b.rk, .int .i64 b.cnt, .int .i64 b.sum, .int .i64 b.mn, .int .i64 b.mx, .int .i64 b.q0, .int .i64 b.q1, .int .i64 b.q2, .bool b.over])).run Try.prog w = .ok (decide (a = b)) w := by
  have hS : Try.prog.underlying 36 = some (.struct (Try.prog.fieldsOf 36)) := by kernel_rfl
  have hp : Try.prog.stoodInHeld 36 = false := by kernel_rfl
  have u3 := Try.underlying3
  have u4 := Try.underlying4
  have e3 := eq3 d
  rw [run_equalIn_agg w (d + 1 + 1) 36 _ _ hS hp]
  simp only [Program.fieldsOf, Try.underlying36]
  go_simp
  obtain ⟨a0, a1, a2, a3, a4, a5, a6, a7, a8⟩ := a
  obtain ⟨b0, b1, b2, b3, b4, b5, b6, b7, b8⟩ := b
  simp only [Res9.mk.injEq]
  (repeat' split) <;> simp_all
abbrev resE (v : VCE) : Res9 := ⟨v.rk, v.cnt, v.sum, v.mn, v.mx, v.q0, v.q1, v.q2, v.over⟩
set_option maxRecDepth 100000 in
set_option maxHeartbeats 4000000 in
theorem emiEq (d : Nat) (a b : VCE) (w : World) : (Op.equalIn (d + 1 + 1 + 1 + 1) 38 (.agg #[.string (a).key, .string (a).pol, .int .i64 (a).kd, .int .i64 (a).st, .int .i64 (a).rev, .bool (a).fin, .int .i64 (a).rk, .int .i64 (a).cnt, .int .i64 (a).sum, .int .i64 (a).mn, .int .i64 (a).mx, .int .i64 (a).q0, .int .i64 (a).q1, .int .i64 (a).q2, .bool (a).over]) (.agg #[.string (b).key, .string (b).pol, .int .i64 (b).kd, .int .i64 (b).st, .int .i64 (b).rev, .bool (b).fin, .int .i64 (b).rk, .int .i64 (b).cnt, .int .i64 (b).sum, .int .i64 (b).mn, .int .i64 (b).mx, .int .i64 (b).q0, .int .i64 (b).q1, .int .i64 (b).q2, .bool (b).over])).run Try.prog w = .ok (decide (cellE a = cellE b ∧ a.rev = b.rev ∧ a.fin = b.fin ∧ resE a = resE b)) w := by
  have hS : Try.prog.underlying 38 = some (.struct (Try.prog.fieldsOf 38)) := by kernel_rfl
  have hp : Try.prog.stoodInHeld 38 = false := by kernel_rfl
  have u3 := Try.underlying3
  have u4 := Try.underlying4
  have e3 := cellEq (d + 1) (cellE a) (cellE b)
  have e4 := resEq d (resE a) (resE b)
  simp only at e3 e4
  rw [run_equalIn_agg w (d + 1 + 1 + 1) 38 _ _ hS hp]
  simp only [Program.fieldsOf, Try.underlying38]
  simp only [Bool.decide_and]
  generalize decide (cellE a = cellE b) = c1 at *
  generalize decide (resE a = resE b) = c2 at *
  go_simp
  cases c1 <;> cases c2 <;> by_cases h1 : a.rev = b.rev <;> by_cases h2 : a.fin = b.fin <;> simp [h1, h2]
theorem ent_ext (a b : VCE) : a = b ↔ a.ep = b.ep ∧ cellE a = cellE b ∧ a.rev = b.rev ∧ a.fin = b.fin ∧ resE a = resE b := by
  obtain ⟨a0, a1, a2, a3, a4, a5, a6, a7, a8, a9, aa, ab, ac, ad, ae, af⟩ := a
  obtain ⟨b0, b1, b2, b3, b4, b5, b6, b7, b8, b9, ba, bb, bc, bd, be, bf⟩ := b
  simp only [EntCE.mk.injEq, cellE, resE, Prod.mk.injEq, Res9.mk.injEq, and_assoc]
set_option maxRecDepth 100000 in
set_option maxHeartbeats 4000000 in
theorem entEq (d : Nat) (a b : VCE) (w : World) : (Op.equalIn (d + 1 + 1 + 1 + 1 + 1) 61 (.agg #[.int .i64 (a).ep, .string (a).key, .string (a).pol, .int .i64 (a).kd, .int .i64 (a).st, .int .i64 (a).rev, .bool (a).fin, .int .i64 (a).rk, .int .i64 (a).cnt, .int .i64 (a).sum, .int .i64 (a).mn, .int .i64 (a).mx, .int .i64 (a).q0, .int .i64 (a).q1, .int .i64 (a).q2, .bool (a).over]) (.agg #[.int .i64 (b).ep, .string (b).key, .string (b).pol, .int .i64 (b).kd, .int .i64 (b).st, .int .i64 (b).rev, .bool (b).fin, .int .i64 (b).rk, .int .i64 (b).cnt, .int .i64 (b).sum, .int .i64 (b).mn, .int .i64 (b).mx, .int .i64 (b).q0, .int .i64 (b).q1, .int .i64 (b).q2, .bool (b).over])).run Try.prog w = .ok (decide (a = b)) w := by
  have hS : Try.prog.underlying 61 = some (.struct (Try.prog.fieldsOf 61)) := by kernel_rfl
  have hp : Try.prog.stoodInHeld 61 = false := by kernel_rfl
  have u3 := Try.underlying3
  have e3 := emiEq d a b
  rw [run_equalIn_agg w (d + 1 + 1 + 1 + 1) 61 _ _ hS hp]
  simp only [Program.fieldsOf, Try.underlying61]
  have hd : decide (a = b) = (decide (a.ep = b.ep) && decide (cellE a = cellE b ∧ a.rev = b.rev ∧ a.fin = b.fin ∧ resE a = resE b)) := by
    rw [← Bool.decide_and]; exact decide_eq_decide.2 (ent_ext a b)
  rw [hd]
  generalize decide (cellE a = cellE b ∧ a.rev = b.rev ∧ a.fin = b.fin ∧ resE a = resE b) = c1 at *
  clear hd
  go_simp
  cases c1 <;> by_cases h1 : a.ep = b.ep <;> simp [h1]
theorem eqlE1 (a b : VCE) (w : World) : (binOp .eql 61 (.agg #[.int .i64 (a).ep, .string (a).key, .string (a).pol, .int .i64 (a).kd, .int .i64 (a).st, .int .i64 (a).rev, .bool (a).fin, .int .i64 (a).rk, .int .i64 (a).cnt, .int .i64 (a).sum, .int .i64 (a).mn, .int .i64 (a).mx, .int .i64 (a).q0, .int .i64 (a).q1, .int .i64 (a).q2, .bool (a).over]) (.agg #[.int .i64 (b).ep, .string (b).key, .string (b).pol, .int .i64 (b).kd, .int .i64 (b).st, .int .i64 (b).rev, .bool (b).fin, .int .i64 (b).rk, .int .i64 (b).cnt, .int .i64 (b).sum, .int .i64 (b).mn, .int .i64 (b).mx, .int .i64 (b).q0, .int .i64 (b).q1, .int .i64 (b).q2, .bool (b).over])).run Try.prog w = .ok (.bool (decide (a = b))) w := by
  rw [run_eql_struct, show (10000 : Nat) = 9995 + 1 + 1 + 1 + 1 + 1 from rfl, entEq]; rfl
theorem neqE1 (a b : VCE) (w : World) : (binOp .neq 61 (.agg #[.int .i64 (a).ep, .string (a).key, .string (a).pol, .int .i64 (a).kd, .int .i64 (a).st, .int .i64 (a).rev, .bool (a).fin, .int .i64 (a).rk, .int .i64 (a).cnt, .int .i64 (a).sum, .int .i64 (a).mn, .int .i64 (a).mx, .int .i64 (a).q0, .int .i64 (a).q1, .int .i64 (a).q2, .bool (a).over]) (.agg #[.int .i64 (b).ep, .string (b).key, .string (b).pol, .int .i64 (b).kd, .int .i64 (b).st, .int .i64 (b).rev, .bool (b).fin, .int .i64 (b).rk, .int .i64 (b).cnt, .int .i64 (b).sum, .int .i64 (b).mn, .int .i64 (b).mx, .int .i64 (b).q0, .int .i64 (b).q1, .int .i64 (b).q2, .bool (b).over])).run Try.prog w = .ok (.bool (!decide (a = b))) w := by
  rw [run_neq_struct, show (10000 : Nat) = 9995 + 1 + 1 + 1 + 1 + 1 from rfl, entEq]; rfl
theorem guardC (op : BinOp) (x y : Operand) (a b : Array Value) (w : World) : (eqGuard op 24 x y (.agg a) (.agg b)).run Try.prog w = .ok () w := run_eqGuard_agg w op _ x y a b (by kernel_rfl)
theorem guardE (op : BinOp) (x y : Operand) (a b : Array Value) (w : World) : (eqGuard op 61 x y (.agg a) (.agg b)).run Try.prog w = .ok () w := run_eqGuard_agg w op _ x y a b (by kernel_rfl)
end Go.Proofs.Ytadeechoknpjhaa

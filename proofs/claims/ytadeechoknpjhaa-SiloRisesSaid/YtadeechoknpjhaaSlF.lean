/- silo: entries in a list; Goes. -/
import Derived.Test.YtadeechoknpjhaaProg
import Derived.Test.YtadeechoknpjhaaBase
import Derived.Test.YtadeechoknpjhaaFeed
import Derived.Test.YtadeechoknpjhaaSlQ
import Derived.Test.YtadeechoknpjhaaRowG
import Derived.Test.YtadeechoknpjhaaAppS
import Derived.Test.YtadeechoknpjhaaTrL
set_option linter.unusedSimpArgs false
set_option linter.unusedVariables false
namespace Go.Proofs.Ytadeechoknpjhaa
open Go.RowKit Go.Shelf
attribute [local go_sem] Oper.semAt_some

def cellsE (v : VCE) : List Value := [.int .i64 (v).ep, .string (v).key, .string (v).pol, .int .i64 (v).kd, .int .i64 (v).st, .int .i64 (v).rev, .bool (v).fin, .int .i64 (v).rk, .int .i64 (v).cnt, .int .i64 (v).sum, .int .i64 (v).mn, .int .i64 (v).mx, .int .i64 (v).q0, .int .i64 (v).q1, .int .i64 (v).q2, .bool (v).over]
abbrev flatE (l : List VCE) : List Value := l.flatMap cellsE
theorem cellsE_len (v : VCE) : (cellsE v).length = 16 := rfl
theorem flatE_len (l : List VCE) : (flatE l).length = l.length * 16 := flatMap_len cellsE_len l
theorem flatE_append (l m : List VCE) : flatE (l ++ m) = flatE l ++ flatE m := by simp [flatE]
theorem flatE_one (l : List VCE) : ∀ u ∈ flatE l, u.oneCell' = true := by
  intro u hu
  simp only [flatE, List.mem_flatMap, cellsE, List.mem_cons, List.not_mem_nil, or_false] at hu
  obtain ⟨x, _, h⟩ := hu
  rcases h with rfl | rfl | rfl | rfl | rfl | rfl | rfl | rfl | rfl | rfl | rfl | rfl | rfl | rfl | rfl | rfl <;> rfl
theorem flatE_take (l : List VCE) (k : Nat) : flatE (l.take k) = (flatE l).take (k * 16) := by
  induction l generalizing k with
  | nil => simp [flatE]
  | cons x l ih =>
    cases k with
    | zero => simp [flatE]
    | succ k => simp only [List.take_succ_cons, flatE, List.flatMap_cons, Nat.add_mul] at ih ⊢; rw [ih, List.take_append, cellsE_len, List.take_of_length_le (l := cellsE x) (by rw [cellsE_len]; omega)]; rw [show k * 16 + 1 * 16 - 16 = k * 16 by omega]
theorem flatE_drop (l : List VCE) (k : Nat) : flatE (l.drop k) = (flatE l).drop (k * 16) := by
  induction l generalizing k with
  | nil => simp [flatE]
  | cons x l ih =>
    cases k with
    | zero => simp
    | succ k => simp only [List.drop_succ_cons, flatE, List.flatMap_cons, Nat.add_mul] at ih ⊢; rw [ih, List.drop_append, cellsE_len, List.drop_of_length_le (l := cellsE x) (by rw [cellsE_len]; omega), List.nil_append]; rw [show k * 16 + 1 * 16 - 16 = k * 16 by omega]
/-- An entry's cells lie at a place. -/
structure AtE (W : World) (b o : Nat) (v : VCE) : Prop where
  c0 : W.cell? ⟨b, o, none⟩ = some (.int .i64 (v).ep)
  c1 : W.cell? ⟨b, o + 1, none⟩ = some (.string (v).key)
  c2 : W.cell? ⟨b, o + 2, none⟩ = some (.string (v).pol)
  c3 : W.cell? ⟨b, o + 3, none⟩ = some (.int .i64 (v).kd)
  c4 : W.cell? ⟨b, o + 4, none⟩ = some (.int .i64 (v).st)
  c5 : W.cell? ⟨b, o + 5, none⟩ = some (.int .i64 (v).rev)
  c6 : W.cell? ⟨b, o + 6, none⟩ = some (.bool (v).fin)
  c7 : W.cell? ⟨b, o + 7, none⟩ = some (.int .i64 (v).rk)
  c8 : W.cell? ⟨b, o + 8, none⟩ = some (.int .i64 (v).cnt)
  c9 : W.cell? ⟨b, o + 9, none⟩ = some (.int .i64 (v).sum)
  c10 : W.cell? ⟨b, o + 10, none⟩ = some (.int .i64 (v).mn)
  c11 : W.cell? ⟨b, o + 11, none⟩ = some (.int .i64 (v).mx)
  c12 : W.cell? ⟨b, o + 12, none⟩ = some (.int .i64 (v).q0)
  c13 : W.cell? ⟨b, o + 13, none⟩ = some (.int .i64 (v).q1)
  c14 : W.cell? ⟨b, o + 14, none⟩ = some (.int .i64 (v).q2)
  c15 : W.cell? ⟨b, o + 15, none⟩ = some (.bool (v).over)
theorem atE_at {W : World} {A : Option Addr} {l : List VCE} (h : Reads1 W A (flatE l)) {k : Nat} (hk : k < l.length) : ∃ g o, A = some ⟨g, o, none⟩ ∧ AtE W g (o + k * 16) l[k] := by
  obtain ⟨g, o, rfl, hc⟩ := reads_at h (by rw [flatE_len]; omega)
  have e : ∀ j u, j < 16 → (cellsE l[k])[j]? = some u → W.cell? ⟨g, o + k * 16 + j, none⟩ = some u := fun j u hj hu => by
    have := hc (k * 16 + j) u (by rw [flatMap_at cellsE_len l k hk j hj]; exact hu)
    rwa [← Nat.add_assoc] at this
  exact ⟨g, o, rfl, ⟨e 0 _ (by omega) rfl, e (0 + 1) _ (by omega) rfl, e (1 + 1) _ (by omega) rfl, e (2 + 1) _ (by omega) rfl, e (3 + 1) _ (by omega) rfl, e (4 + 1) _ (by omega) rfl, e (5 + 1) _ (by omega) rfl, e (6 + 1) _ (by omega) rfl, e (7 + 1) _ (by omega) rfl, e (8 + 1) _ (by omega) rfl, e (9 + 1) _ (by omega) rfl, e (10 + 1) _ (by omega) rfl, e (11 + 1) _ (by omega) rfl, e (12 + 1) _ (by omega) rfl, e (13 + 1) _ (by omega) rfl, e (14 + 1) _ (by omega) rfl⟩⟩
abbrev encV (v : VCE) : Array Value := #[evCE v]
/-- The closure's own state: how many have come. -/
abbrev goStep (most : Int) : Nat → VCE → Nat × Bool := fun n _ => (n + 1, decide ((n : Int) + 1 < most))
theorem goStep_go (most : Int) : ∀ (pre : List VCE) (n s1 : Nat), goF (goStep most) n pre = (s1, true) → s1 = n + pre.length
  | [], n, s1, h => by simp [goF] at h; simp [h]
  | x :: xs, n, s1, h => by
    simp only [goF] at h
    by_cases hb : (n : Int) + 1 < most
    · simp only [hb, decide_true, if_true] at h
      have a := goStep_go most xs (n + 1) s1 h
      simp [a]; omega
    · simp [hb] at h
theorem goStep_end (most : Int) : ∀ (l : List VCE) (n : Nat), (n : Int) < max most 1 → ((goF (goStep most) n l).1 : Int) = min (n + l.length : Int) (max most 1)
  | [], n, h => by simp only [goF, List.length_nil]; omega
  | x :: xs, n, h => by
    simp only [goF, List.length_cons]
    by_cases hb : (n : Int) + 1 < most
    · simp only [hb, decide_true, if_true]
      rw [goStep_end most xs (n + 1) (by omega)]
      push_cast; omega
    · simp only [hb, decide_false, Bool.false_eq_true, if_false]
      push_cast; omega

set_option maxRecDepth 100000 in
set_option maxHeartbeats 1000000 in
theorem goes1 {W : World} {bok bn bl bm : Nat} {A : Option Addr} {cap k : Nat} {x : VCE} {most : Int} {xs : List VCE}
    (hok : Blk W bok #[.bool true] 4) (hn : Blk W bn #[.int .i64 k] 3) (hl : Blk W bl #[.slice A xs.length cap] 31) (hm : Blk W bm #[.int .i64 most] 3)
    (hk : k < xs.length) (hlen : xs.length ≤ 100000) (hr : Reads1 W A (flatE xs)) (hx : xs[k] = x) (d2 : bok ≠ bn) (d4 : bok ≠ bm) (d5 : bn ≠ bm) (d6 : bn ≠ bl) (d7 : bok ≠ bl) :
    CallV Try.prog (.func (.func 31) #[] #[.pointer (some ⟨bok, 0, none⟩), .pointer (some ⟨bn, 0, none⟩), .pointer (some ⟨bl, 0, none⟩), .pointer (some ⟨bm, 0, none⟩)]) (encV x) W
      fun v W' => v = .bool (decide ((k : Int) + 1 < most)) ∧ Blk W' bok #[.bool true] 4 ∧ Blk W' bn #[.int .i64 ((k + 1 : Nat) : Int)] 3 ∧ Upd (fun j => j = bok ∨ j = bn) W W' := by
  refine CallV.of_calls (n := 0) (enters_of Try.func31 (by kernel_rfl) rfl) ?_
  have c1 := hok.cell0
  have c3 := hn.cell0
  have c4 := hl.cell0
  have c5 := hm.cell0
  have f1 := hok.frozen 0
  have f3 := hn.frozen 0
  obtain ⟨g, o, rfl, hcs⟩ := atE_at hr hk
  rw [hx] at hcs
  have ux := (Upd.alloc (fun _ => False) W (.cells #[.int .i64 (x).ep, .string (x).key, .string (x).pol, .int .i64 (x).kd, .int .i64 (x).st, .int .i64 (x).rev, .bool (x).fin, .int .i64 (x).rk, .int .i64 (x).cnt, .int .i64 (x).sum, .int .i64 (x).mn, .int .i64 (x).mx, .int .i64 (x).q0, .int .i64 (x).q1, .int .i64 (x).q2, .bool (x).over] 63)).stepDrew
  have xb := (Blk.new W #[.int .i64 (x).ep, .string (x).key, .string (x).pol, .int .i64 (x).kd, .int .i64 (x).st, .int .i64 (x).rev, .bool (x).fin, .int .i64 (x).rk, .int .i64 (x).cnt, .int .i64 (x).sum, .int .i64 (x).mn, .int .i64 (x).mx, .int .i64 (x).q0, .int .i64 (x).q1, .int .i64 (x).q2, .bool (x).over] 63).upd (Upd.drew (fun _ => False) _) id
  have hAT : AtE (W.alloc (.cells #[.int .i64 (x).ep, .string (x).key, .string (x).pol, .int .i64 (x).kd, .int .i64 (x).st, .int .i64 (x).rev, .bool (x).fin, .int .i64 (x).rk, .int .i64 (x).cnt, .int .i64 (x).sum, .int .i64 (x).mn, .int .i64 (x).mx, .int .i64 (x).q0, .int .i64 (x).q1, .int .i64 (x).q2, .bool (x).over] 63)).drew g (o + k * 16) x := ⟨cell_upd ux hcs.c0, cell_upd ux hcs.c1, cell_upd ux hcs.c2, cell_upd ux hcs.c3, cell_upd ux hcs.c4, cell_upd ux hcs.c5, cell_upd ux hcs.c6, cell_upd ux hcs.c7, cell_upd ux hcs.c8, cell_upd ux hcs.c9, cell_upd ux hcs.c10, cell_upd ux hcs.c11, cell_upd ux hcs.c12, cell_upd ux hcs.c13, cell_upd ux hcs.c14, cell_upd ux hcs.c15⟩
  obtain ⟨a0, a1, a2, a3, a4, a5, a6, a7, a8, a9, a10, a11, a12, a13, a14, a15⟩ := hAT
  have hh : (W.alloc (.cells #[.int .i64 (x).ep, .string (x).key, .string (x).pol, .int .i64 (x).kd, .int .i64 (x).st, .int .i64 (x).rev, .bool (x).fin, .int .i64 (x).rk, .int .i64 (x).cnt, .int .i64 (x).sum, .int .i64 (x).mn, .int .i64 (x).mx, .int .i64 (x).q0, .int .i64 (x).q1, .int .i64 (x).q2, .bool (x).over] 63)).drew.cell? ⟨bok, 0, none⟩ = some (.bool true) ∧ (W.alloc (.cells #[.int .i64 (x).ep, .string (x).key, .string (x).pol, .int .i64 (x).kd, .int .i64 (x).st, .int .i64 (x).rev, .bool (x).fin, .int .i64 (x).rk, .int .i64 (x).cnt, .int .i64 (x).sum, .int .i64 (x).mn, .int .i64 (x).mx, .int .i64 (x).q0, .int .i64 (x).q1, .int .i64 (x).q2, .bool (x).over] 63)).drew.cell? ⟨bn, 0, none⟩ = some (.int .i64 k) ∧ (W.alloc (.cells #[.int .i64 (x).ep, .string (x).key, .string (x).pol, .int .i64 (x).kd, .int .i64 (x).st, .int .i64 (x).rev, .bool (x).fin, .int .i64 (x).rk, .int .i64 (x).cnt, .int .i64 (x).sum, .int .i64 (x).mn, .int .i64 (x).mx, .int .i64 (x).q0, .int .i64 (x).q1, .int .i64 (x).q2, .bool (x).over] 63)).drew.cell? ⟨bl, 0, none⟩ = some (.slice (some ⟨g, o, none⟩) xs.length cap) ∧ ((W.alloc (.cells #[.int .i64 (x).ep, .string (x).key, .string (x).pol, .int .i64 (x).kd, .int .i64 (x).st, .int .i64 (x).rev, .bool (x).fin, .int .i64 (x).rk, .int .i64 (x).cnt, .int .i64 (x).sum, .int .i64 (x).mn, .int .i64 (x).mx, .int .i64 (x).q0, .int .i64 (x).q1, .int .i64 (x).q2, .bool (x).over] 63)).drew.cell? ⟨W.heap.size, 0, none⟩ = some (.int .i64 (x).ep) ∧ (W.alloc (.cells #[.int .i64 (x).ep, .string (x).key, .string (x).pol, .int .i64 (x).kd, .int .i64 (x).st, .int .i64 (x).rev, .bool (x).fin, .int .i64 (x).rk, .int .i64 (x).cnt, .int .i64 (x).sum, .int .i64 (x).mn, .int .i64 (x).mx, .int .i64 (x).q0, .int .i64 (x).q1, .int .i64 (x).q2, .bool (x).over] 63)).drew.cell? ⟨W.heap.size, 1, none⟩ = some (.string (x).key) ∧ (W.alloc (.cells #[.int .i64 (x).ep, .string (x).key, .string (x).pol, .int .i64 (x).kd, .int .i64 (x).st, .int .i64 (x).rev, .bool (x).fin, .int .i64 (x).rk, .int .i64 (x).cnt, .int .i64 (x).sum, .int .i64 (x).mn, .int .i64 (x).mx, .int .i64 (x).q0, .int .i64 (x).q1, .int .i64 (x).q2, .bool (x).over] 63)).drew.cell? ⟨W.heap.size, 2, none⟩ = some (.string (x).pol) ∧ (W.alloc (.cells #[.int .i64 (x).ep, .string (x).key, .string (x).pol, .int .i64 (x).kd, .int .i64 (x).st, .int .i64 (x).rev, .bool (x).fin, .int .i64 (x).rk, .int .i64 (x).cnt, .int .i64 (x).sum, .int .i64 (x).mn, .int .i64 (x).mx, .int .i64 (x).q0, .int .i64 (x).q1, .int .i64 (x).q2, .bool (x).over] 63)).drew.cell? ⟨W.heap.size, 3, none⟩ = some (.int .i64 (x).kd) ∧ (W.alloc (.cells #[.int .i64 (x).ep, .string (x).key, .string (x).pol, .int .i64 (x).kd, .int .i64 (x).st, .int .i64 (x).rev, .bool (x).fin, .int .i64 (x).rk, .int .i64 (x).cnt, .int .i64 (x).sum, .int .i64 (x).mn, .int .i64 (x).mx, .int .i64 (x).q0, .int .i64 (x).q1, .int .i64 (x).q2, .bool (x).over] 63)).drew.cell? ⟨W.heap.size, 4, none⟩ = some (.int .i64 (x).st) ∧ (W.alloc (.cells #[.int .i64 (x).ep, .string (x).key, .string (x).pol, .int .i64 (x).kd, .int .i64 (x).st, .int .i64 (x).rev, .bool (x).fin, .int .i64 (x).rk, .int .i64 (x).cnt, .int .i64 (x).sum, .int .i64 (x).mn, .int .i64 (x).mx, .int .i64 (x).q0, .int .i64 (x).q1, .int .i64 (x).q2, .bool (x).over] 63)).drew.cell? ⟨W.heap.size, 5, none⟩ = some (.int .i64 (x).rev) ∧ (W.alloc (.cells #[.int .i64 (x).ep, .string (x).key, .string (x).pol, .int .i64 (x).kd, .int .i64 (x).st, .int .i64 (x).rev, .bool (x).fin, .int .i64 (x).rk, .int .i64 (x).cnt, .int .i64 (x).sum, .int .i64 (x).mn, .int .i64 (x).mx, .int .i64 (x).q0, .int .i64 (x).q1, .int .i64 (x).q2, .bool (x).over] 63)).drew.cell? ⟨W.heap.size, 6, none⟩ = some (.bool (x).fin) ∧ (W.alloc (.cells #[.int .i64 (x).ep, .string (x).key, .string (x).pol, .int .i64 (x).kd, .int .i64 (x).st, .int .i64 (x).rev, .bool (x).fin, .int .i64 (x).rk, .int .i64 (x).cnt, .int .i64 (x).sum, .int .i64 (x).mn, .int .i64 (x).mx, .int .i64 (x).q0, .int .i64 (x).q1, .int .i64 (x).q2, .bool (x).over] 63)).drew.cell? ⟨W.heap.size, 7, none⟩ = some (.int .i64 (x).rk) ∧ (W.alloc (.cells #[.int .i64 (x).ep, .string (x).key, .string (x).pol, .int .i64 (x).kd, .int .i64 (x).st, .int .i64 (x).rev, .bool (x).fin, .int .i64 (x).rk, .int .i64 (x).cnt, .int .i64 (x).sum, .int .i64 (x).mn, .int .i64 (x).mx, .int .i64 (x).q0, .int .i64 (x).q1, .int .i64 (x).q2, .bool (x).over] 63)).drew.cell? ⟨W.heap.size, 8, none⟩ = some (.int .i64 (x).cnt) ∧ (W.alloc (.cells #[.int .i64 (x).ep, .string (x).key, .string (x).pol, .int .i64 (x).kd, .int .i64 (x).st, .int .i64 (x).rev, .bool (x).fin, .int .i64 (x).rk, .int .i64 (x).cnt, .int .i64 (x).sum, .int .i64 (x).mn, .int .i64 (x).mx, .int .i64 (x).q0, .int .i64 (x).q1, .int .i64 (x).q2, .bool (x).over] 63)).drew.cell? ⟨W.heap.size, 9, none⟩ = some (.int .i64 (x).sum) ∧ (W.alloc (.cells #[.int .i64 (x).ep, .string (x).key, .string (x).pol, .int .i64 (x).kd, .int .i64 (x).st, .int .i64 (x).rev, .bool (x).fin, .int .i64 (x).rk, .int .i64 (x).cnt, .int .i64 (x).sum, .int .i64 (x).mn, .int .i64 (x).mx, .int .i64 (x).q0, .int .i64 (x).q1, .int .i64 (x).q2, .bool (x).over] 63)).drew.cell? ⟨W.heap.size, 10, none⟩ = some (.int .i64 (x).mn) ∧ (W.alloc (.cells #[.int .i64 (x).ep, .string (x).key, .string (x).pol, .int .i64 (x).kd, .int .i64 (x).st, .int .i64 (x).rev, .bool (x).fin, .int .i64 (x).rk, .int .i64 (x).cnt, .int .i64 (x).sum, .int .i64 (x).mn, .int .i64 (x).mx, .int .i64 (x).q0, .int .i64 (x).q1, .int .i64 (x).q2, .bool (x).over] 63)).drew.cell? ⟨W.heap.size, 11, none⟩ = some (.int .i64 (x).mx) ∧ (W.alloc (.cells #[.int .i64 (x).ep, .string (x).key, .string (x).pol, .int .i64 (x).kd, .int .i64 (x).st, .int .i64 (x).rev, .bool (x).fin, .int .i64 (x).rk, .int .i64 (x).cnt, .int .i64 (x).sum, .int .i64 (x).mn, .int .i64 (x).mx, .int .i64 (x).q0, .int .i64 (x).q1, .int .i64 (x).q2, .bool (x).over] 63)).drew.cell? ⟨W.heap.size, 12, none⟩ = some (.int .i64 (x).q0) ∧ (W.alloc (.cells #[.int .i64 (x).ep, .string (x).key, .string (x).pol, .int .i64 (x).kd, .int .i64 (x).st, .int .i64 (x).rev, .bool (x).fin, .int .i64 (x).rk, .int .i64 (x).cnt, .int .i64 (x).sum, .int .i64 (x).mn, .int .i64 (x).mx, .int .i64 (x).q0, .int .i64 (x).q1, .int .i64 (x).q2, .bool (x).over] 63)).drew.cell? ⟨W.heap.size, 13, none⟩ = some (.int .i64 (x).q1) ∧ (W.alloc (.cells #[.int .i64 (x).ep, .string (x).key, .string (x).pol, .int .i64 (x).kd, .int .i64 (x).st, .int .i64 (x).rev, .bool (x).fin, .int .i64 (x).rk, .int .i64 (x).cnt, .int .i64 (x).sum, .int .i64 (x).mn, .int .i64 (x).mx, .int .i64 (x).q0, .int .i64 (x).q1, .int .i64 (x).q2, .bool (x).over] 63)).drew.cell? ⟨W.heap.size, 14, none⟩ = some (.int .i64 (x).q2) ∧ (W.alloc (.cells #[.int .i64 (x).ep, .string (x).key, .string (x).pol, .int .i64 (x).kd, .int .i64 (x).st, .int .i64 (x).rev, .bool (x).fin, .int .i64 (x).rk, .int .i64 (x).cnt, .int .i64 (x).sum, .int .i64 (x).mn, .int .i64 (x).mx, .int .i64 (x).q0, .int .i64 (x).q1, .int .i64 (x).q2, .bool (x).over] 63)).drew.cell? ⟨W.heap.size, 15, none⟩ = some (.bool (x).over)) ∧ ((W.alloc (.cells #[.int .i64 (x).ep, .string (x).key, .string (x).pol, .int .i64 (x).kd, .int .i64 (x).st, .int .i64 (x).rev, .bool (x).fin, .int .i64 (x).rk, .int .i64 (x).cnt, .int .i64 (x).sum, .int .i64 (x).mn, .int .i64 (x).mx, .int .i64 (x).q0, .int .i64 (x).q1, .int .i64 (x).q2, .bool (x).over] 63)).drew.cell? ⟨g, o + k * 16, none⟩ = some (.int .i64 (x).ep) ∧ (W.alloc (.cells #[.int .i64 (x).ep, .string (x).key, .string (x).pol, .int .i64 (x).kd, .int .i64 (x).st, .int .i64 (x).rev, .bool (x).fin, .int .i64 (x).rk, .int .i64 (x).cnt, .int .i64 (x).sum, .int .i64 (x).mn, .int .i64 (x).mx, .int .i64 (x).q0, .int .i64 (x).q1, .int .i64 (x).q2, .bool (x).over] 63)).drew.cell? ⟨g, o + k * 16 + 1, none⟩ = some (.string (x).key) ∧ (W.alloc (.cells #[.int .i64 (x).ep, .string (x).key, .string (x).pol, .int .i64 (x).kd, .int .i64 (x).st, .int .i64 (x).rev, .bool (x).fin, .int .i64 (x).rk, .int .i64 (x).cnt, .int .i64 (x).sum, .int .i64 (x).mn, .int .i64 (x).mx, .int .i64 (x).q0, .int .i64 (x).q1, .int .i64 (x).q2, .bool (x).over] 63)).drew.cell? ⟨g, o + k * 16 + 2, none⟩ = some (.string (x).pol) ∧ (W.alloc (.cells #[.int .i64 (x).ep, .string (x).key, .string (x).pol, .int .i64 (x).kd, .int .i64 (x).st, .int .i64 (x).rev, .bool (x).fin, .int .i64 (x).rk, .int .i64 (x).cnt, .int .i64 (x).sum, .int .i64 (x).mn, .int .i64 (x).mx, .int .i64 (x).q0, .int .i64 (x).q1, .int .i64 (x).q2, .bool (x).over] 63)).drew.cell? ⟨g, o + k * 16 + 3, none⟩ = some (.int .i64 (x).kd) ∧ (W.alloc (.cells #[.int .i64 (x).ep, .string (x).key, .string (x).pol, .int .i64 (x).kd, .int .i64 (x).st, .int .i64 (x).rev, .bool (x).fin, .int .i64 (x).rk, .int .i64 (x).cnt, .int .i64 (x).sum, .int .i64 (x).mn, .int .i64 (x).mx, .int .i64 (x).q0, .int .i64 (x).q1, .int .i64 (x).q2, .bool (x).over] 63)).drew.cell? ⟨g, o + k * 16 + 4, none⟩ = some (.int .i64 (x).st) ∧ (W.alloc (.cells #[.int .i64 (x).ep, .string (x).key, .string (x).pol, .int .i64 (x).kd, .int .i64 (x).st, .int .i64 (x).rev, .bool (x).fin, .int .i64 (x).rk, .int .i64 (x).cnt, .int .i64 (x).sum, .int .i64 (x).mn, .int .i64 (x).mx, .int .i64 (x).q0, .int .i64 (x).q1, .int .i64 (x).q2, .bool (x).over] 63)).drew.cell? ⟨g, o + k * 16 + 5, none⟩ = some (.int .i64 (x).rev) ∧ (W.alloc (.cells #[.int .i64 (x).ep, .string (x).key, .string (x).pol, .int .i64 (x).kd, .int .i64 (x).st, .int .i64 (x).rev, .bool (x).fin, .int .i64 (x).rk, .int .i64 (x).cnt, .int .i64 (x).sum, .int .i64 (x).mn, .int .i64 (x).mx, .int .i64 (x).q0, .int .i64 (x).q1, .int .i64 (x).q2, .bool (x).over] 63)).drew.cell? ⟨g, o + k * 16 + 6, none⟩ = some (.bool (x).fin) ∧ (W.alloc (.cells #[.int .i64 (x).ep, .string (x).key, .string (x).pol, .int .i64 (x).kd, .int .i64 (x).st, .int .i64 (x).rev, .bool (x).fin, .int .i64 (x).rk, .int .i64 (x).cnt, .int .i64 (x).sum, .int .i64 (x).mn, .int .i64 (x).mx, .int .i64 (x).q0, .int .i64 (x).q1, .int .i64 (x).q2, .bool (x).over] 63)).drew.cell? ⟨g, o + k * 16 + 7, none⟩ = some (.int .i64 (x).rk) ∧ (W.alloc (.cells #[.int .i64 (x).ep, .string (x).key, .string (x).pol, .int .i64 (x).kd, .int .i64 (x).st, .int .i64 (x).rev, .bool (x).fin, .int .i64 (x).rk, .int .i64 (x).cnt, .int .i64 (x).sum, .int .i64 (x).mn, .int .i64 (x).mx, .int .i64 (x).q0, .int .i64 (x).q1, .int .i64 (x).q2, .bool (x).over] 63)).drew.cell? ⟨g, o + k * 16 + 8, none⟩ = some (.int .i64 (x).cnt) ∧ (W.alloc (.cells #[.int .i64 (x).ep, .string (x).key, .string (x).pol, .int .i64 (x).kd, .int .i64 (x).st, .int .i64 (x).rev, .bool (x).fin, .int .i64 (x).rk, .int .i64 (x).cnt, .int .i64 (x).sum, .int .i64 (x).mn, .int .i64 (x).mx, .int .i64 (x).q0, .int .i64 (x).q1, .int .i64 (x).q2, .bool (x).over] 63)).drew.cell? ⟨g, o + k * 16 + 9, none⟩ = some (.int .i64 (x).sum) ∧ (W.alloc (.cells #[.int .i64 (x).ep, .string (x).key, .string (x).pol, .int .i64 (x).kd, .int .i64 (x).st, .int .i64 (x).rev, .bool (x).fin, .int .i64 (x).rk, .int .i64 (x).cnt, .int .i64 (x).sum, .int .i64 (x).mn, .int .i64 (x).mx, .int .i64 (x).q0, .int .i64 (x).q1, .int .i64 (x).q2, .bool (x).over] 63)).drew.cell? ⟨g, o + k * 16 + 10, none⟩ = some (.int .i64 (x).mn) ∧ (W.alloc (.cells #[.int .i64 (x).ep, .string (x).key, .string (x).pol, .int .i64 (x).kd, .int .i64 (x).st, .int .i64 (x).rev, .bool (x).fin, .int .i64 (x).rk, .int .i64 (x).cnt, .int .i64 (x).sum, .int .i64 (x).mn, .int .i64 (x).mx, .int .i64 (x).q0, .int .i64 (x).q1, .int .i64 (x).q2, .bool (x).over] 63)).drew.cell? ⟨g, o + k * 16 + 11, none⟩ = some (.int .i64 (x).mx) ∧ (W.alloc (.cells #[.int .i64 (x).ep, .string (x).key, .string (x).pol, .int .i64 (x).kd, .int .i64 (x).st, .int .i64 (x).rev, .bool (x).fin, .int .i64 (x).rk, .int .i64 (x).cnt, .int .i64 (x).sum, .int .i64 (x).mn, .int .i64 (x).mx, .int .i64 (x).q0, .int .i64 (x).q1, .int .i64 (x).q2, .bool (x).over] 63)).drew.cell? ⟨g, o + k * 16 + 12, none⟩ = some (.int .i64 (x).q0) ∧ (W.alloc (.cells #[.int .i64 (x).ep, .string (x).key, .string (x).pol, .int .i64 (x).kd, .int .i64 (x).st, .int .i64 (x).rev, .bool (x).fin, .int .i64 (x).rk, .int .i64 (x).cnt, .int .i64 (x).sum, .int .i64 (x).mn, .int .i64 (x).mx, .int .i64 (x).q0, .int .i64 (x).q1, .int .i64 (x).q2, .bool (x).over] 63)).drew.cell? ⟨g, o + k * 16 + 13, none⟩ = some (.int .i64 (x).q1) ∧ (W.alloc (.cells #[.int .i64 (x).ep, .string (x).key, .string (x).pol, .int .i64 (x).kd, .int .i64 (x).st, .int .i64 (x).rev, .bool (x).fin, .int .i64 (x).rk, .int .i64 (x).cnt, .int .i64 (x).sum, .int .i64 (x).mn, .int .i64 (x).mx, .int .i64 (x).q0, .int .i64 (x).q1, .int .i64 (x).q2, .bool (x).over] 63)).drew.cell? ⟨g, o + k * 16 + 14, none⟩ = some (.int .i64 (x).q2) ∧ (W.alloc (.cells #[.int .i64 (x).ep, .string (x).key, .string (x).pol, .int .i64 (x).kd, .int .i64 (x).st, .int .i64 (x).rev, .bool (x).fin, .int .i64 (x).rk, .int .i64 (x).cnt, .int .i64 (x).sum, .int .i64 (x).mn, .int .i64 (x).mx, .int .i64 (x).q0, .int .i64 (x).q1, .int .i64 (x).q2, .bool (x).over] 63)).drew.cell? ⟨g, o + k * 16 + 15, none⟩ = some (.bool (x).over)) := ⟨(hok.upd ux id).cell0, (hn.upd ux id).cell0, (hl.upd ux id).cell0, ⟨xb.cell 0, xb.cell 1, xb.cell 2, xb.cell 3, xb.cell 4, xb.cell 5, xb.cell 6, xb.cell 7, xb.cell 8, xb.cell 9, xb.cell 10, xb.cell 11, xb.cell 12, xb.cell 13, xb.cell 14, xb.cell 15⟩, ⟨a0, a1, a2, a3, a4, a5, a6, a7, a8, a9, a10, a11, a12, a13, a14, a15⟩⟩
  have uy := Upd.alloc (fun _ => False) W (.cells #[.int .i64 (x).ep, .string (x).key, .string (x).pol, .int .i64 (x).kd, .int .i64 (x).st, .int .i64 (x).rev, .bool (x).fin, .int .i64 (x).rk, .int .i64 (x).cnt, .int .i64 (x).sum, .int .i64 (x).mn, .int .i64 (x).mx, .int .i64 (x).q0, .int .i64 (x).q1, .int .i64 (x).q2, .bool (x).over] 63)
  have nok := hok.upd uy id
  have nn := hn.upd uy id
  have nm := hm.upd uy id
  have f1' := nok.frozen 0
  have l1' := nok.lt
  have hux : Upd (fun j => j = bok ∨ j = bn) W (W.alloc (.cells #[.int .i64 (x).ep, .string (x).key, .string (x).pol, .int .i64 (x).kd, .int .i64 (x).st, .int .i64 (x).rev, .bool (x).fin, .int .i64 (x).rk, .int .i64 (x).cnt, .int .i64 (x).sum, .int .i64 (x).mn, .int .i64 (x).mx, .int .i64 (x).q0, .int .i64 (x).q1, .int .i64 (x).q2, .bool (x).over] 63)) := uy.mono fun _ _ h => h.elim
  clear a0 a1 a2 a3 a4 a5 a6 a7 a8 a9 a10 a11 a12 a13 a14 a15 xb hcs ux
  have hw : IntKind.i64.wrap ((k : Int) + 1) = (k : Int) + 1 := Go.IntWalk.i64_in _ ⟨by omega, by omega⟩
  clear hr hx
  have q1 : ∀ w, (binOp .eql 61 (.agg #[.int .i64 (x).ep, .string (x).key, .string (x).pol, .int .i64 (x).kd, .int .i64 (x).st, .int .i64 (x).rev, .bool (x).fin, .int .i64 (x).rk, .int .i64 (x).cnt, .int .i64 (x).sum, .int .i64 (x).mn, .int .i64 (x).mx, .int .i64 (x).q0, .int .i64 (x).q1, .int .i64 (x).q2, .bool (x).over]) (.agg #[.int .i64 (x).ep, .string (x).key, .string (x).pol, .int .i64 (x).kd, .int .i64 (x).st, .int .i64 (x).rev, .bool (x).fin, .int .i64 (x).rk, .int .i64 (x).cnt, .int .i64 (x).sum, .int .i64 (x).mn, .int .i64 (x).mx, .int .i64 (x).q0, .int .i64 (x).q1, .int .i64 (x).q2, .bool (x).over])).run Try.prog w = .ok (.bool true) w := fun w => by rw [eqlE1]; simp
  have q2 := guardE
  refine callsIn_of_wp Try.func31 rfl trivial ?_
  simp only [Try.ntmps31, List.size_toArray, List.length_cons, List.length_nil, Nat.reduceAdd, Nat.reduceSub, Array.replicate_succ, Array.replicate_zero, List.push_toArray, List.append_toArray, List.nil_append, List.cons_append]
  gi_wp2
  refine wpIn_planE (.fl 0 (.fl 1 (.fl 2 (.fl 3 (.fl 4 (.fl 5 (.fl 6 (.fl 7 (.fl 8 (.fl 9 (.fl 10 (.fl 11 (.fl 12 (.fl 13 (.fl 14 (.ef 15 .done)))))))))))))))) 15 (fun V => V.cell? ⟨bok, 0, none⟩ = some (.bool true) ∧ V.cell? ⟨bn, 0, none⟩ = some (.int .i64 k) ∧ V.cell? ⟨bl, 0, none⟩ = some (.slice (some ⟨g, o, none⟩) xs.length cap) ∧ (V.cell? ⟨W.heap.size, 0, none⟩ = some (.int .i64 (x).ep) ∧ V.cell? ⟨W.heap.size, 1, none⟩ = some (.string (x).key) ∧ V.cell? ⟨W.heap.size, 2, none⟩ = some (.string (x).pol) ∧ V.cell? ⟨W.heap.size, 3, none⟩ = some (.int .i64 (x).kd) ∧ V.cell? ⟨W.heap.size, 4, none⟩ = some (.int .i64 (x).st) ∧ V.cell? ⟨W.heap.size, 5, none⟩ = some (.int .i64 (x).rev) ∧ V.cell? ⟨W.heap.size, 6, none⟩ = some (.bool (x).fin) ∧ V.cell? ⟨W.heap.size, 7, none⟩ = some (.int .i64 (x).rk) ∧ V.cell? ⟨W.heap.size, 8, none⟩ = some (.int .i64 (x).cnt) ∧ V.cell? ⟨W.heap.size, 9, none⟩ = some (.int .i64 (x).sum) ∧ V.cell? ⟨W.heap.size, 10, none⟩ = some (.int .i64 (x).mn) ∧ V.cell? ⟨W.heap.size, 11, none⟩ = some (.int .i64 (x).mx) ∧ V.cell? ⟨W.heap.size, 12, none⟩ = some (.int .i64 (x).q0) ∧ V.cell? ⟨W.heap.size, 13, none⟩ = some (.int .i64 (x).q1) ∧ V.cell? ⟨W.heap.size, 14, none⟩ = some (.int .i64 (x).q2) ∧ V.cell? ⟨W.heap.size, 15, none⟩ = some (.bool (x).over)) ∧ (V.cell? ⟨g, o + k * 16, none⟩ = some (.int .i64 (x).ep) ∧ V.cell? ⟨g, o + k * 16 + 1, none⟩ = some (.string (x).key) ∧ V.cell? ⟨g, o + k * 16 + 2, none⟩ = some (.string (x).pol) ∧ V.cell? ⟨g, o + k * 16 + 3, none⟩ = some (.int .i64 (x).kd) ∧ V.cell? ⟨g, o + k * 16 + 4, none⟩ = some (.int .i64 (x).st) ∧ V.cell? ⟨g, o + k * 16 + 5, none⟩ = some (.int .i64 (x).rev) ∧ V.cell? ⟨g, o + k * 16 + 6, none⟩ = some (.bool (x).fin) ∧ V.cell? ⟨g, o + k * 16 + 7, none⟩ = some (.int .i64 (x).rk) ∧ V.cell? ⟨g, o + k * 16 + 8, none⟩ = some (.int .i64 (x).cnt) ∧ V.cell? ⟨g, o + k * 16 + 9, none⟩ = some (.int .i64 (x).sum) ∧ V.cell? ⟨g, o + k * 16 + 10, none⟩ = some (.int .i64 (x).mn) ∧ V.cell? ⟨g, o + k * 16 + 11, none⟩ = some (.int .i64 (x).mx) ∧ V.cell? ⟨g, o + k * 16 + 12, none⟩ = some (.int .i64 (x).q0) ∧ V.cell? ⟨g, o + k * 16 + 13, none⟩ = some (.int .i64 (x).q1) ∧ V.cell? ⟨g, o + k * 16 + 14, none⟩ = some (.int .i64 (x).q2) ∧ V.cell? ⟨g, o + k * 16 + 15, none⟩ = some (.bool (x).over))) (by kernel_rfl) (by kernel_rfl) hh ?_
  repeat (first | (refine wpU_fl rfl rfl (fun _ _ => rfl) ?_; go_simp) | (refine wpU_fl (v := ?_) rfl rfl ?_ ?_; rotate_left; (intro W' h'; (try dsimp only at h'); go_simp; exact rfl); go_simp) | (refine wpU_ef rfl ?_; (go_simp; gi_wp2_with (first | refine (⟨trivial, rfl, ?_⟩ : Fence.wide.fn _ ∧ Fence.wide.depth = none ∧ _) | refine (⟨trivial, trivial, rfl, ?_⟩ : Fence.wide.fn _ ∧ Fence.wide.fn _ ∧ Fence.wide.depth = none ∧ _) | refine (⟨trivial, ?_⟩ : Fence.wide.fn _ ∧ _)); (first | refine ⟨by first | trivial | exact .inl rfl | exact True.intro | exact .inr (True.intro), ?_⟩ | skip))))
  (first | refine wpU_nil ?_ | skip)
  obtain ⟨V, hV⟩ : ∃ V, W.alloc (.cells #[.int .i64 (x).ep, .string (x).key, .string (x).pol, .int .i64 (x).kd, .int .i64 (x).st, .int .i64 (x).rev, .bool (x).fin, .int .i64 (x).rk, .int .i64 (x).cnt, .int .i64 (x).sum, .int .i64 (x).mn, .int .i64 (x).mx, .int .i64 (x).q0, .int .i64 (x).q1, .int .i64 (x).q2, .bool (x).over] 63) = V := ⟨_, rfl⟩
  rw [hV] at nok nn nm f1' l1' hux ⊢
  have hh1 := nok.cell0
  have hh2 := nn.cell0
  have n5 := nm.cell0
  have y3 := nn.frozen 0
  have y4 := nn.lt
  clear hV q1 q2 hok hn hl hm c1 c3 c4 c5 f1 f3 hh uy
  gi_wp2
  go_ret
  refine ⟨_, rfl, rfl, ?_, ?_, ?_⟩
  · exact ((nok.set 0 _).upd (Upd.drew (fun _ => False) _) id).other (p := ⟨bn, 0, none⟩) d2 _
  · exact ((nn.other (p := ⟨bok, 0, none⟩) d2.symm _).upd (Upd.drew (fun _ => False) _) id).set 0 _
  · exact (hux.stepSet (.inl (.inl rfl)) _).stepDrew.stepSet (.inl (.inr rfl)) _
/-- What goes' closure keeps: ok, n. -/
def GoesRep (bok bn : Nat) : Nat → (Nat → Prop) → World → Prop := fun n S W =>
  (∀ k, k = bok ∨ k = bn → S k) ∧ Blk W bok #[.bool true] 4 ∧ Blk W bn #[.int .i64 (n : Nat)] 3

set_option maxRecDepth 100000 in
set_option maxHeartbeats 1000000 in
theorem goes_c {n : Nat} {fk : FuncId} {fc : Array Value} {D : Nat → Prop} {w : World} {A : Option Addr} {cap : Nat} {xs : List VCE} {most : Int} {m : Nat}
    (hseq : SeqO Try.prog (.func (.func fk) #[] fc) encV (xs.map fun x => ((), x)) () () (fun _ _ => True) (fun _ => False) D w) (hm : m = xs.length) (hr : Reads1 w A (flatE xs)) (hlen : xs.length ≤ 100000) :
    CallsIn Fence.wide n Try.prog 14 #[.func (.func fk) #[] fc, .slice A m cap, .int .i64 most] w
      (fun e w' => e = .returned (.bool true) ∧ Upd (fun _ => False) w w') := by
  subst hm
  refine callsIn_any (n := 0) ?_
  refine callsIn_of_wp Try.func14 rfl trivial ?_
  simp only [Try.ntmps14, List.size_toArray, List.length_cons, List.length_nil, Nat.reduceAdd, Nat.reduceSub, Array.replicate_succ, Array.replicate_zero, List.push_toArray, List.append_toArray, List.nil_append, List.cons_append]
  have hrun : CallV Try.prog (.func (.func fk) #[] fc) #[.func (.func 31) #[] #[.pointer (some ⟨w.heap.size + 1 + 1 + 1, 0, none⟩), .pointer (some ⟨w.heap.size + 1 + 1, 0, none⟩), .pointer (some ⟨w.heap.size, 0, none⟩), .pointer (some ⟨w.heap.size + 1, 0, none⟩)]]
      ((((w.alloc (.cells #[.slice A xs.length cap] 31)).alloc (.cells #[.int .i64 most] 3)).alloc (.cells #[.int .i64 0] 3)).alloc (.cells #[.bool true] 4))
      (fun _ W' => ∃ N : Nat, (N : Int) = min (xs.length : Int) (max most 1) ∧ Blk W' (w.heap.size + 1 + 1 + 1) #[.bool true] 4 ∧ Blk W' (w.heap.size + 1 + 1) #[.int .i64 (N : Nat)] 3 ∧ Blk W' w.heap.size #[.slice A xs.length cap] 31 ∧ Blk W' (w.heap.size + 1) #[.int .i64 most] 3 ∧ Upd (fun _ => False) w W') := by
    have b0 := (((Blk.new w #[.slice A xs.length cap] 31).alloc (.cells #[.int .i64 most] 3)).alloc (.cells #[.int .i64 0] 3)).alloc (.cells #[.bool true] 4)
    have b1 := ((Blk.new (w.alloc (.cells #[.slice A xs.length cap] 31)) #[.int .i64 most] 3).alloc (.cells #[.int .i64 0] 3)).alloc (.cells #[.bool true] 4)
    have b2 := (Blk.new ((w.alloc (.cells #[.slice A xs.length cap] 31)).alloc (.cells #[.int .i64 most] 3)) #[.int .i64 0] 3).alloc (.cells #[.bool true] 4)
    have b3 := Blk.new (((w.alloc (.cells #[.slice A xs.length cap] 31)).alloc (.cells #[.int .i64 most] 3)).alloc (.cells #[.int .i64 0] 3)) #[.bool true] 4
    have u0 : Upd (fun _ => False) w ((((w.alloc (.cells #[.slice A xs.length cap] 31)).alloc (.cells #[.int .i64 most] 3)).alloc (.cells #[.int .i64 0] 3)).alloc (.cells #[.bool true] 4)) := ((((Upd.refl _ w).stepAlloc _).stepAlloc _).stepAlloc _).stepAlloc _
    have z5 : ((((w.alloc (.cells #[.slice A xs.length cap] 31)).alloc (.cells #[.int .i64 most] 3)).alloc (.cells #[.int .i64 0] 3)).alloc (.cells #[.bool true] 4)).heap.size = w.heap.size + 4 := by simp
    simp only [World.size_alloc] at b1 b2 b3
    generalize ((((w.alloc (.cells #[.slice A xs.length cap] 31)).alloc (.cells #[.int .i64 most] 3)).alloc (.cells #[.int .i64 0] 3)).alloc (.cells #[.bool true] 4)) = W0 at *
    have hDw : ∀ k, D k → k < w.heap.size := fun k hk => (hseq.dlt k hk).1
    have hne : ∀ k, k < w.heap.size + 2 → ¬ (k = w.heap.size + 1 + 1 + 1 ∨ k = w.heap.size + 1 + 1) := by rintro k h1 (h | h) <;> omega
    refine (feed (S0 := fun k => k = w.heap.size + 1 + 1 + 1 ∨ k = w.heap.size + 1 + 1) (step := goStep most) (Rep := GoesRep (w.heap.size + 1 + 1 + 1) (w.heap.size + 1 + 1)) (s0 := 0) hseq (by omega) (u0.agree fun k hk => ⟨hDw k hk, id⟩) ?_ ?_ ⟨fun _ h => h, b3, by simpa using b2⟩ ?_).mono ?_
    · rintro k (rfl | rfl) <;> refine ⟨by omega, fun h => ?_⟩ <;> (have := hDw _ h; omega)
    · rintro n S W1 W2 ⟨h1, h2, h3⟩ hA _
      exact ⟨h1, h2.agree hA (h1 _ (.inl rfl)), h3.agree hA (h1 _ (.inr rfl))⟩
    · rintro pre x suf s1 S1 W1 he hgo ⟨h1, h2, h3⟩ hu hS1
      have e1 := goStep_go most pre 0 s1 hgo
      have hk : s1 < xs.length := by rw [he, e1]; simp
      have hx : xs[s1] = x := by simp only [he]; rw [List.getElem_append_right (by omega)]; simp [e1]
      have hrW := hr.agree' (w' := W1) ((u0.agree (fun k hk => ⟨hr.lt' k hk, id⟩)).trans (hu.agree (fun k hk => ⟨by have := hr.lt' k hk; omega, hne k (by have := hr.lt' k hk; omega)⟩)))
      refine (goes1 h2 h3 (b0.upd hu (hne _ (by omega))) (b1.upd hu (hne _ (by omega))) hk hlen hrW hx (by omega) (by omega) (by omega) (by omega) (by omega)).mono ?_
      rintro v W2 ⟨rfl, g1, g3, g4⟩
      exact ⟨S1, rfl, ⟨h1, g1, g3⟩, g4.mono (fun k _ hk => h1 k hk), fun k hk => ⟨by have := (hS1 k hk).1; have := g4.size; omega, .inl hk⟩⟩
    · rintro v W' ⟨S', ⟨h1, h2, h3⟩, hu, hS'⟩
      refine ⟨(goF (goStep most) 0 xs).1, ?_, h2, h3, b0.upd hu (hne _ (by omega)), b1.upd hu (hne _ (by omega)), (u0.trans hu fun k hk => ?_)⟩
      · rw [goStep_end most _ 0 (by simp; omega)]; simp
      · rcases hk with h | h <;> exact .inr (by omega)
  clear hseq hr
  replace hrun := Lib.hid hrun
  by_cases h1 : most < 1 <;> by_cases h2 : (xs.length : Int) ≤ max most 1
  all_goals
    replace h2 := Lib.hid h2
    gi_wp2_with ((with_reducible refine listV1 hrun.out ?_ ?_ ?_); rfl; rfl; rintro v W' ⟨N, hN, c1, c2, c3, c4, hu⟩; (replace hN := Lib.hid hN); (replace c1 := c1.cell0); (replace c2 := c2.cell0); (replace c3 := c3.cell0); (replace c4 := c4.cell0))
    all_goals
      refine bodyPost_ret (results_tmp rfl _ _ _) rfl ⟨?_, hu⟩
      have hN' := hN.out
      have h2' := h2.out
      refine congrArg (fun b => Ending.returned (Value.bool b)) ?_
      simp only [beq_iff_eq]
      omega

end Go.Proofs.Ytadeechoknpjhaa

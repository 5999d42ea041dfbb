/- silo: All as a sequence. -/
import Derived.Test.YtadeechoknpjhaaProg
import Derived.Test.YtadeechoknpjhaaBase
import Derived.Test.YtadeechoknpjhaaSlF
import Derived.Test.YtadeechoknpjhaaEach
set_option linter.unusedSimpArgs false
set_option linter.unusedVariables false
namespace Go.Proofs.Ytadeechoknpjhaa
open Go.RowKit Go.Shelf
attribute [local go_sem] Oper.semAt_some

/-- A silo whose entries are vs. -/
abbrev SiloV (sb : Nat) (f : Int) (vs : List VCE) (F : Nat → Prop) (W : World) : Prop := SiloI sb f (vs.map prE) F W
abbrev trA (x : KCE × VCE) : Option VCE × Bool := (some x.2, true)
theorem outs_trA : ∀ (s : List VCE), outsE trA (s.map prE) = s
  | [] => rfl
  | x :: s => by
    have := outs_trA s
    simp only [List.map_cons, outsE, trA, prE, Option.toList_some, if_true, List.cons_append, List.nil_append] at this ⊢
    rw [this]
section
variable {sb : Nat} {f : Int} {vs : List VCE} {F : Nat → Prop} {W w : World}
theorem siloAll_c {n : Nat} : CallsIn Fence.wide n Try.prog 24 #[.pointer (some ⟨sb, 0, none⟩)] W fun e W2 => ∃ bs, e = .returned (.func (.func 37) #[] #[.pointer (some ⟨bs, 0, none⟩)]) ∧
    Blk W2 bs #[.pointer (some ⟨sb, 0, none⟩)] 27 ∧ W.heap.size ≤ bs ∧ Upd (fun _ => False) W W2 := by
  refine callsIn_any (n := 0) (callsIn_of_wp Try.func24 rfl trivial ?_)
  simp only [Try.ntmps24, List.size_toArray, List.length_cons, List.length_nil, Nat.reduceAdd, Nat.reduceSub, Array.replicate_succ, Array.replicate_zero, List.push_toArray, List.append_toArray, List.nil_append, List.cons_append]
  gi_wp2_with (first | refine (⟨trivial, rfl, ?_⟩ : Fence.wide.fn _ ∧ Fence.wide.depth = none ∧ _) | refine (⟨trivial, ?_⟩ : Fence.wide.fn _ ∧ _))
  go_ret
  exact ⟨_, rfl, Blk.new _ _ _, Nat.le_refl _, Upd.alloc _ _ _⟩
set_option maxRecDepth 100000 in
set_option maxHeartbeats 4000000 in
theorem allSilo (h : SiloV sb f vs F w) {bs : Nat} (hbs : Blk w bs #[.pointer (some ⟨sb, 0, none⟩)] 27) :
    SeqO Try.prog (.func (.func 37) #[] #[.pointer (some ⟨bs, 0, none⟩)]) encV (vs.map fun x => ((), x)) () () (fun _ _ => True) (fun _ => False) (fun j => j = bs ∨ F j) w where
  fn := ⟨_, _, rfl⟩
  dlt := by
    rintro j (rfl | hj)
    · exact ⟨hbs.lt, id⟩
    · exact ⟨h.lt j hj, id⟩
  elt := fun _ h => h.elim
  stable := fun _ _ _ _ _ => trivial
  run := by
    intro σ step Rep y s S W hx _
    have ee : (vs.map fun x => ((), x)).map (·.2) = vs := by simp [Function.comp_def]
    rw [ee] at hx ⊢
    refine CallV.of_calls (n := 0) (enters_of Try.func37 (by kernel_rfl) rfl) ?_
    obtain ⟨yf, ya, yc, rfl⟩ := hx.shape
    have hag := hx.agree
    have hW := h.agree (hag.mono fun j hj => .inr hj)
    have nbs := hbs.agree hag (.inl rfl)
    have hDW : ∀ j, (j = bs ∨ F j) → j < W.heap.size := by
      rintro j (rfl | hj)
      · exact nbs.lt
      · exact hW.lt j hj
    have hown := hx.own
    have hu0 : Upd (fun _ => False) W (W.alloc (.cells #[.func yf ya yc] 64)) := Upd.alloc _ _ _
    have hy0 := Blk.new W #[.func yf ya yc] 64
    have c0 := (nbs.upd hu0 id).cell0
    have hW1 := hW.upd hu0 fun _ _ => id
    obtain ⟨q, t, g1, g2, g3, g4⟩ := id hW1
    have c2 : (W.alloc (.cells #[.func yf ya yc] 64)).cell? ⟨sb, 1, none⟩ = some (.pointer (some ⟨q, 0, none⟩)) := g1.cell 1
    have k1 := (rackAllCE (n := 0) (rb := q) (w := W.alloc (.cells #[.func yf ya yc] 64))).mono (R' := fun e W3 => ∃ br, e = .returned (.func (.func 51) #[] #[.pointer (some ⟨br, 0, none⟩)]) ∧ W.heap.size < br ∧ br < W3.heap.size ∧ Upd (fun _ => False) W W3 ∧ Blk W3 W.heap.size #[.func yf ya yc] 64 ∧
        SeqO Try.prog (.func (.func 51) #[] #[.pointer (some ⟨br, 0, none⟩)]) encCE ((vs.map prE).map fun x => ((), x)) () () (fun _ _ => True) (fun _ => False) (fun j => j = br ∨ j = q ∨ t.has j) W3) (by
      rintro e W3 ⟨br, rfl, q1, q2, q3⟩
      have hz1 := hy0.lt
      exact ⟨br, rfl, by omega, q1.lt, hu0.trans' q3, hy0.upd q3 id, allSeqCE (g2.upd q3 fun _ _ => id) q1⟩)
    have hDq : ∀ j, (j = q ∨ t.has j) → F j := fun j hj => (g3 j).2 (.inr hj)
    replace k1 := Lib.hid k1
    replace hu0 := Lib.hid hu0
    clear h hW hW1 hbs ee g1 g2 g3 g4
    refine callsIn_of_wp_marks Try.func37 rfl trivial ?_
    simp only [Try.ntmps37, List.size_toArray, List.length_cons, List.length_nil, Nat.reduceAdd, Nat.reduceSub, Array.replicate_succ, Array.replicate_zero, List.push_toArray, List.append_toArray, List.nil_append, List.cons_append]
    replace hx := Lib.hid hx
    gi_wp2_with (first | refine (⟨trivial, rfl, ?_⟩ : Fence.wide.fn _ ∧ Fence.wide.depth = none ∧ _) | (gi_at_call 38; (with_reducible refine k1.out.mono ?_); rintro e W3 ⟨br, rfl, hbr, hbl, hu3, hy3, hseq⟩; (replace hseq := Lib.hid hseq); (replace hu3 := Lib.hid hu3); (replace hy3 := Lib.hid hy3)) | refine (⟨trivial, ?_⟩ : Fence.wide.fn _ ∧ _))
    refine trans_each (fn := Try.f37) trA (D' := fun j => j = br ∨ j = W.heap.size ∨ (j = bs ∨ F j)) hseq.out hx.out hu3.out ?hDD ?hD' ?hDS (outs_trA vs).symm rfl (fun _ => rfl) rfl rfl (fun _ _ h => h) ?hQ ?hround
    case hDD =>
      rintro j (h | h)
      · exact .inl h
      · exact .inr (.inr (.inr (hDq j h)))
    case hD' =>
      have hz := hy3.out.lt
      rintro j (h | h | h)
      · omega
      · omega
      · have := hDW j h; omega
    case hDS =>
      intro j hj
      have h1 := hown j hj
      rintro (h | h | h)
      · omega
      · omega
      · exact h1.2.1 h
    case hQ =>
      intro a' W' h
      exact ⟨h, h⟩
    case hround =>
      intro lb x W1 hlb hlW hxl hsz hA
      obtain ⟨kk, v⟩ := x
      clear hx hseq k1
      gi_wp2
      refine ⟨Upd.alloc _ _ _, ?_⟩
      intro Wb M Next Stop hub hbs hrec hE
      have xb := (Blk.new W1 #[.int .i64 (v).ep, .string (v).key, .string (v).pol, .int .i64 (v).kd, .int .i64 (v).st, .int .i64 (v).rev, .bool (v).fin, .int .i64 (v).rk, .int .i64 (v).cnt, .int .i64 (v).sum, .int .i64 (v).mn, .int .i64 (v).mx, .int .i64 (v).q0, .int .i64 (v).q1, .int .i64 (v).q2, .bool (v).over] 63).upd hub (by omega)
      have hx : Wb.cell? ⟨W1.heap.size, 0, none⟩ = some (.int .i64 (v).ep) ∧ Wb.cell? ⟨W1.heap.size, 1, none⟩ = some (.string (v).key) ∧ Wb.cell? ⟨W1.heap.size, 2, none⟩ = some (.string (v).pol) ∧ Wb.cell? ⟨W1.heap.size, 3, none⟩ = some (.int .i64 (v).kd) ∧ Wb.cell? ⟨W1.heap.size, 4, none⟩ = some (.int .i64 (v).st) ∧ Wb.cell? ⟨W1.heap.size, 5, none⟩ = some (.int .i64 (v).rev) ∧ Wb.cell? ⟨W1.heap.size, 6, none⟩ = some (.bool (v).fin) ∧ Wb.cell? ⟨W1.heap.size, 7, none⟩ = some (.int .i64 (v).rk) ∧ Wb.cell? ⟨W1.heap.size, 8, none⟩ = some (.int .i64 (v).cnt) ∧ Wb.cell? ⟨W1.heap.size, 9, none⟩ = some (.int .i64 (v).sum) ∧ Wb.cell? ⟨W1.heap.size, 10, none⟩ = some (.int .i64 (v).mn) ∧ Wb.cell? ⟨W1.heap.size, 11, none⟩ = some (.int .i64 (v).mx) ∧ Wb.cell? ⟨W1.heap.size, 12, none⟩ = some (.int .i64 (v).q0) ∧ Wb.cell? ⟨W1.heap.size, 13, none⟩ = some (.int .i64 (v).q1) ∧ Wb.cell? ⟨W1.heap.size, 14, none⟩ = some (.int .i64 (v).q2) ∧ Wb.cell? ⟨W1.heap.size, 15, none⟩ = some (.bool (v).over) := ⟨xb.cell 0, xb.cell 1, xb.cell 2, xb.cell 3, xb.cell 4, xb.cell 5, xb.cell 6, xb.cell 7, xb.cell 8, xb.cell 9, xb.cell 10, xb.cell 11, xb.cell 12, xb.cell 13, xb.cell 14, xb.cell 15⟩
      have hyb := hy3.out.agree hE.agree (.inr (.inl rfl))
      have cy := hyb.cell0
      have hz := hE.yield v rfl Wb (Upd.refl _ _)
      replace hz := Lib.hid hz
      replace hE := Lib.hid hE
      replace hyb := Lib.hid hyb
      clear hub hrec xb
      obtain ⟨x0, x1, x2, x3, x4, x5, x6, x7, x8, x9, x10, x11, x12, x13, x14, x15⟩ := hx
      gi_wp2_with (first | ((with_reducible refine listV1 hz.out ?_ ?_ ?_); rfl; rfl; rintro v W4 ⟨b, rfl, hm, hn, hs⟩; (replace hn := Lib.hid hn); (replace hs := Lib.hid hs); cases b))
      · exact hs.out (.inl (by first | rfl | trivial))
      · exact hn.out (by first | rfl | trivial) (by first | rfl | trivial)
end
end Go.Proofs.Ytadeechoknpjhaa

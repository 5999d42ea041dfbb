/- silo: compare is the order of cells. -/
import Derived.Test.YtadeechoknpjhaaProg
import Derived.Test.YtadeechoknpjhaaBase
import Derived.Test.YtadeechoknpjhaaSlP
set_option linter.unusedSimpArgs false
set_option linter.unusedVariables false
namespace Go.Proofs.Ytadeechoknpjhaa
open Go.RowKit Go.Shelf
attribute [local go_sem] Oper.semAt_some

theorem reads4 {V : World} {T : TypeId} {x y z u : Int} : Reads1 (V.alloc (.cells #[.int .i64 x, .int .i64 y, .int .i64 z, .int .i64 u] T)) (some ⟨V.heap.size, 0, none⟩) (intsV [x, y, z, u]) := fun i v hv => by
  have b := Blk.new V #[.int .i64 x, .int .i64 y, .int .i64 z, .int .i64 u] T
  refine ⟨_, rfl, ?_⟩
  rw [add_plain', Nat.zero_add]
  match i with
  | 0 => cases hv; exact b.cell 0
  | 1 => cases hv; exact b.cell 1
  | 2 => cases hv; exact b.cell 2
  | 3 => cases hv; exact b.cell 3
  | i + 4 => simp [intsV] at hv
theorem or4_c {n : Nat} {A : Option Addr} {cap : Nat} {x y z u : Int} {W : World} (hr : Reads1 W A (intsV [x, y, z, u])) : CallsIn Fence.wide n Try.prog 39 #[.slice A 4 cap] W fun e W2 => e = .returned (.int .i64 (firstNZ [x, y, z, u])) ∧ Upd (fun _ => False) W W2 := or_c (s := [x, y, z, u]) hr (by simp)
theorem cmpC_first (a b : KCE) : cmpC a b = firstNZ [cmpS a.1 b.1, cmpS a.2.1 b.2.1, cmpI a.2.2.1 b.2.2.1, cmpI a.2.2.2 b.2.2.2] := by
  simp only [cmpC, lexO, firstNZ]
  (repeat' split) <;> simp_all
set_option maxRecDepth 100000 in
set_option maxHeartbeats 4000000 in
theorem compare_c {n : Nat} {a b : KCE} {W : World} : CallsIn Fence.wide n Try.prog 26 #[ekCE a, ekCE b] W fun e W2 => e = .returned (.int .i64 (cmpC a b)) ∧ Upd (fun _ => False) W W2 := by
  obtain ⟨a0, a1, a2, a3⟩ := a
  obtain ⟨b0, b1, b2, b3⟩ := b
  have u2 := ((Upd.refl (fun _ => False) W).stepAlloc (.cells #[.string a0, .string a1, .int .i64 a2, .int .i64 a3] 24)).stepAlloc (.cells #[.string b0, .string b1, .int .i64 b2, .int .i64 b3] 24)
  have ba := (Blk.new W #[.string a0, .string a1, .int .i64 a2, .int .i64 a3] 24).alloc (.cells #[.string b0, .string b1, .int .i64 b2, .int .i64 b3] 24)
  have bb := Blk.new (W.alloc (.cells #[.string a0, .string a1, .int .i64 a2, .int .i64 a3] 24)) #[.string b0, .string b1, .int .i64 b2, .int .i64 b3] 24
  rw [World.size_alloc] at bb
  rw [cmpC_first]
  simp only
  generalize hW : (W.alloc (.cells #[.string a0, .string a1, .int .i64 a2, .int .i64 a3] 24)).alloc (.cells #[.string b0, .string b1, .int .i64 b2, .int .i64 b3] 24) = W0 at *
  have hcell := Lib.hid fun V (u : Upd (fun _ => False) W0 V) => (⟨⟨(ba.upd u id).cell 0, (ba.upd u id).cell 1, (ba.upd u id).cell 2, (ba.upd u id).cell 3⟩, (bb.upd u id).cell 0, (bb.upd u id).cell 1, (bb.upd u id).cell 2, (bb.upd u id).cell 3⟩ :
    (V.cell? ⟨W.heap.size, 0, none⟩ = some (.string a0) ∧ V.cell? ⟨W.heap.size, 1, none⟩ = some (.string a1) ∧ V.cell? ⟨W.heap.size, 2, none⟩ = some (.int .i64 a2) ∧ V.cell? ⟨W.heap.size, 3, none⟩ = some (.int .i64 a3)) ∧
      V.cell? ⟨W.heap.size + 1, 0, none⟩ = some (.string b0) ∧ V.cell? ⟨W.heap.size + 1, 1, none⟩ = some (.string b1) ∧ V.cell? ⟨W.heap.size + 1, 2, none⟩ = some (.int .i64 b2) ∧ V.cell? ⟨W.heap.size + 1, 3, none⟩ = some (.int .i64 b3))
  clear ba bb
  refine callsIn_any (n := 0) (callsIn_of_wp Try.func26 rfl trivial ?_)
  simp only [Try.ntmps26, List.size_toArray, List.length_cons, List.length_nil, Nat.reduceAdd, Nat.reduceSub, Array.replicate_succ, Array.replicate_zero, List.push_toArray, List.append_toArray, List.nil_append, List.cons_append]
  have hu := (Upd.refl (fun _ => False) W0).stepDrew
  have hh := hcell.out _ hu
  gi_wp2
  refine wpIn_eager [(0, true), (1, true), (2, true), (3, true), (5, true), (6, true), (7, true), (8, true), (10, true), (11, true), (12, true), (13, true), (15, true), (16, true), (17, true), (18, true), (4, false), (9, false), (14, false), (19, false), (20, false), (21, false), (22, true)] (fun V => (V.cell? ⟨W.heap.size, 0, none⟩ = some (.string a0) ∧ V.cell? ⟨W.heap.size, 1, none⟩ = some (.string a1) ∧ V.cell? ⟨W.heap.size, 2, none⟩ = some (.int .i64 a2) ∧ V.cell? ⟨W.heap.size, 3, none⟩ = some (.int .i64 a3)) ∧ V.cell? ⟨W.heap.size + 1, 0, none⟩ = some (.string b0) ∧ V.cell? ⟨W.heap.size + 1, 1, none⟩ = some (.string b1) ∧ V.cell? ⟨W.heap.size + 1, 2, none⟩ = some (.int .i64 b2) ∧ V.cell? ⟨W.heap.size + 1, 3, none⟩ = some (.int .i64 b3)) (by kernel_rfl) (by kernel_rfl) hh ?_
  repeat (first | (refine wpE_fl rfl rfl (fun _ _ => rfl) ?_; go_simp) | (refine wpE_sk rfl rfl ?_; go_simp) | (refine wpE_fl (v := ?_) rfl rfl ?_ ?_; rotate_left; (intro W' h'; (try dsimp only at h'); go_simp; exact rfl); go_simp) | (refine wpE_ef rfl ?_; go_simp; gi_wp2_with (first | refine (⟨trivial, rfl, ?_⟩ : Fence.wide.fn _ ∧ Fence.wide.depth = none ∧ _) | refine (⟨trivial, trivial, rfl, ?_⟩ : Fence.wide.fn _ ∧ Fence.wide.fn _ ∧ Fence.wide.depth = none ∧ _) | (gi_at_call 40; (with_reducible refine (cmpS_c (n := 0)).mono ?_); rintro e V1 ⟨rfl, u⟩; (replace hu := hu.trans' u)) | (gi_at_call 41; (with_reducible refine (cmpI_c (n := 0)).mono ?_); rintro e V1 ⟨rfl, u⟩; (replace hu := hu.trans' u)) | (gi_at_call 39; (with_reducible refine (or4_c (n := 0) reads4).mono ?_); rintro e V1 ⟨rfl, u⟩; (replace hu := (hu.stepAlloc _).trans' u)) | refine (⟨trivial, ?_⟩ : Fence.wide.fn _ ∧ _)); (first | refine ⟨by first | exact hcell.out _ hu | exact hcell.out _ (hu.stepAlloc _), ?_⟩ | skip)))
  refine wpE_nil ?_
  gi_wp2
  go_ret
  exact ⟨rfl, u2.trans' hu⟩
theorem cmpV_cell : CmpV Try.prog ekCE cmpC (.func 26) #[] #[] := by
  refine ⟨ordrC, fun a b W => ?_⟩
  refine CallV.of_calls (n := 0) (enters_of Try.func26 (by kernel_rfl) rfl) ?_
  refine (compare_c (n := 0)).mono ?_
  rintro e W2 ⟨rfl, u⟩
  exact ⟨_, rfl, rfl, u⟩
end Go.Proofs.Ytadeechoknpjhaa

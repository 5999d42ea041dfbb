/- silo: the document's Right. -/
import Derived.Test.YtadeechoknpjhaaProg
import Derived.Test.YtadeechoknpjhaaBase
import Derived.Test.YtadeechoknpjhaaSlLd
import Derived.Test.YtadeechoknpjhaaSlH
import Derived.Test.YtadeechoknpjhaaSlRf
set_option linter.unusedSimpArgs false
set_option linter.unusedVariables false
namespace Go.Proofs.Ytadeechoknpjhaa
open Go.RowKit Go.Shelf
attribute [local go_sem] Oper.semAt_some

/-- Right's answer. -/
def RightR (f : Int) (vs : List VCE) (W : World) (e : Ending) (W2 : World) : Prop := (∃ b, e = .returned (.bool b) ∧ (b = true ↔ RightE f vs)) ∧ Upd (fun _ => False) W W2
theorem not_right_ep {f : Int} {vs : List VCE} {v : VCE} (hv : v ∈ vs) (h : ¬ (0 ≤ v.ep ∧ v.ep ≤ f)) : ¬ RightE f vs := fun hr => h (hr.ep v hv)
section
variable {vs : List VCE} {A : Option Addr} {cap : Nat} {W : World} {f : Int}
set_option maxRecDepth 100000 in
set_option maxHeartbeats 8000000 in
theorem right20_c {n : Nat} (hr : Reads1 W A (flatE vs)) (hl : vs.length ≤ 400) (hsz : ∀ v ∈ vs, v.key.size ≤ maxLen ∧ v.pol.size ≤ maxLen) :
    CallsIn Fence.wide n Try.prog 23 #[.agg #[.int .i64 f, .slice A vs.length cap]] W (RightR f vs W) := by
  obtain ⟨W0, hW0⟩ : ∃ W0, W.alloc (.cells #[.int .i64 f, .slice A vs.length cap] 33) = W0 := ⟨_, rfl⟩
  have u0 : Upd (fun _ => False) W W0 := by rw [← hW0]; exact Upd.alloc _ _ _
  have b0 : Blk W0 W.heap.size #[.int .i64 f, .slice A vs.length cap] 33 := by rw [← hW0]; exact Blk.new _ _ _
  have hrW := Lib.hid fun V (u : Upd (fun _ => False) W0 V) => hr.agree' (w' := V) ((u0.trans' u).agree fun j hj => ⟨hr.lt' j hj, id⟩)
  have hbW := Lib.hid fun V (u : Upd (fun _ => False) W0 V) => show V.cell? ⟨W.heap.size, 0, none⟩ = some (.int .i64 f) ∧ V.cell? ⟨W.heap.size, 1, none⟩ = some (.slice A vs.length cap) from ⟨(b0.upd u id).cell 0, (b0.upd u id).cell 1⟩
  have c1 : W0.cell? ⟨W.heap.size, 1, none⟩ = some (.slice A vs.length cap) := b0.cell 1
  clear hr b0
  replace hsz := Lib.hid hsz
  replace u0 := Lib.hid u0
  refine callsIn_any (n := 0) (callsIn_of_wp Try.func23 rfl trivial ?_)
  simp only [Try.ntmps23, List.size_toArray, List.length_cons, List.length_nil, Nat.reduceAdd, Nat.reduceSub, Array.replicate_succ, Array.replicate_zero, List.push_toArray, List.append_toArray, List.nil_append, List.cons_append]
  gi_wp2_with (first | (rw [hW0]; skip))
  clear hW0 c1
  gi_loopw [8] (fun i wr => ∃ j : Nat, i = .int .i64 j ∧ j ≤ vs.length ∧ RightTo f vs j ∧ Upd (fun _ => False) W0 wr) (fun i _ => vs.length - (intOf i).toNat)
  case atStart => exact ⟨0, rfl, Nat.zero_le _, ⟨fun v hv => by simp at hv, List.Pairwise.nil⟩, Upd.refl _ _⟩
  case round =>
    obtain ⟨j, rfl, hj, hT, hu⟩ := hrel
    obtain ⟨s0, s1⟩ := hbW.out _ hu
    by_cases hlt : j < vs.length
    · obtain ⟨g, o, rfl, hat⟩ := atE_at (hrW.out _ hu) hlt
      have hin := hsz.out _ (List.getElem_mem hlt)
      have hmem := List.getElem_mem hlt
      have hw5 : IntKind.i64.wrap ((j : Int) + 1) = (j : Int) + 1 := Go.IntWalk.i64_in _ ⟨by omega, by omega⟩
      have hstep := Lib.hid (hT.step hlt)
      have hbef := Lib.hid fun (hR : RightE f vs) h0 => right_before hR hlt h0
      have hjm : 0 < j → ∃ jm : Nat, jm < vs.length ∧ IntKind.i64.wrap ((j : Int) - 1) = (jm : Int) ∧ jm = j - 1 := fun h0 => ⟨j - 1, by omega, by rw [Go.IntWalk.i64_in _ ⟨by omega, by omega⟩]; omega, rfl⟩
      obtain ⟨v, hv⟩ : ∃ v, vs[j] = v := ⟨_, rfl⟩
      rw [hv] at hat hin hmem
      simp only [hv] at hstep hbef
      have ua := Upd.alloc (fun _ => False) wr (.cells #[.int .i64 (v).ep, .string (v).key, .string (v).pol, .int .i64 (v).kd, .int .i64 (v).st, .int .i64 (v).rev, .bool (v).fin, .int .i64 (v).rk, .int .i64 (v).cnt, .int .i64 (v).sum, .int .i64 (v).mn, .int .i64 (v).mx, .int .i64 (v).q0, .int .i64 (v).q1, .int .i64 (v).q2, .bool (v).over] 61)
      have bA := Blk.new wr #[.int .i64 (v).ep, .string (v).key, .string (v).pol, .int .i64 (v).kd, .int .i64 (v).st, .int .i64 (v).rev, .bool (v).fin, .int .i64 (v).rk, .int .i64 (v).cnt, .int .i64 (v).sum, .int .i64 (v).mn, .int .i64 (v).mx, .int .i64 (v).q0, .int .i64 (v).q1, .int .i64 (v).q2, .bool (v).over] 61
      have huA := hu.trans' ua
      have hH := Lib.hid fun V (u : Upd (fun _ => False) (wr.alloc (.cells #[.int .i64 (v).ep, .string (v).key, .string (v).pol, .int .i64 (v).kd, .int .i64 (v).st, .int .i64 (v).rev, .bool (v).fin, .int .i64 (v).rk, .int .i64 (v).cnt, .int .i64 (v).sum, .int .i64 (v).mn, .int .i64 (v).mx, .int .i64 (v).q0, .int .i64 (v).q1, .int .i64 (v).q2, .bool (v).over] 61)) V) => show (V.cell? ⟨W.heap.size, 0, none⟩ = some (.int .i64 f) ∧ V.cell? ⟨W.heap.size, 1, none⟩ = some (.slice (some ⟨g, o, none⟩) vs.length cap)) ∧ (V.cell? ⟨wr.heap.size, 0, none⟩ = some (.int .i64 (v).ep) ∧ V.cell? ⟨wr.heap.size, 1, none⟩ = some (.string (v).key) ∧ V.cell? ⟨wr.heap.size, 2, none⟩ = some (.string (v).pol) ∧ V.cell? ⟨wr.heap.size, 3, none⟩ = some (.int .i64 (v).kd) ∧ V.cell? ⟨wr.heap.size, 4, none⟩ = some (.int .i64 (v).st) ∧ V.cell? ⟨wr.heap.size, 5, none⟩ = some (.int .i64 (v).rev) ∧ V.cell? ⟨wr.heap.size, 6, none⟩ = some (.bool (v).fin) ∧ V.cell? ⟨wr.heap.size, 7, none⟩ = some (.int .i64 (v).rk) ∧ V.cell? ⟨wr.heap.size, 8, none⟩ = some (.int .i64 (v).cnt) ∧ V.cell? ⟨wr.heap.size, 9, none⟩ = some (.int .i64 (v).sum) ∧ V.cell? ⟨wr.heap.size, 10, none⟩ = some (.int .i64 (v).mn) ∧ V.cell? ⟨wr.heap.size, 11, none⟩ = some (.int .i64 (v).mx) ∧ V.cell? ⟨wr.heap.size, 12, none⟩ = some (.int .i64 (v).q0) ∧ V.cell? ⟨wr.heap.size, 13, none⟩ = some (.int .i64 (v).q1) ∧ V.cell? ⟨wr.heap.size, 14, none⟩ = some (.int .i64 (v).q2) ∧ V.cell? ⟨wr.heap.size, 15, none⟩ = some (.bool (v).over)) from
        ⟨hbW.out V (huA.trans' u), ⟨(bA.upd u id).cell 0, (bA.upd u id).cell 1, (bA.upd u id).cell 2, (bA.upd u id).cell 3, (bA.upd u id).cell 4, (bA.upd u id).cell 5, (bA.upd u id).cell 6, (bA.upd u id).cell 7, (bA.upd u id).cell 8, (bA.upd u id).cell 9, (bA.upd u id).cell 10, (bA.upd u id).cell 11, (bA.upd u id).cell 12, (bA.upd u id).cell 13, (bA.upd u id).cell 14, (bA.upd u id).cell 15⟩⟩
      have ud : Upd (fun _ => False) (wr.alloc (.cells #[.int .i64 (v).ep, .string (v).key, .string (v).pol, .int .i64 (v).kd, .int .i64 (v).st, .int .i64 (v).rev, .bool (v).fin, .int .i64 (v).rk, .int .i64 (v).cnt, .int .i64 (v).sum, .int .i64 (v).mn, .int .i64 (v).mx, .int .i64 (v).q0, .int .i64 (v).q1, .int .i64 (v).q2, .bool (v).over] 61)) (wr.alloc (.cells #[.int .i64 (v).ep, .string (v).key, .string (v).pol, .int .i64 (v).kd, .int .i64 (v).st, .int .i64 (v).rev, .bool (v).fin, .int .i64 (v).rk, .int .i64 (v).cnt, .int .i64 (v).sum, .int .i64 (v).mn, .int .i64 (v).mx, .int .i64 (v).q0, .int .i64 (v).q1, .int .i64 (v).q2, .bool (v).over] 61)).drew := Upd.drew _ _
      obtain ⟨w0, w1, w2, w3, w4, w5, w6, w7, w8, w9, w10, w11, w12, w13, w14, w15⟩ := hat
      replace huA := Lib.hid huA
      clear hv bA ua hT
      by_cases h1 : 0 ≤ v.ep
      · have h1' : (v.ep < 0) = False := eq_false (by omega)
        by_cases h2 : v.ep ≤ f
        · have h2' : (f < v.ep) = False := eq_false (by omega)
          by_cases h0 : 0 < j
          · have h0' : ((0 : Int) < (j : Int)) = True := eq_true (by omega)
            by_cases hc : cmpC (cellE (vs[j - 1]'(by omega))) (cellE v) < 0
            · obtain ⟨jm, hjl, hwj, hje⟩ := hjm (by omega)
              obtain ⟨g9, o9, e9, hat9⟩ := atE_at (hrW.out _ hu) hjl
              cases e9
              have hin9 := hsz.out _ (List.getElem_mem hjl)
              have hprev : vs[j - 1]'(by omega) = vs[jm] := by subst hje; rfl
              rw [hprev] at hc
              have hnx := Lib.hid (hstep.out ⟨h1, h2⟩ fun _ => by rw [hprev]; exact hc)
              clear hprev
              generalize vs[jm] = y at *
              have tx := Lib.hid fun V => cmp20_c (n := 0) (a := cellE y) (b := cellE v) (W := V) hin9.1 hin9.2
              obtain ⟨c, hcc⟩ : ∃ c, cmpC (cellE y) (cellE v) = c := ⟨_, rfl⟩
              rw [hcc] at hc tx
              have hc' : ((0 : Int) ≤ c) = False := eq_false (by omega)
              have hcell := Lib.hid fun V (u : Upd (fun _ => False) (wr.alloc (.cells #[.int .i64 (v).ep, .string (v).key, .string (v).pol, .int .i64 (v).kd, .int .i64 (v).st, .int .i64 (v).rev, .bool (v).fin, .int .i64 (v).rk, .int .i64 (v).cnt, .int .i64 (v).sum, .int .i64 (v).mn, .int .i64 (v).mx, .int .i64 (v).q0, .int .i64 (v).q1, .int .i64 (v).q2, .bool (v).over] 61)) V) => show ((V.cell? ⟨W.heap.size, 0, none⟩ = some (.int .i64 f) ∧ V.cell? ⟨W.heap.size, 1, none⟩ = some (.slice (some ⟨g, o, none⟩) vs.length cap)) ∧ (V.cell? ⟨wr.heap.size, 0, none⟩ = some (.int .i64 (v).ep) ∧ V.cell? ⟨wr.heap.size, 1, none⟩ = some (.string (v).key) ∧ V.cell? ⟨wr.heap.size, 2, none⟩ = some (.string (v).pol) ∧ V.cell? ⟨wr.heap.size, 3, none⟩ = some (.int .i64 (v).kd) ∧ V.cell? ⟨wr.heap.size, 4, none⟩ = some (.int .i64 (v).st) ∧ V.cell? ⟨wr.heap.size, 5, none⟩ = some (.int .i64 (v).rev) ∧ V.cell? ⟨wr.heap.size, 6, none⟩ = some (.bool (v).fin) ∧ V.cell? ⟨wr.heap.size, 7, none⟩ = some (.int .i64 (v).rk) ∧ V.cell? ⟨wr.heap.size, 8, none⟩ = some (.int .i64 (v).cnt) ∧ V.cell? ⟨wr.heap.size, 9, none⟩ = some (.int .i64 (v).sum) ∧ V.cell? ⟨wr.heap.size, 10, none⟩ = some (.int .i64 (v).mn) ∧ V.cell? ⟨wr.heap.size, 11, none⟩ = some (.int .i64 (v).mx) ∧ V.cell? ⟨wr.heap.size, 12, none⟩ = some (.int .i64 (v).q0) ∧ V.cell? ⟨wr.heap.size, 13, none⟩ = some (.int .i64 (v).q1) ∧ V.cell? ⟨wr.heap.size, 14, none⟩ = some (.int .i64 (v).q2) ∧ V.cell? ⟨wr.heap.size, 15, none⟩ = some (.bool (v).over))) ∧ (V.cell? ⟨g, o + jm * 16 + 1, none⟩ = some (.string (y).key) ∧ V.cell? ⟨g, o + jm * 16 + 2, none⟩ = some (.string (y).pol) ∧ V.cell? ⟨g, o + jm * 16 + 3, none⟩ = some (.int .i64 (y).kd) ∧ V.cell? ⟨g, o + jm * 16 + 4, none⟩ = some (.int .i64 (y).st)) from
                ⟨hH.out V u, ⟨cell_upd ((Upd.alloc _ _ _).trans' u) hat9.c1, cell_upd ((Upd.alloc _ _ _).trans' u) hat9.c2, cell_upd ((Upd.alloc _ _ _).trans' u) hat9.c3, cell_upd ((Upd.alloc _ _ _).trans' u) hat9.c4⟩⟩
              have hh := hcell.out _ ud
              replace ud := Lib.hid ud
              replace hje := Lib.hid hje
              clear hcc hstep hbef hjm hH hat9
              as_aux_lemma =>
                gi_wp2
                refine wpIn_eager [(0, true), (1, true), (2, true), (3, true), (4, true), (5, true), (6, true), (7, true), (8, true), (9, true), (10, true), (11, true), (12, true), (13, true), (14, true), (15, true), (16, true), (17, true), (18, true), (19, true), (20, true), (21, true), (22, true), (23, true), (24, true), (25, false), (26, true), (27, true), (28, true)] (fun V => ((V.cell? ⟨W.heap.size, 0, none⟩ = some (.int .i64 f) ∧ V.cell? ⟨W.heap.size, 1, none⟩ = some (.slice (some ⟨g, o, none⟩) vs.length cap)) ∧ (V.cell? ⟨wr.heap.size, 0, none⟩ = some (.int .i64 (v).ep) ∧ V.cell? ⟨wr.heap.size, 1, none⟩ = some (.string (v).key) ∧ V.cell? ⟨wr.heap.size, 2, none⟩ = some (.string (v).pol) ∧ V.cell? ⟨wr.heap.size, 3, none⟩ = some (.int .i64 (v).kd) ∧ V.cell? ⟨wr.heap.size, 4, none⟩ = some (.int .i64 (v).st) ∧ V.cell? ⟨wr.heap.size, 5, none⟩ = some (.int .i64 (v).rev) ∧ V.cell? ⟨wr.heap.size, 6, none⟩ = some (.bool (v).fin) ∧ V.cell? ⟨wr.heap.size, 7, none⟩ = some (.int .i64 (v).rk) ∧ V.cell? ⟨wr.heap.size, 8, none⟩ = some (.int .i64 (v).cnt) ∧ V.cell? ⟨wr.heap.size, 9, none⟩ = some (.int .i64 (v).sum) ∧ V.cell? ⟨wr.heap.size, 10, none⟩ = some (.int .i64 (v).mn) ∧ V.cell? ⟨wr.heap.size, 11, none⟩ = some (.int .i64 (v).mx) ∧ V.cell? ⟨wr.heap.size, 12, none⟩ = some (.int .i64 (v).q0) ∧ V.cell? ⟨wr.heap.size, 13, none⟩ = some (.int .i64 (v).q1) ∧ V.cell? ⟨wr.heap.size, 14, none⟩ = some (.int .i64 (v).q2) ∧ V.cell? ⟨wr.heap.size, 15, none⟩ = some (.bool (v).over))) ∧ (V.cell? ⟨g, o + jm * 16 + 1, none⟩ = some (.string (y).key) ∧ V.cell? ⟨g, o + jm * 16 + 2, none⟩ = some (.string (y).pol) ∧ V.cell? ⟨g, o + jm * 16 + 3, none⟩ = some (.int .i64 (y).kd) ∧ V.cell? ⟨g, o + jm * 16 + 4, none⟩ = some (.int .i64 (y).st))) (by kernel_rfl) (by kernel_rfl) hh ?_
                repeat (first | (refine wpE_fl rfl rfl (fun _ _ => rfl) ?_; go_simp) | (refine wpE_sk rfl rfl ?_; go_simp) | (refine wpE_fl (v := ?_) rfl rfl ?_ ?_; rotate_left; (intro W' h'; (try dsimp only at h'); go_simp; exact rfl); go_simp) | (refine wpE_ef rfl ?_; go_simp; gi_wp2_with (first | refine (⟨trivial, rfl, ?_⟩ : Fence.wide.fn _ ∧ Fence.wide.depth = none ∧ _) | refine (⟨trivial, trivial, rfl, ?_⟩ : Fence.wide.fn _ ∧ Fence.wide.fn _ ∧ Fence.wide.depth = none ∧ _) | (gi_at_call 36; (with_reducible refine (tx.out _).mono ?_); rintro e W2 ⟨rfl, h2⟩; (replace h2 := Lib.hid (ud.out.trans' h2))) | refine (⟨trivial, ?_⟩ : Fence.wide.fn _ ∧ _)); (first | refine ⟨by first | exact (hcell.out _ h2.out), ?_⟩ | skip)))
                refine wpE_nil ?_
                gi_wp2
                exact ⟨⟨j + 1, by go_num, by omega, hnx.out, huA.out.trans' h2.out⟩, by show vs.length - ((j : Int) + 1).toNat < vs.length - (j : Int).toNat; omega⟩
            · obtain ⟨jm, hjl, hwj, hje⟩ := hjm (by omega)
              obtain ⟨g9, o9, e9, hat9⟩ := atE_at (hrW.out _ hu) hjl
              cases e9
              have hin9 := hsz.out _ (List.getElem_mem hjl)
              have hprev : vs[j - 1]'(by omega) = vs[jm] := by subst hje; rfl
              rw [hprev] at hc
              have hnr : Hid (¬ RightE f vs) := Lib.hid fun hR => hc (by rw [← hprev]; exact hbef.out hR (by omega))
              clear hprev
              generalize vs[jm] = y at *
              have tx := Lib.hid fun V => cmp20_c (n := 0) (a := cellE y) (b := cellE v) (W := V) hin9.1 hin9.2
              obtain ⟨c, hcc⟩ : ∃ c, cmpC (cellE y) (cellE v) = c := ⟨_, rfl⟩
              rw [hcc] at hc tx
              have hc' : ((0 : Int) ≤ c) = True := eq_true (by omega)
              have hcell := Lib.hid fun V (u : Upd (fun _ => False) (wr.alloc (.cells #[.int .i64 (v).ep, .string (v).key, .string (v).pol, .int .i64 (v).kd, .int .i64 (v).st, .int .i64 (v).rev, .bool (v).fin, .int .i64 (v).rk, .int .i64 (v).cnt, .int .i64 (v).sum, .int .i64 (v).mn, .int .i64 (v).mx, .int .i64 (v).q0, .int .i64 (v).q1, .int .i64 (v).q2, .bool (v).over] 61)) V) => show ((V.cell? ⟨W.heap.size, 0, none⟩ = some (.int .i64 f) ∧ V.cell? ⟨W.heap.size, 1, none⟩ = some (.slice (some ⟨g, o, none⟩) vs.length cap)) ∧ (V.cell? ⟨wr.heap.size, 0, none⟩ = some (.int .i64 (v).ep) ∧ V.cell? ⟨wr.heap.size, 1, none⟩ = some (.string (v).key) ∧ V.cell? ⟨wr.heap.size, 2, none⟩ = some (.string (v).pol) ∧ V.cell? ⟨wr.heap.size, 3, none⟩ = some (.int .i64 (v).kd) ∧ V.cell? ⟨wr.heap.size, 4, none⟩ = some (.int .i64 (v).st) ∧ V.cell? ⟨wr.heap.size, 5, none⟩ = some (.int .i64 (v).rev) ∧ V.cell? ⟨wr.heap.size, 6, none⟩ = some (.bool (v).fin) ∧ V.cell? ⟨wr.heap.size, 7, none⟩ = some (.int .i64 (v).rk) ∧ V.cell? ⟨wr.heap.size, 8, none⟩ = some (.int .i64 (v).cnt) ∧ V.cell? ⟨wr.heap.size, 9, none⟩ = some (.int .i64 (v).sum) ∧ V.cell? ⟨wr.heap.size, 10, none⟩ = some (.int .i64 (v).mn) ∧ V.cell? ⟨wr.heap.size, 11, none⟩ = some (.int .i64 (v).mx) ∧ V.cell? ⟨wr.heap.size, 12, none⟩ = some (.int .i64 (v).q0) ∧ V.cell? ⟨wr.heap.size, 13, none⟩ = some (.int .i64 (v).q1) ∧ V.cell? ⟨wr.heap.size, 14, none⟩ = some (.int .i64 (v).q2) ∧ V.cell? ⟨wr.heap.size, 15, none⟩ = some (.bool (v).over))) ∧ (V.cell? ⟨g, o + jm * 16 + 1, none⟩ = some (.string (y).key) ∧ V.cell? ⟨g, o + jm * 16 + 2, none⟩ = some (.string (y).pol) ∧ V.cell? ⟨g, o + jm * 16 + 3, none⟩ = some (.int .i64 (y).kd) ∧ V.cell? ⟨g, o + jm * 16 + 4, none⟩ = some (.int .i64 (y).st)) from
                ⟨hH.out V u, ⟨cell_upd ((Upd.alloc _ _ _).trans' u) hat9.c1, cell_upd ((Upd.alloc _ _ _).trans' u) hat9.c2, cell_upd ((Upd.alloc _ _ _).trans' u) hat9.c3, cell_upd ((Upd.alloc _ _ _).trans' u) hat9.c4⟩⟩
              have hh := hcell.out _ ud
              replace ud := Lib.hid ud
              replace hje := Lib.hid hje
              clear hcc hstep hbef hjm hH hat9
              as_aux_lemma =>
                gi_wp2
                refine wpIn_eager [(0, true), (1, true), (2, true), (3, true), (4, true), (5, true), (6, true), (7, true), (8, true), (9, true), (10, true), (11, true), (12, true), (13, true), (14, true), (15, true), (16, true), (17, true), (18, true), (19, true), (20, true), (21, true), (22, true), (23, true), (24, true), (25, false), (26, true), (27, true), (28, true)] (fun V => ((V.cell? ⟨W.heap.size, 0, none⟩ = some (.int .i64 f) ∧ V.cell? ⟨W.heap.size, 1, none⟩ = some (.slice (some ⟨g, o, none⟩) vs.length cap)) ∧ (V.cell? ⟨wr.heap.size, 0, none⟩ = some (.int .i64 (v).ep) ∧ V.cell? ⟨wr.heap.size, 1, none⟩ = some (.string (v).key) ∧ V.cell? ⟨wr.heap.size, 2, none⟩ = some (.string (v).pol) ∧ V.cell? ⟨wr.heap.size, 3, none⟩ = some (.int .i64 (v).kd) ∧ V.cell? ⟨wr.heap.size, 4, none⟩ = some (.int .i64 (v).st) ∧ V.cell? ⟨wr.heap.size, 5, none⟩ = some (.int .i64 (v).rev) ∧ V.cell? ⟨wr.heap.size, 6, none⟩ = some (.bool (v).fin) ∧ V.cell? ⟨wr.heap.size, 7, none⟩ = some (.int .i64 (v).rk) ∧ V.cell? ⟨wr.heap.size, 8, none⟩ = some (.int .i64 (v).cnt) ∧ V.cell? ⟨wr.heap.size, 9, none⟩ = some (.int .i64 (v).sum) ∧ V.cell? ⟨wr.heap.size, 10, none⟩ = some (.int .i64 (v).mn) ∧ V.cell? ⟨wr.heap.size, 11, none⟩ = some (.int .i64 (v).mx) ∧ V.cell? ⟨wr.heap.size, 12, none⟩ = some (.int .i64 (v).q0) ∧ V.cell? ⟨wr.heap.size, 13, none⟩ = some (.int .i64 (v).q1) ∧ V.cell? ⟨wr.heap.size, 14, none⟩ = some (.int .i64 (v).q2) ∧ V.cell? ⟨wr.heap.size, 15, none⟩ = some (.bool (v).over))) ∧ (V.cell? ⟨g, o + jm * 16 + 1, none⟩ = some (.string (y).key) ∧ V.cell? ⟨g, o + jm * 16 + 2, none⟩ = some (.string (y).pol) ∧ V.cell? ⟨g, o + jm * 16 + 3, none⟩ = some (.int .i64 (y).kd) ∧ V.cell? ⟨g, o + jm * 16 + 4, none⟩ = some (.int .i64 (y).st))) (by kernel_rfl) (by kernel_rfl) hh ?_
                repeat (first | (refine wpE_fl rfl rfl (fun _ _ => rfl) ?_; go_simp) | (refine wpE_sk rfl rfl ?_; go_simp) | (refine wpE_fl (v := ?_) rfl rfl ?_ ?_; rotate_left; (intro W' h'; (try dsimp only at h'); go_simp; exact rfl); go_simp) | (refine wpE_ef rfl ?_; go_simp; gi_wp2_with (first | refine (⟨trivial, rfl, ?_⟩ : Fence.wide.fn _ ∧ Fence.wide.depth = none ∧ _) | refine (⟨trivial, trivial, rfl, ?_⟩ : Fence.wide.fn _ ∧ Fence.wide.fn _ ∧ Fence.wide.depth = none ∧ _) | (gi_at_call 36; (with_reducible refine (tx.out _).mono ?_); rintro e W2 ⟨rfl, h2⟩; (replace h2 := Lib.hid (ud.out.trans' h2))) | refine (⟨trivial, ?_⟩ : Fence.wide.fn _ ∧ _)); (first | refine ⟨by first | exact (hcell.out _ h2.out), ?_⟩ | skip)))
                refine wpE_nil ?_
                gi_wp2
                go_ret
                exact ⟨⟨false, rfl, fun h => (by cases h), fun h => absurd h hnr.out⟩, u0.out.trans' (huA.out.trans' h2.out)⟩
          · have hnx := Lib.hid (hstep.out ⟨h1, h2⟩ fun h => absurd h h0)
            have h0' : ((0 : Int) < (j : Int)) = False := eq_false (by omega)
            have hh := hH.out _ ud
            clear hstep hbef hjm hH ud
            as_aux_lemma =>
              gi_wp2
              refine wpIn_eager [(0, true), (1, true), (2, true), (3, true), (4, true), (5, true), (6, true), (7, true), (8, true), (9, true), (10, true), (11, true), (12, true), (13, true), (14, true), (15, true), (16, true), (17, true), (18, true), (19, true), (20, true), (21, true), (22, true), (23, true), (24, true), (25, false), (26, true), (27, true), (28, true)] (fun V => (V.cell? ⟨W.heap.size, 0, none⟩ = some (.int .i64 f) ∧ V.cell? ⟨W.heap.size, 1, none⟩ = some (.slice (some ⟨g, o, none⟩) vs.length cap)) ∧ (V.cell? ⟨wr.heap.size, 0, none⟩ = some (.int .i64 (v).ep) ∧ V.cell? ⟨wr.heap.size, 1, none⟩ = some (.string (v).key) ∧ V.cell? ⟨wr.heap.size, 2, none⟩ = some (.string (v).pol) ∧ V.cell? ⟨wr.heap.size, 3, none⟩ = some (.int .i64 (v).kd) ∧ V.cell? ⟨wr.heap.size, 4, none⟩ = some (.int .i64 (v).st) ∧ V.cell? ⟨wr.heap.size, 5, none⟩ = some (.int .i64 (v).rev) ∧ V.cell? ⟨wr.heap.size, 6, none⟩ = some (.bool (v).fin) ∧ V.cell? ⟨wr.heap.size, 7, none⟩ = some (.int .i64 (v).rk) ∧ V.cell? ⟨wr.heap.size, 8, none⟩ = some (.int .i64 (v).cnt) ∧ V.cell? ⟨wr.heap.size, 9, none⟩ = some (.int .i64 (v).sum) ∧ V.cell? ⟨wr.heap.size, 10, none⟩ = some (.int .i64 (v).mn) ∧ V.cell? ⟨wr.heap.size, 11, none⟩ = some (.int .i64 (v).mx) ∧ V.cell? ⟨wr.heap.size, 12, none⟩ = some (.int .i64 (v).q0) ∧ V.cell? ⟨wr.heap.size, 13, none⟩ = some (.int .i64 (v).q1) ∧ V.cell? ⟨wr.heap.size, 14, none⟩ = some (.int .i64 (v).q2) ∧ V.cell? ⟨wr.heap.size, 15, none⟩ = some (.bool (v).over))) (by kernel_rfl) (by kernel_rfl) hh ?_
              repeat (first | (refine wpE_fl rfl rfl (fun _ _ => rfl) ?_; go_simp) | (refine wpE_sk rfl rfl ?_; go_simp) | (refine wpE_fl (v := ?_) rfl rfl ?_ ?_; rotate_left; (intro W' h'; (try dsimp only at h'); go_simp; exact rfl); go_simp) | (refine wpE_ef rfl ?_; go_simp; gi_wp2_with (first | refine (⟨trivial, rfl, ?_⟩ : Fence.wide.fn _ ∧ Fence.wide.depth = none ∧ _) | refine (⟨trivial, trivial, rfl, ?_⟩ : Fence.wide.fn _ ∧ Fence.wide.fn _ ∧ Fence.wide.depth = none ∧ _) | refine (⟨trivial, ?_⟩ : Fence.wide.fn _ ∧ _)); (first | refine ⟨by first | exact hh, ?_⟩ | skip)))
              refine wpE_nil ?_
              gi_wp2
              exact ⟨⟨j + 1, by go_num, by omega, hnx.out, huA.out.stepDrew⟩, by show vs.length - ((j : Int) + 1).toNat < vs.length - (j : Int).toNat; omega⟩
        · have h2' : (f < v.ep) = True := eq_true (by omega)
          have hnr := Lib.hid (not_right_ep (f := f) hmem fun h => h2 h.2)
          have hh := hH.out _ ud
          clear hstep hbef hjm hH ud
          as_aux_lemma =>
            gi_wp2
            refine wpIn_eager [(0, true), (1, true), (2, true), (3, true), (4, true), (5, true), (6, true), (7, true), (8, true), (9, true), (10, true), (11, true), (12, true), (13, true), (14, true), (15, true), (16, true), (17, true), (18, true), (19, true), (20, true), (21, true), (22, true), (23, true), (24, true), (25, false), (26, true), (27, true), (28, true)] (fun V => (V.cell? ⟨W.heap.size, 0, none⟩ = some (.int .i64 f) ∧ V.cell? ⟨W.heap.size, 1, none⟩ = some (.slice (some ⟨g, o, none⟩) vs.length cap)) ∧ (V.cell? ⟨wr.heap.size, 0, none⟩ = some (.int .i64 (v).ep) ∧ V.cell? ⟨wr.heap.size, 1, none⟩ = some (.string (v).key) ∧ V.cell? ⟨wr.heap.size, 2, none⟩ = some (.string (v).pol) ∧ V.cell? ⟨wr.heap.size, 3, none⟩ = some (.int .i64 (v).kd) ∧ V.cell? ⟨wr.heap.size, 4, none⟩ = some (.int .i64 (v).st) ∧ V.cell? ⟨wr.heap.size, 5, none⟩ = some (.int .i64 (v).rev) ∧ V.cell? ⟨wr.heap.size, 6, none⟩ = some (.bool (v).fin) ∧ V.cell? ⟨wr.heap.size, 7, none⟩ = some (.int .i64 (v).rk) ∧ V.cell? ⟨wr.heap.size, 8, none⟩ = some (.int .i64 (v).cnt) ∧ V.cell? ⟨wr.heap.size, 9, none⟩ = some (.int .i64 (v).sum) ∧ V.cell? ⟨wr.heap.size, 10, none⟩ = some (.int .i64 (v).mn) ∧ V.cell? ⟨wr.heap.size, 11, none⟩ = some (.int .i64 (v).mx) ∧ V.cell? ⟨wr.heap.size, 12, none⟩ = some (.int .i64 (v).q0) ∧ V.cell? ⟨wr.heap.size, 13, none⟩ = some (.int .i64 (v).q1) ∧ V.cell? ⟨wr.heap.size, 14, none⟩ = some (.int .i64 (v).q2) ∧ V.cell? ⟨wr.heap.size, 15, none⟩ = some (.bool (v).over))) (by kernel_rfl) (by kernel_rfl) hh ?_
            repeat (first | (refine wpE_fl rfl rfl (fun _ _ => rfl) ?_; go_simp) | (refine wpE_sk rfl rfl ?_; go_simp) | (refine wpE_fl (v := ?_) rfl rfl ?_ ?_; rotate_left; (intro W' h'; (try dsimp only at h'); go_simp; exact rfl); go_simp) | (refine wpE_ef rfl ?_; go_simp; gi_wp2_with (first | refine (⟨trivial, rfl, ?_⟩ : Fence.wide.fn _ ∧ Fence.wide.depth = none ∧ _) | refine (⟨trivial, trivial, rfl, ?_⟩ : Fence.wide.fn _ ∧ Fence.wide.fn _ ∧ Fence.wide.depth = none ∧ _) | refine (⟨trivial, ?_⟩ : Fence.wide.fn _ ∧ _)); (first | refine ⟨by first | exact hh, ?_⟩ | skip)))
            refine wpE_nil ?_
            gi_wp2
            go_ret
            exact ⟨⟨false, rfl, fun h => (by cases h), fun h => absurd h hnr.out⟩, u0.out.trans' (huA.out.stepDrew)⟩
      · have h1' : (v.ep < 0) = True := eq_true (by omega)
        have hnr := Lib.hid (not_right_ep (f := f) hmem fun h => h1 h.1)
        have hh := hH.out _ ud
        clear hstep hbef hjm hH ud
        as_aux_lemma =>
          gi_wp2
          refine wpIn_eager [(0, true), (1, true), (2, true), (3, true), (4, true), (5, true), (6, true), (7, true), (8, true), (9, true), (10, true), (11, true), (12, true), (13, true), (14, true), (15, true), (16, true), (17, true), (18, true), (19, true), (20, true), (21, true), (22, true), (23, true), (24, true), (25, false), (26, true), (27, true), (28, true)] (fun V => (V.cell? ⟨W.heap.size, 0, none⟩ = some (.int .i64 f) ∧ V.cell? ⟨W.heap.size, 1, none⟩ = some (.slice (some ⟨g, o, none⟩) vs.length cap)) ∧ (V.cell? ⟨wr.heap.size, 0, none⟩ = some (.int .i64 (v).ep) ∧ V.cell? ⟨wr.heap.size, 1, none⟩ = some (.string (v).key) ∧ V.cell? ⟨wr.heap.size, 2, none⟩ = some (.string (v).pol) ∧ V.cell? ⟨wr.heap.size, 3, none⟩ = some (.int .i64 (v).kd) ∧ V.cell? ⟨wr.heap.size, 4, none⟩ = some (.int .i64 (v).st) ∧ V.cell? ⟨wr.heap.size, 5, none⟩ = some (.int .i64 (v).rev) ∧ V.cell? ⟨wr.heap.size, 6, none⟩ = some (.bool (v).fin) ∧ V.cell? ⟨wr.heap.size, 7, none⟩ = some (.int .i64 (v).rk) ∧ V.cell? ⟨wr.heap.size, 8, none⟩ = some (.int .i64 (v).cnt) ∧ V.cell? ⟨wr.heap.size, 9, none⟩ = some (.int .i64 (v).sum) ∧ V.cell? ⟨wr.heap.size, 10, none⟩ = some (.int .i64 (v).mn) ∧ V.cell? ⟨wr.heap.size, 11, none⟩ = some (.int .i64 (v).mx) ∧ V.cell? ⟨wr.heap.size, 12, none⟩ = some (.int .i64 (v).q0) ∧ V.cell? ⟨wr.heap.size, 13, none⟩ = some (.int .i64 (v).q1) ∧ V.cell? ⟨wr.heap.size, 14, none⟩ = some (.int .i64 (v).q2) ∧ V.cell? ⟨wr.heap.size, 15, none⟩ = some (.bool (v).over))) (by kernel_rfl) (by kernel_rfl) hh ?_
          repeat (first | (refine wpE_fl rfl rfl (fun _ _ => rfl) ?_; go_simp) | (refine wpE_sk rfl rfl ?_; go_simp) | (refine wpE_fl (v := ?_) rfl rfl ?_ ?_; rotate_left; (intro W' h'; (try dsimp only at h'); go_simp; exact rfl); go_simp) | (refine wpE_ef rfl ?_; go_simp; gi_wp2_with (first | refine (⟨trivial, rfl, ?_⟩ : Fence.wide.fn _ ∧ Fence.wide.depth = none ∧ _) | refine (⟨trivial, trivial, rfl, ?_⟩ : Fence.wide.fn _ ∧ Fence.wide.fn _ ∧ Fence.wide.depth = none ∧ _) | refine (⟨trivial, ?_⟩ : Fence.wide.fn _ ∧ _)); (first | refine ⟨by first | exact hh, ?_⟩ | skip)))
          refine wpE_nil ?_
          gi_wp2
          go_ret
          exact ⟨⟨false, rfl, fun h => (by cases h), fun h => absurd h hnr.out⟩, u0.out.trans' (huA.out.stepDrew)⟩
    · obtain rfl : j = vs.length := by omega
      have hep := hT.ep
      have hri := hT.ri
      rw [List.take_length] at hep hri
      have hRR : 0 ≤ f ∧ f ≤ 1099511627776 → RightE f vs := fun h => ⟨h, hep, hri⟩
      have hNR : ¬ (0 ≤ f ∧ f ≤ 1099511627776) → ¬ RightE f vs := fun h hR => h hR.fR
      replace hRR := Lib.hid hRR
      replace hNR := Lib.hid hNR
      replace hu := Lib.hid hu
      have hl' : ((vs.length : Int) ≤ 400) = True := eq_true (by omega)
      clear hT hep hri
      by_cases h1 : 0 ≤ f
      · by_cases h2 : f ≤ 1099511627776
        · gi_wp2
          go_ret
          exact ⟨⟨true, rfl, fun _ => hRR.out ⟨h1, h2⟩, fun _ => rfl⟩, u0.out.trans' hu.out⟩
        · gi_wp2
          go_ret
          exact ⟨⟨false, rfl, fun h => (by cases h), fun h => absurd h (hNR.out fun h => by omega)⟩, u0.out.trans' hu.out⟩
      · gi_wp2
        go_ret
        exact ⟨⟨false, rfl, fun h => (by cases h), fun h => absurd h (hNR.out fun h => by omega)⟩, u0.out.trans' hu.out⟩
end
end Go.Proofs.Ytadeechoknpjhaa

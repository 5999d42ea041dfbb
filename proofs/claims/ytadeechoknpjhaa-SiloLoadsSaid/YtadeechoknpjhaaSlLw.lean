/- silo: Load. -/
import Derived.Test.YtadeechoknpjhaaProg
import Derived.Test.YtadeechoknpjhaaBase
import Derived.Test.YtadeechoknpjhaaSlLd
import Derived.Test.YtadeechoknpjhaaSlRf
set_option linter.unusedSimpArgs false
set_option linter.unusedVariables false
namespace Go.Proofs.Ytadeechoknpjhaa
open Go.RowKit Go.Shelf
attribute [local go_sem] Oper.semAt_some

section
variable {sb j : Nat} {vs : List VCE} {F : Nat → Prop} {A : Option Addr} {cap : Nat} {W : World} {f : Int} {v : VCE}
theorem load_step (hI : SiloV sb f (vs.take j) F W) (hj : j < vs.length) (hl : vs.length ≤ 400) (hn : RightTo f vs (j + 1)) (hx : vs[j] = v) : ∃ q, ∀ V, Upd (fun _ => False) W V → V.cell? ⟨sb, 1, none⟩ = some (.pointer (some ⟨q, 0, none⟩)) ∧
    CallsIn Fence.wide 0 Try.prog 28 #[.pointer (some ⟨q, 0, none⟩), .agg #[.string (v).key, .string (v).pol, .int .i64 (v).kd, .int .i64 (v).st], .agg #[.int .i64 (v).ep, .string (v).key, .string (v).pol, .int .i64 (v).kd, .int .i64 (v).st, .int .i64 (v).rev, .bool (v).fin, .int .i64 (v).rk, .int .i64 (v).cnt, .int .i64 (v).sum, .int .i64 (v).mn, .int .i64 (v).mx, .int .i64 (v).q0, .int .i64 (v).q1, .int .i64 (v).q2, .bool (v).over]] V fun e W3 => ∃ b, e = .returned (.bool b) ∧ W3.cell? ⟨sb, 1, none⟩ = some (.pointer (some ⟨q, 0, none⟩)) ∧ ∃ F', SiloV sb f (vs.take (j + 1)) F' W3 ∧ (∀ j, F' j → F j ∨ W.heap.size ≤ j) ∧ Upd F W W3 ∧ Upd F V W3 := by
  obtain ⟨q, _, h⟩ := silo_put hI (by simp; omega) v
  refine ⟨q, fun V u => ⟨(h V u).1, (h V u).2.mono ?_⟩⟩
  rintro e W3 ⟨b, rfl, pq, F', p1, p2, p3, p4⟩
  have ht : vs.take (j + 1) = vs.take j ++ [v] := by rw [← hx]; exact List.take_succ_eq_append_getElem hj
  have hr := hn.ri
  rw [ht] at hr ⊢
  rw [putL_snoc hr] at p1
  exact ⟨b, rfl, pq, F', p1, p2, p3, p4⟩
/-- New, Fence. -/
theorem load_new : CallsIn Fence.wide 0 Try.prog 8 #[] (W.alloc (.cells #[.int .i64 f, .slice A vs.length cap] 55)) fun e W2 => ∃ sb, e = .returned (.pointer (some ⟨sb, 0, none⟩)) ∧ W2.cell? ⟨W.heap.size, 0, none⟩ = some (.int .i64 f) ∧
    CallsIn Fence.wide 0 Try.prog 19 #[.pointer (some ⟨sb, 0, none⟩), .int .i64 f] W2 fun e W3 => e = .returned (.int .i64 (codeF 0 f)) ∧ W3.cell? ⟨W.heap.size, 1, none⟩ = some (.slice A vs.length cap) ∧
      ∃ F, SiloV sb (if codeF 0 f = 0 then f else 0) [] F W3 ∧ (∀ j, F j → W.heap.size < j) ∧ Upd (fun _ => False) W W3 ∧ Blk W3 W.heap.size #[.int .i64 f, .slice A vs.length cap] 55 := by
  have b0 := Blk.new W #[.int .i64 f, .slice A vs.length cap] 55
  have u0 := Upd.alloc (fun _ => False) W (.cells #[.int .i64 f, .slice A vs.length cap] 55)
  refine (siloNew_c (W := W.alloc (.cells #[.int .i64 f, .slice A vs.length cap] 55))).mono ?_
  rintro e W2 ⟨sb, F, rfl, g1, g2, g3⟩
  have b2 := b0.upd g3 id
  simp only [World.size_alloc] at g2
  have hsb : F sb := by
    obtain ⟨q, t, _, _, h, _⟩ := g1
    exact (h sb).2 (.inl rfl)
  have hne := g2 sb hsb
  refine ⟨sb, rfl, b2.cell 0, (siloFence_c (x := f) g1).mono ?_⟩
  rintro e W3 ⟨rfl, h1, h2⟩
  have b3 := b2.upd h2 (by omega)
  exact ⟨rfl, b3.cell 1, F, h1, fun j hj => by have := g2 j hj; omega, (u0.trans' g3).trans h2 fun j e => .inr (by omega), b3⟩
set_option maxRecDepth 100000 in
set_option maxHeartbeats 8000000 in
theorem load20_c {n : Nat} (hr : Reads1 W A (flatE vs)) (hl : vs.length ≤ 400) :
    CallsIn Fence.wide n Try.prog 22 #[.agg #[.int .i64 f, .slice A vs.length cap]] W (LoadR f vs W) := by
  have k0 := Lib.hid (load_new (W := W) (f := f) (A := A) (vs := vs) (cap := cap))
  have hrW := Lib.hid fun V (u : Upd (fun _ => False) W V) => hr.agree' (w' := V) (u.agree fun j hj => ⟨hr.lt' j hj, id⟩)
  clear hr
  by_cases hf : 0 ≤ f ∧ f ≤ mxE
  · have hcf : codeF 0 f = 0 := by
      rw [codeF, if_pos hf, if_neg (by omega)]
    rw [hcf] at k0
    simp only [if_true] at k0
    clear hcf
    refine callsIn_any (n := 0) (callsIn_of_wp Try.func22 rfl trivial ?_)
    simp only [Try.ntmps22, List.size_toArray, List.length_cons, List.length_nil, Nat.reduceAdd, Nat.reduceSub, Array.replicate_succ, Array.replicate_zero, List.push_toArray, List.append_toArray, List.nil_append, List.cons_append]
    gi_wp2_with (first | refine (⟨trivial, rfl, ?_⟩ : Fence.wide.fn _ ∧ Fence.wide.depth = none ∧ _) | (gi_at_call 8; (with_reducible refine k0.out.mono ?_); rintro e W2 ⟨sb, rfl, s0, k1⟩; (replace k1 := Lib.hid k1)) | (gi_at_call 19; (with_reducible refine k1.out.mono ?_); rintro e W3 ⟨rfl, s1, F0, hI0, hF0, u0, b0⟩; (replace hI0 := Lib.hid hI0); (replace hF0 := Lib.hid hF0); (replace u0 := Lib.hid u0); (replace b0 := Lib.hid b0)) | refine (⟨trivial, ?_⟩ : Fence.wide.fn _ ∧ _))
    clear k0 k1 s1
    gi_loopw [22] (fun i wr => ∃ (j : Nat) (F : Nat → Prop), i = .int .i64 j ∧ j ≤ vs.length ∧ RightTo f vs j ∧ SiloV sb f (vs.take j) F wr ∧ (∀ b, F b → W.heap.size < b) ∧ Blk wr W.heap.size #[.int .i64 f, .slice A vs.length cap] 55 ∧ Upd (fun _ => False) W wr) (fun i _ => vs.length - (intOf i).toNat)
    case atStart => exact ⟨0, F0, rfl, Nat.zero_le _, ⟨fun v hv => by simp at hv, List.Pairwise.nil⟩, hI0.out, hF0.out, b0.out, u0.out⟩
    case round =>
      clear hI0 hF0 b0 u0
      obtain ⟨j, F, rfl, hj, hT, hI, hF, hB, hu⟩ := hrel
      by_cases hlt : j < vs.length
      · obtain ⟨g, o, rfl, hat⟩ := atE_at (hrW.out _ hu) hlt
        have hmem := List.getElem_mem hlt
        have hw5 : IntKind.i64.wrap ((j : Int) + 1) = (j : Int) + 1 := Go.IntWalk.i64_in _ ⟨by omega, by omega⟩
        have hstep := Lib.hid (hT.step hlt)
        have hbef := Lib.hid fun (hR : RightE f vs) h0 => right_before hR hlt h0
        have hLS := Lib.hid fun hn v hx => load_step hI hlt hl hn (v := v) hx
        have hjm : 0 < j → ∃ jm : Nat, jm < vs.length ∧ IntKind.i64.wrap ((j : Int) - 1) = (jm : Int) ∧ jm = j - 1 := fun h0 => ⟨j - 1, by omega, by rw [Go.IntWalk.i64_in _ ⟨by omega, by omega⟩]; omega, rfl⟩
        obtain ⟨v, hv⟩ : ∃ v, vs[j] = v := ⟨_, rfl⟩
        rw [hv] at hat hmem
        simp only [hv] at hstep hbef
        replace hLS := Lib.hid fun hn => hLS.out hn v hv
        have ua := Upd.alloc (fun _ => False) wr (.cells #[.int .i64 (v).ep, .string (v).key, .string (v).pol, .int .i64 (v).kd, .int .i64 (v).st, .int .i64 (v).rev, .bool (v).fin, .int .i64 (v).rk, .int .i64 (v).cnt, .int .i64 (v).sum, .int .i64 (v).mn, .int .i64 (v).mx, .int .i64 (v).q0, .int .i64 (v).q1, .int .i64 (v).q2, .bool (v).over] 63)
        have bA := Blk.new wr #[.int .i64 (v).ep, .string (v).key, .string (v).pol, .int .i64 (v).kd, .int .i64 (v).st, .int .i64 (v).rev, .bool (v).fin, .int .i64 (v).rk, .int .i64 (v).cnt, .int .i64 (v).sum, .int .i64 (v).mn, .int .i64 (v).mx, .int .i64 (v).q0, .int .i64 (v).q1, .int .i64 (v).q2, .bool (v).over] 63
        have huA := hu.trans' ua
        have hH := Lib.hid fun V (u : Upd (fun _ => False) (wr.alloc (.cells #[.int .i64 (v).ep, .string (v).key, .string (v).pol, .int .i64 (v).kd, .int .i64 (v).st, .int .i64 (v).rev, .bool (v).fin, .int .i64 (v).rk, .int .i64 (v).cnt, .int .i64 (v).sum, .int .i64 (v).mn, .int .i64 (v).mx, .int .i64 (v).q0, .int .i64 (v).q1, .int .i64 (v).q2, .bool (v).over] 63)) V) => show (V.cell? ⟨W.heap.size, 0, none⟩ = some (.int .i64 f) ∧ V.cell? ⟨W.heap.size, 1, none⟩ = some (.slice (some ⟨g, o, none⟩) vs.length cap)) ∧ (V.cell? ⟨wr.heap.size, 0, none⟩ = some (.int .i64 (v).ep) ∧ V.cell? ⟨wr.heap.size, 1, none⟩ = some (.string (v).key) ∧ V.cell? ⟨wr.heap.size, 2, none⟩ = some (.string (v).pol) ∧ V.cell? ⟨wr.heap.size, 3, none⟩ = some (.int .i64 (v).kd) ∧ V.cell? ⟨wr.heap.size, 4, none⟩ = some (.int .i64 (v).st) ∧ V.cell? ⟨wr.heap.size, 5, none⟩ = some (.int .i64 (v).rev) ∧ V.cell? ⟨wr.heap.size, 6, none⟩ = some (.bool (v).fin) ∧ V.cell? ⟨wr.heap.size, 7, none⟩ = some (.int .i64 (v).rk) ∧ V.cell? ⟨wr.heap.size, 8, none⟩ = some (.int .i64 (v).cnt) ∧ V.cell? ⟨wr.heap.size, 9, none⟩ = some (.int .i64 (v).sum) ∧ V.cell? ⟨wr.heap.size, 10, none⟩ = some (.int .i64 (v).mn) ∧ V.cell? ⟨wr.heap.size, 11, none⟩ = some (.int .i64 (v).mx) ∧ V.cell? ⟨wr.heap.size, 12, none⟩ = some (.int .i64 (v).q0) ∧ V.cell? ⟨wr.heap.size, 13, none⟩ = some (.int .i64 (v).q1) ∧ V.cell? ⟨wr.heap.size, 14, none⟩ = some (.int .i64 (v).q2) ∧ V.cell? ⟨wr.heap.size, 15, none⟩ = some (.bool (v).over)) from
          ⟨⟨(hB.upd (ua.trans' u) id).cell 0, (hB.upd (ua.trans' u) id).cell 1⟩, ⟨(bA.upd u id).cell 0, (bA.upd u id).cell 1, (bA.upd u id).cell 2, (bA.upd u id).cell 3, (bA.upd u id).cell 4, (bA.upd u id).cell 5, (bA.upd u id).cell 6, (bA.upd u id).cell 7, (bA.upd u id).cell 8, (bA.upd u id).cell 9, (bA.upd u id).cell 10, (bA.upd u id).cell 11, (bA.upd u id).cell 12, (bA.upd u id).cell 13, (bA.upd u id).cell 14, (bA.upd u id).cell 15⟩⟩
        have ud : Upd (fun _ => False) (wr.alloc (.cells #[.int .i64 (v).ep, .string (v).key, .string (v).pol, .int .i64 (v).kd, .int .i64 (v).st, .int .i64 (v).rev, .bool (v).fin, .int .i64 (v).rk, .int .i64 (v).cnt, .int .i64 (v).sum, .int .i64 (v).mn, .int .i64 (v).mx, .int .i64 (v).q0, .int .i64 (v).q1, .int .i64 (v).q2, .bool (v).over] 63)) (wr.alloc (.cells #[.int .i64 (v).ep, .string (v).key, .string (v).pol, .int .i64 (v).kd, .int .i64 (v).st, .int .i64 (v).rev, .bool (v).fin, .int .i64 (v).rk, .int .i64 (v).cnt, .int .i64 (v).sum, .int .i64 (v).mn, .int .i64 (v).mx, .int .i64 (v).q0, .int .i64 (v).q1, .int .i64 (v).q2, .bool (v).over] 63)).drew := Upd.drew _ _
        have hzw := hu.size
        have hFin := Lib.hid fun (W3 : World) (F' : Nat → Prop) (p2 : ∀ j, F' j → F j ∨ wr.heap.size ≤ j) (p3 : Upd F wr W3) => show (∀ b, F' b → W.heap.size < b) ∧ Blk W3 W.heap.size #[.int .i64 f, .slice (some ⟨g, o, none⟩) vs.length cap] 55 ∧ Upd (fun _ => False) W W3 from
          ⟨fun b hb => (p2 b hb).elim (hF b) fun h => by have := hB.lt; omega, hB.upd p3 fun h => by have := hF _ h; omega, hu.trans p3 fun k hk => .inr (by have := hF k hk; omega)⟩
        have hBX := Lib.hid fun q V (u : Upd (fun _ => False) (wr.alloc (.cells #[.int .i64 (v).ep, .string (v).key, .string (v).pol, .int .i64 (v).kd, .int .i64 (v).st, .int .i64 (v).rev, .bool (v).fin, .int .i64 (v).rk, .int .i64 (v).cnt, .int .i64 (v).sum, .int .i64 (v).mn, .int .i64 (v).mx, .int .i64 (v).q0, .int .i64 (v).q1, .int .i64 (v).q2, .bool (v).over] 63)) V) W3 (p4 : Upd F V W3) (pq : W3.cell? ⟨sb, 1, none⟩ = some (.pointer (some ⟨q, 0, none⟩))) => show W3.cell? ⟨sb, 1, none⟩ = some (.pointer (some ⟨q, 0, none⟩)) ∧ (W3.cell? ⟨wr.heap.size, 0, none⟩ = some (.int .i64 (v).ep) ∧ W3.cell? ⟨wr.heap.size, 1, none⟩ = some (.string (v).key) ∧ W3.cell? ⟨wr.heap.size, 2, none⟩ = some (.string (v).pol) ∧ W3.cell? ⟨wr.heap.size, 3, none⟩ = some (.int .i64 (v).kd) ∧ W3.cell? ⟨wr.heap.size, 4, none⟩ = some (.int .i64 (v).st) ∧ W3.cell? ⟨wr.heap.size, 5, none⟩ = some (.int .i64 (v).rev) ∧ W3.cell? ⟨wr.heap.size, 6, none⟩ = some (.bool (v).fin) ∧ W3.cell? ⟨wr.heap.size, 7, none⟩ = some (.int .i64 (v).rk) ∧ W3.cell? ⟨wr.heap.size, 8, none⟩ = some (.int .i64 (v).cnt) ∧ W3.cell? ⟨wr.heap.size, 9, none⟩ = some (.int .i64 (v).sum) ∧ W3.cell? ⟨wr.heap.size, 10, none⟩ = some (.int .i64 (v).mn) ∧ W3.cell? ⟨wr.heap.size, 11, none⟩ = some (.int .i64 (v).mx) ∧ W3.cell? ⟨wr.heap.size, 12, none⟩ = some (.int .i64 (v).q0) ∧ W3.cell? ⟨wr.heap.size, 13, none⟩ = some (.int .i64 (v).q1) ∧ W3.cell? ⟨wr.heap.size, 14, none⟩ = some (.int .i64 (v).q2) ∧ W3.cell? ⟨wr.heap.size, 15, none⟩ = some (.bool (v).over)) from
          have hn : ¬ F wr.heap.size := fun h => Nat.lt_irrefl _ (hI.lt _ h)
          ⟨pq, ⟨((bA.upd u id).upd p4 hn).cell 0, ((bA.upd u id).upd p4 hn).cell 1, ((bA.upd u id).upd p4 hn).cell 2, ((bA.upd u id).upd p4 hn).cell 3, ((bA.upd u id).upd p4 hn).cell 4, ((bA.upd u id).upd p4 hn).cell 5, ((bA.upd u id).upd p4 hn).cell 6, ((bA.upd u id).upd p4 hn).cell 7, ((bA.upd u id).upd p4 hn).cell 8, ((bA.upd u id).upd p4 hn).cell 9, ((bA.upd u id).upd p4 hn).cell 10, ((bA.upd u id).upd p4 hn).cell 11, ((bA.upd u id).upd p4 hn).cell 12, ((bA.upd u id).upd p4 hn).cell 13, ((bA.upd u id).upd p4 hn).cell 14, ((bA.upd u id).upd p4 hn).cell 15⟩⟩
        obtain ⟨w0, w1, w2, w3, w4, w5, w6, w7, w8, w9, w10, w11, w12, w13, w14, w15⟩ := hat
        have st1 : wr.cell? ⟨W.heap.size, 1, none⟩ = some (.slice (some ⟨g, o, none⟩) vs.length cap) := hB.cell 1
        replace huA := Lib.hid huA
        clear hv bA hT hI hB hF
        by_cases h1 : 0 ≤ v.ep
        · by_cases h2 : v.ep ≤ f
          · have h2' : (f < v.ep) = False := eq_false (by omega)
            have ke := Lib.hid fun (W : World) => epoch_c (n := 0) (x := v.ep) (W := W)
            have hin : 0 ≤ v.ep ∧ v.ep ≤ mxE := by have := hf.2; omega
            simp only [decide_eq_true hin] at ke
            clear hin
            by_cases h0 : 0 < j
            · have h0' : ((0 : Int) < (j : Int)) = True := eq_true (by omega)
              by_cases hc : cmpC (cellE (vs[j - 1]'(by omega))) (cellE v) < 0
              · obtain ⟨jm, hjl, hwj, hje⟩ := hjm (by omega)
                obtain ⟨g9, o9, e9, hat9⟩ := atE_at (hrW.out _ hu) hjl
                cases e9
                have hprev : vs[j - 1]'(by omega) = vs[jm] := by subst hje; rfl
                rw [hprev] at hc
                have hnx := Lib.hid (hstep.out ⟨h1, h2⟩ fun _ => by rw [hprev]; exact hc)
                clear hprev
                generalize vs[jm] = y at *
                have tx := Lib.hid fun V => compare_c (n := 0) (a := cellE y) (b := cellE v) (W := V)
                obtain ⟨c, hcc⟩ : ∃ c, cmpC (cellE y) (cellE v) = c := ⟨_, rfl⟩
                rw [hcc] at hc tx
                have hc' : ((0 : Int) ≤ c) = False := eq_false (by omega)
                have hcell := Lib.hid fun V (u : Upd (fun _ => False) (wr.alloc (.cells #[.int .i64 (v).ep, .string (v).key, .string (v).pol, .int .i64 (v).kd, .int .i64 (v).st, .int .i64 (v).rev, .bool (v).fin, .int .i64 (v).rk, .int .i64 (v).cnt, .int .i64 (v).sum, .int .i64 (v).mn, .int .i64 (v).mx, .int .i64 (v).q0, .int .i64 (v).q1, .int .i64 (v).q2, .bool (v).over] 63)) V) => show ((V.cell? ⟨W.heap.size, 0, none⟩ = some (.int .i64 f) ∧ V.cell? ⟨W.heap.size, 1, none⟩ = some (.slice (some ⟨g, o, none⟩) vs.length cap)) ∧ (V.cell? ⟨wr.heap.size, 0, none⟩ = some (.int .i64 (v).ep) ∧ V.cell? ⟨wr.heap.size, 1, none⟩ = some (.string (v).key) ∧ V.cell? ⟨wr.heap.size, 2, none⟩ = some (.string (v).pol) ∧ V.cell? ⟨wr.heap.size, 3, none⟩ = some (.int .i64 (v).kd) ∧ V.cell? ⟨wr.heap.size, 4, none⟩ = some (.int .i64 (v).st) ∧ V.cell? ⟨wr.heap.size, 5, none⟩ = some (.int .i64 (v).rev) ∧ V.cell? ⟨wr.heap.size, 6, none⟩ = some (.bool (v).fin) ∧ V.cell? ⟨wr.heap.size, 7, none⟩ = some (.int .i64 (v).rk) ∧ V.cell? ⟨wr.heap.size, 8, none⟩ = some (.int .i64 (v).cnt) ∧ V.cell? ⟨wr.heap.size, 9, none⟩ = some (.int .i64 (v).sum) ∧ V.cell? ⟨wr.heap.size, 10, none⟩ = some (.int .i64 (v).mn) ∧ V.cell? ⟨wr.heap.size, 11, none⟩ = some (.int .i64 (v).mx) ∧ V.cell? ⟨wr.heap.size, 12, none⟩ = some (.int .i64 (v).q0) ∧ V.cell? ⟨wr.heap.size, 13, none⟩ = some (.int .i64 (v).q1) ∧ V.cell? ⟨wr.heap.size, 14, none⟩ = some (.int .i64 (v).q2) ∧ V.cell? ⟨wr.heap.size, 15, none⟩ = some (.bool (v).over))) ∧ (V.cell? ⟨g, o + jm * 16 + 1, none⟩ = some (.string (y).key) ∧ V.cell? ⟨g, o + jm * 16 + 2, none⟩ = some (.string (y).pol) ∧ V.cell? ⟨g, o + jm * 16 + 3, none⟩ = some (.int .i64 (y).kd) ∧ V.cell? ⟨g, o + jm * 16 + 4, none⟩ = some (.int .i64 (y).st)) from
                  ⟨hH.out V u, ⟨cell_upd (ua.trans' u) hat9.c1, cell_upd (ua.trans' u) hat9.c2, cell_upd (ua.trans' u) hat9.c3, cell_upd (ua.trans' u) hat9.c4⟩⟩
                have hh := hcell.out _ ud
                replace ud := Lib.hid ud
                replace hje := Lib.hid hje
                clear hcc hstep hbef hjm hat9
                as_aux_lemma =>
                  gi_wp2
                  refine wpIn_eager [(0, true), (1, true), (2, false), (3, true), (4, true), (5, true), (6, true), (7, true), (8, true), (9, true), (10, true), (11, true), (12, true), (13, true), (14, true), (15, true), (16, true), (17, true), (18, true), (19, true), (20, true), (21, true), (22, true), (23, true), (24, true), (25, true), (26, false), (27, true), (28, true), (29, true)] (fun V => ((V.cell? ⟨W.heap.size, 0, none⟩ = some (.int .i64 f) ∧ V.cell? ⟨W.heap.size, 1, none⟩ = some (.slice (some ⟨g, o, none⟩) vs.length cap)) ∧ (V.cell? ⟨wr.heap.size, 0, none⟩ = some (.int .i64 (v).ep) ∧ V.cell? ⟨wr.heap.size, 1, none⟩ = some (.string (v).key) ∧ V.cell? ⟨wr.heap.size, 2, none⟩ = some (.string (v).pol) ∧ V.cell? ⟨wr.heap.size, 3, none⟩ = some (.int .i64 (v).kd) ∧ V.cell? ⟨wr.heap.size, 4, none⟩ = some (.int .i64 (v).st) ∧ V.cell? ⟨wr.heap.size, 5, none⟩ = some (.int .i64 (v).rev) ∧ V.cell? ⟨wr.heap.size, 6, none⟩ = some (.bool (v).fin) ∧ V.cell? ⟨wr.heap.size, 7, none⟩ = some (.int .i64 (v).rk) ∧ V.cell? ⟨wr.heap.size, 8, none⟩ = some (.int .i64 (v).cnt) ∧ V.cell? ⟨wr.heap.size, 9, none⟩ = some (.int .i64 (v).sum) ∧ V.cell? ⟨wr.heap.size, 10, none⟩ = some (.int .i64 (v).mn) ∧ V.cell? ⟨wr.heap.size, 11, none⟩ = some (.int .i64 (v).mx) ∧ V.cell? ⟨wr.heap.size, 12, none⟩ = some (.int .i64 (v).q0) ∧ V.cell? ⟨wr.heap.size, 13, none⟩ = some (.int .i64 (v).q1) ∧ V.cell? ⟨wr.heap.size, 14, none⟩ = some (.int .i64 (v).q2) ∧ V.cell? ⟨wr.heap.size, 15, none⟩ = some (.bool (v).over))) ∧ (V.cell? ⟨g, o + jm * 16 + 1, none⟩ = some (.string (y).key) ∧ V.cell? ⟨g, o + jm * 16 + 2, none⟩ = some (.string (y).pol) ∧ V.cell? ⟨g, o + jm * 16 + 3, none⟩ = some (.int .i64 (y).kd) ∧ V.cell? ⟨g, o + jm * 16 + 4, none⟩ = some (.int .i64 (y).st))) (by kernel_rfl) (by kernel_rfl) hh ?_
                  repeat (first | (refine wpE_fl rfl rfl (fun _ _ => rfl) ?_; go_simp) | (refine wpE_sk rfl rfl ?_; go_simp) | (refine wpE_fl (v := ?_) rfl rfl ?_ ?_; rotate_left; (intro W' h'; (try dsimp only at h'); go_simp; exact rfl); go_simp) | (refine wpE_ef rfl ?_; go_simp; gi_wp2_with (first | refine (⟨trivial, rfl, ?_⟩ : Fence.wide.fn _ ∧ Fence.wide.depth = none ∧ _) | refine (⟨trivial, trivial, rfl, ?_⟩ : Fence.wide.fn _ ∧ Fence.wide.fn _ ∧ Fence.wide.depth = none ∧ _) | (gi_at_call 35; (with_reducible refine (ke.out _).mono ?_); rintro e W1 ⟨rfl, hW1⟩; (replace hW1 := hW1.symm); (subst hW1)) | (gi_at_call 26; (with_reducible refine (tx.out _).mono ?_); rintro e W2 ⟨rfl, h2⟩; (replace h2 := Lib.hid (ud.out.trans' h2))) | refine (⟨trivial, ?_⟩ : Fence.wide.fn _ ∧ _)); (first | refine ⟨by first | exact hh | exact (hcell.out _ h2.out), ?_⟩ | skip)))
                  refine wpE_nil ?_
                  obtain ⟨q, hq⟩ := hLS.out hnx.out
                  have hh2 : (W2.drew).cell? ⟨sb, 1, none⟩ = some (.pointer (some ⟨q, 0, none⟩)) ∧ ((W2.drew).cell? ⟨wr.heap.size, 0, none⟩ = some (.int .i64 (v).ep) ∧ (W2.drew).cell? ⟨wr.heap.size, 1, none⟩ = some (.string (v).key) ∧ (W2.drew).cell? ⟨wr.heap.size, 2, none⟩ = some (.string (v).pol) ∧ (W2.drew).cell? ⟨wr.heap.size, 3, none⟩ = some (.int .i64 (v).kd) ∧ (W2.drew).cell? ⟨wr.heap.size, 4, none⟩ = some (.int .i64 (v).st) ∧ (W2.drew).cell? ⟨wr.heap.size, 5, none⟩ = some (.int .i64 (v).rev) ∧ (W2.drew).cell? ⟨wr.heap.size, 6, none⟩ = some (.bool (v).fin) ∧ (W2.drew).cell? ⟨wr.heap.size, 7, none⟩ = some (.int .i64 (v).rk) ∧ (W2.drew).cell? ⟨wr.heap.size, 8, none⟩ = some (.int .i64 (v).cnt) ∧ (W2.drew).cell? ⟨wr.heap.size, 9, none⟩ = some (.int .i64 (v).sum) ∧ (W2.drew).cell? ⟨wr.heap.size, 10, none⟩ = some (.int .i64 (v).mn) ∧ (W2.drew).cell? ⟨wr.heap.size, 11, none⟩ = some (.int .i64 (v).mx) ∧ (W2.drew).cell? ⟨wr.heap.size, 12, none⟩ = some (.int .i64 (v).q0) ∧ (W2.drew).cell? ⟨wr.heap.size, 13, none⟩ = some (.int .i64 (v).q1) ∧ (W2.drew).cell? ⟨wr.heap.size, 14, none⟩ = some (.int .i64 (v).q2) ∧ (W2.drew).cell? ⟨wr.heap.size, 15, none⟩ = some (.bool (v).over)) := ⟨(hq _ ((ua.trans' h2.out).stepDrew)).1, (hH.out _ (h2.out.stepDrew)).2⟩
                  replace hq := Lib.hid hq
                  gi_wp2
                  refine wpIn_eager [(0, true), (1, true), (2, true), (3, true), (4, true), (5, true), (6, true), (7, true), (8, false)] (fun V => V.cell? ⟨sb, 1, none⟩ = some (.pointer (some ⟨q, 0, none⟩)) ∧ (V.cell? ⟨wr.heap.size, 0, none⟩ = some (.int .i64 (v).ep) ∧ V.cell? ⟨wr.heap.size, 1, none⟩ = some (.string (v).key) ∧ V.cell? ⟨wr.heap.size, 2, none⟩ = some (.string (v).pol) ∧ V.cell? ⟨wr.heap.size, 3, none⟩ = some (.int .i64 (v).kd) ∧ V.cell? ⟨wr.heap.size, 4, none⟩ = some (.int .i64 (v).st) ∧ V.cell? ⟨wr.heap.size, 5, none⟩ = some (.int .i64 (v).rev) ∧ V.cell? ⟨wr.heap.size, 6, none⟩ = some (.bool (v).fin) ∧ V.cell? ⟨wr.heap.size, 7, none⟩ = some (.int .i64 (v).rk) ∧ V.cell? ⟨wr.heap.size, 8, none⟩ = some (.int .i64 (v).cnt) ∧ V.cell? ⟨wr.heap.size, 9, none⟩ = some (.int .i64 (v).sum) ∧ V.cell? ⟨wr.heap.size, 10, none⟩ = some (.int .i64 (v).mn) ∧ V.cell? ⟨wr.heap.size, 11, none⟩ = some (.int .i64 (v).mx) ∧ V.cell? ⟨wr.heap.size, 12, none⟩ = some (.int .i64 (v).q0) ∧ V.cell? ⟨wr.heap.size, 13, none⟩ = some (.int .i64 (v).q1) ∧ V.cell? ⟨wr.heap.size, 14, none⟩ = some (.int .i64 (v).q2) ∧ V.cell? ⟨wr.heap.size, 15, none⟩ = some (.bool (v).over))) (by kernel_rfl) (by kernel_rfl) hh2 ?_
                  repeat (first | (refine wpE_fl rfl rfl (fun _ _ => rfl) ?_; go_simp) | (refine wpE_sk rfl rfl ?_; go_simp) | (refine wpE_fl (v := ?_) rfl rfl ?_ ?_; rotate_left; (intro W' h'; (try dsimp only at h'); go_simp; exact rfl); go_simp) | (refine wpE_ef rfl ?_; go_simp; gi_wp2_with (first | refine (⟨trivial, rfl, ?_⟩ : Fence.wide.fn _ ∧ Fence.wide.depth = none ∧ _) | refine (⟨trivial, trivial, rfl, ?_⟩ : Fence.wide.fn _ ∧ Fence.wide.fn _ ∧ Fence.wide.depth = none ∧ _) | (gi_at_call 28; (with_reducible refine (hq.out _ ((ua.trans' h2.out).stepDrew)).2.mono ?_); rintro e W3 ⟨b, rfl, pq, F', p1, p2, p3, p4⟩; (have h4 := hBX.out q _ (h2.out.stepDrew) _ p4 pq); (replace p1 := Lib.hid p1); (obtain ⟨n1, n2, n3⟩ := hFin.out W3 F' p2 p3); (clear p2 p3 p4)) | refine (⟨trivial, ?_⟩ : Fence.wide.fn _ ∧ _)); (first | refine ⟨by first | exact h4, ?_⟩ | skip)))
                  refine wpE_nil ?_
                  gi_wp2
                  exact ⟨⟨j + 1, F', by go_num, by omega, hnx.out, p1.out, n1, n2, n3⟩, by show vs.length - ((j : Int) + 1).toNat < vs.length - (j : Int).toNat; omega⟩
              · obtain ⟨jm, hjl, hwj, hje⟩ := hjm (by omega)
                obtain ⟨g9, o9, e9, hat9⟩ := atE_at (hrW.out _ hu) hjl
                cases e9
                have hprev : vs[j - 1]'(by omega) = vs[jm] := by subst hje; rfl
                rw [hprev] at hc
                have hnr : Hid (¬ RightE f vs) := Lib.hid fun hR => hc (by rw [← hprev]; exact hbef.out hR (by omega))
                clear hprev
                generalize vs[jm] = y at *
                have tx := Lib.hid fun V => compare_c (n := 0) (a := cellE y) (b := cellE v) (W := V)
                obtain ⟨c, hcc⟩ : ∃ c, cmpC (cellE y) (cellE v) = c := ⟨_, rfl⟩
                rw [hcc] at hc tx
                have hc' : ((0 : Int) ≤ c) = True := eq_true (by omega)
                have hcell := Lib.hid fun V (u : Upd (fun _ => False) (wr.alloc (.cells #[.int .i64 (v).ep, .string (v).key, .string (v).pol, .int .i64 (v).kd, .int .i64 (v).st, .int .i64 (v).rev, .bool (v).fin, .int .i64 (v).rk, .int .i64 (v).cnt, .int .i64 (v).sum, .int .i64 (v).mn, .int .i64 (v).mx, .int .i64 (v).q0, .int .i64 (v).q1, .int .i64 (v).q2, .bool (v).over] 63)) V) => show ((V.cell? ⟨W.heap.size, 0, none⟩ = some (.int .i64 f) ∧ V.cell? ⟨W.heap.size, 1, none⟩ = some (.slice (some ⟨g, o, none⟩) vs.length cap)) ∧ (V.cell? ⟨wr.heap.size, 0, none⟩ = some (.int .i64 (v).ep) ∧ V.cell? ⟨wr.heap.size, 1, none⟩ = some (.string (v).key) ∧ V.cell? ⟨wr.heap.size, 2, none⟩ = some (.string (v).pol) ∧ V.cell? ⟨wr.heap.size, 3, none⟩ = some (.int .i64 (v).kd) ∧ V.cell? ⟨wr.heap.size, 4, none⟩ = some (.int .i64 (v).st) ∧ V.cell? ⟨wr.heap.size, 5, none⟩ = some (.int .i64 (v).rev) ∧ V.cell? ⟨wr.heap.size, 6, none⟩ = some (.bool (v).fin) ∧ V.cell? ⟨wr.heap.size, 7, none⟩ = some (.int .i64 (v).rk) ∧ V.cell? ⟨wr.heap.size, 8, none⟩ = some (.int .i64 (v).cnt) ∧ V.cell? ⟨wr.heap.size, 9, none⟩ = some (.int .i64 (v).sum) ∧ V.cell? ⟨wr.heap.size, 10, none⟩ = some (.int .i64 (v).mn) ∧ V.cell? ⟨wr.heap.size, 11, none⟩ = some (.int .i64 (v).mx) ∧ V.cell? ⟨wr.heap.size, 12, none⟩ = some (.int .i64 (v).q0) ∧ V.cell? ⟨wr.heap.size, 13, none⟩ = some (.int .i64 (v).q1) ∧ V.cell? ⟨wr.heap.size, 14, none⟩ = some (.int .i64 (v).q2) ∧ V.cell? ⟨wr.heap.size, 15, none⟩ = some (.bool (v).over))) ∧ (V.cell? ⟨g, o + jm * 16 + 1, none⟩ = some (.string (y).key) ∧ V.cell? ⟨g, o + jm * 16 + 2, none⟩ = some (.string (y).pol) ∧ V.cell? ⟨g, o + jm * 16 + 3, none⟩ = some (.int .i64 (y).kd) ∧ V.cell? ⟨g, o + jm * 16 + 4, none⟩ = some (.int .i64 (y).st)) from
                  ⟨hH.out V u, ⟨cell_upd (ua.trans' u) hat9.c1, cell_upd (ua.trans' u) hat9.c2, cell_upd (ua.trans' u) hat9.c3, cell_upd (ua.trans' u) hat9.c4⟩⟩
                have hh := hcell.out _ ud
                replace ud := Lib.hid ud
                replace hje := Lib.hid hje
                clear hcc hstep hbef hjm hat9
                clear hH hFin hLS hBX
                as_aux_lemma =>
                  gi_wp2
                  refine wpIn_eager [(0, true), (1, true), (2, false), (3, true), (4, true), (5, true), (6, true), (7, true), (8, true), (9, true), (10, true), (11, true), (12, true), (13, true), (14, true), (15, true), (16, true), (17, true), (18, true), (19, true), (20, true), (21, true), (22, true), (23, true), (24, true), (25, true), (26, false), (27, true), (28, true), (29, true)] (fun V => ((V.cell? ⟨W.heap.size, 0, none⟩ = some (.int .i64 f) ∧ V.cell? ⟨W.heap.size, 1, none⟩ = some (.slice (some ⟨g, o, none⟩) vs.length cap)) ∧ (V.cell? ⟨wr.heap.size, 0, none⟩ = some (.int .i64 (v).ep) ∧ V.cell? ⟨wr.heap.size, 1, none⟩ = some (.string (v).key) ∧ V.cell? ⟨wr.heap.size, 2, none⟩ = some (.string (v).pol) ∧ V.cell? ⟨wr.heap.size, 3, none⟩ = some (.int .i64 (v).kd) ∧ V.cell? ⟨wr.heap.size, 4, none⟩ = some (.int .i64 (v).st) ∧ V.cell? ⟨wr.heap.size, 5, none⟩ = some (.int .i64 (v).rev) ∧ V.cell? ⟨wr.heap.size, 6, none⟩ = some (.bool (v).fin) ∧ V.cell? ⟨wr.heap.size, 7, none⟩ = some (.int .i64 (v).rk) ∧ V.cell? ⟨wr.heap.size, 8, none⟩ = some (.int .i64 (v).cnt) ∧ V.cell? ⟨wr.heap.size, 9, none⟩ = some (.int .i64 (v).sum) ∧ V.cell? ⟨wr.heap.size, 10, none⟩ = some (.int .i64 (v).mn) ∧ V.cell? ⟨wr.heap.size, 11, none⟩ = some (.int .i64 (v).mx) ∧ V.cell? ⟨wr.heap.size, 12, none⟩ = some (.int .i64 (v).q0) ∧ V.cell? ⟨wr.heap.size, 13, none⟩ = some (.int .i64 (v).q1) ∧ V.cell? ⟨wr.heap.size, 14, none⟩ = some (.int .i64 (v).q2) ∧ V.cell? ⟨wr.heap.size, 15, none⟩ = some (.bool (v).over))) ∧ (V.cell? ⟨g, o + jm * 16 + 1, none⟩ = some (.string (y).key) ∧ V.cell? ⟨g, o + jm * 16 + 2, none⟩ = some (.string (y).pol) ∧ V.cell? ⟨g, o + jm * 16 + 3, none⟩ = some (.int .i64 (y).kd) ∧ V.cell? ⟨g, o + jm * 16 + 4, none⟩ = some (.int .i64 (y).st))) (by kernel_rfl) (by kernel_rfl) hh ?_
                  repeat (first | (refine wpE_fl rfl rfl (fun _ _ => rfl) ?_; go_simp) | (refine wpE_sk rfl rfl ?_; go_simp) | (refine wpE_fl (v := ?_) rfl rfl ?_ ?_; rotate_left; (intro W' h'; (try dsimp only at h'); go_simp; exact rfl); go_simp) | (refine wpE_ef rfl ?_; go_simp; gi_wp2_with (first | refine (⟨trivial, rfl, ?_⟩ : Fence.wide.fn _ ∧ Fence.wide.depth = none ∧ _) | refine (⟨trivial, trivial, rfl, ?_⟩ : Fence.wide.fn _ ∧ Fence.wide.fn _ ∧ Fence.wide.depth = none ∧ _) | (gi_at_call 35; (with_reducible refine (ke.out _).mono ?_); rintro e W1 ⟨rfl, hW1⟩; (replace hW1 := hW1.symm); (subst hW1)) | (gi_at_call 26; (with_reducible refine (tx.out _).mono ?_); rintro e W2 ⟨rfl, h2⟩; (replace h2 := Lib.hid (ud.out.trans' h2))) | refine (⟨trivial, ?_⟩ : Fence.wide.fn _ ∧ _)); (first | refine ⟨by first | exact hh | exact (hcell.out _ h2.out), ?_⟩ | skip)))
                  refine wpE_nil ?_
                  gi_wp2
                  refine bodyPost_ret (results_tmp2 rfl _ _ _) rfl ?_
                  exact .inr ⟨hnr.out, rfl, huA.out.trans' h2.out⟩
            · have hnx := Lib.hid (hstep.out ⟨h1, h2⟩ fun h => absurd h h0)
              have h0' : ((0 : Int) < (j : Int)) = False := eq_false (by omega)
              have hh := hH.out _ ud
              clear hstep hbef hjm
              as_aux_lemma =>
                gi_wp2
                refine wpIn_eager [(0, true), (1, true), (2, false), (3, true), (4, true), (5, true), (6, true), (7, true), (8, true), (9, true), (10, true), (11, true), (12, true), (13, true), (14, true), (15, true), (16, true), (17, true), (18, true), (19, true), (20, true), (21, true), (22, true), (23, true), (24, true), (25, true), (26, false), (27, true), (28, true), (29, true)] (fun V => (V.cell? ⟨W.heap.size, 0, none⟩ = some (.int .i64 f) ∧ V.cell? ⟨W.heap.size, 1, none⟩ = some (.slice (some ⟨g, o, none⟩) vs.length cap)) ∧ (V.cell? ⟨wr.heap.size, 0, none⟩ = some (.int .i64 (v).ep) ∧ V.cell? ⟨wr.heap.size, 1, none⟩ = some (.string (v).key) ∧ V.cell? ⟨wr.heap.size, 2, none⟩ = some (.string (v).pol) ∧ V.cell? ⟨wr.heap.size, 3, none⟩ = some (.int .i64 (v).kd) ∧ V.cell? ⟨wr.heap.size, 4, none⟩ = some (.int .i64 (v).st) ∧ V.cell? ⟨wr.heap.size, 5, none⟩ = some (.int .i64 (v).rev) ∧ V.cell? ⟨wr.heap.size, 6, none⟩ = some (.bool (v).fin) ∧ V.cell? ⟨wr.heap.size, 7, none⟩ = some (.int .i64 (v).rk) ∧ V.cell? ⟨wr.heap.size, 8, none⟩ = some (.int .i64 (v).cnt) ∧ V.cell? ⟨wr.heap.size, 9, none⟩ = some (.int .i64 (v).sum) ∧ V.cell? ⟨wr.heap.size, 10, none⟩ = some (.int .i64 (v).mn) ∧ V.cell? ⟨wr.heap.size, 11, none⟩ = some (.int .i64 (v).mx) ∧ V.cell? ⟨wr.heap.size, 12, none⟩ = some (.int .i64 (v).q0) ∧ V.cell? ⟨wr.heap.size, 13, none⟩ = some (.int .i64 (v).q1) ∧ V.cell? ⟨wr.heap.size, 14, none⟩ = some (.int .i64 (v).q2) ∧ V.cell? ⟨wr.heap.size, 15, none⟩ = some (.bool (v).over))) (by kernel_rfl) (by kernel_rfl) hh ?_
                repeat (first | (refine wpE_fl rfl rfl (fun _ _ => rfl) ?_; go_simp) | (refine wpE_sk rfl rfl ?_; go_simp) | (refine wpE_fl (v := ?_) rfl rfl ?_ ?_; rotate_left; (intro W' h'; (try dsimp only at h'); go_simp; exact rfl); go_simp) | (refine wpE_ef rfl ?_; go_simp; gi_wp2_with (first | refine (⟨trivial, rfl, ?_⟩ : Fence.wide.fn _ ∧ Fence.wide.depth = none ∧ _) | refine (⟨trivial, trivial, rfl, ?_⟩ : Fence.wide.fn _ ∧ Fence.wide.fn _ ∧ Fence.wide.depth = none ∧ _) | (gi_at_call 35; (with_reducible refine (ke.out _).mono ?_); rintro e W1 ⟨rfl, hW1⟩; (replace hW1 := hW1.symm); (subst hW1)) | refine (⟨trivial, ?_⟩ : Fence.wide.fn _ ∧ _)); (first | refine ⟨by first | exact hh, ?_⟩ | skip)))
                refine wpE_nil ?_
                obtain ⟨q, hq⟩ := hLS.out hnx.out
                have hh2 : ((wr.alloc (.cells #[.int .i64 (v).ep, .string (v).key, .string (v).pol, .int .i64 (v).kd, .int .i64 (v).st, .int .i64 (v).rev, .bool (v).fin, .int .i64 (v).rk, .int .i64 (v).cnt, .int .i64 (v).sum, .int .i64 (v).mn, .int .i64 (v).mx, .int .i64 (v).q0, .int .i64 (v).q1, .int .i64 (v).q2, .bool (v).over] 63)).drew.drew).cell? ⟨sb, 1, none⟩ = some (.pointer (some ⟨q, 0, none⟩)) ∧ (((wr.alloc (.cells #[.int .i64 (v).ep, .string (v).key, .string (v).pol, .int .i64 (v).kd, .int .i64 (v).st, .int .i64 (v).rev, .bool (v).fin, .int .i64 (v).rk, .int .i64 (v).cnt, .int .i64 (v).sum, .int .i64 (v).mn, .int .i64 (v).mx, .int .i64 (v).q0, .int .i64 (v).q1, .int .i64 (v).q2, .bool (v).over] 63)).drew.drew).cell? ⟨wr.heap.size, 0, none⟩ = some (.int .i64 (v).ep) ∧ ((wr.alloc (.cells #[.int .i64 (v).ep, .string (v).key, .string (v).pol, .int .i64 (v).kd, .int .i64 (v).st, .int .i64 (v).rev, .bool (v).fin, .int .i64 (v).rk, .int .i64 (v).cnt, .int .i64 (v).sum, .int .i64 (v).mn, .int .i64 (v).mx, .int .i64 (v).q0, .int .i64 (v).q1, .int .i64 (v).q2, .bool (v).over] 63)).drew.drew).cell? ⟨wr.heap.size, 1, none⟩ = some (.string (v).key) ∧ ((wr.alloc (.cells #[.int .i64 (v).ep, .string (v).key, .string (v).pol, .int .i64 (v).kd, .int .i64 (v).st, .int .i64 (v).rev, .bool (v).fin, .int .i64 (v).rk, .int .i64 (v).cnt, .int .i64 (v).sum, .int .i64 (v).mn, .int .i64 (v).mx, .int .i64 (v).q0, .int .i64 (v).q1, .int .i64 (v).q2, .bool (v).over] 63)).drew.drew).cell? ⟨wr.heap.size, 2, none⟩ = some (.string (v).pol) ∧ ((wr.alloc (.cells #[.int .i64 (v).ep, .string (v).key, .string (v).pol, .int .i64 (v).kd, .int .i64 (v).st, .int .i64 (v).rev, .bool (v).fin, .int .i64 (v).rk, .int .i64 (v).cnt, .int .i64 (v).sum, .int .i64 (v).mn, .int .i64 (v).mx, .int .i64 (v).q0, .int .i64 (v).q1, .int .i64 (v).q2, .bool (v).over] 63)).drew.drew).cell? ⟨wr.heap.size, 3, none⟩ = some (.int .i64 (v).kd) ∧ ((wr.alloc (.cells #[.int .i64 (v).ep, .string (v).key, .string (v).pol, .int .i64 (v).kd, .int .i64 (v).st, .int .i64 (v).rev, .bool (v).fin, .int .i64 (v).rk, .int .i64 (v).cnt, .int .i64 (v).sum, .int .i64 (v).mn, .int .i64 (v).mx, .int .i64 (v).q0, .int .i64 (v).q1, .int .i64 (v).q2, .bool (v).over] 63)).drew.drew).cell? ⟨wr.heap.size, 4, none⟩ = some (.int .i64 (v).st) ∧ ((wr.alloc (.cells #[.int .i64 (v).ep, .string (v).key, .string (v).pol, .int .i64 (v).kd, .int .i64 (v).st, .int .i64 (v).rev, .bool (v).fin, .int .i64 (v).rk, .int .i64 (v).cnt, .int .i64 (v).sum, .int .i64 (v).mn, .int .i64 (v).mx, .int .i64 (v).q0, .int .i64 (v).q1, .int .i64 (v).q2, .bool (v).over] 63)).drew.drew).cell? ⟨wr.heap.size, 5, none⟩ = some (.int .i64 (v).rev) ∧ ((wr.alloc (.cells #[.int .i64 (v).ep, .string (v).key, .string (v).pol, .int .i64 (v).kd, .int .i64 (v).st, .int .i64 (v).rev, .bool (v).fin, .int .i64 (v).rk, .int .i64 (v).cnt, .int .i64 (v).sum, .int .i64 (v).mn, .int .i64 (v).mx, .int .i64 (v).q0, .int .i64 (v).q1, .int .i64 (v).q2, .bool (v).over] 63)).drew.drew).cell? ⟨wr.heap.size, 6, none⟩ = some (.bool (v).fin) ∧ ((wr.alloc (.cells #[.int .i64 (v).ep, .string (v).key, .string (v).pol, .int .i64 (v).kd, .int .i64 (v).st, .int .i64 (v).rev, .bool (v).fin, .int .i64 (v).rk, .int .i64 (v).cnt, .int .i64 (v).sum, .int .i64 (v).mn, .int .i64 (v).mx, .int .i64 (v).q0, .int .i64 (v).q1, .int .i64 (v).q2, .bool (v).over] 63)).drew.drew).cell? ⟨wr.heap.size, 7, none⟩ = some (.int .i64 (v).rk) ∧ ((wr.alloc (.cells #[.int .i64 (v).ep, .string (v).key, .string (v).pol, .int .i64 (v).kd, .int .i64 (v).st, .int .i64 (v).rev, .bool (v).fin, .int .i64 (v).rk, .int .i64 (v).cnt, .int .i64 (v).sum, .int .i64 (v).mn, .int .i64 (v).mx, .int .i64 (v).q0, .int .i64 (v).q1, .int .i64 (v).q2, .bool (v).over] 63)).drew.drew).cell? ⟨wr.heap.size, 8, none⟩ = some (.int .i64 (v).cnt) ∧ ((wr.alloc (.cells #[.int .i64 (v).ep, .string (v).key, .string (v).pol, .int .i64 (v).kd, .int .i64 (v).st, .int .i64 (v).rev, .bool (v).fin, .int .i64 (v).rk, .int .i64 (v).cnt, .int .i64 (v).sum, .int .i64 (v).mn, .int .i64 (v).mx, .int .i64 (v).q0, .int .i64 (v).q1, .int .i64 (v).q2, .bool (v).over] 63)).drew.drew).cell? ⟨wr.heap.size, 9, none⟩ = some (.int .i64 (v).sum) ∧ ((wr.alloc (.cells #[.int .i64 (v).ep, .string (v).key, .string (v).pol, .int .i64 (v).kd, .int .i64 (v).st, .int .i64 (v).rev, .bool (v).fin, .int .i64 (v).rk, .int .i64 (v).cnt, .int .i64 (v).sum, .int .i64 (v).mn, .int .i64 (v).mx, .int .i64 (v).q0, .int .i64 (v).q1, .int .i64 (v).q2, .bool (v).over] 63)).drew.drew).cell? ⟨wr.heap.size, 10, none⟩ = some (.int .i64 (v).mn) ∧ ((wr.alloc (.cells #[.int .i64 (v).ep, .string (v).key, .string (v).pol, .int .i64 (v).kd, .int .i64 (v).st, .int .i64 (v).rev, .bool (v).fin, .int .i64 (v).rk, .int .i64 (v).cnt, .int .i64 (v).sum, .int .i64 (v).mn, .int .i64 (v).mx, .int .i64 (v).q0, .int .i64 (v).q1, .int .i64 (v).q2, .bool (v).over] 63)).drew.drew).cell? ⟨wr.heap.size, 11, none⟩ = some (.int .i64 (v).mx) ∧ ((wr.alloc (.cells #[.int .i64 (v).ep, .string (v).key, .string (v).pol, .int .i64 (v).kd, .int .i64 (v).st, .int .i64 (v).rev, .bool (v).fin, .int .i64 (v).rk, .int .i64 (v).cnt, .int .i64 (v).sum, .int .i64 (v).mn, .int .i64 (v).mx, .int .i64 (v).q0, .int .i64 (v).q1, .int .i64 (v).q2, .bool (v).over] 63)).drew.drew).cell? ⟨wr.heap.size, 12, none⟩ = some (.int .i64 (v).q0) ∧ ((wr.alloc (.cells #[.int .i64 (v).ep, .string (v).key, .string (v).pol, .int .i64 (v).kd, .int .i64 (v).st, .int .i64 (v).rev, .bool (v).fin, .int .i64 (v).rk, .int .i64 (v).cnt, .int .i64 (v).sum, .int .i64 (v).mn, .int .i64 (v).mx, .int .i64 (v).q0, .int .i64 (v).q1, .int .i64 (v).q2, .bool (v).over] 63)).drew.drew).cell? ⟨wr.heap.size, 13, none⟩ = some (.int .i64 (v).q1) ∧ ((wr.alloc (.cells #[.int .i64 (v).ep, .string (v).key, .string (v).pol, .int .i64 (v).kd, .int .i64 (v).st, .int .i64 (v).rev, .bool (v).fin, .int .i64 (v).rk, .int .i64 (v).cnt, .int .i64 (v).sum, .int .i64 (v).mn, .int .i64 (v).mx, .int .i64 (v).q0, .int .i64 (v).q1, .int .i64 (v).q2, .bool (v).over] 63)).drew.drew).cell? ⟨wr.heap.size, 14, none⟩ = some (.int .i64 (v).q2) ∧ ((wr.alloc (.cells #[.int .i64 (v).ep, .string (v).key, .string (v).pol, .int .i64 (v).kd, .int .i64 (v).st, .int .i64 (v).rev, .bool (v).fin, .int .i64 (v).rk, .int .i64 (v).cnt, .int .i64 (v).sum, .int .i64 (v).mn, .int .i64 (v).mx, .int .i64 (v).q0, .int .i64 (v).q1, .int .i64 (v).q2, .bool (v).over] 63)).drew.drew).cell? ⟨wr.heap.size, 15, none⟩ = some (.bool (v).over)) := ⟨(hq _ (ua.stepDrew.stepDrew)).1, (hH.out _ (ud.stepDrew)).2⟩
                replace hq := Lib.hid hq
                gi_wp2
                refine wpIn_eager [(0, true), (1, true), (2, true), (3, true), (4, true), (5, true), (6, true), (7, true), (8, false)] (fun V => V.cell? ⟨sb, 1, none⟩ = some (.pointer (some ⟨q, 0, none⟩)) ∧ (V.cell? ⟨wr.heap.size, 0, none⟩ = some (.int .i64 (v).ep) ∧ V.cell? ⟨wr.heap.size, 1, none⟩ = some (.string (v).key) ∧ V.cell? ⟨wr.heap.size, 2, none⟩ = some (.string (v).pol) ∧ V.cell? ⟨wr.heap.size, 3, none⟩ = some (.int .i64 (v).kd) ∧ V.cell? ⟨wr.heap.size, 4, none⟩ = some (.int .i64 (v).st) ∧ V.cell? ⟨wr.heap.size, 5, none⟩ = some (.int .i64 (v).rev) ∧ V.cell? ⟨wr.heap.size, 6, none⟩ = some (.bool (v).fin) ∧ V.cell? ⟨wr.heap.size, 7, none⟩ = some (.int .i64 (v).rk) ∧ V.cell? ⟨wr.heap.size, 8, none⟩ = some (.int .i64 (v).cnt) ∧ V.cell? ⟨wr.heap.size, 9, none⟩ = some (.int .i64 (v).sum) ∧ V.cell? ⟨wr.heap.size, 10, none⟩ = some (.int .i64 (v).mn) ∧ V.cell? ⟨wr.heap.size, 11, none⟩ = some (.int .i64 (v).mx) ∧ V.cell? ⟨wr.heap.size, 12, none⟩ = some (.int .i64 (v).q0) ∧ V.cell? ⟨wr.heap.size, 13, none⟩ = some (.int .i64 (v).q1) ∧ V.cell? ⟨wr.heap.size, 14, none⟩ = some (.int .i64 (v).q2) ∧ V.cell? ⟨wr.heap.size, 15, none⟩ = some (.bool (v).over))) (by kernel_rfl) (by kernel_rfl) hh2 ?_
                repeat (first | (refine wpE_fl rfl rfl (fun _ _ => rfl) ?_; go_simp) | (refine wpE_sk rfl rfl ?_; go_simp) | (refine wpE_fl (v := ?_) rfl rfl ?_ ?_; rotate_left; (intro W' h'; (try dsimp only at h'); go_simp; exact rfl); go_simp) | (refine wpE_ef rfl ?_; go_simp; gi_wp2_with (first | refine (⟨trivial, rfl, ?_⟩ : Fence.wide.fn _ ∧ Fence.wide.depth = none ∧ _) | refine (⟨trivial, trivial, rfl, ?_⟩ : Fence.wide.fn _ ∧ Fence.wide.fn _ ∧ Fence.wide.depth = none ∧ _) | (gi_at_call 28; (with_reducible refine (hq.out _ (ua.stepDrew.stepDrew)).2.mono ?_); rintro e W3 ⟨b, rfl, pq, F', p1, p2, p3, p4⟩; (have h4 := hBX.out q _ (ud.stepDrew) _ p4 pq); (replace p1 := Lib.hid p1); (obtain ⟨n1, n2, n3⟩ := hFin.out W3 F' p2 p3); (clear p2 p3 p4)) | refine (⟨trivial, ?_⟩ : Fence.wide.fn _ ∧ _)); (first | refine ⟨by first | exact h4, ?_⟩ | skip)))
                refine wpE_nil ?_
                gi_wp2
                exact ⟨⟨j + 1, F', by go_num, by omega, hnx.out, p1.out, n1, n2, n3⟩, by show vs.length - ((j : Int) + 1).toNat < vs.length - (j : Int).toNat; omega⟩
          · have h2' : (f < v.ep) = True := eq_true (by omega)
            have hnr : Hid (¬ RightE f vs) := Lib.hid fun hR => h2 (hR.ep v hmem).2
            by_cases h3 : v.ep ≤ mxE
            · have ke := Lib.hid fun (W : World) => epoch_c (n := 0) (x := v.ep) (W := W)
              have hin : 0 ≤ v.ep ∧ v.ep ≤ mxE := by omega
              simp only [decide_eq_true hin] at ke
              clear hin
              have hh := hH.out _ ud
              clear hstep hbef hjm
              clear hH ud hFin hLS hBX
              as_aux_lemma =>
                gi_wp2
                refine wpIn_eager [(0, true), (1, true), (2, false), (3, true), (4, true), (5, true), (6, true), (7, true), (8, true), (9, true), (10, true), (11, true), (12, true), (13, true), (14, true), (15, true), (16, true), (17, true), (18, true), (19, true), (20, true), (21, true), (22, true), (23, true), (24, true), (25, true), (26, false), (27, true), (28, true), (29, true)] (fun V => (V.cell? ⟨W.heap.size, 0, none⟩ = some (.int .i64 f) ∧ V.cell? ⟨W.heap.size, 1, none⟩ = some (.slice (some ⟨g, o, none⟩) vs.length cap)) ∧ (V.cell? ⟨wr.heap.size, 0, none⟩ = some (.int .i64 (v).ep) ∧ V.cell? ⟨wr.heap.size, 1, none⟩ = some (.string (v).key) ∧ V.cell? ⟨wr.heap.size, 2, none⟩ = some (.string (v).pol) ∧ V.cell? ⟨wr.heap.size, 3, none⟩ = some (.int .i64 (v).kd) ∧ V.cell? ⟨wr.heap.size, 4, none⟩ = some (.int .i64 (v).st) ∧ V.cell? ⟨wr.heap.size, 5, none⟩ = some (.int .i64 (v).rev) ∧ V.cell? ⟨wr.heap.size, 6, none⟩ = some (.bool (v).fin) ∧ V.cell? ⟨wr.heap.size, 7, none⟩ = some (.int .i64 (v).rk) ∧ V.cell? ⟨wr.heap.size, 8, none⟩ = some (.int .i64 (v).cnt) ∧ V.cell? ⟨wr.heap.size, 9, none⟩ = some (.int .i64 (v).sum) ∧ V.cell? ⟨wr.heap.size, 10, none⟩ = some (.int .i64 (v).mn) ∧ V.cell? ⟨wr.heap.size, 11, none⟩ = some (.int .i64 (v).mx) ∧ V.cell? ⟨wr.heap.size, 12, none⟩ = some (.int .i64 (v).q0) ∧ V.cell? ⟨wr.heap.size, 13, none⟩ = some (.int .i64 (v).q1) ∧ V.cell? ⟨wr.heap.size, 14, none⟩ = some (.int .i64 (v).q2) ∧ V.cell? ⟨wr.heap.size, 15, none⟩ = some (.bool (v).over))) (by kernel_rfl) (by kernel_rfl) hh ?_
                repeat (first | (refine wpE_fl rfl rfl (fun _ _ => rfl) ?_; go_simp) | (refine wpE_sk rfl rfl ?_; go_simp) | (refine wpE_fl (v := ?_) rfl rfl ?_ ?_; rotate_left; (intro W' h'; (try dsimp only at h'); go_simp; exact rfl); go_simp) | (refine wpE_ef rfl ?_; go_simp; gi_wp2_with (first | refine (⟨trivial, rfl, ?_⟩ : Fence.wide.fn _ ∧ Fence.wide.depth = none ∧ _) | refine (⟨trivial, trivial, rfl, ?_⟩ : Fence.wide.fn _ ∧ Fence.wide.fn _ ∧ Fence.wide.depth = none ∧ _) | (gi_at_call 35; (with_reducible refine (ke.out _).mono ?_); rintro e W1 ⟨rfl, hW1⟩; (replace hW1 := hW1.symm); (subst hW1)) | refine (⟨trivial, ?_⟩ : Fence.wide.fn _ ∧ _)); (first | refine ⟨by first | exact hh, ?_⟩ | skip)))
                refine wpE_nil ?_
                gi_wp2
                refine bodyPost_ret (results_tmp2 rfl _ _ _) rfl ?_
                exact .inr ⟨hnr.out, rfl, huA.out.stepDrew⟩
            · have ke := Lib.hid fun (W : World) => epoch_c (n := 0) (x := v.ep) (W := W)
              have hin : ¬ (0 ≤ v.ep ∧ v.ep ≤ mxE) := by omega
              simp only [decide_eq_false hin] at ke
              clear hin
              have hh := hH.out _ ud
              clear hstep hbef hjm
              clear hH ud hFin hLS hBX
              as_aux_lemma =>
                gi_wp2
                refine wpIn_eager [(0, true), (1, true), (2, false), (3, true), (4, true), (5, true), (6, true), (7, true), (8, true), (9, true), (10, true), (11, true), (12, true), (13, true), (14, true), (15, true), (16, true), (17, true), (18, true), (19, true), (20, true), (21, true), (22, true), (23, true), (24, true), (25, true), (26, false), (27, true), (28, true), (29, true)] (fun V => (V.cell? ⟨W.heap.size, 0, none⟩ = some (.int .i64 f) ∧ V.cell? ⟨W.heap.size, 1, none⟩ = some (.slice (some ⟨g, o, none⟩) vs.length cap)) ∧ (V.cell? ⟨wr.heap.size, 0, none⟩ = some (.int .i64 (v).ep) ∧ V.cell? ⟨wr.heap.size, 1, none⟩ = some (.string (v).key) ∧ V.cell? ⟨wr.heap.size, 2, none⟩ = some (.string (v).pol) ∧ V.cell? ⟨wr.heap.size, 3, none⟩ = some (.int .i64 (v).kd) ∧ V.cell? ⟨wr.heap.size, 4, none⟩ = some (.int .i64 (v).st) ∧ V.cell? ⟨wr.heap.size, 5, none⟩ = some (.int .i64 (v).rev) ∧ V.cell? ⟨wr.heap.size, 6, none⟩ = some (.bool (v).fin) ∧ V.cell? ⟨wr.heap.size, 7, none⟩ = some (.int .i64 (v).rk) ∧ V.cell? ⟨wr.heap.size, 8, none⟩ = some (.int .i64 (v).cnt) ∧ V.cell? ⟨wr.heap.size, 9, none⟩ = some (.int .i64 (v).sum) ∧ V.cell? ⟨wr.heap.size, 10, none⟩ = some (.int .i64 (v).mn) ∧ V.cell? ⟨wr.heap.size, 11, none⟩ = some (.int .i64 (v).mx) ∧ V.cell? ⟨wr.heap.size, 12, none⟩ = some (.int .i64 (v).q0) ∧ V.cell? ⟨wr.heap.size, 13, none⟩ = some (.int .i64 (v).q1) ∧ V.cell? ⟨wr.heap.size, 14, none⟩ = some (.int .i64 (v).q2) ∧ V.cell? ⟨wr.heap.size, 15, none⟩ = some (.bool (v).over))) (by kernel_rfl) (by kernel_rfl) hh ?_
                repeat (first | (refine wpE_fl rfl rfl (fun _ _ => rfl) ?_; go_simp) | (refine wpE_sk rfl rfl ?_; go_simp) | (refine wpE_fl (v := ?_) rfl rfl ?_ ?_; rotate_left; (intro W' h'; (try dsimp only at h'); go_simp; exact rfl); go_simp) | (refine wpE_ef rfl ?_; go_simp; gi_wp2_with (first | refine (⟨trivial, rfl, ?_⟩ : Fence.wide.fn _ ∧ Fence.wide.depth = none ∧ _) | refine (⟨trivial, trivial, rfl, ?_⟩ : Fence.wide.fn _ ∧ Fence.wide.fn _ ∧ Fence.wide.depth = none ∧ _) | (gi_at_call 35; (with_reducible refine (ke.out _).mono ?_); rintro e W1 ⟨rfl, hW1⟩; (replace hW1 := hW1.symm); (subst hW1)) | refine (⟨trivial, ?_⟩ : Fence.wide.fn _ ∧ _)); (first | refine ⟨by first | exact hh, ?_⟩ | skip)))
                refine wpE_nil ?_
                gi_wp2
                refine bodyPost_ret (results_tmp2 rfl _ _ _) rfl ?_
                exact .inr ⟨hnr.out, rfl, huA.out.stepDrew⟩
        · have hnr : Hid (¬ RightE f vs) := Lib.hid fun hR => h1 (hR.ep v hmem).1
          have ke := Lib.hid fun (W : World) => epoch_c (n := 0) (x := v.ep) (W := W)
          have hin : ¬ (0 ≤ v.ep ∧ v.ep ≤ mxE) := by omega
          simp only [decide_eq_false hin] at ke
          clear hin
          have hh := hH.out _ ud
          clear hstep hbef hjm
          clear hH ud hFin hLS hBX
          as_aux_lemma =>
            gi_wp2
            refine wpIn_eager [(0, true), (1, true), (2, false), (3, true), (4, true), (5, true), (6, true), (7, true), (8, true), (9, true), (10, true), (11, true), (12, true), (13, true), (14, true), (15, true), (16, true), (17, true), (18, true), (19, true), (20, true), (21, true), (22, true), (23, true), (24, true), (25, true), (26, false), (27, true), (28, true), (29, true)] (fun V => (V.cell? ⟨W.heap.size, 0, none⟩ = some (.int .i64 f) ∧ V.cell? ⟨W.heap.size, 1, none⟩ = some (.slice (some ⟨g, o, none⟩) vs.length cap)) ∧ (V.cell? ⟨wr.heap.size, 0, none⟩ = some (.int .i64 (v).ep) ∧ V.cell? ⟨wr.heap.size, 1, none⟩ = some (.string (v).key) ∧ V.cell? ⟨wr.heap.size, 2, none⟩ = some (.string (v).pol) ∧ V.cell? ⟨wr.heap.size, 3, none⟩ = some (.int .i64 (v).kd) ∧ V.cell? ⟨wr.heap.size, 4, none⟩ = some (.int .i64 (v).st) ∧ V.cell? ⟨wr.heap.size, 5, none⟩ = some (.int .i64 (v).rev) ∧ V.cell? ⟨wr.heap.size, 6, none⟩ = some (.bool (v).fin) ∧ V.cell? ⟨wr.heap.size, 7, none⟩ = some (.int .i64 (v).rk) ∧ V.cell? ⟨wr.heap.size, 8, none⟩ = some (.int .i64 (v).cnt) ∧ V.cell? ⟨wr.heap.size, 9, none⟩ = some (.int .i64 (v).sum) ∧ V.cell? ⟨wr.heap.size, 10, none⟩ = some (.int .i64 (v).mn) ∧ V.cell? ⟨wr.heap.size, 11, none⟩ = some (.int .i64 (v).mx) ∧ V.cell? ⟨wr.heap.size, 12, none⟩ = some (.int .i64 (v).q0) ∧ V.cell? ⟨wr.heap.size, 13, none⟩ = some (.int .i64 (v).q1) ∧ V.cell? ⟨wr.heap.size, 14, none⟩ = some (.int .i64 (v).q2) ∧ V.cell? ⟨wr.heap.size, 15, none⟩ = some (.bool (v).over))) (by kernel_rfl) (by kernel_rfl) hh ?_
            repeat (first | (refine wpE_fl rfl rfl (fun _ _ => rfl) ?_; go_simp) | (refine wpE_sk rfl rfl ?_; go_simp) | (refine wpE_fl (v := ?_) rfl rfl ?_ ?_; rotate_left; (intro W' h'; (try dsimp only at h'); go_simp; exact rfl); go_simp) | (refine wpE_ef rfl ?_; go_simp; gi_wp2_with (first | refine (⟨trivial, rfl, ?_⟩ : Fence.wide.fn _ ∧ Fence.wide.depth = none ∧ _) | refine (⟨trivial, trivial, rfl, ?_⟩ : Fence.wide.fn _ ∧ Fence.wide.fn _ ∧ Fence.wide.depth = none ∧ _) | (gi_at_call 35; (with_reducible refine (ke.out _).mono ?_); rintro e W1 ⟨rfl, hW1⟩; (replace hW1 := hW1.symm); (subst hW1)) | refine (⟨trivial, ?_⟩ : Fence.wide.fn _ ∧ _)); (first | refine ⟨by first | exact hh, ?_⟩ | skip)))
            refine wpE_nil ?_
            gi_wp2
            refine bodyPost_ret (results_tmp2 rfl _ _ _) rfl ?_
            exact .inr ⟨hnr.out, rfl, huA.out.stepDrew⟩
      · obtain rfl : j = vs.length := by omega
        have hep := hT.ep
        have hri := hT.ri
        rw [List.take_length] at hep hri hI
        have hR : RightE f vs := ⟨hf, hep, hri⟩
        replace hR := Lib.hid hR
        replace hI := Lib.hid hI
        replace hF := Lib.hid hF
        replace hu := Lib.hid hu
        clear hT hep hri hB
        gi_wp2
        refine bodyPost_ret (results_tmp2 rfl _ _ _) rfl ?_
        exact .inl ⟨hR.out, sb, F, rfl, hI.out, fun b hb => Nat.le_of_lt (hF.out b hb), hu.out⟩
  · have hcf : codeF 0 f = 1 := by
      rw [codeF, if_neg hf]
    rw [hcf] at k0
    have hnr : Hid (¬ RightE f vs) := Lib.hid fun hR => hf hR.fR
    clear hcf hf
    refine callsIn_any (n := 0) (callsIn_of_wp Try.func22 rfl trivial ?_)
    simp only [Try.ntmps22, List.size_toArray, List.length_cons, List.length_nil, Nat.reduceAdd, Nat.reduceSub, Array.replicate_succ, Array.replicate_zero, List.push_toArray, List.append_toArray, List.nil_append, List.cons_append]
    gi_wp2_with (first | refine (⟨trivial, rfl, ?_⟩ : Fence.wide.fn _ ∧ Fence.wide.depth = none ∧ _) | (gi_at_call 8; (with_reducible refine k0.out.mono ?_); rintro e W2 ⟨sb, rfl, s0, k1⟩; (replace k1 := Lib.hid k1)) | (gi_at_call 19; (with_reducible refine k1.out.mono ?_); rintro e W3 ⟨rfl, s1, F0, hI0, hF0, u0, b0⟩; (clear hI0 hF0 b0)) | refine (⟨trivial, ?_⟩ : Fence.wide.fn _ ∧ _))
    refine bodyPost_ret (results_tmp2 rfl _ _ _) rfl ?_
    exact .inr ⟨hnr.out, rfl, u0⟩
end
end Go.Proofs.Ytadeechoknpjhaa

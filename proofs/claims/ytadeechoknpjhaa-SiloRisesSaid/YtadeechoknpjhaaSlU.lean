/- SiloRises: the walk of the law. -/
import Derived.Test.YtadeechoknpjhaaProg
import Derived.Test.YtadeechoknpjhaaBase
import Derived.Test.YtadeechoknpjhaaSlT
import Derived.Test.YtadeechoknpjhaaSlW
import Derived.Test.YtadeechoknpjhaaSlRf
import Derived.Test.YtadeechoknpjhaaSlRi
import Derived.Test.YtadeechoknpjhaaSlUt
set_option linter.unusedSimpArgs false
set_option linter.unusedVariables false
namespace Go.Proofs.Ytadeechoknpjhaa
open Go.RowKit Go.Shelf
attribute [local go_sem] Oper.semAt_some

section
variable {sb : Nat} {f : Int} {vs : List VCE} {F : Nat → Prop} {W : World}
/-- A state, taken down. -/
theorem was_c {n : Nat} (h : SiloV sb f vs F W) (hl : vs.length ≤ 100000) : CallsIn Fence.wide n Try.prog 17 #[.pointer (some ⟨sb, 0, none⟩)] W fun e W2 => ∃ s, e = .returned s ∧
    CallsIn Fence.wide 0 Try.prog 16 #[s] W2 fun e W3 => ∃ A c, e = .returned (.agg #[.int .i64 f, .slice A vs.length c]) ∧ Reads1 W3 A (flatE vs) ∧ (∀ j, blkOf A j → W.heap.size ≤ j) ∧ Upd (fun _ => False) W W3 := by
  refine (siloState_c h hl).mono ?_
  rintro e W2 ⟨A1, c1, rfl, _, r1, _, u1⟩
  refine ⟨_, rfl, (ref20_c r1 hl).mono ?_⟩
  rintro e W3 ⟨A2, c2, rfl, _, r2, g2, u2⟩
  exact ⟨A2, c2, rfl, r2, fun j hj => Nat.le_trans u1.size (g2 j hj), u1.trans' u2⟩
end
/-- What a round's call does. -/
def ActR (sb : Nat) (f' c : Int) (ws : List VCE) (F : Nat → Prop) (V : World) (e : Ending) (W2 : World) : Prop := e = .returned (.int .i64 c) ∧ ∃ F', SiloV sb f' ws F' W2 ∧ (∀ j, F' j → F j ∨ V.heap.size ≤ j) ∧ Upd F V W2
section
variable {sb : Nat} {f : Int} {vs : List VCE} {F : Nat → Prop} {V : World} {v : VCE} {x : Int}
theorem act_putY (h : SiloV sb f vs F V) (hl : vs.length ≤ 50000) (hc : codeP f (vs.map prE) v.ep v = 0) : CallsIn Fence.wide 0 Try.prog 11 #[.pointer (some ⟨sb, 0, none⟩), .int .i64 v.ep, .agg #[.string (v).key, .string (v).pol, .int .i64 (v).kd, .int .i64 (v).st, .int .i64 (v).rev, .bool (v).fin, .int .i64 (v).rk, .int .i64 (v).cnt, .int .i64 (v).sum, .int .i64 (v).mn, .int .i64 (v).mx, .int .i64 (v).q0, .int .i64 (v).q1, .int .i64 (v).q2, .bool (v).over]] V (ActR sb v.ep 0 (putV v.ep v vs) F V) := by
  refine (siloPutYes_c h (by simp; omega) hc).mono ?_
  rintro e W2 ⟨rfl, F', p1, p2, p3⟩
  rw [putV_pr h.rise] at p1
  exact ⟨rfl, F', p1, p2, p3⟩
theorem act_putN (h : SiloV sb f vs F V) (hc : codeP f (vs.map prE) v.ep v ≠ 0) : CallsIn Fence.wide 0 Try.prog 11 #[.pointer (some ⟨sb, 0, none⟩), .int .i64 v.ep, .agg #[.string (v).key, .string (v).pol, .int .i64 (v).kd, .int .i64 (v).st, .int .i64 (v).rev, .bool (v).fin, .int .i64 (v).rk, .int .i64 (v).cnt, .int .i64 (v).sum, .int .i64 (v).mn, .int .i64 (v).mx, .int .i64 (v).q0, .int .i64 (v).q1, .int .i64 (v).q2, .bool (v).over]] V (ActR sb f (codeP f (vs.map prE) v.ep v) vs F V) := by
  refine (siloPutNo_c h hc).mono ?_
  rintro e W2 ⟨rfl, u⟩
  exact ⟨rfl, F, h.upd u fun _ _ => id, fun j hj => .inl hj, u.mono fun _ _ h => h.elim⟩
theorem act_fence (h : SiloV sb f vs F V) : CallsIn Fence.wide 0 Try.prog 19 #[.pointer (some ⟨sb, 0, none⟩), .int .i64 x] V (ActR sb (if codeF f x = 0 then x else f) (codeF f x) vs F V) := by
  refine (siloFence_c h).mono ?_
  rintro e W2 ⟨rfl, p1, u⟩
  obtain ⟨q, t, g1, g2, g3, g4⟩ := h
  exact ⟨rfl, F, p1, fun j hj => .inl hj, u.mono fun j _ e => e ▸ (g3 sb).2 (.inl rfl)⟩
end
section
variable {sb : Nat} {f f' : Int} {vs ws : List VCE} {F F' : Nat → Prop} {W V1 W3 W4 W6 : World} {A1 A2 : Option Addr} {c1 c2 : Nat}
theorem rises_mem (hF : ∀ b, F b → W.heap.size ≤ b) (hFlt : ∀ b, F b → b < V1.heap.size) (hu : Upd (fun _ => False) W V1) (r1 : Reads1 W3 A1 (flatE vs)) (g1 : ∀ j, blkOf A1 j → V1.heap.size ≤ j) (u1 : Upd (fun _ => False) V1 W3)
    (p1 : SiloV sb f' ws F' W4) (p2 : ∀ j, F' j → F j ∨ (W3.alloc (.cells #[.int .i64 f, .slice A1 vs.length c1] 33)).heap.size ≤ j) (p3 : Upd F (W3.alloc (.cells #[.int .i64 f, .slice A1 vs.length c1] 33)) W4) (r2 : Reads1 W6 A2 (flatE ws)) (u6 : Upd (fun _ => False) W4 W6) :
    ((W6.alloc (.cells #[.int .i64 f', .slice A2 ws.length c2] 33)).cell? ⟨W3.heap.size, 0, none⟩ = some (.int .i64 f) ∧ (W6.alloc (.cells #[.int .i64 f', .slice A2 ws.length c2] 33)).cell? ⟨W3.heap.size, 1, none⟩ = some (.slice A1 vs.length c1)) ∧
    (∀ V, Upd (fun _ => False) (W6.alloc (.cells #[.int .i64 f', .slice A2 ws.length c2] 33)) V → Reads1 V A1 (flatE vs) ∧ Reads1 V A2 (flatE ws) ∧ V.cell? ⟨W6.heap.size, 1, none⟩ = some (.slice A2 ws.length c2)) ∧
    (∀ V, Upd (fun _ => False) (W6.alloc (.cells #[.int .i64 f', .slice A2 ws.length c2] 33)) V → SiloV sb f' ws F' V ∧ (∀ b, F' b → W.heap.size ≤ b) ∧ Upd (fun _ => False) W V) := by
  have uA := Upd.alloc (fun _ => False) W3 (.cells #[.int .i64 f, .slice A1 vs.length c1] 33)
  have bA := Blk.new W3 #[.int .i64 f, .slice A1 vs.length c1] 33
  have z1 := u1.size
  have z3 := uA.size
  have bW4 := bA.upd p3 fun h => by have := hFlt _ h; omega
  have uB := u6.stepAlloc (.cells #[.int .i64 f', .slice A2 ws.length c2] 33)
  have bW7 := bW4.upd uB id
  have bB := Blk.new W6 #[.int .i64 f', .slice A2 ws.length c2] 33
  have r14 : Reads1 W4 A1 (flatE vs) := (r1.agree' (uA.agree fun j hj => ⟨r1.lt' j hj, id⟩)).agree' (p3.agree fun j hj => ⟨by have := r1.lt' j hj; omega, fun h => by have := hFlt _ h; have := g1 j hj.2; omega⟩)
  have r17 := r14.agree' (w' := W6.alloc (.cells #[.int .i64 f', .slice A2 ws.length c2] 33)) (uB.agree fun j hj => ⟨r14.lt' j hj, id⟩)
  have r27 := r2.agree' (w' := W6.alloc (.cells #[.int .i64 f', .slice A2 ws.length c2] 33)) ((Upd.alloc (fun _ => False) W6 (.cells #[.int .i64 f', .slice A2 ws.length c2] 33)).agree fun j hj => ⟨r2.lt' j hj, id⟩)
  have z0 := hu.size
  have uW4 : Upd (fun _ => False) W W4 := ((hu.trans' u1).trans' uA).trans p3 fun j hj => .inr (hF j hj)
  refine ⟨⟨bW7.cell 0, bW7.cell 1⟩, fun V u => ⟨r17.agree' (u.agree fun j hj => ⟨r17.lt' j hj, id⟩), r27.agree' (u.agree fun j hj => ⟨r27.lt' j hj, id⟩), (bB.upd u id).cell 1⟩, fun V u => ⟨(p1.upd uB fun _ _ => id).upd u fun _ _ => id, fun b hb => (p2 b hb).elim (hF b) fun h => by omega, (uW4.trans' uB).trans' u⟩⟩
end
set_option maxRecDepth 100000 in
set_option maxHeartbeats 16000000 in
theorem siloRises_w {n : Nat} {acts : List Act20} {A : Option Addr} {cap : Nat} {W : World} (hr : Reads1 W A (flatA acts)) (hl : acts.length ≤ maxLen) :
    CallsIn Fence.wide n Try.prog 5 #[.slice A acts.length cap] W fun e W2 => e = .returned (.bool true) ∧ Upd (fun _ => False) W W2 := by
  have kNew := Lib.hid (siloNew_c (n := 0) (W := W))
  have kAw := Lib.hid fun V => awake20_c (n := 0) (W := V)
  have hrW := Lib.hid fun V (u : Upd (fun _ => False) W V) => hr.agree' (w' := V) (u.agree fun j hj => ⟨hr.lt' j hj, id⟩)
  have kFew := Lib.hid fun V (u : Upd (fun _ => False) W V) => few20_c (n := 0) (cap := cap) (hrW.out V u) hl
  clear hr
  unfold maxLen at hl
  refine callsIn_any (n := 0) (callsIn_of_wp Try.func5 rfl trivial ?_)
  simp only [Try.ntmps5, List.size_toArray, List.length_cons, List.length_nil, Nat.reduceAdd, Nat.reduceSub, Array.replicate_succ, Array.replicate_zero, List.push_toArray, List.append_toArray, List.nil_append, List.cons_append]
  gi_wp2_with (first | refine (⟨trivial, rfl, ?_⟩ : Fence.wide.fn _ ∧ Fence.wide.depth = none ∧ _) | (gi_at_call 8; (with_reducible refine kNew.out.mono ?_); rintro e W1 ⟨sb, F0, rfl, hsi, hF0, hu⟩; (replace hsi := Lib.hid hsi); (replace hF0 := Lib.hid hF0)) | (gi_at_call 9; (with_reducible refine (kAw.out _).mono ?_); rintro e W2 ⟨rfl, u2⟩; (replace hu := hu.trans' u2); (replace hsi := Lib.hid (hsi.out.upd u2 fun _ _ => id))) | ((gi_at_call 10); (refine (kFew.out _ hu).mono ?_); rintro e W3 ⟨b, rfl, hb, u3⟩; (replace hu := hu.trans' u3); (replace hsi := Lib.hid (hsi.out.upd u3 fun _ _ => id)); (replace hb := Lib.hid hb); cases b) | refine (⟨trivial, ?_⟩ : Fence.wide.fn _ ∧ _))
  · go_ret
    exact ⟨rfl, hu⟩
  · obtain ⟨hlen, hsz⟩ := hb.out (by trivial)
    have hsi0 : SiloV sb 0 [] F0 W3 := hsi.out
    have hF0' := hF0.out
    have hu0 := hu
    clear hb hu hsi hF0
    gi_loopw [29] (fun i wr => ∃ (j : Nat) (vs : List VCE) (f : Int) (F : Nat → Prop), i = .int .i64 j ∧ j ≤ acts.length ∧ vs.length ≤ j ∧ SiloV sb f vs F wr ∧ (∀ y ∈ vs, y.ep ≤ f) ∧ (∀ b, F b → W.heap.size ≤ b) ∧ Upd (fun _ => False) W wr) (fun i _ => acts.length - (intOf i).toNat)
    case atStart => exact ⟨0, [], 0, F0, rfl, Nat.zero_le _, Nat.le_refl _, hsi0, fun y hy => by simp at hy, hF0', hu0⟩
    case round =>
      clear hsi0 hF0' hu0
      obtain ⟨j, vs, f, F, rfl, hj, hvl, hI, hep0, hF, hu⟩ := hrel
      by_cases hlt : j < acts.length
      · obtain ⟨g, o, rfl, hat⟩ := atA_at (hrW.out _ hu) hlt
        have hv := hsz _ (List.getElem_mem hlt)
        have hw5 : IntKind.i64.wrap ((j : Int) + 1) = (j : Int) + 1 := Go.IntWalk.i64_in _ ⟨by omega, by omega⟩
        generalize acts[j] = a at *
        obtain ⟨kd, v⟩ := a
        have ua := Upd.alloc (fun _ => False) wr (.cells #[.int .i64 kd, .int .i64 (v).ep, .string (v).key, .string (v).pol, .int .i64 (v).kd, .int .i64 (v).st, .int .i64 (v).rev, .bool (v).fin, .int .i64 (v).rk, .int .i64 (v).cnt, .int .i64 (v).sum, .int .i64 (v).mn, .int .i64 (v).mx, .int .i64 (v).q0, .int .i64 (v).q1, .int .i64 (v).q2, .bool (v).over] 40)
        have bA := Blk.new wr #[.int .i64 kd, .int .i64 (v).ep, .string (v).key, .string (v).pol, .int .i64 (v).kd, .int .i64 (v).st, .int .i64 (v).rev, .bool (v).fin, .int .i64 (v).rk, .int .i64 (v).cnt, .int .i64 (v).sum, .int .i64 (v).mn, .int .i64 (v).mx, .int .i64 (v).q0, .int .i64 (v).q1, .int .i64 (v).q2, .bool (v).over] 40
        have hst := hI.upd ua fun _ _ => id
        have hFlt : ∀ b, F b → b < (wr.alloc (.cells #[.int .i64 kd, .int .i64 (v).ep, .string (v).key, .string (v).pol, .int .i64 (v).kd, .int .i64 (v).st, .int .i64 (v).rev, .bool (v).fin, .int .i64 (v).rk, .int .i64 (v).cnt, .int .i64 (v).sum, .int .i64 (v).mn, .int .i64 (v).mx, .int .i64 (v).q0, .int .i64 (v).q1, .int .i64 (v).q2, .bool (v).over] 40)).heap.size := hst.lt
        have hri := hI.rise
        replace hu := hu.trans' ua
        obtain ⟨c0, w0, w1, w2, w3, w4, w5, w6, w7, w8, w9, w10, w11, w12, w13, w14, w15⟩ := hat
        have kS1 := Lib.hid (was_c (n := 0) hst (by omega))
        have hact := Lib.hid fun V (u : Upd (fun _ => False) (wr.alloc (.cells #[.int .i64 kd, .int .i64 (v).ep, .string (v).key, .string (v).pol, .int .i64 (v).kd, .int .i64 (v).st, .int .i64 (v).rev, .bool (v).fin, .int .i64 (v).rk, .int .i64 (v).cnt, .int .i64 (v).sum, .int .i64 (v).mn, .int .i64 (v).mx, .int .i64 (v).q0, .int .i64 (v).q1, .int .i64 (v).q2, .bool (v).over] 40)) V) => show V.cell? ⟨wr.heap.size, 0, none⟩ = some (.int .i64 kd) ∧ (V.cell? ⟨wr.heap.size, 1, none⟩ = some (.int .i64 (v).ep) ∧ V.cell? ⟨wr.heap.size, 2, none⟩ = some (.string (v).key) ∧ V.cell? ⟨wr.heap.size, 3, none⟩ = some (.string (v).pol) ∧ V.cell? ⟨wr.heap.size, 4, none⟩ = some (.int .i64 (v).kd) ∧ V.cell? ⟨wr.heap.size, 5, none⟩ = some (.int .i64 (v).st) ∧ V.cell? ⟨wr.heap.size, 6, none⟩ = some (.int .i64 (v).rev) ∧ V.cell? ⟨wr.heap.size, 7, none⟩ = some (.bool (v).fin) ∧ V.cell? ⟨wr.heap.size, 8, none⟩ = some (.int .i64 (v).rk) ∧ V.cell? ⟨wr.heap.size, 9, none⟩ = some (.int .i64 (v).cnt) ∧ V.cell? ⟨wr.heap.size, 10, none⟩ = some (.int .i64 (v).sum) ∧ V.cell? ⟨wr.heap.size, 11, none⟩ = some (.int .i64 (v).mn) ∧ V.cell? ⟨wr.heap.size, 12, none⟩ = some (.int .i64 (v).mx) ∧ V.cell? ⟨wr.heap.size, 13, none⟩ = some (.int .i64 (v).q0) ∧ V.cell? ⟨wr.heap.size, 14, none⟩ = some (.int .i64 (v).q1) ∧ V.cell? ⟨wr.heap.size, 15, none⟩ = some (.int .i64 (v).q2) ∧ V.cell? ⟨wr.heap.size, 16, none⟩ = some (.bool (v).over)) from ⟨(bA.upd u id).cell 0, ⟨(bA.upd u id).cell (0 + 1), (bA.upd u id).cell (1 + 1), (bA.upd u id).cell (2 + 1), (bA.upd u id).cell (3 + 1), (bA.upd u id).cell (4 + 1), (bA.upd u id).cell (5 + 1), (bA.upd u id).cell (6 + 1), (bA.upd u id).cell (7 + 1), (bA.upd u id).cell (8 + 1), (bA.upd u id).cell (9 + 1), (bA.upd u id).cell (10 + 1), (bA.upd u id).cell (11 + 1), (bA.upd u id).cell (12 + 1), (bA.upd u id).cell (13 + 1), (bA.upd u id).cell (14 + 1), (bA.upd u id).cell (15 + 1)⟩⟩
        clear hI ua bA hv
        by_cases hk1 : kd = 1
        · subst hk1
          by_cases hc : codeP f (vs.map prE) v.ep v = 0
          · obtain ⟨ws, f', kP, hris, hep, hwl, hff⟩ : ∃ ws f', (∀ V, SiloV sb f vs F V → CallsIn Fence.wide 0 Try.prog 11 #[.pointer (some ⟨sb, 0, none⟩), .int .i64 v.ep, .agg #[.string (v).key, .string (v).pol, .int .i64 (v).kd, .int .i64 (v).st, .int .i64 (v).rev, .bool (v).fin, .int .i64 (v).rk, .int .i64 (v).cnt, .int .i64 (v).sum, .int .i64 (v).mn, .int .i64 (v).mx, .int .i64 (v).q0, .int .i64 (v).q1, .int .i64 (v).q2, .bool (v).over]] V (ActR sb f' 0 ws F V)) ∧ risesB vs ws ∧ (∀ y ∈ ws, y.ep ≤ f') ∧ ws.length ≤ j + 1 ∧ f ≤ f' := by
              obtain ⟨q1, q2, q3⟩ := rises_put hri hep0 hc
              have q4 := putV_len (x := v.ep) (v := v) hri
              exact ⟨_, v.ep, fun V h => act_putY h (by omega) hc, q1, q3, by omega, q2⟩
            clear hc hri hep0
            replace kP := Lib.hid kP
            replace hris := Lib.hid hris
            replace hep := Lib.hid hep
            as_aux_lemma =>
              gi_wp2_with (first | refine (⟨trivial, rfl, ?_⟩ : Fence.wide.fn _ ∧ Fence.wide.depth = none ∧ _) | (gi_at_call 17; (with_reducible refine kS1.out.mono ?_); rintro e W2 ⟨s1, rfl, k1⟩; (replace k1 := Lib.hid k1)) | (gi_at_call 16; (with_reducible refine k1.out.mono ?_); rintro e W3 ⟨A1, c1, rfl, r1, g1, u1⟩; (obtain ⟨kk0, e0, e1, e2, e3, e4, e5, e6, e7, e8, e9, e10, e11, e12, e13, e14, e15⟩ := hact.out _ (u1.stepAlloc (.cells #[.int .i64 f, .slice A1 vs.length c1] 33))); (have p0 := hst.upd (u1.stepAlloc (.cells #[.int .i64 f, .slice A1 vs.length c1] 33)) fun _ _ => id); (have kA := Lib.hid (kP.out _ p0)); (clear p0)) | (gi_at_call 11; (with_reducible refine kA.out.mono ?_); rintro e W4 ⟨rfl, F', p1, p2, p3⟩; (have kS2 := Lib.hid (was_c (n := 0) p1 (by omega)))) | (gi_at_call 17; (with_reducible refine kS2.out.mono ?_); rintro e W5 ⟨s2, rfl, k2⟩; (replace k2 := Lib.hid k2)) | (gi_at_call 16; (with_reducible refine k2.out.mono ?_); rintro e W6 ⟨A2, c2, rfl, r2, _, u6⟩; (obtain ⟨⟨m0, m1⟩, hMem, hFin⟩ := rises_mem hF hFlt hu r1 g1 u1 p1 p2 p3 r2 u6); (replace hMem := Lib.hid hMem); (replace hFin := Lib.hid hFin); (have kSm := Lib.hid (fun V (u : Upd (fun _ => False) (W6.alloc (.cells #[.int .i64 f', .slice A2 ws.length c2] 33)) V) => same20_c (n := 0) (capB := c1) (cap := c2) (hMem.out V u).2.1 (hMem.out V u).1 (by omega) (by omega))); (clear r1 g1 p1 p2 p3 r2)) | refine (⟨trivial, ?_⟩ : Fence.wide.fn _ ∧ _))
              clear kSm
              refine rise_tail hMem.out hris.out (by omega) (by omega) ?_
              intro d2 d10 d11 d13 d82 d83 d84 d85 d86 d87 d88 d89 d90 d91 d92 d93 d94 d95 d96 d97 d98 d99 d100 d101 d102 d103 d104 d105 d106 d107 d108 d109 d110 d111 d112 d113 d114 d115 d116 d117 d118 d119 d120 d121 d122 w9 hu9
              have hfin := Lib.hid (hFin.out _ hu9)
              clear hu9
              gi_wp2
              obtain ⟨e1, e2, e3⟩ := hfin.out
              exact ⟨⟨j + 1, ws, f', F', by go_num, by omega, by omega, e1, hep.out, e2, e3⟩, by show acts.length - ((j : Int) + 1).toNat < acts.length - (j : Int).toNat; omega⟩
          · obtain ⟨ws, f', c, kP, hris, hep, hwl, hff, hcn, hfe, hsm⟩ : ∃ ws f' c, (∀ V, SiloV sb f vs F V → CallsIn Fence.wide 0 Try.prog 11 #[.pointer (some ⟨sb, 0, none⟩), .int .i64 v.ep, .agg #[.string (v).key, .string (v).pol, .int .i64 (v).kd, .int .i64 (v).st, .int .i64 (v).rev, .bool (v).fin, .int .i64 (v).rk, .int .i64 (v).cnt, .int .i64 (v).sum, .int .i64 (v).mn, .int .i64 (v).mx, .int .i64 (v).q0, .int .i64 (v).q1, .int .i64 (v).q2, .bool (v).over]] V (ActR sb f' c ws F V)) ∧ risesB vs ws ∧ (∀ y ∈ ws, y.ep ≤ f') ∧ ws.length ≤ j + 1 ∧ f ≤ f' ∧ (c != 0) = true ∧ (f' != f) = false ∧ decide (ws = vs) = true :=
              ⟨vs, f, _, fun V h => act_putN h hc, rises_same hri, hep0, by omega, Int.le_refl _, by simpa using hc, by simp, by simp⟩
            clear hc hri hep0
            replace kP := Lib.hid kP
            replace hris := Lib.hid hris
            replace hep := Lib.hid hep
            as_aux_lemma =>
              gi_wp2_with (first | refine (⟨trivial, rfl, ?_⟩ : Fence.wide.fn _ ∧ Fence.wide.depth = none ∧ _) | (gi_at_call 17; (with_reducible refine kS1.out.mono ?_); rintro e W2 ⟨s1, rfl, k1⟩; (replace k1 := Lib.hid k1)) | (gi_at_call 16; (with_reducible refine k1.out.mono ?_); rintro e W3 ⟨A1, c1, rfl, r1, g1, u1⟩; (obtain ⟨kk0, e0, e1, e2, e3, e4, e5, e6, e7, e8, e9, e10, e11, e12, e13, e14, e15⟩ := hact.out _ (u1.stepAlloc (.cells #[.int .i64 f, .slice A1 vs.length c1] 33))); (have p0 := hst.upd (u1.stepAlloc (.cells #[.int .i64 f, .slice A1 vs.length c1] 33)) fun _ _ => id); (have kA := Lib.hid (kP.out _ p0)); (clear p0)) | (gi_at_call 11; (with_reducible refine kA.out.mono ?_); rintro e W4 ⟨rfl, F', p1, p2, p3⟩; (have kS2 := Lib.hid (was_c (n := 0) p1 (by omega)))) | (gi_at_call 17; (with_reducible refine kS2.out.mono ?_); rintro e W5 ⟨s2, rfl, k2⟩; (replace k2 := Lib.hid k2)) | (gi_at_call 16; (with_reducible refine k2.out.mono ?_); rintro e W6 ⟨A2, c2, rfl, r2, _, u6⟩; (obtain ⟨⟨m0, m1⟩, hMem, hFin⟩ := rises_mem hF hFlt hu r1 g1 u1 p1 p2 p3 r2 u6); (replace hMem := Lib.hid hMem); (replace hFin := Lib.hid hFin); (have kSm := Lib.hid (fun V (u : Upd (fun _ => False) (W6.alloc (.cells #[.int .i64 f', .slice A2 ws.length c2] 33)) V) => same20_c (n := 0) (capB := c1) (cap := c2) (hMem.out V u).2.1 (hMem.out V u).1 (by omega) (by omega))); (clear r1 g1 p1 p2 p3 r2)) | (gi_at_call 18; (with_reducible refine (kSm.out _ (Upd.refl _ _)).mono ?_); rintro e W8 ⟨rfl, u8⟩; (have m8 := cell_upd u8 m1)) | refine (⟨trivial, ?_⟩ : Fence.wide.fn _ ∧ _))
              have hMem := Lib.hid (fun V (u : Upd (fun _ => False) W8 V) => hMem.out V (u8.trans' u))
              have hFin := Lib.hid (fun V (u : Upd (fun _ => False) W8 V) => hFin.out V (u8.trans' u))
              clear kSm
              refine rise_tail hMem.out hris.out (by omega) (by omega) ?_
              intro d2 d10 d11 d13 d82 d83 d84 d85 d86 d87 d88 d89 d90 d91 d92 d93 d94 d95 d96 d97 d98 d99 d100 d101 d102 d103 d104 d105 d106 d107 d108 d109 d110 d111 d112 d113 d114 d115 d116 d117 d118 d119 d120 d121 d122 w9 hu9
              have hfin := Lib.hid (hFin.out _ hu9)
              clear hu9
              gi_wp2
              obtain ⟨e1, e2, e3⟩ := hfin.out
              exact ⟨⟨j + 1, ws, f', F', by go_num, by omega, by omega, e1, hep.out, e2, e3⟩, by show acts.length - ((j : Int) + 1).toNat < acts.length - (j : Int).toNat; omega⟩
        · by_cases hk2 : kd = 2
          · subst hk2
            clear hk1
            by_cases hc : codeF f v.ep = 0
            · obtain ⟨ws, f', kP, hris, hep, hwl, hff⟩ : ∃ ws f', (∀ V, SiloV sb f vs F V → CallsIn Fence.wide 0 Try.prog 19 #[.pointer (some ⟨sb, 0, none⟩), .int .i64 v.ep] V (ActR sb f' 0 ws F V)) ∧ risesB vs ws ∧ (∀ y ∈ ws, y.ep ≤ f') ∧ ws.length ≤ j + 1 ∧ f ≤ f' := by
                have hfx : f ≤ v.ep := by
                  unfold codeF at hc
                  by_cases h1 : 0 ≤ v.ep ∧ v.ep ≤ mxE
                  · rw [if_pos h1] at hc
                    by_cases h2 : v.ep < f
                    · rw [if_pos h2] at hc; cases hc
                    · omega
                  · rw [if_neg h1] at hc; cases hc
                refine ⟨vs, v.ep, fun V h => ?_, rises_same hri, fun y hy => Int.le_trans (hep0 y hy) hfx, by omega, hfx⟩
                have := act_fence (x := v.ep) h
                rw [hc, if_pos rfl] at this
                exact this
              clear hc hri hep0
              replace kP := Lib.hid kP
              replace hris := Lib.hid hris
              replace hep := Lib.hid hep
              as_aux_lemma =>
                gi_wp2_with (first | refine (⟨trivial, rfl, ?_⟩ : Fence.wide.fn _ ∧ Fence.wide.depth = none ∧ _) | (gi_at_call 17; (with_reducible refine kS1.out.mono ?_); rintro e W2 ⟨s1, rfl, k1⟩; (replace k1 := Lib.hid k1)) | (gi_at_call 16; (with_reducible refine k1.out.mono ?_); rintro e W3 ⟨A1, c1, rfl, r1, g1, u1⟩; (obtain ⟨kk0, e0, e1, e2, e3, e4, e5, e6, e7, e8, e9, e10, e11, e12, e13, e14, e15⟩ := hact.out _ (u1.stepAlloc (.cells #[.int .i64 f, .slice A1 vs.length c1] 33))); (have p0 := hst.upd (u1.stepAlloc (.cells #[.int .i64 f, .slice A1 vs.length c1] 33)) fun _ _ => id); (have kA := Lib.hid (kP.out _ p0)); (clear p0)) | (gi_at_call 19; (with_reducible refine kA.out.mono ?_); rintro e W4 ⟨rfl, F', p1, p2, p3⟩; (have kS2 := Lib.hid (was_c (n := 0) p1 (by omega)))) | (gi_at_call 17; (with_reducible refine kS2.out.mono ?_); rintro e W5 ⟨s2, rfl, k2⟩; (replace k2 := Lib.hid k2)) | (gi_at_call 16; (with_reducible refine k2.out.mono ?_); rintro e W6 ⟨A2, c2, rfl, r2, _, u6⟩; (obtain ⟨⟨m0, m1⟩, hMem, hFin⟩ := rises_mem hF hFlt hu r1 g1 u1 p1 p2 p3 r2 u6); (replace hMem := Lib.hid hMem); (replace hFin := Lib.hid hFin); (have kSm := Lib.hid (fun V (u : Upd (fun _ => False) (W6.alloc (.cells #[.int .i64 f', .slice A2 ws.length c2] 33)) V) => same20_c (n := 0) (capB := c1) (cap := c2) (hMem.out V u).2.1 (hMem.out V u).1 (by omega) (by omega))); (clear r1 g1 p1 p2 p3 r2)) | refine (⟨trivial, ?_⟩ : Fence.wide.fn _ ∧ _))
                clear kSm
                refine rise_tail hMem.out hris.out (by omega) (by omega) ?_
                intro d2 d10 d11 d13 d82 d83 d84 d85 d86 d87 d88 d89 d90 d91 d92 d93 d94 d95 d96 d97 d98 d99 d100 d101 d102 d103 d104 d105 d106 d107 d108 d109 d110 d111 d112 d113 d114 d115 d116 d117 d118 d119 d120 d121 d122 w9 hu9
                have hfin := Lib.hid (hFin.out _ hu9)
                clear hu9
                gi_wp2
                obtain ⟨e1, e2, e3⟩ := hfin.out
                exact ⟨⟨j + 1, ws, f', F', by go_num, by omega, by omega, e1, hep.out, e2, e3⟩, by show acts.length - ((j : Int) + 1).toNat < acts.length - (j : Int).toNat; omega⟩
            · obtain ⟨ws, f', c, kP, hris, hep, hwl, hff, hcn, hfe, hsm⟩ : ∃ ws f' c, (∀ V, SiloV sb f vs F V → CallsIn Fence.wide 0 Try.prog 19 #[.pointer (some ⟨sb, 0, none⟩), .int .i64 v.ep] V (ActR sb f' c ws F V)) ∧ risesB vs ws ∧ (∀ y ∈ ws, y.ep ≤ f') ∧ ws.length ≤ j + 1 ∧ f ≤ f' ∧ (c != 0) = true ∧ (f' != f) = false ∧ decide (ws = vs) = true := by
                refine ⟨vs, f, _, fun V h => ?_, rises_same hri, hep0, by omega, Int.le_refl _, by simpa using hc, by simp, by simp⟩
                have := act_fence (x := v.ep) h
                rw [if_neg hc] at this
                exact this
              clear hc hri hep0
              replace kP := Lib.hid kP
              replace hris := Lib.hid hris
              replace hep := Lib.hid hep
              as_aux_lemma =>
                gi_wp2_with (first | refine (⟨trivial, rfl, ?_⟩ : Fence.wide.fn _ ∧ Fence.wide.depth = none ∧ _) | (gi_at_call 17; (with_reducible refine kS1.out.mono ?_); rintro e W2 ⟨s1, rfl, k1⟩; (replace k1 := Lib.hid k1)) | (gi_at_call 16; (with_reducible refine k1.out.mono ?_); rintro e W3 ⟨A1, c1, rfl, r1, g1, u1⟩; (obtain ⟨kk0, e0, e1, e2, e3, e4, e5, e6, e7, e8, e9, e10, e11, e12, e13, e14, e15⟩ := hact.out _ (u1.stepAlloc (.cells #[.int .i64 f, .slice A1 vs.length c1] 33))); (have p0 := hst.upd (u1.stepAlloc (.cells #[.int .i64 f, .slice A1 vs.length c1] 33)) fun _ _ => id); (have kA := Lib.hid (kP.out _ p0)); (clear p0)) | (gi_at_call 19; (with_reducible refine kA.out.mono ?_); rintro e W4 ⟨rfl, F', p1, p2, p3⟩; (have kS2 := Lib.hid (was_c (n := 0) p1 (by omega)))) | (gi_at_call 17; (with_reducible refine kS2.out.mono ?_); rintro e W5 ⟨s2, rfl, k2⟩; (replace k2 := Lib.hid k2)) | (gi_at_call 16; (with_reducible refine k2.out.mono ?_); rintro e W6 ⟨A2, c2, rfl, r2, _, u6⟩; (obtain ⟨⟨m0, m1⟩, hMem, hFin⟩ := rises_mem hF hFlt hu r1 g1 u1 p1 p2 p3 r2 u6); (replace hMem := Lib.hid hMem); (replace hFin := Lib.hid hFin); (have kSm := Lib.hid (fun V (u : Upd (fun _ => False) (W6.alloc (.cells #[.int .i64 f', .slice A2 ws.length c2] 33)) V) => same20_c (n := 0) (capB := c1) (cap := c2) (hMem.out V u).2.1 (hMem.out V u).1 (by omega) (by omega))); (clear r1 g1 p1 p2 p3 r2)) | (gi_at_call 18; (with_reducible refine (kSm.out _ (Upd.refl _ _)).mono ?_); rintro e W8 ⟨rfl, u8⟩; (have m8 := cell_upd u8 m1)) | refine (⟨trivial, ?_⟩ : Fence.wide.fn _ ∧ _))
                have hMem := Lib.hid (fun V (u : Upd (fun _ => False) W8 V) => hMem.out V (u8.trans' u))
                have hFin := Lib.hid (fun V (u : Upd (fun _ => False) W8 V) => hFin.out V (u8.trans' u))
                clear kSm
                refine rise_tail hMem.out hris.out (by omega) (by omega) ?_
                intro d2 d10 d11 d13 d82 d83 d84 d85 d86 d87 d88 d89 d90 d91 d92 d93 d94 d95 d96 d97 d98 d99 d100 d101 d102 d103 d104 d105 d106 d107 d108 d109 d110 d111 d112 d113 d114 d115 d116 d117 d118 d119 d120 d121 d122 w9 hu9
                have hfin := Lib.hid (hFin.out _ hu9)
                clear hu9
                gi_wp2
                obtain ⟨e1, e2, e3⟩ := hfin.out
                exact ⟨⟨j + 1, ws, f', F', by go_num, by omega, by omega, e1, hep.out, e2, e3⟩, by show acts.length - ((j : Int) + 1).toNat < acts.length - (j : Int).toNat; omega⟩
          · have hd1 : (kd == 1) = false := by simpa using hk1
            have hd2 : (kd == 2) = false := by simpa using hk2
            have hris := Lib.hid (rises_same hri)
            have hep := Lib.hid hep0
            clear hk1 hk2 hri hep0
            as_aux_lemma =>
              gi_wp2_with (first | refine (⟨trivial, rfl, ?_⟩ : Fence.wide.fn _ ∧ Fence.wide.depth = none ∧ _) | (gi_at_call 17; (with_reducible refine kS1.out.mono ?_); rintro e W2 ⟨s1, rfl, k1⟩; (replace k1 := Lib.hid k1)) | (gi_at_call 16; (with_reducible refine k1.out.mono ?_); rintro e W3 ⟨A1, c1, rfl, r1, g1, u1⟩; (obtain ⟨kk0, e0, e1, e2, e3, e4, e5, e6, e7, e8, e9, e10, e11, e12, e13, e14, e15⟩ := hact.out _ (u1.stepAlloc (.cells #[.int .i64 f, .slice A1 vs.length c1] 33))); (have p1 := hst.upd (u1.stepAlloc (.cells #[.int .i64 f, .slice A1 vs.length c1] 33)) fun _ _ => id); (have p2 : ∀ j, F j → F j ∨ (W3.alloc (.cells #[.int .i64 f, .slice A1 vs.length c1] 33)).heap.size ≤ j := (fun j hj => Or.inl hj)); (have p3 := Upd.refl F (W3.alloc (.cells #[.int .i64 f, .slice A1 vs.length c1] 33))); (have kS2 := Lib.hid (was_c (n := 0) p1 (by omega)))) | (gi_at_call 17; (with_reducible refine kS2.out.mono ?_); rintro e W5 ⟨s2, rfl, k2⟩; (replace k2 := Lib.hid k2)) | (gi_at_call 16; (with_reducible refine k2.out.mono ?_); rintro e W6 ⟨A2, c2, rfl, r2, _, u6⟩; (obtain ⟨⟨m0, m1⟩, hMem, hFin⟩ := rises_mem hF hFlt hu r1 g1 u1 p1 p2 p3 r2 u6); (replace hMem := Lib.hid hMem); (replace hFin := Lib.hid hFin); (have kSm := Lib.hid (fun V (u : Upd (fun _ => False) (W6.alloc (.cells #[.int .i64 f, .slice A2 vs.length c2] 33)) V) => same20_c (n := 0) (capB := c1) (cap := c2) (hMem.out V u).2.1 (hMem.out V u).1 (by omega) (by omega))); (clear r1 g1 p1 p2 p3 r2)) | refine (⟨trivial, ?_⟩ : Fence.wide.fn _ ∧ _))
              clear kSm
              refine rise_tail hMem.out hris.out (by omega) (by omega) ?_
              intro d2 d10 d11 d13 d82 d83 d84 d85 d86 d87 d88 d89 d90 d91 d92 d93 d94 d95 d96 d97 d98 d99 d100 d101 d102 d103 d104 d105 d106 d107 d108 d109 d110 d111 d112 d113 d114 d115 d116 d117 d118 d119 d120 d121 d122 w9 hu9
              have hfin := Lib.hid (hFin.out _ hu9)
              clear hu9
              gi_wp2
              obtain ⟨e1, e2, e3⟩ := hfin.out
              exact ⟨⟨j + 1, vs, f, F, by go_num, by omega, by omega, e1, hep.out, e2, e3⟩, by show acts.length - ((j : Int) + 1).toNat < acts.length - (j : Int).toNat; omega⟩
      · obtain rfl : j = acts.length := by omega
        clear hI
        gi_wp2
        go_ret
        exact ⟨rfl, hu⟩
end Go.Proofs.Ytadeechoknpjhaa

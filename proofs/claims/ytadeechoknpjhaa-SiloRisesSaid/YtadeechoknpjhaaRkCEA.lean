/- rack's nodes, instance tidemill/api.Cell, tidemill/silo.Entry. -/
import Derived.Test.YtadeechoknpjhaaProg
import Derived.Test.YtadeechoknpjhaaBase
import Derived.Test.YtadeechoknpjhaaTr
import Derived.Test.YtadeechoknpjhaaFork
set_option linter.unusedSimpArgs false
set_option linter.unusedVariables false
namespace Go.Proofs.Ytadeechoknpjhaa
open Go.RowKit Go.Shelf
attribute [local go_sem] Oper.semAt_some

structure EntCE where
  ep : Int
  key : ByteArray
  pol : ByteArray
  kd : Int
  st : Int
  rev : Int
  fin : Bool
  rk : Int
  cnt : Int
  sum : Int
  mn : Int
  mx : Int
  q0 : Int
  q1 : Int
  q2 : Int
  over : Bool
  deriving DecidableEq
abbrev KCE := ByteArray × ByteArray × Int × Int
abbrev VCE := EntCE
abbrev ekCE (k : KCE) : Value := .agg #[.string k.1, .string k.2.1, .int .i64 k.2.2.1, .int .i64 k.2.2.2]
abbrev evCE (v : VCE) : Value := .agg #[.int .i64 (v).ep, .string (v).key, .string (v).pol, .int .i64 (v).kd, .int .i64 (v).st, .int .i64 (v).rev, .bool (v).fin, .int .i64 (v).rk, .int .i64 (v).cnt, .int .i64 (v).sum, .int .i64 (v).mn, .int .i64 (v).mx, .int .i64 (v).q0, .int .i64 (v).q1, .int .i64 (v).q2, .bool (v).over]
def mkCE : Tr.Mk KCE VCE := fun k v lp rp h n => #[.string (k).1, .string (k).2.1, .int .i64 (k).2.2.1, .int .i64 (k).2.2.2, .int .i64 (v).ep, .string (v).key, .string (v).pol, .int .i64 (v).kd, .int .i64 (v).st, .int .i64 (v).rev, .bool (v).fin, .int .i64 (v).rk, .int .i64 (v).cnt, .int .i64 (v).sum, .int .i64 (v).mn, .int .i64 (v).mx, .int .i64 (v).q0, .int .i64 (v).q1, .int .i64 (v).q2, .bool (v).over, lp, rp, .int .i64 h, .int .i64 n]

theorem heightCE {n : Nat} {p : Option Addr} {h m : Nat} {w : World} (ht : Tr.top 104 mkCE w p h m) : CallsIn Fence.wide n Try.prog 58 #[.pointer p] w fun e w' => e = .returned (.int .i64 h) ∧ w' = w := by
  rcases ht with ⟨rfl, rfl, rfl⟩ | ⟨b, k, v, x, y, rfl, hb⟩
  · refine callsIn_any (n := 0) (callsIn_of_wp Try.func58 rfl trivial ?_)
    simp only [Try.ntmps58, List.size_toArray, List.length_cons, List.length_nil, Nat.reduceAdd, Nat.reduceSub, Array.replicate_succ, Array.replicate_zero, List.push_toArray, List.append_toArray, List.nil_append, List.cons_append]
    gi_wp2
    go_ret
    exact ⟨rfl, rfl⟩
  · have c4 := hb.cell 22
    have c5 := hb.cell 23
    simp [mkCE] at c4 c5
    refine callsIn_any (n := 0) (callsIn_of_wp Try.func58 rfl trivial ?_)
    simp only [Try.ntmps58, List.size_toArray, List.length_cons, List.length_nil, Nat.reduceAdd, Nat.reduceSub, Array.replicate_succ, Array.replicate_zero, List.push_toArray, List.append_toArray, List.nil_append, List.cons_append]
    gi_wp2
    go_ret
    exact ⟨rfl, rfl⟩

theorem sizeCE {n : Nat} {p : Option Addr} {h m : Nat} {w : World} (ht : Tr.top 104 mkCE w p h m) : CallsIn Fence.wide n Try.prog 55 #[.pointer p] w fun e w' => e = .returned (.int .i64 m) ∧ w' = w := by
  rcases ht with ⟨rfl, rfl, rfl⟩ | ⟨b, k, v, x, y, rfl, hb⟩
  · refine callsIn_any (n := 0) (callsIn_of_wp Try.func55 rfl trivial ?_)
    simp only [Try.ntmps55, List.size_toArray, List.length_cons, List.length_nil, Nat.reduceAdd, Nat.reduceSub, Array.replicate_succ, Array.replicate_zero, List.push_toArray, List.append_toArray, List.nil_append, List.cons_append]
    gi_wp2
    go_ret
    exact ⟨rfl, rfl⟩
  · have c4 := hb.cell 22
    have c5 := hb.cell 23
    simp [mkCE] at c4 c5
    refine callsIn_any (n := 0) (callsIn_of_wp Try.func55 rfl trivial ?_)
    simp only [Try.ntmps55, List.size_toArray, List.length_cons, List.length_nil, Nat.reduceAdd, Nat.reduceSub, Array.replicate_succ, Array.replicate_zero, List.push_toArray, List.append_toArray, List.nil_append, List.cons_append]
    gi_wp2
    go_ret
    exact ⟨rfl, rfl⟩

set_option maxRecDepth 100000 in
set_option maxHeartbeats 2000000 in
theorem countCE {n b : Nat} {k : KCE} {v : VCE} {lp rp : Option Addr} {h0 n0 : Int} {hl hr nl nr : Nat} {w : World} (hb : Blk w b (mkCE k v (.pointer lp) (.pointer rp) h0 n0) 104)
    (tl : Tr.top 104 mkCE w lp hl nl) (tr : Tr.top 104 mkCE w rp hr nr) (dl : lp ≠ some ⟨b, 0, none⟩) (dr : rp ≠ some ⟨b, 0, none⟩) (h1 : nl + nr < 1000000000) (h2 : hl ≤ nl) (h3 : hr ≤ nr) :
    CallsIn Fence.wide n Try.prog 56 #[.pointer (some ⟨b, 0, none⟩)] w fun e w' => e = .returned (.pointer (some ⟨b, 0, none⟩)) ∧
      Blk w' b (mkCE k v (.pointer lp) (.pointer rp) ((1 + max hl hr : Nat) : Int) ((1 + nl + nr : Nat) : Int)) 104 ∧ Upd (fun j => j = b) w w' := by
  have c2 := hb.cell 20
  have c3 := hb.cell 21
  simp only [mkCE, List.getElem?_toArray, List.getElem?_cons_succ, List.getElem?_cons_zero] at c2 c3
  have f4 := hb.frozen 22
  have l1 := hb.lt
  obtain ⟨Mx, hM⟩ : ∃ x : Int, x = ((max hl hr : Nat) : Int) := ⟨_, rfl⟩
  obtain ⟨H, hH⟩ : ∃ x : Int, x = ((1 + max hl hr : Nat) : Int) := ⟨_, rfl⟩
  obtain ⟨N, hN⟩ : ∃ x : Int, x = ((1 + nl + nr : Nat) : Int) := ⟨_, rfl⟩
  have hm : (if hl < hr then (hr : Int) else (hl : Int)) = Mx := by split <;> omega
  have hw : IntKind.i64.wrap (1 + Mx) = H := (Go.IntWalk.i64_in _ ⟨by omega, by omega⟩).trans (by omega)
  have hw1 : IntKind.i64.wrap (1 + (nl : Int)) = 1 + (nl : Int) := Go.IntWalk.i64_in _ ⟨by omega, by omega⟩
  have hw2 : IntKind.i64.wrap (1 + (nl : Int) + nr) = N := (Go.IntWalk.i64_in _ ⟨by omega, by omega⟩).trans (by omega)
  rw [← hH, ← hN]
  clear hM hH hN h1 h2 h3
  refine callsIn_any (n := 0) (callsIn_of_wp Try.func56 rfl trivial ?_)
  simp only [Try.ntmps56, List.size_toArray, List.length_cons, List.length_nil, Nat.reduceAdd, Nat.reduceSub, Array.replicate_succ, Array.replicate_zero, List.push_toArray, List.append_toArray, List.nil_append, List.cons_append]
  gi_wp2
  have hu := Upd.drew (fun _ => False) w
  refine wpIn_eager [(0, true), (1, true), (2, true), (3, true), (4, true), (6, true), (7, true), (8, true), (9, true), (5, false), (10, false), (11, true), (12, true), (13, true), (14, true), (15, false)] (fun V => V.cell? ⟨b, 20, none⟩ = some (.pointer lp) ∧ V.cell? ⟨b, 21, none⟩ = some (.pointer rp)) (by kernel_rfl) (by kernel_rfl) ⟨c2, c3⟩ ?_
  replace hb := hb.upd hu id
  replace tl := Tr.top_agree tl (fun _ _ => rfl) (w' := w.drew)
  replace tr := Tr.top_agree tr (fun _ _ => rfl) (w' := w.drew)
  replace c2 : w.drew.cell? ⟨b, 20, none⟩ = some (.pointer lp) := c2
  replace c3 : w.drew.cell? ⟨b, 21, none⟩ = some (.pointer rp) := c3
  replace f4 := hb.frozen 22
  replace l1 := hb.lt
  generalize w.drew = W at *
  refine wpE_fl rfl rfl (fun _ _ => rfl) ?_
  go_simp
  refine wpE_fl rfl rfl (fun _ _ => rfl) ?_
  go_simp
  refine wpE_fl rfl rfl (fun _ _ => rfl) ?_
  go_simp
  refine wpE_fl (v := .pointer (some ⟨b, 20, none⟩)) rfl rfl (fun W' h' => ?_) ?_
  · go_simp
  go_simp
  refine wpE_fl (v := .pointer lp) rfl rfl (fun W' h' => ?_) ?_
  · obtain ⟨h1, h2⟩ := h'; go_simp
  go_simp
  refine wpE_fl rfl rfl (fun _ _ => rfl) ?_
  go_simp
  refine wpE_fl rfl rfl (fun _ _ => rfl) ?_
  go_simp
  refine wpE_fl (v := .pointer (some ⟨b, 21, none⟩)) rfl rfl (fun W' h' => ?_) ?_
  · go_simp
  go_simp
  refine wpE_fl (v := .pointer rp) rfl rfl (fun W' h' => ?_) ?_
  · obtain ⟨h1, h2⟩ := h'; go_simp
  go_simp
  refine wpE_ef rfl ?_
  go_simp
  gi_wp2_with (first | refine (⟨trivial, rfl, ?_⟩ : Fence.wide.fn _ ∧ Fence.wide.depth = none ∧ _) | (gi_at_call 58; refine (heightCE tl).mono ?_; rintro e W2 ⟨rfl, e2⟩; (replace e2 := e2.symm); subst e2))
  refine ⟨⟨c2, c3⟩, ?_⟩
  refine wpE_ef rfl ?_
  go_simp
  gi_wp2_with (first | refine (⟨trivial, rfl, ?_⟩ : Fence.wide.fn _ ∧ Fence.wide.depth = none ∧ _) | (gi_at_call 58; refine (heightCE tr).mono ?_; rintro e W2 ⟨rfl, e2⟩; (replace e2 := e2.symm); subst e2))
  refine ⟨⟨c2, c3⟩, ?_⟩
  refine wpE_fl (v := .int .i64 Mx) rfl rfl (fun W' h' => ?_) ?_
  · go_simp
  go_simp
  refine wpE_fl (v := .int .i64 H) rfl rfl (fun W' h' => ?_) ?_
  · go_simp
  go_simp
  refine wpE_fl rfl rfl (fun _ _ => rfl) ?_
  go_simp
  refine wpE_fl (v := .pointer (some ⟨b, 22, none⟩)) rfl rfl (fun W' h' => ?_) ?_
  · go_simp
  go_simp
  have cs : W.cell? ⟨b, 22, none⟩ = some (.int .i64 h0) := hb.cell 22
  refine wpE_ef rfl ?_
  go_simp
  gi_wp2
  have hu2 : Upd (fun j => j = b) W (W.setCell ⟨b, 22, none⟩ (.int .i64 H)) := Upd.setCell (M := fun j => j = b) rfl _
  have hb2 : Blk (W.setCell ⟨b, 22, none⟩ (.int .i64 H)) b (mkCE k v (.pointer lp) (.pointer rp) H n0) 104 := by simpa [mkCE] using hb.set 22 (.int .i64 H)
  replace tl := Tr.top_agree (w' := W.setCell ⟨b, 22, none⟩ (.int .i64 H)) tl (fun b2 e => Below.heap_setCell W _ _ _ (fun e2 => dl (by rw [e, e2])))
  replace tr := Tr.top_agree (w' := W.setCell ⟨b, 22, none⟩ (.int .i64 H)) tr (fun b2 e => Below.heap_setCell W _ _ _ (fun e2 => dr (by rw [e, e2])))
  replace hu := (hu.mono (M' := fun j => j = b) (fun _ _ h => h.elim)).trans' hu2
  clear hu2 hb c2 c3 f4 l1 cs
  generalize (W.setCell ⟨b, 22, none⟩ (.int .i64 H)) = W1 at *
  have hb := hb2
  clear hb2
  have c2 : W1.cell? ⟨b, 20, none⟩ = some (.pointer lp) := hb.cell 20
  have c3 : W1.cell? ⟨b, 21, none⟩ = some (.pointer rp) := hb.cell 21
  have f5 := hb.frozen 23
  have l1 := hb.lt
  refine ⟨⟨c2, c3⟩, ?_⟩
  refine wpE_nil ?_
  clear hw
  gi_wp2
  have hud := Upd.drew (fun j => j = b) W1
  replace hu := hu.trans' hud
  refine wpIn_eager [(0, true), (1, true), (2, true), (3, true), (4, true), (7, true), (8, true), (9, true), (10, true), (5, false), (6, true), (11, false), (12, true), (13, true), (14, true), (15, false)] (fun V => V.cell? ⟨b, 20, none⟩ = some (.pointer lp) ∧ V.cell? ⟨b, 21, none⟩ = some (.pointer rp)) (by kernel_rfl) (by kernel_rfl) ⟨c2, c3⟩ ?_
  replace hb : Blk W1.drew b _ _ := hb
  replace tl := Tr.top_agree tl (fun _ _ => rfl) (w' := W1.drew)
  replace tr := Tr.top_agree tr (fun _ _ => rfl) (w' := W1.drew)
  replace c2 : W1.drew.cell? ⟨b, 20, none⟩ = some (.pointer lp) := c2
  replace c3 : W1.drew.cell? ⟨b, 21, none⟩ = some (.pointer rp) := c3
  replace f5 := hb.frozen 23
  replace l1 := hb.lt
  clear hud
  generalize W1.drew = W2 at *
  refine wpE_fl rfl rfl (fun _ _ => rfl) ?_
  go_simp
  refine wpE_fl rfl rfl (fun _ _ => rfl) ?_
  go_simp
  refine wpE_fl rfl rfl (fun _ _ => rfl) ?_
  go_simp
  refine wpE_fl (v := .pointer (some ⟨b, 20, none⟩)) rfl rfl (fun W' h' => ?_) ?_
  · go_simp
  go_simp
  refine wpE_fl (v := .pointer lp) rfl rfl (fun W' h' => ?_) ?_
  · obtain ⟨h1, h2⟩ := h'; go_simp
  go_simp
  refine wpE_fl rfl rfl (fun _ _ => rfl) ?_
  go_simp
  refine wpE_fl rfl rfl (fun _ _ => rfl) ?_
  go_simp
  refine wpE_fl (v := .pointer (some ⟨b, 21, none⟩)) rfl rfl (fun W' h' => ?_) ?_
  · go_simp
  go_simp
  refine wpE_fl (v := .pointer rp) rfl rfl (fun W' h' => ?_) ?_
  · obtain ⟨h1, h2⟩ := h'; go_simp
  go_simp
  refine wpE_ef rfl ?_
  go_simp
  gi_wp2_with (first | refine (⟨trivial, rfl, ?_⟩ : Fence.wide.fn _ ∧ Fence.wide.depth = none ∧ _) | (gi_at_call 55; refine (sizeCE tl).mono ?_; rintro e W2 ⟨rfl, e2⟩; (replace e2 := e2.symm); subst e2))
  refine ⟨⟨c2, c3⟩, ?_⟩
  refine wpE_fl (v := .int .i64 (1 + (nl : Int))) rfl rfl (fun W' h' => ?_) ?_
  · go_simp
  go_simp
  refine wpE_ef rfl ?_
  go_simp
  gi_wp2_with (first | refine (⟨trivial, rfl, ?_⟩ : Fence.wide.fn _ ∧ Fence.wide.depth = none ∧ _) | (gi_at_call 55; refine (sizeCE tr).mono ?_; rintro e W2 ⟨rfl, e2⟩; (replace e2 := e2.symm); subst e2))
  refine ⟨⟨c2, c3⟩, ?_⟩
  refine wpE_fl (v := .int .i64 N) rfl rfl (fun W' h' => ?_) ?_
  · go_simp
  go_simp
  refine wpE_fl rfl rfl (fun _ _ => rfl) ?_
  go_simp
  refine wpE_fl (v := .pointer (some ⟨b, 23, none⟩)) rfl rfl (fun W' h' => ?_) ?_
  · go_simp
  go_simp
  have cs : W2.cell? ⟨b, 23, none⟩ = some (.int .i64 n0) := hb.cell 23
  refine wpE_ef rfl ?_
  go_simp
  gi_wp2
  have hu2 : Upd (fun j => j = b) W2 (W2.setCell ⟨b, 23, none⟩ (.int .i64 N)) := Upd.setCell (M := fun j => j = b) rfl _
  have hb2 : Blk (W2.setCell ⟨b, 23, none⟩ (.int .i64 N)) b (mkCE k v (.pointer lp) (.pointer rp) H N) 104 := by simpa [mkCE] using hb.set 23 (.int .i64 N)
  replace tl := Tr.top_agree (w' := W2.setCell ⟨b, 23, none⟩ (.int .i64 N)) tl (fun b2 e => Below.heap_setCell W2 _ _ _ (fun e2 => dl (by rw [e, e2])))
  replace tr := Tr.top_agree (w' := W2.setCell ⟨b, 23, none⟩ (.int .i64 N)) tr (fun b2 e => Below.heap_setCell W2 _ _ _ (fun e2 => dr (by rw [e, e2])))
  replace hu := hu.trans' hu2
  clear hu2 hb c2 c3 f5 l1 cs
  generalize (W2.setCell ⟨b, 23, none⟩ (.int .i64 N)) = W3 at *
  have hb := hb2
  clear hb2
  have c2 : W3.cell? ⟨b, 20, none⟩ = some (.pointer lp) := hb.cell 20
  have c3 : W3.cell? ⟨b, 21, none⟩ = some (.pointer rp) := hb.cell 21
  have f5 := hb.frozen 23
  have l1 := hb.lt
  refine ⟨⟨c2, c3⟩, ?_⟩
  refine wpE_nil ?_
  clear hw1 hw2 f5
  gi_wp2
  go_ret
  exact ⟨rfl, hb, hu⟩

set_option maxRecDepth 100000 in
set_option maxHeartbeats 2000000 in
theorem toRightCE {n b b2 : Nat} {k k2 : KCE} {v v2 : VCE} {xl xm xr : Option Addr} {h0 n0 : Int} {h1 n1 hl hm hr nl nm nr : Nat} {w : World} (hb : Blk w b (mkCE k v (.pointer (some ⟨b2, 0, none⟩)) (.pointer xr) h0 n0) 104) (hb2 : Blk w b2 (mkCE k2 v2 (.pointer xl) (.pointer xm) h1 n1) 104)
    (tl : Tr.top 104 mkCE w xl hl nl) (tm : Tr.top 104 mkCE w xm hm nm) (tr : Tr.top 104 mkCE w xr hr nr) (hne : b ≠ b2) (dl : xl ≠ some ⟨b, 0, none⟩) (dm : xm ≠ some ⟨b, 0, none⟩) (dr : xr ≠ some ⟨b, 0, none⟩)
    (el : xl ≠ some ⟨b2, 0, none⟩) (em : xm ≠ some ⟨b2, 0, none⟩) (er : xr ≠ some ⟨b2, 0, none⟩) (s1 : n1 + nr < 1000000000) (s2 : nl + nm + nr < 100000000) (s3 : h1 ≤ n1) (s4 : hl ≤ nl) (s5 : hm ≤ nm) (s6 : hr ≤ nr) :
    CallsIn Fence.wide n Try.prog 60 #[.pointer (some ⟨b, 0, none⟩)] w fun e w' => e = .returned (.pointer (some ⟨b2, 0, none⟩)) ∧
      Blk w' b (mkCE k v (.pointer xm) (.pointer xr) ((1 + max hm hr : Nat) : Int) ((1 + nm + nr : Nat) : Int)) 104 ∧ Blk w' b2 (mkCE k2 v2 (.pointer xl) (.pointer (some ⟨b, 0, none⟩)) ((1 + max hl (1 + max hm hr) : Nat) : Int) ((1 + nl + (1 + nm + nr) : Nat) : Int)) 104 ∧ Upd (fun j => j = b ∨ j = b2) w w' := by
  have cL : w.cell? ⟨b, 20, none⟩ = some (.pointer (some ⟨b2, 0, none⟩)) := hb.cell 20
  have hu : Upd (fun j => j = b ∨ j = b2) w w := Upd.refl _ _
  refine callsIn_any (n := 0) (callsIn_of_wp Try.func60 rfl trivial ?_)
  simp only [Try.ntmps60, List.size_toArray, List.length_cons, List.length_nil, Nat.reduceAdd, Nat.reduceSub, Array.replicate_succ, Array.replicate_zero, List.push_toArray, List.append_toArray, List.nil_append, List.cons_append]
  gi_wp2
  refine wpIn_plan (.fl 0 (.fl 1 (.fl 2 (.fl 3 (.fl 4 (.fl 6 (.fork 5 (.ef 7 (.fl 8 (.fl 9 (.ef 10 (.fl 11 (.fl 12 (.ef 13 .done))))))) 7 (.ef 5 (.fl 8 (.fl 9 (.ef 10 (.fl 11 (.fl 12 (.ef 13 .done)))))))))))))) (fun V => b < V.heap.size) (by kernel_rfl) (by kernel_rfl) hb.lt ?_
  replace hb := hb.upd (Upd.drew (fun _ => False) w) id
  replace hb2 := hb2.upd (Upd.drew (fun _ => False) w) id
  replace tl := Tr.top_agree tl (fun _ _ => rfl) (w' := w.drew)
  replace tm := Tr.top_agree tm (fun _ _ => rfl) (w' := w.drew)
  replace tr := Tr.top_agree tr (fun _ _ => rfl) (w' := w.drew)
  replace hu := hu.stepDrew
  clear cL
  generalize w.drew = W at *
  refine wpT_fl rfl rfl (fun _ _ => rfl) ?_
  go_simp
  refine wpT_fl rfl rfl (fun _ _ => rfl) ?_
  go_simp
  refine wpT_fl rfl rfl (fun _ _ => rfl) ?_
  go_simp
  refine wpT_fl rfl rfl (fun _ _ => rfl) ?_
  go_simp
  refine wpT_fl (v := .pointer (some ⟨b2, 21, none⟩)) rfl rfl (fun W' h' => ?_) ?_
  · go_simp
  go_simp
  refine wpT_fl rfl rfl (fun _ _ => rfl) ?_
  go_simp
  refine wpT_fork rfl rfl ?_ ?_
  · skip
    go_simp
    have cm : W.cell? ⟨b2, 21, none⟩ = some (.pointer xm) := hb2.cell 21
    gi_wp2
    refine ⟨hb.lt, ?_⟩
    clear cm
    refine wpT_ef rfl ?_
    go_simp
    gi_wp2_with (first | refine (⟨trivial, rfl, ?_⟩ : Fence.wide.fn _ ∧ Fence.wide.depth = none ∧ _) | (gi_at_call 56; refine (countCE (hl := h1) (hr := hr) (nl := n1) (nr := nr) hb (.inr ⟨b2, k2, v2, _, _, rfl, hb2⟩) tr (by intro e; cases e; exact hne rfl) dr (by omega) s3 s6).mono ?_; rintro e W2 ⟨rfl, hb', hu2⟩))
    replace hb2 := hb2.upd hu2 hne.symm
    replace tl := Tr.top_agree (w' := W2) tl (fun b3 e => by rcases tl with ⟨q, _⟩ | ⟨b4, _, _, _, _, q, q2⟩ <;> rw [q] at e <;> cases e; exact hu2.block _ q2.lt (fun q3 => by subst q3; exact dl q))
    replace tm := Tr.top_agree (w' := W2) tm (fun b3 e => by rcases tm with ⟨q, _⟩ | ⟨b4, _, _, _, _, q, q2⟩ <;> rw [q] at e <;> cases e; exact hu2.block _ q2.lt (fun q3 => by subst q3; exact dm q))
    replace tr := Tr.top_agree (w' := W2) tr (fun b3 e => by rcases tr with ⟨q, _⟩ | ⟨b4, _, _, _, _, q, q2⟩ <;> rw [q] at e <;> cases e; exact hu2.block _ q2.lt (fun q3 => by subst q3; exact dr q))
    replace hu := hu.trans' (hu2.mono fun _ _ h => .inl h)
    clear hu2 hb
    have hb := hb'
    clear hb'
    generalize ((1 + max h1 hr : Nat) : Int) = hx at *
    generalize ((1 + n1 + nr : Nat) : Int) = nx at *
    refine ⟨hb.lt, ?_⟩
    refine wpT_fl rfl rfl (fun _ _ => rfl) ?_
    go_simp
    refine wpT_fl (v := .pointer (some ⟨b, 20, none⟩)) rfl rfl (fun W' h' => ?_) ?_
    · go_simp
    go_simp
    refine wpT_ef rfl ?_
    go_simp
    have cs : W2.cell? ⟨b, 20, none⟩ = some (.pointer (some ⟨b2, 0, none⟩)) := hb.cell 20
    have cf := hb.frozen 20
    have cl := hb.lt
    gi_wp2
    have hu2 : Upd (fun j => j = b) W2 (W2.setCell ⟨b, 20, none⟩ (.pointer xm)) := Upd.setCell (M := fun j => j = b) rfl _
    have hn : Blk (W2.setCell ⟨b, 20, none⟩ (.pointer xm)) b (mkCE k v (.pointer xm) (.pointer xr) hx nx) 104 := by simpa [mkCE] using hb.set 20 (.pointer xm)
    clear cs cf cl
    replace hb2 := hb2.upd hu2 hne.symm
    replace tl := Tr.top_agree (w' := W2.setCell ⟨b, 20, none⟩ (.pointer xm)) tl (fun b3 e => by rcases tl with ⟨q, _⟩ | ⟨b4, _, _, _, _, q, q2⟩ <;> rw [q] at e <;> cases e; exact hu2.block _ q2.lt (fun q3 => by subst q3; exact dl q))
    replace tm := Tr.top_agree (w' := W2.setCell ⟨b, 20, none⟩ (.pointer xm)) tm (fun b3 e => by rcases tm with ⟨q, _⟩ | ⟨b4, _, _, _, _, q, q2⟩ <;> rw [q] at e <;> cases e; exact hu2.block _ q2.lt (fun q3 => by subst q3; exact dm q))
    replace tr := Tr.top_agree (w' := W2.setCell ⟨b, 20, none⟩ (.pointer xm)) tr (fun b3 e => by rcases tr with ⟨q, _⟩ | ⟨b4, _, _, _, _, q, q2⟩ <;> rw [q] at e <;> cases e; exact hu2.block _ q2.lt (fun q3 => by subst q3; exact dr q))
    replace hu := hu.trans' (hu2.mono fun _ _ h => .inl h)
    generalize (W2.setCell ⟨b, 20, none⟩ (.pointer xm)) = W3 at *
    clear hu2 hb
    have hb := hn
    clear hn
    refine ⟨hb.lt, ?_⟩
    refine wpT_fl rfl rfl (fun _ _ => rfl) ?_
    go_simp
    refine wpT_fl (v := .pointer (some ⟨b2, 21, none⟩)) rfl rfl (fun W' h' => ?_) ?_
    · go_simp
    go_simp
    refine wpT_ef rfl ?_
    go_simp
    have cs : W3.cell? ⟨b2, 21, none⟩ = some (.pointer xm) := hb2.cell 21
    have cf := hb2.frozen 21
    have cl := hb2.lt
    gi_wp2
    have hu2 : Upd (fun j => j = b2) W3 (W3.setCell ⟨b2, 21, none⟩ (.pointer (some ⟨b, 0, none⟩))) := Upd.setCell (M := fun j => j = b2) rfl _
    have hn : Blk (W3.setCell ⟨b2, 21, none⟩ (.pointer (some ⟨b, 0, none⟩))) b2 (mkCE k2 v2 (.pointer xl) (.pointer (some ⟨b, 0, none⟩)) h1 n1) 104 := by simpa [mkCE] using hb2.set 21 (.pointer (some ⟨b, 0, none⟩))
    clear cs cf cl
    replace hb := hb.upd hu2 hne
    replace tl := Tr.top_agree (w' := W3.setCell ⟨b2, 21, none⟩ (.pointer (some ⟨b, 0, none⟩))) tl (fun b3 e => by rcases tl with ⟨q, _⟩ | ⟨b4, _, _, _, _, q, q2⟩ <;> rw [q] at e <;> cases e; exact hu2.block _ q2.lt (fun q3 => by subst q3; exact el q))
    replace tm := Tr.top_agree (w' := W3.setCell ⟨b2, 21, none⟩ (.pointer (some ⟨b, 0, none⟩))) tm (fun b3 e => by rcases tm with ⟨q, _⟩ | ⟨b4, _, _, _, _, q, q2⟩ <;> rw [q] at e <;> cases e; exact hu2.block _ q2.lt (fun q3 => by subst q3; exact em q))
    replace tr := Tr.top_agree (w' := W3.setCell ⟨b2, 21, none⟩ (.pointer (some ⟨b, 0, none⟩))) tr (fun b3 e => by rcases tr with ⟨q, _⟩ | ⟨b4, _, _, _, _, q, q2⟩ <;> rw [q] at e <;> cases e; exact hu2.block _ q2.lt (fun q3 => by subst q3; exact er q))
    replace hu := hu.trans' (hu2.mono fun _ _ h => .inr h)
    generalize (W3.setCell ⟨b2, 21, none⟩ (.pointer (some ⟨b, 0, none⟩))) = W4 at *
    clear hu2 hb2
    have hb2 := hn
    clear hn
    refine ⟨hb.lt, ?_⟩
    refine wpT_nil ?_
    have k1 := countCE (n := 0) (hl := hm) (hr := hr) (nl := nm) (nr := nr) hb tm tr dm dr (by omega) s5 s6
    gi_wp2_with (first | refine (⟨trivial, rfl, ?_⟩ : Fence.wide.fn _ ∧ Fence.wide.depth = none ∧ _) | (gi_at_call 56; refine k1.mono ?_; rintro e W5 ⟨rfl, hb', hu2⟩; (clear k1); (replace hb2 := hb2.upd hu2 hne.symm); (replace tl := Tr.top_agree (w' := W5) tl (fun b3 e => by rcases tl with ⟨q, _⟩ | ⟨b4, _, _, _, _, q, q2⟩ <;> rw [q] at e <;> cases e; exact hu2.block _ q2.lt (fun q3 => by subst q3; exact dl q))); (replace tm := Tr.top_agree (w' := W5) tm (fun b3 e => by rcases tm with ⟨q, _⟩ | ⟨b4, _, _, _, _, q, q2⟩ <;> rw [q] at e <;> cases e; exact hu2.block _ q2.lt (fun q3 => by subst q3; exact dm q))); (replace tr := Tr.top_agree (w' := W5) tr (fun b3 e => by rcases tr with ⟨q, _⟩ | ⟨b4, _, _, _, _, q, q2⟩ <;> rw [q] at e <;> cases e; exact hu2.block _ q2.lt (fun q3 => by subst q3; exact dr q))); (replace hu := hu.trans' (hu2.mono fun _ _ h => .inl h)); (clear hu2 hb); (have hb := hb'); (clear hb'); (have k1 := countCE (n := 0) (hl := hl) (hr := 1 + max hm hr) (nl := nl) (nr := 1 + nm + nr) hb2 tl (.inr ⟨b, k, v, _, _, rfl, hb⟩) el (by intro e; cases e; exact hne rfl) (by omega) s4 (by omega))) | (gi_at_call 56; refine k1.mono ?_; rintro e W6 ⟨rfl, hb', hu2⟩; (replace hb := hb.upd hu2 hne); (replace hu := hu.trans' (hu2.mono fun _ _ h => .inr h)); (clear hu2 hb2); (have hb2 := hb'); (clear hb')))
    go_ret
    exact ⟨rfl, hb, hb2, hu⟩
  · skip
    go_simp
    gi_wp2_with (first | refine (⟨trivial, rfl, ?_⟩ : Fence.wide.fn _ ∧ Fence.wide.depth = none ∧ _) | (gi_at_call 56; refine (countCE (hl := h1) (hr := hr) (nl := n1) (nr := nr) hb (.inr ⟨b2, k2, v2, _, _, rfl, hb2⟩) tr (by intro e; cases e; exact hne rfl) dr (by omega) s3 s6).mono ?_; rintro e W2 ⟨rfl, hb', hu2⟩))
    replace hb2 := hb2.upd hu2 hne.symm
    replace tl := Tr.top_agree (w' := W2) tl (fun b3 e => by rcases tl with ⟨q, _⟩ | ⟨b4, _, _, _, _, q, q2⟩ <;> rw [q] at e <;> cases e; exact hu2.block _ q2.lt (fun q3 => by subst q3; exact dl q))
    replace tm := Tr.top_agree (w' := W2) tm (fun b3 e => by rcases tm with ⟨q, _⟩ | ⟨b4, _, _, _, _, q, q2⟩ <;> rw [q] at e <;> cases e; exact hu2.block _ q2.lt (fun q3 => by subst q3; exact dm q))
    replace tr := Tr.top_agree (w' := W2) tr (fun b3 e => by rcases tr with ⟨q, _⟩ | ⟨b4, _, _, _, _, q, q2⟩ <;> rw [q] at e <;> cases e; exact hu2.block _ q2.lt (fun q3 => by subst q3; exact dr q))
    replace hu := hu.trans' (hu2.mono fun _ _ h => .inl h)
    clear hu2 hb
    have hb := hb'
    clear hb'
    generalize ((1 + max h1 hr : Nat) : Int) = hx at *
    generalize ((1 + n1 + nr : Nat) : Int) = nx at *
    refine ⟨hb.lt, ?_⟩
    refine wpT_ef rfl ?_
    go_simp
    have cm : W2.cell? ⟨b2, 21, none⟩ = some (.pointer xm) := hb2.cell 21
    gi_wp2
    refine ⟨hb.lt, ?_⟩
    clear cm
    refine wpT_fl rfl rfl (fun _ _ => rfl) ?_
    go_simp
    refine wpT_fl (v := .pointer (some ⟨b, 20, none⟩)) rfl rfl (fun W' h' => ?_) ?_
    · go_simp
    go_simp
    refine wpT_ef rfl ?_
    go_simp
    have cs : W2.cell? ⟨b, 20, none⟩ = some (.pointer (some ⟨b2, 0, none⟩)) := hb.cell 20
    have cf := hb.frozen 20
    have cl := hb.lt
    gi_wp2
    have hu2 : Upd (fun j => j = b) W2 (W2.setCell ⟨b, 20, none⟩ (.pointer xm)) := Upd.setCell (M := fun j => j = b) rfl _
    have hn : Blk (W2.setCell ⟨b, 20, none⟩ (.pointer xm)) b (mkCE k v (.pointer xm) (.pointer xr) hx nx) 104 := by simpa [mkCE] using hb.set 20 (.pointer xm)
    clear cs cf cl
    replace hb2 := hb2.upd hu2 hne.symm
    replace tl := Tr.top_agree (w' := W2.setCell ⟨b, 20, none⟩ (.pointer xm)) tl (fun b3 e => by rcases tl with ⟨q, _⟩ | ⟨b4, _, _, _, _, q, q2⟩ <;> rw [q] at e <;> cases e; exact hu2.block _ q2.lt (fun q3 => by subst q3; exact dl q))
    replace tm := Tr.top_agree (w' := W2.setCell ⟨b, 20, none⟩ (.pointer xm)) tm (fun b3 e => by rcases tm with ⟨q, _⟩ | ⟨b4, _, _, _, _, q, q2⟩ <;> rw [q] at e <;> cases e; exact hu2.block _ q2.lt (fun q3 => by subst q3; exact dm q))
    replace tr := Tr.top_agree (w' := W2.setCell ⟨b, 20, none⟩ (.pointer xm)) tr (fun b3 e => by rcases tr with ⟨q, _⟩ | ⟨b4, _, _, _, _, q, q2⟩ <;> rw [q] at e <;> cases e; exact hu2.block _ q2.lt (fun q3 => by subst q3; exact dr q))
    replace hu := hu.trans' (hu2.mono fun _ _ h => .inl h)
    generalize (W2.setCell ⟨b, 20, none⟩ (.pointer xm)) = W3 at *
    clear hu2 hb
    have hb := hn
    clear hn
    refine ⟨hb.lt, ?_⟩
    refine wpT_fl rfl rfl (fun _ _ => rfl) ?_
    go_simp
    refine wpT_fl (v := .pointer (some ⟨b2, 21, none⟩)) rfl rfl (fun W' h' => ?_) ?_
    · go_simp
    go_simp
    refine wpT_ef rfl ?_
    go_simp
    have cs : W3.cell? ⟨b2, 21, none⟩ = some (.pointer xm) := hb2.cell 21
    have cf := hb2.frozen 21
    have cl := hb2.lt
    gi_wp2
    have hu2 : Upd (fun j => j = b2) W3 (W3.setCell ⟨b2, 21, none⟩ (.pointer (some ⟨b, 0, none⟩))) := Upd.setCell (M := fun j => j = b2) rfl _
    have hn : Blk (W3.setCell ⟨b2, 21, none⟩ (.pointer (some ⟨b, 0, none⟩))) b2 (mkCE k2 v2 (.pointer xl) (.pointer (some ⟨b, 0, none⟩)) h1 n1) 104 := by simpa [mkCE] using hb2.set 21 (.pointer (some ⟨b, 0, none⟩))
    clear cs cf cl
    replace hb := hb.upd hu2 hne
    replace tl := Tr.top_agree (w' := W3.setCell ⟨b2, 21, none⟩ (.pointer (some ⟨b, 0, none⟩))) tl (fun b3 e => by rcases tl with ⟨q, _⟩ | ⟨b4, _, _, _, _, q, q2⟩ <;> rw [q] at e <;> cases e; exact hu2.block _ q2.lt (fun q3 => by subst q3; exact el q))
    replace tm := Tr.top_agree (w' := W3.setCell ⟨b2, 21, none⟩ (.pointer (some ⟨b, 0, none⟩))) tm (fun b3 e => by rcases tm with ⟨q, _⟩ | ⟨b4, _, _, _, _, q, q2⟩ <;> rw [q] at e <;> cases e; exact hu2.block _ q2.lt (fun q3 => by subst q3; exact em q))
    replace tr := Tr.top_agree (w' := W3.setCell ⟨b2, 21, none⟩ (.pointer (some ⟨b, 0, none⟩))) tr (fun b3 e => by rcases tr with ⟨q, _⟩ | ⟨b4, _, _, _, _, q, q2⟩ <;> rw [q] at e <;> cases e; exact hu2.block _ q2.lt (fun q3 => by subst q3; exact er q))
    replace hu := hu.trans' (hu2.mono fun _ _ h => .inr h)
    generalize (W3.setCell ⟨b2, 21, none⟩ (.pointer (some ⟨b, 0, none⟩))) = W4 at *
    clear hu2 hb2
    have hb2 := hn
    clear hn
    refine ⟨hb.lt, ?_⟩
    refine wpT_nil ?_
    have k1 := countCE (n := 0) (hl := hm) (hr := hr) (nl := nm) (nr := nr) hb tm tr dm dr (by omega) s5 s6
    gi_wp2_with (first | refine (⟨trivial, rfl, ?_⟩ : Fence.wide.fn _ ∧ Fence.wide.depth = none ∧ _) | (gi_at_call 56; refine k1.mono ?_; rintro e W5 ⟨rfl, hb', hu2⟩; (clear k1); (replace hb2 := hb2.upd hu2 hne.symm); (replace tl := Tr.top_agree (w' := W5) tl (fun b3 e => by rcases tl with ⟨q, _⟩ | ⟨b4, _, _, _, _, q, q2⟩ <;> rw [q] at e <;> cases e; exact hu2.block _ q2.lt (fun q3 => by subst q3; exact dl q))); (replace tm := Tr.top_agree (w' := W5) tm (fun b3 e => by rcases tm with ⟨q, _⟩ | ⟨b4, _, _, _, _, q, q2⟩ <;> rw [q] at e <;> cases e; exact hu2.block _ q2.lt (fun q3 => by subst q3; exact dm q))); (replace tr := Tr.top_agree (w' := W5) tr (fun b3 e => by rcases tr with ⟨q, _⟩ | ⟨b4, _, _, _, _, q, q2⟩ <;> rw [q] at e <;> cases e; exact hu2.block _ q2.lt (fun q3 => by subst q3; exact dr q))); (replace hu := hu.trans' (hu2.mono fun _ _ h => .inl h)); (clear hu2 hb); (have hb := hb'); (clear hb'); (have k1 := countCE (n := 0) (hl := hl) (hr := 1 + max hm hr) (nl := nl) (nr := 1 + nm + nr) hb2 tl (.inr ⟨b, k, v, _, _, rfl, hb⟩) el (by intro e; cases e; exact hne rfl) (by omega) s4 (by omega))) | (gi_at_call 56; refine k1.mono ?_; rintro e W6 ⟨rfl, hb', hu2⟩; (replace hb := hb.upd hu2 hne); (replace hu := hu.trans' (hu2.mono fun _ _ h => .inr h)); (clear hu2 hb2); (have hb2 := hb'); (clear hb')))
    go_ret
    exact ⟨rfl, hb, hb2, hu⟩

set_option maxRecDepth 100000 in
set_option maxHeartbeats 2000000 in
theorem toLeftCE {n b b2 : Nat} {k k2 : KCE} {v v2 : VCE} {xl xm xr : Option Addr} {h0 n0 : Int} {h1 n1 hl hm hr nl nm nr : Nat} {w : World} (hb : Blk w b (mkCE k v (.pointer xr) (.pointer (some ⟨b2, 0, none⟩)) h0 n0) 104) (hb2 : Blk w b2 (mkCE k2 v2 (.pointer xm) (.pointer xl) h1 n1) 104)
    (tl : Tr.top 104 mkCE w xl hl nl) (tm : Tr.top 104 mkCE w xm hm nm) (tr : Tr.top 104 mkCE w xr hr nr) (hne : b ≠ b2) (dl : xl ≠ some ⟨b, 0, none⟩) (dm : xm ≠ some ⟨b, 0, none⟩) (dr : xr ≠ some ⟨b, 0, none⟩)
    (el : xl ≠ some ⟨b2, 0, none⟩) (em : xm ≠ some ⟨b2, 0, none⟩) (er : xr ≠ some ⟨b2, 0, none⟩) (s1 : n1 + nr < 1000000000) (s2 : nl + nm + nr < 100000000) (s3 : h1 ≤ n1) (s4 : hl ≤ nl) (s5 : hm ≤ nm) (s6 : hr ≤ nr) :
    CallsIn Fence.wide n Try.prog 59 #[.pointer (some ⟨b, 0, none⟩)] w fun e w' => e = .returned (.pointer (some ⟨b2, 0, none⟩)) ∧
      Blk w' b (mkCE k v (.pointer xr) (.pointer xm) ((1 + max hr hm : Nat) : Int) ((1 + nr + nm : Nat) : Int)) 104 ∧ Blk w' b2 (mkCE k2 v2 (.pointer (some ⟨b, 0, none⟩)) (.pointer xl) ((1 + max (1 + max hr hm) hl : Nat) : Int) ((1 + (1 + nr + nm) + nl : Nat) : Int)) 104 ∧ Upd (fun j => j = b ∨ j = b2) w w' := by
  have cL : w.cell? ⟨b, 21, none⟩ = some (.pointer (some ⟨b2, 0, none⟩)) := hb.cell 21
  have hu : Upd (fun j => j = b ∨ j = b2) w w := Upd.refl _ _
  refine callsIn_any (n := 0) (callsIn_of_wp Try.func59 rfl trivial ?_)
  simp only [Try.ntmps59, List.size_toArray, List.length_cons, List.length_nil, Nat.reduceAdd, Nat.reduceSub, Array.replicate_succ, Array.replicate_zero, List.push_toArray, List.append_toArray, List.nil_append, List.cons_append]
  gi_wp2
  refine wpIn_plan (.fl 0 (.fl 1 (.fl 2 (.fl 3 (.fl 4 (.fl 6 (.fork 5 (.ef 7 (.fl 8 (.fl 9 (.ef 10 (.fl 11 (.fl 12 (.ef 13 .done))))))) 7 (.ef 5 (.fl 8 (.fl 9 (.ef 10 (.fl 11 (.fl 12 (.ef 13 .done)))))))))))))) (fun V => b < V.heap.size) (by kernel_rfl) (by kernel_rfl) hb.lt ?_
  replace hb := hb.upd (Upd.drew (fun _ => False) w) id
  replace hb2 := hb2.upd (Upd.drew (fun _ => False) w) id
  replace tl := Tr.top_agree tl (fun _ _ => rfl) (w' := w.drew)
  replace tm := Tr.top_agree tm (fun _ _ => rfl) (w' := w.drew)
  replace tr := Tr.top_agree tr (fun _ _ => rfl) (w' := w.drew)
  replace hu := hu.stepDrew
  clear cL
  generalize w.drew = W at *
  refine wpT_fl rfl rfl (fun _ _ => rfl) ?_
  go_simp
  refine wpT_fl rfl rfl (fun _ _ => rfl) ?_
  go_simp
  refine wpT_fl rfl rfl (fun _ _ => rfl) ?_
  go_simp
  refine wpT_fl rfl rfl (fun _ _ => rfl) ?_
  go_simp
  refine wpT_fl (v := .pointer (some ⟨b2, 20, none⟩)) rfl rfl (fun W' h' => ?_) ?_
  · go_simp
  go_simp
  refine wpT_fl rfl rfl (fun _ _ => rfl) ?_
  go_simp
  refine wpT_fork rfl rfl ?_ ?_
  · skip
    go_simp
    have cm : W.cell? ⟨b2, 20, none⟩ = some (.pointer xm) := hb2.cell 20
    gi_wp2
    refine ⟨hb.lt, ?_⟩
    clear cm
    refine wpT_ef rfl ?_
    go_simp
    gi_wp2_with (first | refine (⟨trivial, rfl, ?_⟩ : Fence.wide.fn _ ∧ Fence.wide.depth = none ∧ _) | (gi_at_call 56; refine (countCE (hl := hr) (hr := h1) (nl := nr) (nr := n1) hb tr (.inr ⟨b2, k2, v2, _, _, rfl, hb2⟩) dr (by intro e; cases e; exact hne rfl) (by omega) s6 s3).mono ?_; rintro e W2 ⟨rfl, hb', hu2⟩))
    replace hb2 := hb2.upd hu2 hne.symm
    replace tl := Tr.top_agree (w' := W2) tl (fun b3 e => by rcases tl with ⟨q, _⟩ | ⟨b4, _, _, _, _, q, q2⟩ <;> rw [q] at e <;> cases e; exact hu2.block _ q2.lt (fun q3 => by subst q3; exact dl q))
    replace tm := Tr.top_agree (w' := W2) tm (fun b3 e => by rcases tm with ⟨q, _⟩ | ⟨b4, _, _, _, _, q, q2⟩ <;> rw [q] at e <;> cases e; exact hu2.block _ q2.lt (fun q3 => by subst q3; exact dm q))
    replace tr := Tr.top_agree (w' := W2) tr (fun b3 e => by rcases tr with ⟨q, _⟩ | ⟨b4, _, _, _, _, q, q2⟩ <;> rw [q] at e <;> cases e; exact hu2.block _ q2.lt (fun q3 => by subst q3; exact dr q))
    replace hu := hu.trans' (hu2.mono fun _ _ h => .inl h)
    clear hu2 hb
    have hb := hb'
    clear hb'
    generalize ((1 + max hr h1 : Nat) : Int) = hx at *
    generalize ((1 + nr + n1 : Nat) : Int) = nx at *
    refine ⟨hb.lt, ?_⟩
    refine wpT_fl rfl rfl (fun _ _ => rfl) ?_
    go_simp
    refine wpT_fl (v := .pointer (some ⟨b, 21, none⟩)) rfl rfl (fun W' h' => ?_) ?_
    · go_simp
    go_simp
    refine wpT_ef rfl ?_
    go_simp
    have cs : W2.cell? ⟨b, 21, none⟩ = some (.pointer (some ⟨b2, 0, none⟩)) := hb.cell 21
    have cf := hb.frozen 21
    have cl := hb.lt
    gi_wp2
    have hu2 : Upd (fun j => j = b) W2 (W2.setCell ⟨b, 21, none⟩ (.pointer xm)) := Upd.setCell (M := fun j => j = b) rfl _
    have hn : Blk (W2.setCell ⟨b, 21, none⟩ (.pointer xm)) b (mkCE k v (.pointer xr) (.pointer xm) hx nx) 104 := by simpa [mkCE] using hb.set 21 (.pointer xm)
    clear cs cf cl
    replace hb2 := hb2.upd hu2 hne.symm
    replace tl := Tr.top_agree (w' := W2.setCell ⟨b, 21, none⟩ (.pointer xm)) tl (fun b3 e => by rcases tl with ⟨q, _⟩ | ⟨b4, _, _, _, _, q, q2⟩ <;> rw [q] at e <;> cases e; exact hu2.block _ q2.lt (fun q3 => by subst q3; exact dl q))
    replace tm := Tr.top_agree (w' := W2.setCell ⟨b, 21, none⟩ (.pointer xm)) tm (fun b3 e => by rcases tm with ⟨q, _⟩ | ⟨b4, _, _, _, _, q, q2⟩ <;> rw [q] at e <;> cases e; exact hu2.block _ q2.lt (fun q3 => by subst q3; exact dm q))
    replace tr := Tr.top_agree (w' := W2.setCell ⟨b, 21, none⟩ (.pointer xm)) tr (fun b3 e => by rcases tr with ⟨q, _⟩ | ⟨b4, _, _, _, _, q, q2⟩ <;> rw [q] at e <;> cases e; exact hu2.block _ q2.lt (fun q3 => by subst q3; exact dr q))
    replace hu := hu.trans' (hu2.mono fun _ _ h => .inl h)
    generalize (W2.setCell ⟨b, 21, none⟩ (.pointer xm)) = W3 at *
    clear hu2 hb
    have hb := hn
    clear hn
    refine ⟨hb.lt, ?_⟩
    refine wpT_fl rfl rfl (fun _ _ => rfl) ?_
    go_simp
    refine wpT_fl (v := .pointer (some ⟨b2, 20, none⟩)) rfl rfl (fun W' h' => ?_) ?_
    · go_simp
    go_simp
    refine wpT_ef rfl ?_
    go_simp
    have cs : W3.cell? ⟨b2, 20, none⟩ = some (.pointer xm) := hb2.cell 20
    have cf := hb2.frozen 20
    have cl := hb2.lt
    gi_wp2
    have hu2 : Upd (fun j => j = b2) W3 (W3.setCell ⟨b2, 20, none⟩ (.pointer (some ⟨b, 0, none⟩))) := Upd.setCell (M := fun j => j = b2) rfl _
    have hn : Blk (W3.setCell ⟨b2, 20, none⟩ (.pointer (some ⟨b, 0, none⟩))) b2 (mkCE k2 v2 (.pointer (some ⟨b, 0, none⟩)) (.pointer xl) h1 n1) 104 := by simpa [mkCE] using hb2.set 20 (.pointer (some ⟨b, 0, none⟩))
    clear cs cf cl
    replace hb := hb.upd hu2 hne
    replace tl := Tr.top_agree (w' := W3.setCell ⟨b2, 20, none⟩ (.pointer (some ⟨b, 0, none⟩))) tl (fun b3 e => by rcases tl with ⟨q, _⟩ | ⟨b4, _, _, _, _, q, q2⟩ <;> rw [q] at e <;> cases e; exact hu2.block _ q2.lt (fun q3 => by subst q3; exact el q))
    replace tm := Tr.top_agree (w' := W3.setCell ⟨b2, 20, none⟩ (.pointer (some ⟨b, 0, none⟩))) tm (fun b3 e => by rcases tm with ⟨q, _⟩ | ⟨b4, _, _, _, _, q, q2⟩ <;> rw [q] at e <;> cases e; exact hu2.block _ q2.lt (fun q3 => by subst q3; exact em q))
    replace tr := Tr.top_agree (w' := W3.setCell ⟨b2, 20, none⟩ (.pointer (some ⟨b, 0, none⟩))) tr (fun b3 e => by rcases tr with ⟨q, _⟩ | ⟨b4, _, _, _, _, q, q2⟩ <;> rw [q] at e <;> cases e; exact hu2.block _ q2.lt (fun q3 => by subst q3; exact er q))
    replace hu := hu.trans' (hu2.mono fun _ _ h => .inr h)
    generalize (W3.setCell ⟨b2, 20, none⟩ (.pointer (some ⟨b, 0, none⟩))) = W4 at *
    clear hu2 hb2
    have hb2 := hn
    clear hn
    refine ⟨hb.lt, ?_⟩
    refine wpT_nil ?_
    have k1 := countCE (n := 0) (hl := hr) (hr := hm) (nl := nr) (nr := nm) hb tr tm dr dm (by omega) s6 s5
    gi_wp2_with (first | refine (⟨trivial, rfl, ?_⟩ : Fence.wide.fn _ ∧ Fence.wide.depth = none ∧ _) | (gi_at_call 56; refine k1.mono ?_; rintro e W5 ⟨rfl, hb', hu2⟩; (clear k1); (replace hb2 := hb2.upd hu2 hne.symm); (replace tl := Tr.top_agree (w' := W5) tl (fun b3 e => by rcases tl with ⟨q, _⟩ | ⟨b4, _, _, _, _, q, q2⟩ <;> rw [q] at e <;> cases e; exact hu2.block _ q2.lt (fun q3 => by subst q3; exact dl q))); (replace tm := Tr.top_agree (w' := W5) tm (fun b3 e => by rcases tm with ⟨q, _⟩ | ⟨b4, _, _, _, _, q, q2⟩ <;> rw [q] at e <;> cases e; exact hu2.block _ q2.lt (fun q3 => by subst q3; exact dm q))); (replace tr := Tr.top_agree (w' := W5) tr (fun b3 e => by rcases tr with ⟨q, _⟩ | ⟨b4, _, _, _, _, q, q2⟩ <;> rw [q] at e <;> cases e; exact hu2.block _ q2.lt (fun q3 => by subst q3; exact dr q))); (replace hu := hu.trans' (hu2.mono fun _ _ h => .inl h)); (clear hu2 hb); (have hb := hb'); (clear hb'); (have k1 := countCE (n := 0) (hl := 1 + max hr hm) (hr := hl) (nl := 1 + nr + nm) (nr := nl) hb2 (.inr ⟨b, k, v, _, _, rfl, hb⟩) tl (by intro e; cases e; exact hne rfl) el (by omega) (by omega) s4)) | (gi_at_call 56; refine k1.mono ?_; rintro e W6 ⟨rfl, hb', hu2⟩; (replace hb := hb.upd hu2 hne); (replace hu := hu.trans' (hu2.mono fun _ _ h => .inr h)); (clear hu2 hb2); (have hb2 := hb'); (clear hb')))
    go_ret
    exact ⟨rfl, hb, hb2, hu⟩
  · skip
    go_simp
    gi_wp2_with (first | refine (⟨trivial, rfl, ?_⟩ : Fence.wide.fn _ ∧ Fence.wide.depth = none ∧ _) | (gi_at_call 56; refine (countCE (hl := hr) (hr := h1) (nl := nr) (nr := n1) hb tr (.inr ⟨b2, k2, v2, _, _, rfl, hb2⟩) dr (by intro e; cases e; exact hne rfl) (by omega) s6 s3).mono ?_; rintro e W2 ⟨rfl, hb', hu2⟩))
    replace hb2 := hb2.upd hu2 hne.symm
    replace tl := Tr.top_agree (w' := W2) tl (fun b3 e => by rcases tl with ⟨q, _⟩ | ⟨b4, _, _, _, _, q, q2⟩ <;> rw [q] at e <;> cases e; exact hu2.block _ q2.lt (fun q3 => by subst q3; exact dl q))
    replace tm := Tr.top_agree (w' := W2) tm (fun b3 e => by rcases tm with ⟨q, _⟩ | ⟨b4, _, _, _, _, q, q2⟩ <;> rw [q] at e <;> cases e; exact hu2.block _ q2.lt (fun q3 => by subst q3; exact dm q))
    replace tr := Tr.top_agree (w' := W2) tr (fun b3 e => by rcases tr with ⟨q, _⟩ | ⟨b4, _, _, _, _, q, q2⟩ <;> rw [q] at e <;> cases e; exact hu2.block _ q2.lt (fun q3 => by subst q3; exact dr q))
    replace hu := hu.trans' (hu2.mono fun _ _ h => .inl h)
    clear hu2 hb
    have hb := hb'
    clear hb'
    generalize ((1 + max hr h1 : Nat) : Int) = hx at *
    generalize ((1 + nr + n1 : Nat) : Int) = nx at *
    refine ⟨hb.lt, ?_⟩
    refine wpT_ef rfl ?_
    go_simp
    have cm : W2.cell? ⟨b2, 20, none⟩ = some (.pointer xm) := hb2.cell 20
    gi_wp2
    refine ⟨hb.lt, ?_⟩
    clear cm
    refine wpT_fl rfl rfl (fun _ _ => rfl) ?_
    go_simp
    refine wpT_fl (v := .pointer (some ⟨b, 21, none⟩)) rfl rfl (fun W' h' => ?_) ?_
    · go_simp
    go_simp
    refine wpT_ef rfl ?_
    go_simp
    have cs : W2.cell? ⟨b, 21, none⟩ = some (.pointer (some ⟨b2, 0, none⟩)) := hb.cell 21
    have cf := hb.frozen 21
    have cl := hb.lt
    gi_wp2
    have hu2 : Upd (fun j => j = b) W2 (W2.setCell ⟨b, 21, none⟩ (.pointer xm)) := Upd.setCell (M := fun j => j = b) rfl _
    have hn : Blk (W2.setCell ⟨b, 21, none⟩ (.pointer xm)) b (mkCE k v (.pointer xr) (.pointer xm) hx nx) 104 := by simpa [mkCE] using hb.set 21 (.pointer xm)
    clear cs cf cl
    replace hb2 := hb2.upd hu2 hne.symm
    replace tl := Tr.top_agree (w' := W2.setCell ⟨b, 21, none⟩ (.pointer xm)) tl (fun b3 e => by rcases tl with ⟨q, _⟩ | ⟨b4, _, _, _, _, q, q2⟩ <;> rw [q] at e <;> cases e; exact hu2.block _ q2.lt (fun q3 => by subst q3; exact dl q))
    replace tm := Tr.top_agree (w' := W2.setCell ⟨b, 21, none⟩ (.pointer xm)) tm (fun b3 e => by rcases tm with ⟨q, _⟩ | ⟨b4, _, _, _, _, q, q2⟩ <;> rw [q] at e <;> cases e; exact hu2.block _ q2.lt (fun q3 => by subst q3; exact dm q))
    replace tr := Tr.top_agree (w' := W2.setCell ⟨b, 21, none⟩ (.pointer xm)) tr (fun b3 e => by rcases tr with ⟨q, _⟩ | ⟨b4, _, _, _, _, q, q2⟩ <;> rw [q] at e <;> cases e; exact hu2.block _ q2.lt (fun q3 => by subst q3; exact dr q))
    replace hu := hu.trans' (hu2.mono fun _ _ h => .inl h)
    generalize (W2.setCell ⟨b, 21, none⟩ (.pointer xm)) = W3 at *
    clear hu2 hb
    have hb := hn
    clear hn
    refine ⟨hb.lt, ?_⟩
    refine wpT_fl rfl rfl (fun _ _ => rfl) ?_
    go_simp
    refine wpT_fl (v := .pointer (some ⟨b2, 20, none⟩)) rfl rfl (fun W' h' => ?_) ?_
    · go_simp
    go_simp
    refine wpT_ef rfl ?_
    go_simp
    have cs : W3.cell? ⟨b2, 20, none⟩ = some (.pointer xm) := hb2.cell 20
    have cf := hb2.frozen 20
    have cl := hb2.lt
    gi_wp2
    have hu2 : Upd (fun j => j = b2) W3 (W3.setCell ⟨b2, 20, none⟩ (.pointer (some ⟨b, 0, none⟩))) := Upd.setCell (M := fun j => j = b2) rfl _
    have hn : Blk (W3.setCell ⟨b2, 20, none⟩ (.pointer (some ⟨b, 0, none⟩))) b2 (mkCE k2 v2 (.pointer (some ⟨b, 0, none⟩)) (.pointer xl) h1 n1) 104 := by simpa [mkCE] using hb2.set 20 (.pointer (some ⟨b, 0, none⟩))
    clear cs cf cl
    replace hb := hb.upd hu2 hne
    replace tl := Tr.top_agree (w' := W3.setCell ⟨b2, 20, none⟩ (.pointer (some ⟨b, 0, none⟩))) tl (fun b3 e => by rcases tl with ⟨q, _⟩ | ⟨b4, _, _, _, _, q, q2⟩ <;> rw [q] at e <;> cases e; exact hu2.block _ q2.lt (fun q3 => by subst q3; exact el q))
    replace tm := Tr.top_agree (w' := W3.setCell ⟨b2, 20, none⟩ (.pointer (some ⟨b, 0, none⟩))) tm (fun b3 e => by rcases tm with ⟨q, _⟩ | ⟨b4, _, _, _, _, q, q2⟩ <;> rw [q] at e <;> cases e; exact hu2.block _ q2.lt (fun q3 => by subst q3; exact em q))
    replace tr := Tr.top_agree (w' := W3.setCell ⟨b2, 20, none⟩ (.pointer (some ⟨b, 0, none⟩))) tr (fun b3 e => by rcases tr with ⟨q, _⟩ | ⟨b4, _, _, _, _, q, q2⟩ <;> rw [q] at e <;> cases e; exact hu2.block _ q2.lt (fun q3 => by subst q3; exact er q))
    replace hu := hu.trans' (hu2.mono fun _ _ h => .inr h)
    generalize (W3.setCell ⟨b2, 20, none⟩ (.pointer (some ⟨b, 0, none⟩))) = W4 at *
    clear hu2 hb2
    have hb2 := hn
    clear hn
    refine ⟨hb.lt, ?_⟩
    refine wpT_nil ?_
    have k1 := countCE (n := 0) (hl := hr) (hr := hm) (nl := nr) (nr := nm) hb tr tm dr dm (by omega) s6 s5
    gi_wp2_with (first | refine (⟨trivial, rfl, ?_⟩ : Fence.wide.fn _ ∧ Fence.wide.depth = none ∧ _) | (gi_at_call 56; refine k1.mono ?_; rintro e W5 ⟨rfl, hb', hu2⟩; (clear k1); (replace hb2 := hb2.upd hu2 hne.symm); (replace tl := Tr.top_agree (w' := W5) tl (fun b3 e => by rcases tl with ⟨q, _⟩ | ⟨b4, _, _, _, _, q, q2⟩ <;> rw [q] at e <;> cases e; exact hu2.block _ q2.lt (fun q3 => by subst q3; exact dl q))); (replace tm := Tr.top_agree (w' := W5) tm (fun b3 e => by rcases tm with ⟨q, _⟩ | ⟨b4, _, _, _, _, q, q2⟩ <;> rw [q] at e <;> cases e; exact hu2.block _ q2.lt (fun q3 => by subst q3; exact dm q))); (replace tr := Tr.top_agree (w' := W5) tr (fun b3 e => by rcases tr with ⟨q, _⟩ | ⟨b4, _, _, _, _, q, q2⟩ <;> rw [q] at e <;> cases e; exact hu2.block _ q2.lt (fun q3 => by subst q3; exact dr q))); (replace hu := hu.trans' (hu2.mono fun _ _ h => .inl h)); (clear hu2 hb); (have hb := hb'); (clear hb'); (have k1 := countCE (n := 0) (hl := 1 + max hr hm) (hr := hl) (nl := 1 + nr + nm) (nr := nl) hb2 (.inr ⟨b, k, v, _, _, rfl, hb⟩) tl (by intro e; cases e; exact hne rfl) el (by omega) (by omega) s4)) | (gi_at_call 56; refine k1.mono ?_; rintro e W6 ⟨rfl, hb', hu2⟩; (replace hb := hb.upd hu2 hne); (replace hu := hu.trans' (hu2.mono fun _ _ h => .inr h)); (clear hu2 hb2); (have hb2 := hb'); (clear hb')))
    go_ret
    exact ⟨rfl, hb, hb2, hu⟩
end Go.Proofs.Ytadeechoknpjhaa

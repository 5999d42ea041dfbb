/- rack's 'even', instance tidemill/api.Cell, tidemill/silo.Entry. -/
import Derived.Test.YtadeechoknpjhaaProg
import Derived.Test.YtadeechoknpjhaaBase
import Derived.Test.YtadeechoknpjhaaTr
import Derived.Test.YtadeechoknpjhaaFork
import Derived.Test.YtadeechoknpjhaaRkCEA
set_option linter.unusedSimpArgs false
set_option linter.unusedVariables false
namespace Go.Proofs.Ytadeechoknpjhaa
open Go.RowKit Go.Shelf
attribute [local go_sem] Oper.semAt_some


set_option maxRecDepth 100000 in
set_option maxHeartbeats 2000000 in
theorem even0CE {n b : Nat} {k : KCE} {v : VCE} {lp rp : Option Addr} {h0 n0 : Int} {hl hr nl nr : Nat} {w : World} (hb : Blk w b (mkCE k v (.pointer lp) (.pointer rp) h0 n0) 104)
    (tl : Tr.top 104 mkCE w lp hl nl) (tr : Tr.top 104 mkCE w rp hr nr) (dl : lp ≠ some ⟨b, 0, none⟩) (dr : rp ≠ some ⟨b, 0, none⟩) (h1 : nl + nr < 1000000000) (h2 : hl ≤ nl) (h3 : hr ≤ nr) (h4 : hl ≤ hr + 1) (h5 : hr ≤ hl + 1) :
    CallsIn Fence.wide n Try.prog 57 #[.pointer (some ⟨b, 0, none⟩)] w fun e w' => e = .returned (.pointer (some ⟨b, 0, none⟩)) ∧
      Blk w' b (mkCE k v (.pointer lp) (.pointer rp) ((1 + max hl hr : Nat) : Int) ((1 + nl + nr : Nat) : Int)) 104 ∧ Upd (fun j => j = b) w w' := by
  obtain ⟨D, hD⟩ : ∃ x : Int, x = (hl : Int) - hr := ⟨_, rfl⟩
  have hd : IntKind.i64.wrap ((hl : Int) - hr) = D := (Go.IntWalk.i64_in _ ⟨by omega, by omega⟩).trans (by omega)
  have hd1 : ¬ 1 < D := by omega
  have hd2 : ¬ D < -1 := by omega
  clear hD
  have hu : Upd (fun j => j = b) w w := Upd.refl _ _
  refine callsIn_any (n := 0) (callsIn_of_wp Try.func57 rfl trivial ?_)
  simp only [Try.ntmps57, List.size_toArray, List.length_cons, List.length_nil, Nat.reduceAdd, Nat.reduceSub, Array.replicate_succ, Array.replicate_zero, List.push_toArray, List.append_toArray, List.nil_append, List.cons_append]
  have c2 : w.cell? ⟨b, 20, none⟩ = some (.pointer lp) := hb.cell 20
  have c3 : w.cell? ⟨b, 21, none⟩ = some (.pointer rp) := hb.cell 21
  gi_wp2
  refine wpIn_eager [(0, true), (1, true), (2, true), (3, true), (5, true), (6, true), (7, true), (8, true), (4, false), (9, false), (10, true), (11, true)] (fun V => V.cell? ⟨b, 20, none⟩ = some (.pointer lp) ∧ V.cell? ⟨b, 21, none⟩ = some (.pointer rp)) (by kernel_rfl) (by kernel_rfl) ⟨c2, c3⟩ ?_
  clear c2 c3
  replace hb := hb.upd (Upd.drew (fun _ => False) w) id
  replace tl := Tr.top_agree tl (fun _ _ => rfl) (w' := w.drew)
  replace tr := Tr.top_agree tr (fun _ _ => rfl) (w' := w.drew)
  replace hu := hu.stepDrew
  generalize w.drew = W at *
  have c2 : W.cell? ⟨b, 20, none⟩ = some (.pointer lp) := hb.cell 20
  have c3 : W.cell? ⟨b, 21, none⟩ = some (.pointer rp) := hb.cell 21
  refine wpE_fl rfl rfl (fun _ _ => rfl) ?_
  go_simp
  refine wpE_fl rfl rfl (fun _ _ => rfl) ?_
  go_simp
  refine wpE_fl (v := .pointer (some ⟨b, 20, none⟩)) rfl rfl (fun W' h' => ?_) ?_
  · go_simp
  go_simp
  refine wpE_fl (v := .pointer lp) rfl rfl (fun W' h' => ?_) ?_
  · obtain ⟨h1, h2⟩ := h'; go_simp
  go_simp
  refine wpE_fl rfl rfl (fun _ _ => rfl) ?_
  go_simp
  refine wpE_fl rfl rfl (fun _ _ => rfl) ?_
  go_simp
  refine wpE_fl (v := .pointer (some ⟨b, 21, none⟩)) rfl rfl (fun W' h' => ?_) ?_
  · go_simp
  go_simp
  refine wpE_fl (v := .pointer rp) rfl rfl (fun W' h' => ?_) ?_
  · obtain ⟨h1, h2⟩ := h'; go_simp
  go_simp
  refine wpE_ef rfl ?_
  go_simp
  gi_wp2_with (first | refine (⟨trivial, rfl, ?_⟩ : Fence.wide.fn _ ∧ Fence.wide.depth = none ∧ _) | (gi_at_call 58; refine (heightCE tl).mono ?_; rintro e W2 ⟨rfl, e2⟩; (replace e2 := e2.symm); subst e2))
  refine ⟨⟨c2, c3⟩, ?_⟩
  refine wpE_ef rfl ?_
  go_simp
  gi_wp2_with (first | refine (⟨trivial, rfl, ?_⟩ : Fence.wide.fn _ ∧ Fence.wide.depth = none ∧ _) | (gi_at_call 58; refine (heightCE tr).mono ?_; rintro e W2 ⟨rfl, e2⟩; (replace e2 := e2.symm); subst e2))
  refine ⟨⟨c2, c3⟩, ?_⟩
  refine wpE_fl (v := .int .i64 D) rfl rfl (fun W' h' => ?_) ?_
  · go_simp
  go_simp
  refine wpE_fl rfl rfl (fun _ _ => rfl) ?_
  go_simp
  refine wpE_nil ?_
  have k1 := countCE (n := 0) hb tl tr dl dr h1 h2 h3
  clear c2 c3 tl tr
  gi_wp2_with (first | refine (⟨trivial, rfl, ?_⟩ : Fence.wide.fn _ ∧ Fence.wide.depth = none ∧ _) | (gi_at_call 56; refine k1.mono ?_; rintro e W2 ⟨rfl, hb', hu2⟩))
  go_ret
  exact ⟨rfl, hb', hu.trans' hu2⟩

set_option maxRecDepth 100000 in
set_option maxHeartbeats 2000000 in
theorem even1RCE {n b b2 : Nat} {k k2 : KCE} {v v2 : VCE} {xl xm xr : Option Addr} {h0 n0 : Int} {h1 n1 hl hm hr nl nm nr : Nat} {w : World} (hb : Blk w b (mkCE k v (.pointer (some ⟨b2, 0, none⟩)) (.pointer xr) h0 n0) 104) (hb2 : Blk w b2 (mkCE k2 v2 (.pointer xl) (.pointer xm) h1 n1) 104)
    (tl : Tr.top 104 mkCE w xl hl nl) (tm : Tr.top 104 mkCE w xm hm nm) (tr : Tr.top 104 mkCE w xr hr nr) (hne : b ≠ b2) (dl : xl ≠ some ⟨b, 0, none⟩) (dm : xm ≠ some ⟨b, 0, none⟩) (dr : xr ≠ some ⟨b, 0, none⟩)
    (el : xl ≠ some ⟨b2, 0, none⟩) (em : xm ≠ some ⟨b2, 0, none⟩) (er : xr ≠ some ⟨b2, 0, none⟩) (s1 : n1 + nr < 1000000000) (s2 : nl + nm + nr < 100000000) (s3 : h1 ≤ n1) (s4 : hl ≤ nl) (s5 : hm ≤ nm) (s6 : hr ≤ nr) (s7 : hr + 1 < h1) (s8 : hm ≤ hl) :
    CallsIn Fence.wide n Try.prog 57 #[.pointer (some ⟨b, 0, none⟩)] w fun e w' => e = .returned (.pointer (some ⟨b2, 0, none⟩)) ∧
      Blk w' b (mkCE k v (.pointer xm) (.pointer xr) ((((1 + max hm hr) : Nat) : Int)) ((((1 + nm + nr) : Nat) : Int))) 104 ∧ Blk w' b2 (mkCE k2 v2 (.pointer xl) (.pointer (some ⟨b, 0, none⟩)) ((((1 + max hl (1 + max hm hr)) : Nat) : Int)) ((((1 + nl + (1 + nm + nr)) : Nat) : Int))) 104 ∧ Upd (fun j => j = b ∨ j = b2) w w' := by
  obtain ⟨D, hD⟩ : ∃ x : Int, x = (h1 : Int) - hr := ⟨_, rfl⟩
  have hd : IntKind.i64.wrap ((h1 : Int) - hr) = D := (Go.IntWalk.i64_in _ ⟨by omega, by omega⟩).trans (by omega)
  have hd1 : 1 < D := by omega
  have hlt : ¬ hl < hm := by omega
  clear hD
  have hu : Upd (fun j => j = b ∨ j = b2) w w := Upd.refl _ _
  refine callsIn_any (n := 0) (callsIn_of_wp Try.func57 rfl trivial ?_)
  simp only [Try.ntmps57, List.size_toArray, List.length_cons, List.length_nil, Nat.reduceAdd, Nat.reduceSub, Array.replicate_succ, Array.replicate_zero, List.push_toArray, List.append_toArray, List.nil_append, List.cons_append]
  have c2 : w.cell? ⟨b, 20, none⟩ = some (.pointer (some ⟨b2, 0, none⟩)) := hb.cell 20
  have c3 : w.cell? ⟨b, 21, none⟩ = some (.pointer xr) := hb.cell 21
  gi_wp2
  refine wpIn_eager [(0, true), (1, true), (2, true), (3, true), (5, true), (6, true), (7, true), (8, true), (4, false), (9, false), (10, true), (11, true)] (fun V => V.cell? ⟨b, 20, none⟩ = some (.pointer (some ⟨b2, 0, none⟩)) ∧ V.cell? ⟨b, 21, none⟩ = some (.pointer xr)) (by kernel_rfl) (by kernel_rfl) ⟨c2, c3⟩ ?_
  clear c2 c3
  replace hb := hb.upd (Upd.drew (fun _ => False) w) id
  replace hb2 := hb2.upd (Upd.drew (fun _ => False) w) id
  replace tl := Tr.top_agree tl (fun _ _ => rfl) (w' := w.drew)
  replace tm := Tr.top_agree tm (fun _ _ => rfl) (w' := w.drew)
  replace tr := Tr.top_agree tr (fun _ _ => rfl) (w' := w.drew)
  replace hu := hu.stepDrew
  generalize w.drew = W at *
  have c2 : W.cell? ⟨b, 20, none⟩ = some (.pointer (some ⟨b2, 0, none⟩)) := hb.cell 20
  have c3 : W.cell? ⟨b, 21, none⟩ = some (.pointer xr) := hb.cell 21
  have tb : Tr.top 104 mkCE W (some ⟨b2, 0, none⟩) h1 n1 := .inr ⟨b2, k2, v2, _, _, rfl, hb2⟩
  refine wpE_fl rfl rfl (fun _ _ => rfl) ?_
  go_simp
  refine wpE_fl rfl rfl (fun _ _ => rfl) ?_
  go_simp
  refine wpE_fl (v := .pointer (some ⟨b, 20, none⟩)) rfl rfl (fun W' h' => ?_) ?_
  · go_simp
  go_simp
  refine wpE_fl (v := .pointer (some ⟨b2, 0, none⟩)) rfl rfl (fun W' h' => ?_) ?_
  · obtain ⟨h1, h2⟩ := h'; go_simp
  go_simp
  refine wpE_fl rfl rfl (fun _ _ => rfl) ?_
  go_simp
  refine wpE_fl rfl rfl (fun _ _ => rfl) ?_
  go_simp
  refine wpE_fl (v := .pointer (some ⟨b, 21, none⟩)) rfl rfl (fun W' h' => ?_) ?_
  · go_simp
  go_simp
  refine wpE_fl (v := .pointer xr) rfl rfl (fun W' h' => ?_) ?_
  · obtain ⟨h1, h2⟩ := h'; go_simp
  go_simp
  refine wpE_ef rfl ?_
  go_simp
  gi_wp2_with (first | refine (⟨trivial, rfl, ?_⟩ : Fence.wide.fn _ ∧ Fence.wide.depth = none ∧ _) | (gi_at_call 58; refine (heightCE tb).mono ?_; rintro e W2 ⟨rfl, e2⟩; (replace e2 := e2.symm); subst e2))
  refine ⟨⟨c2, c3⟩, ?_⟩
  refine wpE_ef rfl ?_
  go_simp
  gi_wp2_with (first | refine (⟨trivial, rfl, ?_⟩ : Fence.wide.fn _ ∧ Fence.wide.depth = none ∧ _) | (gi_at_call 58; refine (heightCE tr).mono ?_; rintro e W2 ⟨rfl, e2⟩; (replace e2 := e2.symm); subst e2))
  refine ⟨⟨c2, c3⟩, ?_⟩
  refine wpE_fl (v := .int .i64 D) rfl rfl (fun W' h' => ?_) ?_
  · go_simp
  go_simp
  refine wpE_fl rfl rfl (fun _ _ => rfl) ?_
  go_simp
  refine wpE_nil ?_
  replace hd := Lib.hid hd
  gi_wp2
  have d1 : W.cell? ⟨b2, 20, none⟩ = some (.pointer xl) := hb2.cell 20
  have d2 : W.cell? ⟨b2, 21, none⟩ = some (.pointer xm) := hb2.cell 21
  refine wpIn_eager [(0, true), (1, true), (2, true), (3, true), (4, true), (5, true), (6, true), (8, true), (9, true), (10, true), (11, true), (12, true), (13, true), (14, true), (7, false), (15, false), (16, true)] (fun V => V.cell? ⟨b, 20, none⟩ = some (.pointer (some ⟨b2, 0, none⟩)) ∧ V.cell? ⟨b2, 20, none⟩ = some (.pointer xl) ∧ V.cell? ⟨b2, 21, none⟩ = some (.pointer xm)) (by kernel_rfl) (by kernel_rfl) ⟨c2, d1, d2⟩ ?_
  clear c2 c3 d1 d2
  replace hb := hb.upd (Upd.drew (fun _ => False) W) id
  replace hb2 := hb2.upd (Upd.drew (fun _ => False) W) id
  replace tl := Tr.top_agree tl (fun _ _ => rfl) (w' := W.drew)
  replace tm := Tr.top_agree tm (fun _ _ => rfl) (w' := W.drew)
  replace tr := Tr.top_agree tr (fun _ _ => rfl) (w' := W.drew)
  replace tb := Tr.top_agree tb (fun _ _ => rfl) (w' := W.drew)
  replace hu := hu.stepDrew
  generalize W.drew = W2 at *
  have c2 : W2.cell? ⟨b, 20, none⟩ = some (.pointer (some ⟨b2, 0, none⟩)) := hb.cell 20
  have d1 : W2.cell? ⟨b2, 20, none⟩ = some (.pointer xl) := hb2.cell 20
  have d2 : W2.cell? ⟨b2, 21, none⟩ = some (.pointer xm) := hb2.cell 21
  refine wpE_fl rfl rfl (fun _ _ => rfl) ?_
  go_simp
  refine wpE_fl rfl rfl (fun _ _ => rfl) ?_
  go_simp
  refine wpE_fl (v := .pointer (some ⟨b, 20, none⟩)) rfl rfl (fun W' h' => ?_) ?_
  · go_simp
  go_simp
  refine wpE_fl (v := .pointer (some ⟨b2, 0, none⟩)) rfl rfl (fun W' h' => ?_) ?_
  · obtain ⟨h1, h2, h3⟩ := h'; go_simp
  go_simp
  refine wpE_fl rfl rfl (fun _ _ => rfl) ?_
  go_simp
  refine wpE_fl (v := .pointer (some ⟨b2, 20, none⟩)) rfl rfl (fun W' h' => ?_) ?_
  · go_simp
  go_simp
  refine wpE_fl (v := .pointer xl) rfl rfl (fun W' h' => ?_) ?_
  · obtain ⟨h1, h2, h3⟩ := h'; go_simp
  go_simp
  refine wpE_fl rfl rfl (fun _ _ => rfl) ?_
  go_simp
  refine wpE_fl rfl rfl (fun _ _ => rfl) ?_
  go_simp
  refine wpE_fl (v := .pointer (some ⟨b, 20, none⟩)) rfl rfl (fun W' h' => ?_) ?_
  · go_simp
  go_simp
  refine wpE_fl (v := .pointer (some ⟨b2, 0, none⟩)) rfl rfl (fun W' h' => ?_) ?_
  · obtain ⟨h1, h2, h3⟩ := h'; go_simp
  go_simp
  refine wpE_fl rfl rfl (fun _ _ => rfl) ?_
  go_simp
  refine wpE_fl (v := .pointer (some ⟨b2, 21, none⟩)) rfl rfl (fun W' h' => ?_) ?_
  · go_simp
  go_simp
  refine wpE_fl (v := .pointer xm) rfl rfl (fun W' h' => ?_) ?_
  · obtain ⟨h1, h2, h3⟩ := h'; go_simp
  go_simp
  refine wpE_ef rfl ?_
  go_simp
  gi_wp2_with (first | refine (⟨trivial, rfl, ?_⟩ : Fence.wide.fn _ ∧ Fence.wide.depth = none ∧ _) | (gi_at_call 58; refine (heightCE tl).mono ?_; rintro e W2 ⟨rfl, e2⟩; (replace e2 := e2.symm); subst e2))
  refine ⟨⟨c2, d1, d2⟩, ?_⟩
  refine wpE_ef rfl ?_
  go_simp
  gi_wp2_with (first | refine (⟨trivial, rfl, ?_⟩ : Fence.wide.fn _ ∧ Fence.wide.depth = none ∧ _) | (gi_at_call 58; refine (heightCE tm).mono ?_; rintro e W2 ⟨rfl, e2⟩; (replace e2 := e2.symm); subst e2))
  refine ⟨⟨c2, d1, d2⟩, ?_⟩
  refine wpE_fl (v := .bool false) rfl rfl (fun W' h' => ?_) ?_
  · go_simp
  go_simp
  refine wpE_nil ?_
  have k1 := toRightCE (n := 0) hb hb2 tl tm tr hne dl dm dr el em er s1 s2 s3 s4 s5 s6
  clear c2 d1 d2 tl tm tr tb hb hb2
  gi_wp2_with (first | refine (⟨trivial, rfl, ?_⟩ : Fence.wide.fn _ ∧ Fence.wide.depth = none ∧ _) | (gi_at_call 60; refine k1.mono ?_; rintro e W3 ⟨rfl, hb', hb2', hu2⟩))
  go_ret
  exact ⟨rfl, hb', hb2', hu.trans' hu2⟩

set_option maxRecDepth 100000 in
set_option maxHeartbeats 2000000 in
theorem even2RCE {n b b2 b3 : Nat} {k k2 k3 : KCE} {v v2 v3 : VCE} {xl xr ya yb : Option Addr} {h0 n0 : Int} {h1 n1 hm nm hl hr ha hb_ nl nr na nb : Nat} {w : World} (hb : Blk w b (mkCE k v (.pointer (some ⟨b2, 0, none⟩)) (.pointer xr) h0 n0) 104) (hb2 : Blk w b2 (mkCE k2 v2 (.pointer xl) (.pointer (some ⟨b3, 0, none⟩)) h1 n1) 104)
    (hb3 : Blk w b3 (mkCE k3 v3 (.pointer ya) (.pointer yb) hm nm) 104) (tl : Tr.top 104 mkCE w xl hl nl) (ta : Tr.top 104 mkCE w ya ha na) (tz : Tr.top 104 mkCE w yb hb_ nb) (tr : Tr.top 104 mkCE w xr hr nr) (n12 : b ≠ b2) (n13 : b ≠ b3) (n23 : b2 ≠ b3)
    (db : yb ≠ some ⟨b, 0, none⟩) (dr : xr ≠ some ⟨b, 0, none⟩)
    (el : xl ≠ some ⟨b2, 0, none⟩) (ea : ya ≠ some ⟨b2, 0, none⟩) (eb : yb ≠ some ⟨b2, 0, none⟩) (er : xr ≠ some ⟨b2, 0, none⟩)
    (fl : xl ≠ some ⟨b3, 0, none⟩) (fa : ya ≠ some ⟨b3, 0, none⟩) (fb : yb ≠ some ⟨b3, 0, none⟩) (fr : xr ≠ some ⟨b3, 0, none⟩)
    (s1 : n1 + nr < 100000000) (s2 : nl + na + nb + nr < 10000000) (s9 : nm < 1000000) (s0 : hm ≤ nm) (s3 : h1 ≤ n1) (s4 : hl ≤ nl) (s5 : ha ≤ na) (s5' : hb_ ≤ nb) (s6 : hr ≤ nr) (s7 : hr + 1 < h1) (s8 : hl < hm) :
    CallsIn Fence.wide n Try.prog 57 #[.pointer (some ⟨b, 0, none⟩)] w fun e w' => e = .returned (.pointer (some ⟨b3, 0, none⟩)) ∧
      Blk w' b (mkCE k v (.pointer yb) (.pointer xr) ((((1 + max hb_ hr) : Nat) : Int)) ((((1 + nb + nr) : Nat) : Int))) 104 ∧ Blk w' b2 (mkCE k2 v2 (.pointer xl) (.pointer ya) ((((1 + max hl ha) : Nat) : Int)) ((((1 + nl + na) : Nat) : Int))) 104 ∧ Blk w' b3 (mkCE k3 v3 (.pointer (some ⟨b2, 0, none⟩)) (.pointer (some ⟨b, 0, none⟩)) ((((1 + max (1 + max hl ha) (1 + max hb_ hr)) : Nat) : Int)) ((((1 + (1 + nl + na) + (1 + nb + nr)) : Nat) : Int))) 104 ∧ Upd (fun j => j = b ∨ j = b2 ∨ j = b3) w w' := by
  obtain ⟨xm, hxm⟩ : ∃ x : Option Addr, x = some ⟨b3, 0, none⟩ := ⟨_, rfl⟩
  have tm : Tr.top 104 mkCE w xm hm nm := .inr ⟨b3, k3, v3, _, _, hxm, hb3⟩
  rw [← hxm] at hb2
  obtain ⟨D, hD⟩ : ∃ x : Int, x = (h1 : Int) - hr := ⟨_, rfl⟩
  have hd : IntKind.i64.wrap ((h1 : Int) - hr) = D := (Go.IntWalk.i64_in _ ⟨by omega, by omega⟩).trans (by omega)
  have hd1 : 1 < D := by omega
  have hlt : hl < hm := by omega
  clear hD
  replace hxm := Lib.hid hxm
  have hu : Upd (fun j => j = b ∨ j = b2 ∨ j = b3) w w := Upd.refl _ _
  refine callsIn_any (n := 0) (callsIn_of_wp Try.func57 rfl trivial ?_)
  simp only [Try.ntmps57, List.size_toArray, List.length_cons, List.length_nil, Nat.reduceAdd, Nat.reduceSub, Array.replicate_succ, Array.replicate_zero, List.push_toArray, List.append_toArray, List.nil_append, List.cons_append]
  have c2 : w.cell? ⟨b, 20, none⟩ = some (.pointer (some ⟨b2, 0, none⟩)) := hb.cell 20
  have c3 : w.cell? ⟨b, 21, none⟩ = some (.pointer xr) := hb.cell 21
  gi_wp2
  refine wpIn_eager [(0, true), (1, true), (2, true), (3, true), (5, true), (6, true), (7, true), (8, true), (4, false), (9, false), (10, true), (11, true)] (fun V => V.cell? ⟨b, 20, none⟩ = some (.pointer (some ⟨b2, 0, none⟩)) ∧ V.cell? ⟨b, 21, none⟩ = some (.pointer xr)) (by kernel_rfl) (by kernel_rfl) ⟨c2, c3⟩ ?_
  clear c2 c3
  replace hb := hb.upd (Upd.drew (fun _ => False) w) id
  replace hb2 := hb2.upd (Upd.drew (fun _ => False) w) id
  replace hb3 := hb3.upd (Upd.drew (fun _ => False) w) id
  replace tl := Tr.top_agree tl (fun _ _ => rfl) (w' := w.drew)
  replace tm := Tr.top_agree tm (fun _ _ => rfl) (w' := w.drew)
  replace tr := Tr.top_agree tr (fun _ _ => rfl) (w' := w.drew)
  replace ta := Tr.top_agree ta (fun _ _ => rfl) (w' := w.drew)
  replace tz := Tr.top_agree tz (fun _ _ => rfl) (w' := w.drew)
  replace hu := hu.stepDrew
  generalize w.drew = W at *
  have c2 : W.cell? ⟨b, 20, none⟩ = some (.pointer (some ⟨b2, 0, none⟩)) := hb.cell 20
  have c3 : W.cell? ⟨b, 21, none⟩ = some (.pointer xr) := hb.cell 21
  have tb : Tr.top 104 mkCE W (some ⟨b2, 0, none⟩) h1 n1 := .inr ⟨b2, k2, v2, _, _, rfl, hb2⟩
  refine wpE_fl rfl rfl (fun _ _ => rfl) ?_
  go_simp
  refine wpE_fl rfl rfl (fun _ _ => rfl) ?_
  go_simp
  refine wpE_fl (v := .pointer (some ⟨b, 20, none⟩)) rfl rfl (fun W' h' => ?_) ?_
  · go_simp
  go_simp
  refine wpE_fl (v := .pointer (some ⟨b2, 0, none⟩)) rfl rfl (fun W' h' => ?_) ?_
  · obtain ⟨h1, h2⟩ := h'; go_simp
  go_simp
  refine wpE_fl rfl rfl (fun _ _ => rfl) ?_
  go_simp
  refine wpE_fl rfl rfl (fun _ _ => rfl) ?_
  go_simp
  refine wpE_fl (v := .pointer (some ⟨b, 21, none⟩)) rfl rfl (fun W' h' => ?_) ?_
  · go_simp
  go_simp
  refine wpE_fl (v := .pointer xr) rfl rfl (fun W' h' => ?_) ?_
  · obtain ⟨h1, h2⟩ := h'; go_simp
  go_simp
  refine wpE_ef rfl ?_
  go_simp
  gi_wp2_with (first | refine (⟨trivial, rfl, ?_⟩ : Fence.wide.fn _ ∧ Fence.wide.depth = none ∧ _) | (gi_at_call 58; refine (heightCE tb).mono ?_; rintro e W2 ⟨rfl, e2⟩; (replace e2 := e2.symm); subst e2))
  refine ⟨⟨c2, c3⟩, ?_⟩
  refine wpE_ef rfl ?_
  go_simp
  gi_wp2_with (first | refine (⟨trivial, rfl, ?_⟩ : Fence.wide.fn _ ∧ Fence.wide.depth = none ∧ _) | (gi_at_call 58; refine (heightCE tr).mono ?_; rintro e W2 ⟨rfl, e2⟩; (replace e2 := e2.symm); subst e2))
  refine ⟨⟨c2, c3⟩, ?_⟩
  refine wpE_fl (v := .int .i64 D) rfl rfl (fun W' h' => ?_) ?_
  · go_simp
  go_simp
  refine wpE_fl rfl rfl (fun _ _ => rfl) ?_
  go_simp
  refine wpE_nil ?_
  replace hd := Lib.hid hd
  gi_wp2
  have d1 : W.cell? ⟨b2, 20, none⟩ = some (.pointer xl) := hb2.cell 20
  have d2 : W.cell? ⟨b2, 21, none⟩ = some (.pointer xm) := hb2.cell 21
  refine wpIn_eager [(0, true), (1, true), (2, true), (3, true), (4, true), (5, true), (6, true), (8, true), (9, true), (10, true), (11, true), (12, true), (13, true), (14, true), (7, false), (15, false), (16, true)] (fun V => V.cell? ⟨b, 20, none⟩ = some (.pointer (some ⟨b2, 0, none⟩)) ∧ V.cell? ⟨b2, 20, none⟩ = some (.pointer xl) ∧ V.cell? ⟨b2, 21, none⟩ = some (.pointer xm)) (by kernel_rfl) (by kernel_rfl) ⟨c2, d1, d2⟩ ?_
  clear c2 c3 d1 d2
  replace hb := hb.upd (Upd.drew (fun _ => False) W) id
  replace hb2 := hb2.upd (Upd.drew (fun _ => False) W) id
  replace hb3 := hb3.upd (Upd.drew (fun _ => False) W) id
  replace tl := Tr.top_agree tl (fun _ _ => rfl) (w' := W.drew)
  replace tm := Tr.top_agree tm (fun _ _ => rfl) (w' := W.drew)
  replace tr := Tr.top_agree tr (fun _ _ => rfl) (w' := W.drew)
  replace tb := Tr.top_agree tb (fun _ _ => rfl) (w' := W.drew)
  replace ta := Tr.top_agree ta (fun _ _ => rfl) (w' := W.drew)
  replace tz := Tr.top_agree tz (fun _ _ => rfl) (w' := W.drew)
  replace hu := hu.stepDrew
  generalize W.drew = W2 at *
  have c2 : W2.cell? ⟨b, 20, none⟩ = some (.pointer (some ⟨b2, 0, none⟩)) := hb.cell 20
  have d1 : W2.cell? ⟨b2, 20, none⟩ = some (.pointer xl) := hb2.cell 20
  have d2 : W2.cell? ⟨b2, 21, none⟩ = some (.pointer xm) := hb2.cell 21
  refine wpE_fl rfl rfl (fun _ _ => rfl) ?_
  go_simp
  refine wpE_fl rfl rfl (fun _ _ => rfl) ?_
  go_simp
  refine wpE_fl (v := .pointer (some ⟨b, 20, none⟩)) rfl rfl (fun W' h' => ?_) ?_
  · go_simp
  go_simp
  refine wpE_fl (v := .pointer (some ⟨b2, 0, none⟩)) rfl rfl (fun W' h' => ?_) ?_
  · obtain ⟨h1, h2, h3⟩ := h'; go_simp
  go_simp
  refine wpE_fl rfl rfl (fun _ _ => rfl) ?_
  go_simp
  refine wpE_fl (v := .pointer (some ⟨b2, 20, none⟩)) rfl rfl (fun W' h' => ?_) ?_
  · go_simp
  go_simp
  refine wpE_fl (v := .pointer xl) rfl rfl (fun W' h' => ?_) ?_
  · obtain ⟨h1, h2, h3⟩ := h'; go_simp
  go_simp
  refine wpE_fl rfl rfl (fun _ _ => rfl) ?_
  go_simp
  refine wpE_fl rfl rfl (fun _ _ => rfl) ?_
  go_simp
  refine wpE_fl (v := .pointer (some ⟨b, 20, none⟩)) rfl rfl (fun W' h' => ?_) ?_
  · go_simp
  go_simp
  refine wpE_fl (v := .pointer (some ⟨b2, 0, none⟩)) rfl rfl (fun W' h' => ?_) ?_
  · obtain ⟨h1, h2, h3⟩ := h'; go_simp
  go_simp
  refine wpE_fl rfl rfl (fun _ _ => rfl) ?_
  go_simp
  refine wpE_fl (v := .pointer (some ⟨b2, 21, none⟩)) rfl rfl (fun W' h' => ?_) ?_
  · go_simp
  go_simp
  refine wpE_fl (v := .pointer xm) rfl rfl (fun W' h' => ?_) ?_
  · obtain ⟨h1, h2, h3⟩ := h'; go_simp
  go_simp
  refine wpE_ef rfl ?_
  go_simp
  gi_wp2_with (first | refine (⟨trivial, rfl, ?_⟩ : Fence.wide.fn _ ∧ Fence.wide.depth = none ∧ _) | (gi_at_call 58; refine (heightCE tl).mono ?_; rintro e W2 ⟨rfl, e2⟩; (replace e2 := e2.symm); subst e2))
  refine ⟨⟨c2, d1, d2⟩, ?_⟩
  refine wpE_ef rfl ?_
  go_simp
  gi_wp2_with (first | refine (⟨trivial, rfl, ?_⟩ : Fence.wide.fn _ ∧ Fence.wide.depth = none ∧ _) | (gi_at_call 58; refine (heightCE tm).mono ?_; rintro e W2 ⟨rfl, e2⟩; (replace e2 := e2.symm); subst e2))
  refine ⟨⟨c2, d1, d2⟩, ?_⟩
  refine wpE_fl (v := .bool true) rfl rfl (fun W' h' => ?_) ?_
  · go_simp
  go_simp
  refine wpE_nil ?_
  replace hxm := hxm.out
  subst hxm
  have k1 := toLeftCE (n := 0) (hl := hb_) (hm := ha) (hr := hl) (nl := nb) (nm := na) (nr := nl) hb2 hb3 tz ta tl n23 eb ea el fb fa fl (by omega) (by omega) s0 s5' s5 s4
  clear d1 d2 tm tb
  have fin : ∀ W3, Blk W3 b (mkCE k v (.pointer (some ⟨b3, 0, none⟩)) (.pointer xr) h0 n0) 104 → Blk W3 b2 (mkCE k2 v2 (.pointer xl) (.pointer ya) ((((1 + max hl ha) : Nat) : Int)) ((((1 + nl + na) : Nat) : Int))) 104 → Blk W3 b3 (mkCE k3 v3 (.pointer (some ⟨b2, 0, none⟩)) (.pointer yb) ((((1 + max (1 + max hl ha) hb_) : Nat) : Int)) ((((1 + (1 + nl + na) + nb) : Nat) : Int))) 104 → Tr.top 104 mkCE W3 yb hb_ nb → Tr.top 104 mkCE W3 xr hr nr → CallsIn Fence.wide 0 Try.prog 60 #[.pointer (some ⟨b, 0, none⟩)] W3 fun e w' => e = .returned (.pointer (some ⟨b3, 0, none⟩)) ∧ Blk w' b (mkCE k v (.pointer yb) (.pointer xr) ((((1 + max hb_ hr) : Nat) : Int)) ((((1 + nb + nr) : Nat) : Int))) 104 ∧ Blk w' b2 (mkCE k2 v2 (.pointer xl) (.pointer ya) ((((1 + max hl ha) : Nat) : Int)) ((((1 + nl + na) : Nat) : Int))) 104 ∧ Blk w' b3 (mkCE k3 v3 (.pointer (some ⟨b2, 0, none⟩)) (.pointer (some ⟨b, 0, none⟩)) ((((1 + max (1 + max hl ha) (1 + max hb_ hr)) : Nat) : Int)) ((((1 + (1 + nl + na) + (1 + nb + nr)) : Nat) : Int))) 104 ∧ Upd (fun j => j = b ∨ j = b2 ∨ j = b3) W3 w' := by
    intro W3 a1 a2 a3 a4 a5
    refine (toRightCE (n := 0) (hl := (1 + max hl ha)) (hm := hb_) (hr := hr) (nl := (1 + nl + na)) (nm := nb) (nr := nr) a1 a3 (.inr ⟨b2, k2, v2, _, _, rfl, a2⟩) a4 a5 n13 (by intro e; cases e; exact n12 rfl) db dr (by intro e; cases e; exact n23 rfl) fb fr (by omega) (by omega) (by omega) (by omega) s5' s6).mono ?_
    rintro e W4 ⟨h1, h2, h3, h4⟩
    exact ⟨h1, h2, a2.upd h4 (by omega), h3, h4.mono fun j _ h => by rcases h with h | h; exact .inl h; exact .inr (.inr h)⟩
  generalize hg1 : ((((1 + max hl ha) : Nat) : Int)) = g1 at *
  replace hg1 := Lib.hid hg1
  generalize hg2 : ((((1 + nl + na) : Nat) : Int)) = g2 at *
  replace hg2 := Lib.hid hg2
  generalize hg3 : ((((1 + max (1 + max hl ha) hb_) : Nat) : Int)) = g3 at *
  replace hg3 := Lib.hid hg3
  generalize hg4 : ((((1 + (1 + nl + na) + nb) : Nat) : Int)) = g4 at *
  replace hg4 := Lib.hid hg4
  clear c2
  have c2 : W2.cell? ⟨b, 20, none⟩ = some (.pointer (some ⟨b2, 0, none⟩)) := hb.cell 20
  gi_wp2_with (first | refine (⟨trivial, rfl, ?_⟩ : Fence.wide.fn _ ∧ Fence.wide.depth = none ∧ _) | (gi_at_call 59; refine k1.mono ?_; rintro e W3 ⟨rfl, hb2', hb3', hu2⟩; (replace hb := hb.upd hu2 (by omega)); (replace tz := Tr.top_agree (w' := W3) tz (fun b4 e => by rcases tz with ⟨q, _⟩ | ⟨b5, _, _, _, _, q, q2⟩ <;> rw [q] at e <;> cases e; exact hu2.block _ q2.lt (fun q3 => by rcases q3 with q3 | q3 <;> subst q3; exact eb q; exact fb q))); (replace tr := Tr.top_agree (w' := W3) tr (fun b4 e => by rcases tr with ⟨q, _⟩ | ⟨b5, _, _, _, _, q, q2⟩ <;> rw [q] at e <;> cases e; exact hu2.block _ q2.lt (fun q3 => by rcases q3 with q3 | q3 <;> subst q3; exact er q; exact fr q))); (replace hu := hu.trans' (hu2.mono fun _ _ h => .inr h)); (clear hu2 hb2 hb3 k1 tl ta); (have c2 : W3.cell? ⟨b, 20, none⟩ = some (.pointer (some ⟨b2, 0, none⟩)) := hb.cell 20); (have cf := hb.frozen 20); (have cl := hb.lt)) | (gi_at_call 60; refine (fin _ (by simpa [mkCE] using hb.set 20 (.pointer (some ⟨b3, 0, none⟩))) (hb2'.other (p := ⟨b, 20, none⟩) n12.symm _) (hb3'.other (p := ⟨b, 20, none⟩) n13.symm _) (Tr.top_agree tz (fun b4 e => Below.heap_setCell _ _ _ _ (fun e2 => db (by rw [e, e2])))) (Tr.top_agree tr (fun b4 e => Below.heap_setCell _ _ _ _ (fun e2 => dr (by rw [e, e2]))))).mono ?_; rintro e W5 ⟨rfl, q1, q2, q3, q4⟩))
  go_ret
  rw [hg1.out, hg2.out]
  exact ⟨rfl, q1, q2, q3, (hu.stepSet (.inl (.inl rfl)) _).trans' q4⟩

set_option maxRecDepth 100000 in
set_option maxHeartbeats 2000000 in
theorem even1LCE {n b b2 : Nat} {k k2 : KCE} {v v2 : VCE} {xl xm xr : Option Addr} {h0 n0 : Int} {h1 n1 hl hm hr nl nm nr : Nat} {w : World} (hb : Blk w b (mkCE k v (.pointer xr) (.pointer (some ⟨b2, 0, none⟩)) h0 n0) 104) (hb2 : Blk w b2 (mkCE k2 v2 (.pointer xm) (.pointer xl) h1 n1) 104)
    (tl : Tr.top 104 mkCE w xl hl nl) (tm : Tr.top 104 mkCE w xm hm nm) (tr : Tr.top 104 mkCE w xr hr nr) (hne : b ≠ b2) (dl : xl ≠ some ⟨b, 0, none⟩) (dm : xm ≠ some ⟨b, 0, none⟩) (dr : xr ≠ some ⟨b, 0, none⟩)
    (el : xl ≠ some ⟨b2, 0, none⟩) (em : xm ≠ some ⟨b2, 0, none⟩) (er : xr ≠ some ⟨b2, 0, none⟩) (s1 : n1 + nr < 1000000000) (s2 : nl + nm + nr < 100000000) (s3 : h1 ≤ n1) (s4 : hl ≤ nl) (s5 : hm ≤ nm) (s6 : hr ≤ nr) (s7 : hr + 1 < h1) (s8 : hm ≤ hl) :
    CallsIn Fence.wide n Try.prog 57 #[.pointer (some ⟨b, 0, none⟩)] w fun e w' => e = .returned (.pointer (some ⟨b2, 0, none⟩)) ∧
      Blk w' b (mkCE k v (.pointer xr) (.pointer xm) ((((1 + max hr hm) : Nat) : Int)) ((((1 + nr + nm) : Nat) : Int))) 104 ∧ Blk w' b2 (mkCE k2 v2 (.pointer (some ⟨b, 0, none⟩)) (.pointer xl) ((((1 + max (1 + max hr hm) hl) : Nat) : Int)) ((((1 + (1 + nr + nm) + nl) : Nat) : Int))) 104 ∧ Upd (fun j => j = b ∨ j = b2) w w' := by
  obtain ⟨D, hD⟩ : ∃ x : Int, x = (hr : Int) - h1 := ⟨_, rfl⟩
  have hd : IntKind.i64.wrap ((hr : Int) - h1) = D := (Go.IntWalk.i64_in _ ⟨by omega, by omega⟩).trans (by omega)
  have hd1 : ¬ 1 < D := by omega
  have hd2 : D < -1 := by omega
  have hlt : ¬ hl < hm := by omega
  clear hD
  have hu : Upd (fun j => j = b ∨ j = b2) w w := Upd.refl _ _
  refine callsIn_any (n := 0) (callsIn_of_wp Try.func57 rfl trivial ?_)
  simp only [Try.ntmps57, List.size_toArray, List.length_cons, List.length_nil, Nat.reduceAdd, Nat.reduceSub, Array.replicate_succ, Array.replicate_zero, List.push_toArray, List.append_toArray, List.nil_append, List.cons_append]
  have c2 : w.cell? ⟨b, 20, none⟩ = some (.pointer xr) := hb.cell 20
  have c3 : w.cell? ⟨b, 21, none⟩ = some (.pointer (some ⟨b2, 0, none⟩)) := hb.cell 21
  gi_wp2
  refine wpIn_eager [(0, true), (1, true), (2, true), (3, true), (5, true), (6, true), (7, true), (8, true), (4, false), (9, false), (10, true), (11, true)] (fun V => V.cell? ⟨b, 20, none⟩ = some (.pointer xr) ∧ V.cell? ⟨b, 21, none⟩ = some (.pointer (some ⟨b2, 0, none⟩))) (by kernel_rfl) (by kernel_rfl) ⟨c2, c3⟩ ?_
  clear c2 c3
  replace hb := hb.upd (Upd.drew (fun _ => False) w) id
  replace hb2 := hb2.upd (Upd.drew (fun _ => False) w) id
  replace tl := Tr.top_agree tl (fun _ _ => rfl) (w' := w.drew)
  replace tm := Tr.top_agree tm (fun _ _ => rfl) (w' := w.drew)
  replace tr := Tr.top_agree tr (fun _ _ => rfl) (w' := w.drew)
  replace hu := hu.stepDrew
  generalize w.drew = W at *
  have c2 : W.cell? ⟨b, 20, none⟩ = some (.pointer xr) := hb.cell 20
  have c3 : W.cell? ⟨b, 21, none⟩ = some (.pointer (some ⟨b2, 0, none⟩)) := hb.cell 21
  have tb : Tr.top 104 mkCE W (some ⟨b2, 0, none⟩) h1 n1 := .inr ⟨b2, k2, v2, _, _, rfl, hb2⟩
  refine wpE_fl rfl rfl (fun _ _ => rfl) ?_
  go_simp
  refine wpE_fl rfl rfl (fun _ _ => rfl) ?_
  go_simp
  refine wpE_fl (v := .pointer (some ⟨b, 20, none⟩)) rfl rfl (fun W' h' => ?_) ?_
  · go_simp
  go_simp
  refine wpE_fl (v := .pointer xr) rfl rfl (fun W' h' => ?_) ?_
  · obtain ⟨h1, h2⟩ := h'; go_simp
  go_simp
  refine wpE_fl rfl rfl (fun _ _ => rfl) ?_
  go_simp
  refine wpE_fl rfl rfl (fun _ _ => rfl) ?_
  go_simp
  refine wpE_fl (v := .pointer (some ⟨b, 21, none⟩)) rfl rfl (fun W' h' => ?_) ?_
  · go_simp
  go_simp
  refine wpE_fl (v := .pointer (some ⟨b2, 0, none⟩)) rfl rfl (fun W' h' => ?_) ?_
  · obtain ⟨h1, h2⟩ := h'; go_simp
  go_simp
  refine wpE_ef rfl ?_
  go_simp
  gi_wp2_with (first | refine (⟨trivial, rfl, ?_⟩ : Fence.wide.fn _ ∧ Fence.wide.depth = none ∧ _) | (gi_at_call 58; refine (heightCE tr).mono ?_; rintro e W2 ⟨rfl, e2⟩; (replace e2 := e2.symm); subst e2))
  refine ⟨⟨c2, c3⟩, ?_⟩
  refine wpE_ef rfl ?_
  go_simp
  gi_wp2_with (first | refine (⟨trivial, rfl, ?_⟩ : Fence.wide.fn _ ∧ Fence.wide.depth = none ∧ _) | (gi_at_call 58; refine (heightCE tb).mono ?_; rintro e W2 ⟨rfl, e2⟩; (replace e2 := e2.symm); subst e2))
  refine ⟨⟨c2, c3⟩, ?_⟩
  refine wpE_fl (v := .int .i64 D) rfl rfl (fun W' h' => ?_) ?_
  · go_simp
  go_simp
  refine wpE_fl rfl rfl (fun _ _ => rfl) ?_
  go_simp
  refine wpE_nil ?_
  replace hd := Lib.hid hd
  gi_wp2
  have d1 : W.cell? ⟨b2, 21, none⟩ = some (.pointer xl) := hb2.cell 21
  have d2 : W.cell? ⟨b2, 20, none⟩ = some (.pointer xm) := hb2.cell 20
  refine wpIn_eager [(0, true), (1, true), (2, true), (3, true), (4, true), (5, true), (6, true), (8, true), (9, true), (10, true), (11, true), (12, true), (13, true), (14, true), (7, false), (15, false), (16, true)] (fun V => V.cell? ⟨b, 21, none⟩ = some (.pointer (some ⟨b2, 0, none⟩)) ∧ V.cell? ⟨b2, 21, none⟩ = some (.pointer xl) ∧ V.cell? ⟨b2, 20, none⟩ = some (.pointer xm)) (by kernel_rfl) (by kernel_rfl) ⟨c3, d1, d2⟩ ?_
  clear c2 c3 d1 d2
  replace hb := hb.upd (Upd.drew (fun _ => False) W) id
  replace hb2 := hb2.upd (Upd.drew (fun _ => False) W) id
  replace tl := Tr.top_agree tl (fun _ _ => rfl) (w' := W.drew)
  replace tm := Tr.top_agree tm (fun _ _ => rfl) (w' := W.drew)
  replace tr := Tr.top_agree tr (fun _ _ => rfl) (w' := W.drew)
  replace tb := Tr.top_agree tb (fun _ _ => rfl) (w' := W.drew)
  replace hu := hu.stepDrew
  generalize W.drew = W2 at *
  have c3 : W2.cell? ⟨b, 21, none⟩ = some (.pointer (some ⟨b2, 0, none⟩)) := hb.cell 21
  have d1 : W2.cell? ⟨b2, 21, none⟩ = some (.pointer xl) := hb2.cell 21
  have d2 : W2.cell? ⟨b2, 20, none⟩ = some (.pointer xm) := hb2.cell 20
  refine wpE_fl rfl rfl (fun _ _ => rfl) ?_
  go_simp
  refine wpE_fl rfl rfl (fun _ _ => rfl) ?_
  go_simp
  refine wpE_fl (v := .pointer (some ⟨b, 21, none⟩)) rfl rfl (fun W' h' => ?_) ?_
  · go_simp
  go_simp
  refine wpE_fl (v := .pointer (some ⟨b2, 0, none⟩)) rfl rfl (fun W' h' => ?_) ?_
  · obtain ⟨h1, h2, h3⟩ := h'; go_simp
  go_simp
  refine wpE_fl rfl rfl (fun _ _ => rfl) ?_
  go_simp
  refine wpE_fl (v := .pointer (some ⟨b2, 21, none⟩)) rfl rfl (fun W' h' => ?_) ?_
  · go_simp
  go_simp
  refine wpE_fl (v := .pointer xl) rfl rfl (fun W' h' => ?_) ?_
  · obtain ⟨h1, h2, h3⟩ := h'; go_simp
  go_simp
  refine wpE_fl rfl rfl (fun _ _ => rfl) ?_
  go_simp
  refine wpE_fl rfl rfl (fun _ _ => rfl) ?_
  go_simp
  refine wpE_fl (v := .pointer (some ⟨b, 21, none⟩)) rfl rfl (fun W' h' => ?_) ?_
  · go_simp
  go_simp
  refine wpE_fl (v := .pointer (some ⟨b2, 0, none⟩)) rfl rfl (fun W' h' => ?_) ?_
  · obtain ⟨h1, h2, h3⟩ := h'; go_simp
  go_simp
  refine wpE_fl rfl rfl (fun _ _ => rfl) ?_
  go_simp
  refine wpE_fl (v := .pointer (some ⟨b2, 20, none⟩)) rfl rfl (fun W' h' => ?_) ?_
  · go_simp
  go_simp
  refine wpE_fl (v := .pointer xm) rfl rfl (fun W' h' => ?_) ?_
  · obtain ⟨h1, h2, h3⟩ := h'; go_simp
  go_simp
  refine wpE_ef rfl ?_
  go_simp
  gi_wp2_with (first | refine (⟨trivial, rfl, ?_⟩ : Fence.wide.fn _ ∧ Fence.wide.depth = none ∧ _) | (gi_at_call 58; refine (heightCE tl).mono ?_; rintro e W2 ⟨rfl, e2⟩; (replace e2 := e2.symm); subst e2))
  refine ⟨⟨c3, d1, d2⟩, ?_⟩
  refine wpE_ef rfl ?_
  go_simp
  gi_wp2_with (first | refine (⟨trivial, rfl, ?_⟩ : Fence.wide.fn _ ∧ Fence.wide.depth = none ∧ _) | (gi_at_call 58; refine (heightCE tm).mono ?_; rintro e W2 ⟨rfl, e2⟩; (replace e2 := e2.symm); subst e2))
  refine ⟨⟨c3, d1, d2⟩, ?_⟩
  refine wpE_fl (v := .bool false) rfl rfl (fun W' h' => ?_) ?_
  · go_simp
  go_simp
  refine wpE_nil ?_
  have k1 := toLeftCE (n := 0) hb hb2 tl tm tr hne dl dm dr el em er s1 s2 s3 s4 s5 s6
  clear c3 d1 d2 tl tm tr tb hb hb2
  gi_wp2_with (first | refine (⟨trivial, rfl, ?_⟩ : Fence.wide.fn _ ∧ Fence.wide.depth = none ∧ _) | (gi_at_call 59; refine k1.mono ?_; rintro e W3 ⟨rfl, hb', hb2', hu2⟩))
  go_ret
  exact ⟨rfl, hb', hb2', hu.trans' hu2⟩

set_option maxRecDepth 100000 in
set_option maxHeartbeats 2000000 in
theorem even2LCE {n b b2 b3 : Nat} {k k2 k3 : KCE} {v v2 v3 : VCE} {xl xr ya yb : Option Addr} {h0 n0 : Int} {h1 n1 hm nm hl hr ha hb_ nl nr na nb : Nat} {w : World} (hb : Blk w b (mkCE k v (.pointer xr) (.pointer (some ⟨b2, 0, none⟩)) h0 n0) 104) (hb2 : Blk w b2 (mkCE k2 v2 (.pointer (some ⟨b3, 0, none⟩)) (.pointer xl) h1 n1) 104)
    (hb3 : Blk w b3 (mkCE k3 v3 (.pointer yb) (.pointer ya) hm nm) 104) (tl : Tr.top 104 mkCE w xl hl nl) (ta : Tr.top 104 mkCE w ya ha na) (tz : Tr.top 104 mkCE w yb hb_ nb) (tr : Tr.top 104 mkCE w xr hr nr) (n12 : b ≠ b2) (n13 : b ≠ b3) (n23 : b2 ≠ b3)
    (db : yb ≠ some ⟨b, 0, none⟩) (dr : xr ≠ some ⟨b, 0, none⟩)
    (el : xl ≠ some ⟨b2, 0, none⟩) (ea : ya ≠ some ⟨b2, 0, none⟩) (eb : yb ≠ some ⟨b2, 0, none⟩) (er : xr ≠ some ⟨b2, 0, none⟩)
    (fl : xl ≠ some ⟨b3, 0, none⟩) (fa : ya ≠ some ⟨b3, 0, none⟩) (fb : yb ≠ some ⟨b3, 0, none⟩) (fr : xr ≠ some ⟨b3, 0, none⟩)
    (s1 : n1 + nr < 100000000) (s2 : nl + na + nb + nr < 10000000) (s9 : nm < 1000000) (s0 : hm ≤ nm) (s3 : h1 ≤ n1) (s4 : hl ≤ nl) (s5 : ha ≤ na) (s5' : hb_ ≤ nb) (s6 : hr ≤ nr) (s7 : hr + 1 < h1) (s8 : hl < hm) :
    CallsIn Fence.wide n Try.prog 57 #[.pointer (some ⟨b, 0, none⟩)] w fun e w' => e = .returned (.pointer (some ⟨b3, 0, none⟩)) ∧
      Blk w' b (mkCE k v (.pointer xr) (.pointer yb) ((((1 + max hr hb_) : Nat) : Int)) ((((1 + nr + nb) : Nat) : Int))) 104 ∧ Blk w' b2 (mkCE k2 v2 (.pointer ya) (.pointer xl) ((((1 + max ha hl) : Nat) : Int)) ((((1 + na + nl) : Nat) : Int))) 104 ∧ Blk w' b3 (mkCE k3 v3 (.pointer (some ⟨b, 0, none⟩)) (.pointer (some ⟨b2, 0, none⟩)) ((((1 + max (1 + max hr hb_) (1 + max ha hl)) : Nat) : Int)) ((((1 + (1 + nr + nb) + (1 + na + nl)) : Nat) : Int))) 104 ∧ Upd (fun j => j = b ∨ j = b2 ∨ j = b3) w w' := by
  obtain ⟨xm, hxm⟩ : ∃ x : Option Addr, x = some ⟨b3, 0, none⟩ := ⟨_, rfl⟩
  have tm : Tr.top 104 mkCE w xm hm nm := .inr ⟨b3, k3, v3, _, _, hxm, hb3⟩
  rw [← hxm] at hb2
  obtain ⟨D, hD⟩ : ∃ x : Int, x = (hr : Int) - h1 := ⟨_, rfl⟩
  have hd : IntKind.i64.wrap ((hr : Int) - h1) = D := (Go.IntWalk.i64_in _ ⟨by omega, by omega⟩).trans (by omega)
  have hd1 : ¬ 1 < D := by omega
  have hd2 : D < -1 := by omega
  have hlt : hl < hm := by omega
  clear hD
  replace hxm := Lib.hid hxm
  have hu : Upd (fun j => j = b ∨ j = b2 ∨ j = b3) w w := Upd.refl _ _
  refine callsIn_any (n := 0) (callsIn_of_wp Try.func57 rfl trivial ?_)
  simp only [Try.ntmps57, List.size_toArray, List.length_cons, List.length_nil, Nat.reduceAdd, Nat.reduceSub, Array.replicate_succ, Array.replicate_zero, List.push_toArray, List.append_toArray, List.nil_append, List.cons_append]
  have c2 : w.cell? ⟨b, 20, none⟩ = some (.pointer xr) := hb.cell 20
  have c3 : w.cell? ⟨b, 21, none⟩ = some (.pointer (some ⟨b2, 0, none⟩)) := hb.cell 21
  gi_wp2
  refine wpIn_eager [(0, true), (1, true), (2, true), (3, true), (5, true), (6, true), (7, true), (8, true), (4, false), (9, false), (10, true), (11, true)] (fun V => V.cell? ⟨b, 20, none⟩ = some (.pointer xr) ∧ V.cell? ⟨b, 21, none⟩ = some (.pointer (some ⟨b2, 0, none⟩))) (by kernel_rfl) (by kernel_rfl) ⟨c2, c3⟩ ?_
  clear c2 c3
  replace hb := hb.upd (Upd.drew (fun _ => False) w) id
  replace hb2 := hb2.upd (Upd.drew (fun _ => False) w) id
  replace hb3 := hb3.upd (Upd.drew (fun _ => False) w) id
  replace tl := Tr.top_agree tl (fun _ _ => rfl) (w' := w.drew)
  replace tm := Tr.top_agree tm (fun _ _ => rfl) (w' := w.drew)
  replace tr := Tr.top_agree tr (fun _ _ => rfl) (w' := w.drew)
  replace ta := Tr.top_agree ta (fun _ _ => rfl) (w' := w.drew)
  replace tz := Tr.top_agree tz (fun _ _ => rfl) (w' := w.drew)
  replace hu := hu.stepDrew
  generalize w.drew = W at *
  have c2 : W.cell? ⟨b, 20, none⟩ = some (.pointer xr) := hb.cell 20
  have c3 : W.cell? ⟨b, 21, none⟩ = some (.pointer (some ⟨b2, 0, none⟩)) := hb.cell 21
  have tb : Tr.top 104 mkCE W (some ⟨b2, 0, none⟩) h1 n1 := .inr ⟨b2, k2, v2, _, _, rfl, hb2⟩
  refine wpE_fl rfl rfl (fun _ _ => rfl) ?_
  go_simp
  refine wpE_fl rfl rfl (fun _ _ => rfl) ?_
  go_simp
  refine wpE_fl (v := .pointer (some ⟨b, 20, none⟩)) rfl rfl (fun W' h' => ?_) ?_
  · go_simp
  go_simp
  refine wpE_fl (v := .pointer xr) rfl rfl (fun W' h' => ?_) ?_
  · obtain ⟨h1, h2⟩ := h'; go_simp
  go_simp
  refine wpE_fl rfl rfl (fun _ _ => rfl) ?_
  go_simp
  refine wpE_fl rfl rfl (fun _ _ => rfl) ?_
  go_simp
  refine wpE_fl (v := .pointer (some ⟨b, 21, none⟩)) rfl rfl (fun W' h' => ?_) ?_
  · go_simp
  go_simp
  refine wpE_fl (v := .pointer (some ⟨b2, 0, none⟩)) rfl rfl (fun W' h' => ?_) ?_
  · obtain ⟨h1, h2⟩ := h'; go_simp
  go_simp
  refine wpE_ef rfl ?_
  go_simp
  gi_wp2_with (first | refine (⟨trivial, rfl, ?_⟩ : Fence.wide.fn _ ∧ Fence.wide.depth = none ∧ _) | (gi_at_call 58; refine (heightCE tr).mono ?_; rintro e W2 ⟨rfl, e2⟩; (replace e2 := e2.symm); subst e2))
  refine ⟨⟨c2, c3⟩, ?_⟩
  refine wpE_ef rfl ?_
  go_simp
  gi_wp2_with (first | refine (⟨trivial, rfl, ?_⟩ : Fence.wide.fn _ ∧ Fence.wide.depth = none ∧ _) | (gi_at_call 58; refine (heightCE tb).mono ?_; rintro e W2 ⟨rfl, e2⟩; (replace e2 := e2.symm); subst e2))
  refine ⟨⟨c2, c3⟩, ?_⟩
  refine wpE_fl (v := .int .i64 D) rfl rfl (fun W' h' => ?_) ?_
  · go_simp
  go_simp
  refine wpE_fl rfl rfl (fun _ _ => rfl) ?_
  go_simp
  refine wpE_nil ?_
  replace hd := Lib.hid hd
  gi_wp2
  have d1 : W.cell? ⟨b2, 21, none⟩ = some (.pointer xl) := hb2.cell 21
  have d2 : W.cell? ⟨b2, 20, none⟩ = some (.pointer xm) := hb2.cell 20
  refine wpIn_eager [(0, true), (1, true), (2, true), (3, true), (4, true), (5, true), (6, true), (8, true), (9, true), (10, true), (11, true), (12, true), (13, true), (14, true), (7, false), (15, false), (16, true)] (fun V => V.cell? ⟨b, 21, none⟩ = some (.pointer (some ⟨b2, 0, none⟩)) ∧ V.cell? ⟨b2, 21, none⟩ = some (.pointer xl) ∧ V.cell? ⟨b2, 20, none⟩ = some (.pointer xm)) (by kernel_rfl) (by kernel_rfl) ⟨c3, d1, d2⟩ ?_
  clear c2 c3 d1 d2
  replace hb := hb.upd (Upd.drew (fun _ => False) W) id
  replace hb2 := hb2.upd (Upd.drew (fun _ => False) W) id
  replace hb3 := hb3.upd (Upd.drew (fun _ => False) W) id
  replace tl := Tr.top_agree tl (fun _ _ => rfl) (w' := W.drew)
  replace tm := Tr.top_agree tm (fun _ _ => rfl) (w' := W.drew)
  replace tr := Tr.top_agree tr (fun _ _ => rfl) (w' := W.drew)
  replace tb := Tr.top_agree tb (fun _ _ => rfl) (w' := W.drew)
  replace ta := Tr.top_agree ta (fun _ _ => rfl) (w' := W.drew)
  replace tz := Tr.top_agree tz (fun _ _ => rfl) (w' := W.drew)
  replace hu := hu.stepDrew
  generalize W.drew = W2 at *
  have c3 : W2.cell? ⟨b, 21, none⟩ = some (.pointer (some ⟨b2, 0, none⟩)) := hb.cell 21
  have d1 : W2.cell? ⟨b2, 21, none⟩ = some (.pointer xl) := hb2.cell 21
  have d2 : W2.cell? ⟨b2, 20, none⟩ = some (.pointer xm) := hb2.cell 20
  refine wpE_fl rfl rfl (fun _ _ => rfl) ?_
  go_simp
  refine wpE_fl rfl rfl (fun _ _ => rfl) ?_
  go_simp
  refine wpE_fl (v := .pointer (some ⟨b, 21, none⟩)) rfl rfl (fun W' h' => ?_) ?_
  · go_simp
  go_simp
  refine wpE_fl (v := .pointer (some ⟨b2, 0, none⟩)) rfl rfl (fun W' h' => ?_) ?_
  · obtain ⟨h1, h2, h3⟩ := h'; go_simp
  go_simp
  refine wpE_fl rfl rfl (fun _ _ => rfl) ?_
  go_simp
  refine wpE_fl (v := .pointer (some ⟨b2, 21, none⟩)) rfl rfl (fun W' h' => ?_) ?_
  · go_simp
  go_simp
  refine wpE_fl (v := .pointer xl) rfl rfl (fun W' h' => ?_) ?_
  · obtain ⟨h1, h2, h3⟩ := h'; go_simp
  go_simp
  refine wpE_fl rfl rfl (fun _ _ => rfl) ?_
  go_simp
  refine wpE_fl rfl rfl (fun _ _ => rfl) ?_
  go_simp
  refine wpE_fl (v := .pointer (some ⟨b, 21, none⟩)) rfl rfl (fun W' h' => ?_) ?_
  · go_simp
  go_simp
  refine wpE_fl (v := .pointer (some ⟨b2, 0, none⟩)) rfl rfl (fun W' h' => ?_) ?_
  · obtain ⟨h1, h2, h3⟩ := h'; go_simp
  go_simp
  refine wpE_fl rfl rfl (fun _ _ => rfl) ?_
  go_simp
  refine wpE_fl (v := .pointer (some ⟨b2, 20, none⟩)) rfl rfl (fun W' h' => ?_) ?_
  · go_simp
  go_simp
  refine wpE_fl (v := .pointer xm) rfl rfl (fun W' h' => ?_) ?_
  · obtain ⟨h1, h2, h3⟩ := h'; go_simp
  go_simp
  refine wpE_ef rfl ?_
  go_simp
  gi_wp2_with (first | refine (⟨trivial, rfl, ?_⟩ : Fence.wide.fn _ ∧ Fence.wide.depth = none ∧ _) | (gi_at_call 58; refine (heightCE tl).mono ?_; rintro e W2 ⟨rfl, e2⟩; (replace e2 := e2.symm); subst e2))
  refine ⟨⟨c3, d1, d2⟩, ?_⟩
  refine wpE_ef rfl ?_
  go_simp
  gi_wp2_with (first | refine (⟨trivial, rfl, ?_⟩ : Fence.wide.fn _ ∧ Fence.wide.depth = none ∧ _) | (gi_at_call 58; refine (heightCE tm).mono ?_; rintro e W2 ⟨rfl, e2⟩; (replace e2 := e2.symm); subst e2))
  refine ⟨⟨c3, d1, d2⟩, ?_⟩
  refine wpE_fl (v := .bool true) rfl rfl (fun W' h' => ?_) ?_
  · go_simp
  go_simp
  refine wpE_nil ?_
  replace hxm := hxm.out
  subst hxm
  have k1 := toRightCE (n := 0) (hl := hb_) (hm := ha) (hr := hl) (nl := nb) (nm := na) (nr := nl) hb2 hb3 tz ta tl n23 eb ea el fb fa fl (by omega) (by omega) s0 s5' s5 s4
  clear d1 d2 tm tb
  have fin : ∀ W3, Blk W3 b (mkCE k v (.pointer xr) (.pointer (some ⟨b3, 0, none⟩)) h0 n0) 104 → Blk W3 b2 (mkCE k2 v2 (.pointer ya) (.pointer xl) ((((1 + max ha hl) : Nat) : Int)) ((((1 + na + nl) : Nat) : Int))) 104 → Blk W3 b3 (mkCE k3 v3 (.pointer yb) (.pointer (some ⟨b2, 0, none⟩)) ((((1 + max hb_ (1 + max ha hl)) : Nat) : Int)) ((((1 + nb + (1 + na + nl)) : Nat) : Int))) 104 → Tr.top 104 mkCE W3 yb hb_ nb → Tr.top 104 mkCE W3 xr hr nr → CallsIn Fence.wide 0 Try.prog 59 #[.pointer (some ⟨b, 0, none⟩)] W3 fun e w' => e = .returned (.pointer (some ⟨b3, 0, none⟩)) ∧ Blk w' b (mkCE k v (.pointer xr) (.pointer yb) ((((1 + max hr hb_) : Nat) : Int)) ((((1 + nr + nb) : Nat) : Int))) 104 ∧ Blk w' b2 (mkCE k2 v2 (.pointer ya) (.pointer xl) ((((1 + max ha hl) : Nat) : Int)) ((((1 + na + nl) : Nat) : Int))) 104 ∧ Blk w' b3 (mkCE k3 v3 (.pointer (some ⟨b, 0, none⟩)) (.pointer (some ⟨b2, 0, none⟩)) ((((1 + max (1 + max hr hb_) (1 + max ha hl)) : Nat) : Int)) ((((1 + (1 + nr + nb) + (1 + na + nl)) : Nat) : Int))) 104 ∧ Upd (fun j => j = b ∨ j = b2 ∨ j = b3) W3 w' := by
    intro W3 a1 a2 a3 a4 a5
    refine (toLeftCE (n := 0) (hl := (1 + max ha hl)) (hm := hb_) (hr := hr) (nl := (1 + na + nl)) (nm := nb) (nr := nr) a1 a3 (.inr ⟨b2, k2, v2, _, _, rfl, a2⟩) a4 a5 n13 (by intro e; cases e; exact n12 rfl) db dr (by intro e; cases e; exact n23 rfl) fb fr (by omega) (by omega) (by omega) (by omega) s5' s6).mono ?_
    rintro e W4 ⟨h1, h2, h3, h4⟩
    exact ⟨h1, h2, a2.upd h4 (by omega), h3, h4.mono fun j _ h => by rcases h with h | h; exact .inl h; exact .inr (.inr h)⟩
  generalize hg1 : ((((1 + max ha hl) : Nat) : Int)) = g1 at *
  replace hg1 := Lib.hid hg1
  generalize hg2 : ((((1 + na + nl) : Nat) : Int)) = g2 at *
  replace hg2 := Lib.hid hg2
  generalize hg3 : ((((1 + max hb_ (1 + max ha hl)) : Nat) : Int)) = g3 at *
  replace hg3 := Lib.hid hg3
  generalize hg4 : ((((1 + nb + (1 + na + nl)) : Nat) : Int)) = g4 at *
  replace hg4 := Lib.hid hg4
  clear c3
  have c3 : W2.cell? ⟨b, 21, none⟩ = some (.pointer (some ⟨b2, 0, none⟩)) := hb.cell 21
  gi_wp2_with (first | refine (⟨trivial, rfl, ?_⟩ : Fence.wide.fn _ ∧ Fence.wide.depth = none ∧ _) | (gi_at_call 60; refine k1.mono ?_; rintro e W3 ⟨rfl, hb2', hb3', hu2⟩; (replace hb := hb.upd hu2 (by omega)); (replace tz := Tr.top_agree (w' := W3) tz (fun b4 e => by rcases tz with ⟨q, _⟩ | ⟨b5, _, _, _, _, q, q2⟩ <;> rw [q] at e <;> cases e; exact hu2.block _ q2.lt (fun q3 => by rcases q3 with q3 | q3 <;> subst q3; exact eb q; exact fb q))); (replace tr := Tr.top_agree (w' := W3) tr (fun b4 e => by rcases tr with ⟨q, _⟩ | ⟨b5, _, _, _, _, q, q2⟩ <;> rw [q] at e <;> cases e; exact hu2.block _ q2.lt (fun q3 => by rcases q3 with q3 | q3 <;> subst q3; exact er q; exact fr q))); (replace hu := hu.trans' (hu2.mono fun _ _ h => .inr h)); (clear hu2 hb2 hb3 k1 tl ta); (have c3 : W3.cell? ⟨b, 21, none⟩ = some (.pointer (some ⟨b2, 0, none⟩)) := hb.cell 21); (have cf := hb.frozen 21); (have cl := hb.lt)) | (gi_at_call 59; refine (fin _ (by simpa [mkCE] using hb.set 21 (.pointer (some ⟨b3, 0, none⟩))) (hb2'.other (p := ⟨b, 21, none⟩) n12.symm _) (hb3'.other (p := ⟨b, 21, none⟩) n13.symm _) (Tr.top_agree tz (fun b4 e => Below.heap_setCell _ _ _ _ (fun e2 => db (by rw [e, e2])))) (Tr.top_agree tr (fun b4 e => Below.heap_setCell _ _ _ _ (fun e2 => dr (by rw [e, e2]))))).mono ?_; rintro e W5 ⟨rfl, q1, q2, q3, q4⟩))
  go_ret
  rw [hg1.out, hg2.out]
  exact ⟨rfl, q1, q2, q3, (hu.stepSet (.inl (.inl rfl)) _).trans' q4⟩

/-- 'even', over trees. -/
theorem evenCE {n b : Nat} {k : KCE} {v : VCE} {l r : Tr KCE VCE} {h0 n0 : Int} {w : World} (hb : Blk w b (mkCE k v (.pointer l.adr) (.pointer r.adr) h0 n0) 104) (hl : Tr.lies 104 mkCE w l) (hr : Tr.lies 104 mkCE w r)
    (hap : (Tr.node b k v l r).apart) (bl : l.bal) (br : r.bal) (h1 : l.high ≤ r.high + 2) (h2 : r.high ≤ l.high + 2) (hm : l.many + r.many < 1000000) :
    CallsIn Fence.wide n Try.prog 57 #[.pointer (some ⟨b, 0, none⟩)] w fun e w' => ∃ t' : Tr KCE VCE, e = .returned (.pointer t'.adr) ∧ Tr.lies 104 mkCE w' t' ∧ t'.apart ∧ t'.bal ∧ t'.list = l.list ++ (k, v) :: r.list ∧
      (∀ j, t'.has j ↔ (Tr.node b k v l r).has j) ∧ Upd (Tr.node b k v l r).has w w' ∧ max l.high r.high ≤ t'.high ∧ t'.high ≤ max l.high r.high + 1 ∧ (l.high ≤ r.high + 1 → r.high ≤ l.high + 1 → t'.high = max l.high r.high + 1) := by
  have q1 := Tr.high_le l
  have q2 := Tr.high_le r
  by_cases hA : l.high ≤ r.high + 1
  · by_cases hB : r.high ≤ l.high + 1
    · refine (even0CE hb hl.top hr.top (Tr.adr_ne hap.1) (Tr.adr_ne hap.2.1) (by omega) q1 q2 hA hB).mono ?_
      rintro e w' ⟨rfl, hb', hu⟩
      refine ⟨.node b k v l r, rfl, ⟨hb', hl.upd hu (fun j hj e => hap.1 (e ▸ hj)), hr.upd hu (fun j hj e => hap.2.1 (e ▸ hj))⟩, hap, ⟨bl, br, hA, hB⟩, rfl, fun _ => Iff.rfl, hu.mono fun _ _ e => .inl e, ?_, ?_, fun _ _ => ?_⟩ <;> (simp only [Tr.high]; omega)
    · cases r with
      | nil => simp [Tr.high] at hB
      | node b2 k2 v2 rl rr =>
        obtain ⟨hb2, hrl, hrr⟩ := hr
        have hap' := Tr.apart_L hap
        obtain ⟨a1, a2, a3, a4, a5, a6, a7, a8, a9⟩ := hap
        simp only [Tr.has, not_or] at a2
        have p1 := Tr.high_le rl
        have p2 := Tr.high_le rr
        obtain ⟨b1, b2', g3, g4⟩ := br
        simp only [Tr.high, Tr.many] at hA hB h1 h2 hm q2
        by_cases hC : rl.high ≤ rr.high
        · refine (even1LCE hb hb2 hrr.top hrl.top hl.top a2.1 (Tr.adr_ne a2.2.2) (Tr.adr_ne a2.2.1) (Tr.adr_ne a1) (Tr.adr_ne a6) (Tr.adr_ne a5) (Tr.adr_ne fun h => a3 _ h (.inl rfl)) (by omega) (by omega) (by omega) p2 p1 q1 (by omega) hC).mono ?_
          rintro e w' ⟨rfl, q3, q4, hu⟩
          refine ⟨.node b2 k2 v2 (.node b k v l rl) rr, rfl, ⟨q4, ⟨q3, hl.upd hu ?_, hrl.upd hu ?_⟩, hrr.upd hu ?_⟩, hap', ⟨⟨bl, b1, by omega, by omega⟩, b2', by simp only [Tr.high]; omega, by simp only [Tr.high]; omega⟩, by simp [Tr.list], fun j => (Tr.has_R j).symm, hu.mono fun j _ e => e.elim .inl (fun e => .inr (.inr (.inl e))), ?_, ?_, ?_⟩
          · rintro j hj (rfl | rfl)
            · exact a1 hj
            · exact a3 _ hj (.inl rfl)
          · rintro j hj (rfl | rfl)
            · exact a2.2.1 hj
            · exact a5 hj
          · rintro j hj (rfl | rfl)
            · exact a2.2.2 hj
            · exact a6 hj
          all_goals simp only [Tr.high]; omega
        · cases rl with
          | nil => simp [Tr.high] at hC
          | node b3 k3 v3 x y =>
            obtain ⟨hb3, hx, hy⟩ := hrl
            have hap2 := Tr.apart_R hap'
            have hin : (Tr.node b3 k3 v3 x (Tr.node b2 k2 v2 y rr)).apart := Tr.apart_R (b := b2) (k := k2) (v := v2) ⟨a5, a6, a7, a8, a9⟩
            have hnew : (Tr.node b3 k3 v3 (Tr.node b k v l x) (Tr.node b2 k2 v2 y rr)).apart := Tr.apart_L (Tr.apart_r hap2 hin fun j hj => (Tr.has_R j).1 hj)
            obtain ⟨c1, c2, c3, c4, c5⟩ := a8
            simp only [Tr.has, not_or] at a2 a5
            have p3 := Tr.high_le x
            have p4 := Tr.high_le y
            obtain ⟨e1, e2, e3, e4⟩ := b1
            simp only [Tr.high, Tr.many] at hA hB h1 h2 hm q2 hC g3 g4 p1 hb2
            refine (even2LCE (hm := 1 + max x.high y.high) (nm := 1 + x.many + y.many) hb hb2 hb3 hrr.top hy.top hx.top hl.top a2.1 a2.2.1.1 a5.1 (Tr.adr_ne a2.2.1.2.1) (Tr.adr_ne a1) (Tr.adr_ne a6) (Tr.adr_ne a5.2.2) (Tr.adr_ne a5.2.1) (Tr.adr_ne fun h => a3 _ h (.inl rfl))
              (Tr.adr_ne fun h => a7 _ (.inl rfl) h) (Tr.adr_ne c2) (Tr.adr_ne c1) (Tr.adr_ne fun h => a3 _ h (.inr (.inl (.inl rfl)))) (by omega) (by omega) (by omega) p1 (by omega) p2 p4 p3 q1 (by omega) (by omega)).mono ?_
            rintro e w' ⟨rfl, q3, q4, q5, hu⟩
            refine ⟨.node b3 k3 v3 (.node b k v l x) (.node b2 k2 v2 y rr), rfl, ⟨q5, ⟨q3, hl.upd hu ?_, hx.upd hu ?_⟩, q4, hy.upd hu ?_, hrr.upd hu ?_⟩, hnew, ⟨⟨bl, e1, by omega, by omega⟩, ⟨e2, b2', by omega, by omega⟩, by simp only [Tr.high]; omega, by simp only [Tr.high]; omega⟩, by simp [Tr.list], fun j => ?_, hu.mono fun j _ e => ?_, ?_, ?_, ?_⟩
            · rintro j hj (rfl | rfl | rfl)
              · exact a1 hj
              · exact a3 _ hj (.inl rfl)
              · exact a3 _ hj (.inr (.inl (.inl rfl)))
            · rintro j hj (rfl | rfl | rfl)
              · exact a2.2.1.2.1 hj
              · exact a5.2.1 hj
              · exact c1 hj
            · rintro j hj (rfl | rfl | rfl)
              · exact a2.2.1.2.2 hj
              · exact a5.2.2 hj
              · exact c2 hj
            · rintro j hj (rfl | rfl | rfl)
              · exact a2.2.2 hj
              · exact a6 hj
              · exact a7 _ (.inl rfl) hj
            · simp only [Tr.has]
              constructor
              · rintro (e | (e | e | e) | (e | e | e)) <;> simp [e]
              · rintro (e | e | (e | (e | e | e) | e)) <;> simp [e]
            · rcases e with e | e | e
              · exact .inl e
              · exact .inr (.inr (.inl e))
              · exact .inr (.inr (.inr (.inl (.inl e))))
            all_goals simp only [Tr.high]; omega
  · cases l with
    | nil => simp [Tr.high] at hA
    | node b2 k2 v2 ll lr =>
      obtain ⟨hb2, hll, hlr⟩ := hl
      have hap' := Tr.apart_R hap
      obtain ⟨a1, a2, a3, ⟨a5, a6, a7, a8, a9⟩, a4⟩ := hap
      simp only [Tr.has, not_or] at a1
      have p1 := Tr.high_le ll
      have p2 := Tr.high_le lr
      obtain ⟨b1, b2', g3, g4⟩ := bl
      simp only [Tr.high, Tr.many] at hA h1 h2 hm q1
      by_cases hC : lr.high ≤ ll.high
      · refine (even1RCE hb hb2 hll.top hlr.top hr.top a1.1 (Tr.adr_ne a1.2.1) (Tr.adr_ne a1.2.2) (Tr.adr_ne a2) (Tr.adr_ne a5) (Tr.adr_ne a6) (Tr.adr_ne fun h => a3 _ (.inl rfl) h) (by omega) (by omega) (by omega) p1 p2 q2 (by omega) hC).mono ?_
        rintro e w' ⟨rfl, q3, q4, hu⟩
        refine ⟨.node b2 k2 v2 ll (.node b k v lr r), rfl, ⟨q4, hll.upd hu ?_, ⟨q3, hlr.upd hu ?_, hr.upd hu ?_⟩⟩, hap', ⟨b1, ⟨b2', br, by omega, by omega⟩, by simp only [Tr.high]; omega, by simp only [Tr.high]; omega⟩, by simp [Tr.list], fun j => Tr.has_R j, hu.mono fun j _ e => e.elim .inl (fun e => .inr (.inl (.inl e))), ?_, ?_, ?_⟩
        · rintro j hj (rfl | rfl)
          · exact a1.2.1 hj
          · exact a5 hj
        · rintro j hj (rfl | rfl)
          · exact a1.2.2 hj
          · exact a6 hj
        · rintro j hj (rfl | rfl)
          · exact a2 hj
          · exact a3 _ (.inl rfl) hj
        all_goals simp only [Tr.high]; omega
      · cases lr with
        | nil => simp [Tr.high] at hC
        | node b3 k3 v3 x y =>
          obtain ⟨hb3, hx, hy⟩ := hlr
          have hap2 := Tr.apart_L hap'
          have hin : (Tr.node b3 k3 v3 (Tr.node b2 k2 v2 ll x) y).apart := Tr.apart_L (b2 := b2) (k2 := k2) (v2 := v2) ⟨a5, a6, a7, a8, a9⟩
          have hnew : (Tr.node b3 k3 v3 (Tr.node b2 k2 v2 ll x) (Tr.node b k v y r)).apart := Tr.apart_R (Tr.apart_l hap2 hin fun j hj => (Tr.has_R j).2 hj)
          obtain ⟨c1, c2, c3, c4, c5⟩ := a9
          simp only [Tr.has, not_or] at a1 a6
          have p3 := Tr.high_le x
          have p4 := Tr.high_le y
          obtain ⟨e1, e2, e3, e4⟩ := b2'
          simp only [Tr.high, Tr.many] at hA h1 h2 hm q1 hC g3 g4 p2 hb2
          refine (even2RCE (hm := 1 + max x.high y.high) (nm := 1 + x.many + y.many) hb hb2 hb3 hll.top hx.top hy.top hr.top a1.1 a1.2.2.1 a6.1 (Tr.adr_ne a1.2.2.2.2) (Tr.adr_ne a2) (Tr.adr_ne a5) (Tr.adr_ne a6.2.1) (Tr.adr_ne a6.2.2) (Tr.adr_ne fun h => a3 _ (.inl rfl) h)
            (Tr.adr_ne fun h => a7 _ h (.inl rfl)) (Tr.adr_ne c1) (Tr.adr_ne c2) (Tr.adr_ne fun h => a3 _ (.inr (.inr (.inl rfl))) h) (by omega) (by omega) (by omega) p2 (by omega) p1 p3 p4 q2 (by omega) (by omega)).mono ?_
          rintro e w' ⟨rfl, q3, q4, q5, hu⟩
          refine ⟨.node b3 k3 v3 (.node b2 k2 v2 ll x) (.node b k v y r), rfl, ⟨q5, ⟨q4, hll.upd hu ?_, hx.upd hu ?_⟩, q3, hy.upd hu ?_, hr.upd hu ?_⟩, hnew, ⟨⟨b1, e1, by omega, by omega⟩, ⟨e2, br, by omega, by omega⟩, by simp only [Tr.high]; omega, by simp only [Tr.high]; omega⟩, by simp [Tr.list], fun j => ?_, hu.mono fun j _ e => ?_, ?_, ?_, ?_⟩
          · rintro j hj (rfl | rfl | rfl)
            · exact a1.2.1 hj
            · exact a5 hj
            · exact a7 _ hj (.inl rfl)
          · rintro j hj (rfl | rfl | rfl)
            · exact a1.2.2.2.1 hj
            · exact a6.2.1 hj
            · exact c1 hj
          · rintro j hj (rfl | rfl | rfl)
            · exact a1.2.2.2.2 hj
            · exact a6.2.2 hj
            · exact c2 hj
          · rintro j hj (rfl | rfl | rfl)
            · exact a2 hj
            · exact a3 _ (.inl rfl) hj
            · exact a3 _ (.inr (.inr (.inl rfl))) hj
          · simp only [Tr.has]
            constructor
            · rintro (e | (e | e | e) | (e | e | e)) <;> simp [e]
            · rintro (e | (e | e | (e | e | e)) | e) <;> simp [e]
          · rcases e with e | e | e
            · exact .inl e
            · exact .inr (.inl (.inl e))
            · exact .inr (.inl (.inr (.inr (.inl e))))
          all_goals simp only [Tr.high]; omega
end Go.Proofs.Ytadeechoknpjhaa

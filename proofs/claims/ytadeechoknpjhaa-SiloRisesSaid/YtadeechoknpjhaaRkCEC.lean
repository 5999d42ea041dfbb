/- rack's 'put' and 'Put', instance tidemill/api.Cell, tidemill/silo.Entry. -/
import Derived.Test.YtadeechoknpjhaaProg
import Derived.Test.YtadeechoknpjhaaBase
import Derived.Test.YtadeechoknpjhaaTr
import Derived.Test.YtadeechoknpjhaaFork
import Derived.Test.YtadeechoknpjhaaRkCEB
set_option linter.unusedSimpArgs false
set_option linter.unusedVariables false
namespace Go.Proofs.Ytadeechoknpjhaa
open Go.RowKit Go.Shelf
attribute [local go_sem] Oper.semAt_some


theorem leafCE {w w' : World} {k : KCE} {v : VCE} (hb : Blk w' w.heap.size (mkCE k v (.pointer none) (.pointer none) ((1 + max 0 0 : Nat) : Int) ((1 + 0 + 0 : Nat) : Int)) 104) : Tr.lies 104 mkCE w' (Tr.node w.heap.size k v .nil .nil) := ⟨hb, trivial, trivial⟩

/-- What 'put' says of the tree that it answers. -/
def PutFinCE (c : KCE → KCE → Int) (k : KCE) (v : VCE) (t : Tr KCE VCE) (w : World) (t' : Tr KCE VCE) (w' : World) : Prop :=
  Tr.lies 104 mkCE w' t' ∧ t'.apart ∧ t'.bal ∧ t'.list = putL c k v t.list ∧ (∀ j, t'.has j → t.has j ∨ w.heap.size ≤ j) ∧ Upd t.has w w' ∧ t.high ≤ t'.high ∧ t'.high ≤ t.high + 1
def PutPostCE (c : KCE → KCE → Int) (k : KCE) (v : VCE) (t : Tr KCE VCE) (w : World) (e : Ending) (w' : World) : Prop :=
  ∃ t' : Tr KCE VCE, e = .returned (.tuple #[.pointer t'.adr, .bool (hadL c k t.list)]) ∧ PutFinCE c k v t w t' w'

set_option maxRecDepth 100000 in
set_option maxHeartbeats 2000000 in
theorem put1CE {c : KCE → KCE → Int} {cf : Fn} {ca cc : Array Value} (hcmp : CmpV Try.prog ekCE c cf ca cc) {rb : Nat} {x : Value} {k : KCE} {v : VCE} {b : Nat} {k0 : KCE} {v0 : VCE} {l r : Tr KCE VCE} (ihl : ∀ (w : World), Tr.lies 104 mkCE w l → l.apart → l.bal → Rise c l.list → l.many < 100000 → Blk w rb #[.func cf ca cc, x] 88 → ¬ l.has rb →
    CallsIn Fence.wide 0 Try.prog 44 #[.pointer (some ⟨rb, 0, none⟩), .pointer l.adr, ekCE k, evCE v] w (PutPostCE c k v l w)) (ihr : ∀ (w : World), Tr.lies 104 mkCE w r → r.apart → r.bal → Rise c r.list → r.many < 100000 → Blk w rb #[.func cf ca cc, x] 88 → ¬ r.has rb →
    CallsIn Fence.wide 0 Try.prog 44 #[.pointer (some ⟨rb, 0, none⟩), .pointer r.adr, ekCE k, evCE v] w (PutPostCE c k v r w)) (w : World) (hlies : Tr.lies 104 mkCE w (Tr.node b k0 v0 l r)) (hap : (Tr.node b k0 v0 l r).apart) (hbal : (Tr.node b k0 v0 l r).bal) (hrise : Rise c (Tr.node b k0 v0 l r).list) (hmany : (Tr.node b k0 v0 l r).many < 100000) (hrb : Blk w rb #[.func cf ca cc, x] 88) (hnrb : ¬ (Tr.node b k0 v0 l r).has rb) (hs : c k k0 < 0) :
        CallsIn Fence.wide 0 Try.prog 44 #[.pointer (some ⟨rb, 0, none⟩), .pointer (Tr.node b k0 v0 l r).adr, ekCE k, evCE v] w (PutPostCE c k v (Tr.node b k0 v0 l r) w) := by
    obtain ⟨hb, hl, hr⟩ := hlies
    obtain ⟨bl, br, g1, g2⟩ := hbal
    have hrise' := hrise
    obtain ⟨r1, r2, _, _, _⟩ := Rise.parts (l := l.list) (r := r.list) (x := (k0, v0)) hrise
    simp only [Tr.has, not_or] at hnrb
    obtain ⟨m1, m2, m3⟩ := hnrb
    simp only [Tr.many] at hmany
    simp only [Tr.adr]
    have qle : ∀ (t' s : Tr KCE VCE), t'.list = putL c k v s.list → Rise c s.list → t'.many ≤ s.many + 1 := fun t' s e h => by rw [← Tr.many_list t', ← Tr.many_list s, e]; exact putL_le hcmp.ord v h
    replace qle := Lib.hid qle
    replace ihl := Lib.hid ihl
    replace ihr := Lib.hid ihr
    · skip
      obtain ⟨e1, _, e2, _, _⟩ := node_lt hcmp.ord (l := l.list) (r := r.list) (x := (k0, v0)) hrise' hs v
      replace e1 := Lib.hid e1
      replace e2 := Lib.hid e2
      replace hrise' := Lib.hid hrise'
      replace hrise := Lib.hid hrise
      have hlw := Lib.hid (fun j h => Tr.lies.lt hl j h)
      have hrw := Lib.hid (fun j h => Tr.lies.lt hr j h)
      have hbw := hb.lt
      have hu0 : Upd (fun _ => False) w ((w.alloc (.cells #[.string (k).1, .string (k).2.1, .int .i64 (k).2.2.1, .int .i64 (k).2.2.2] 24)).alloc (.cells #[.int .i64 (v).ep, .string (v).key, .string (v).pol, .int .i64 (v).kd, .int .i64 (v).st, .int .i64 (v).rev, .bool (v).fin, .int .i64 (v).rk, .int .i64 (v).cnt, .int .i64 (v).sum, .int .i64 (v).mn, .int .i64 (v).mx, .int .i64 (v).q0, .int .i64 (v).q1, .int .i64 (v).q2, .bool (v).over] 63)) := (Upd.alloc _ w _).stepAlloc _
      have qk := (Blk.new w #[.string (k).1, .string (k).2.1, .int .i64 (k).2.2.1, .int .i64 (k).2.2.2] 24).alloc (.cells #[.int .i64 (v).ep, .string (v).key, .string (v).pol, .int .i64 (v).kd, .int .i64 (v).st, .int .i64 (v).rev, .bool (v).fin, .int .i64 (v).rk, .int .i64 (v).cnt, .int .i64 (v).sum, .int .i64 (v).mn, .int .i64 (v).mx, .int .i64 (v).q0, .int .i64 (v).q1, .int .i64 (v).q2, .bool (v).over] 63)
      have qb := Blk.new (w.alloc (.cells #[.string (k).1, .string (k).2.1, .int .i64 (k).2.2.1, .int .i64 (k).2.2.2] 24)) #[.int .i64 (v).ep, .string (v).key, .string (v).pol, .int .i64 (v).kd, .int .i64 (v).st, .int .i64 (v).rev, .bool (v).fin, .int .i64 (v).rk, .int .i64 (v).cnt, .int .i64 (v).sum, .int .i64 (v).mn, .int .i64 (v).mx, .int .i64 (v).q0, .int .i64 (v).q1, .int .i64 (v).q2, .bool (v).over] 63
      rw [World.size_alloc] at qb
      replace hrb := hrb.upd hu0 id
      replace hb := hb.upd hu0 id
      replace hl := hl.upd hu0 (fun _ _ => id)
      replace hr := hr.upd hu0 (fun _ _ => id)
      obtain ⟨W0, hW0⟩ : ∃ W0, ((w.alloc (.cells #[.string (k).1, .string (k).2.1, .int .i64 (k).2.2.1, .int .i64 (k).2.2.2] 24)).alloc (.cells #[.int .i64 (v).ep, .string (v).key, .string (v).pol, .int .i64 (v).kd, .int .i64 (v).st, .int .i64 (v).rev, .bool (v).fin, .int .i64 (v).rk, .int .i64 (v).cnt, .int .i64 (v).sum, .int .i64 (v).mn, .int .i64 (v).mx, .int .i64 (v).q0, .int .i64 (v).q1, .int .i64 (v).q2, .bool (v).over] 63)) = W0 := ⟨_, rfl⟩
      rw [hW0] at hu0 qb hrb hb hl hr qk
      replace qb := Lib.hid qb
      replace qk := Lib.hid qk
      refine callsIn_any (n := 0) (callsIn_of_wp Try.func44 rfl trivial ?_)
      simp only [Try.ntmps44, List.size_toArray, List.length_cons, List.length_nil, Nat.reduceAdd, Nat.reduceSub, Array.replicate_succ, Array.replicate_zero, List.push_toArray, List.append_toArray, List.nil_append, List.cons_append]
      have c0 : W0.cell? ⟨rb, 0, none⟩ = some (.func cf ca cc) := hrb.cell 0
      have c10 : W0.cell? ⟨b, 0, none⟩ = some (.string (k0).1) := hb.cell 0
      have ck0 : W0.cell? ⟨w.heap.size, 0, none⟩ = some (.string (k).1) := qk.out.cell 0
      have c11 : W0.cell? ⟨b, 1, none⟩ = some (.string (k0).2.1) := hb.cell 1
      have ck1 : W0.cell? ⟨w.heap.size, 1, none⟩ = some (.string (k).2.1) := qk.out.cell 1
      have c12 : W0.cell? ⟨b, 2, none⟩ = some (.int .i64 (k0).2.2.1) := hb.cell 2
      have ck2 : W0.cell? ⟨w.heap.size, 2, none⟩ = some (.int .i64 (k).2.2.1) := qk.out.cell 2
      have c13 : W0.cell? ⟨b, 3, none⟩ = some (.int .i64 (k0).2.2.2) := hb.cell 3
      have ck3 : W0.cell? ⟨w.heap.size, 3, none⟩ = some (.int .i64 (k).2.2.2) := qk.out.cell 3
      have hkk := Lib.hid (hcmp.call k k0 W0.drew)
      gi_wp2
      refine wpIn_eager [(0, true), (1, true), (2, true), (3, true), (4, true), (5, true), (6, true), (7, true), (8, true), (9, false), (10, true)] (fun V => V.cell? ⟨rb, 0, none⟩ = some (.func cf ca cc) ∧ V.cell? ⟨b, 0, none⟩ = some (.string (k0).1) ∧ V.cell? ⟨b, 1, none⟩ = some (.string (k0).2.1) ∧ V.cell? ⟨b, 2, none⟩ = some (.int .i64 (k0).2.2.1) ∧ V.cell? ⟨b, 3, none⟩ = some (.int .i64 (k0).2.2.2) ∧ V.cell? ⟨w.heap.size, 0, none⟩ = some (.string (k).1) ∧ V.cell? ⟨w.heap.size, 1, none⟩ = some (.string (k).2.1) ∧ V.cell? ⟨w.heap.size, 2, none⟩ = some (.int .i64 (k).2.2.1) ∧ V.cell? ⟨w.heap.size, 3, none⟩ = some (.int .i64 (k).2.2.2)) (by kernel_rfl) (by kernel_rfl) ⟨c0, c10, c11, c12, c13, ck0, ck1, ck2, ck3⟩ ?_
      refine wpE_fl rfl rfl (fun _ _ => rfl) ?_
      go_simp
      refine wpE_fl rfl rfl (fun _ _ => rfl) ?_
      go_simp
      refine wpE_fl (v := .pointer (some ⟨rb, 0, none⟩)) rfl rfl (fun W' h' => ?_) ?_
      · go_simp
      go_simp
      refine wpE_fl (v := .func cf ca cc) rfl rfl (fun W' h' => ?_) ?_
      · obtain ⟨h1, h20, h21, h22, h23, h24, h25, h26, h27⟩ := h'; go_simp
      go_simp
      refine wpE_fl (v := ekCE k) rfl rfl (fun W' h' => ?_) ?_
      · obtain ⟨h1, h20, h21, h22, h23, h24, h25, h26, h27⟩ := h'; go_simp
      go_simp
      refine wpE_fl rfl rfl (fun _ _ => rfl) ?_
      go_simp
      refine wpE_fl rfl rfl (fun _ _ => rfl) ?_
      go_simp
      refine wpE_fl (v := .pointer (some ⟨b, 0, none⟩)) rfl rfl (fun W' h' => ?_) ?_
      · go_simp
      go_simp
      refine wpE_fl (v := ekCE k0) rfl rfl (fun W' h' => ?_) ?_
      · obtain ⟨h1, h20, h21, h22, h23, h24, h25, h26, h27⟩ := h'; go_simp
      go_simp
      refine wpE_ef rfl ?_
      go_simp
      gi_wp2_with ((with_reducible refine listV2 hkk.out ?_ ?_ ?_ ?_); rfl; rfl; rfl; rintro vv V ⟨rfl, hud⟩; (replace hud := (Upd.drew (fun _ => False) W0).trans' hud))
      clear hkk c0 c10 c11 c12 c13 ck0 ck1 ck2 ck3
      replace hrb := hrb.upd hud id
      replace hb := hb.upd hud id
      replace hl := hl.upd hud (fun _ _ => id)
      replace hr := hr.upd hud (fun _ _ => id)
      replace qk := qk.out.upd hud id
      refine ⟨⟨hrb.cell 0, hb.cell 0, hb.cell 1, hb.cell 2, hb.cell 3, qk.cell 0, qk.cell 1, qk.cell 2, qk.cell 3⟩, ?_⟩
      replace qb := qb.out.upd hud id
      have q0 : V.cell? ⟨w.heap.size, 0, none⟩ = some (.string (k).1) := qk.cell 0
      have q1 : V.cell? ⟨w.heap.size, 1, none⟩ = some (.string (k).2.1) := qk.cell 1
      have q2 : V.cell? ⟨w.heap.size, 2, none⟩ = some (.int .i64 (k).2.2.1) := qk.cell 2
      have q3 : V.cell? ⟨w.heap.size, 3, none⟩ = some (.int .i64 (k).2.2.2) := qk.cell 3
      have q4 : V.cell? ⟨w.heap.size + 1, 0, none⟩ = some (.int .i64 (v).ep) := qb.cell 0
      have q5 : V.cell? ⟨w.heap.size + 1, 1, none⟩ = some (.string (v).key) := qb.cell 1
      have q6 : V.cell? ⟨w.heap.size + 1, 2, none⟩ = some (.string (v).pol) := qb.cell 2
      have q7 : V.cell? ⟨w.heap.size + 1, 3, none⟩ = some (.int .i64 (v).kd) := qb.cell 3
      have q8 : V.cell? ⟨w.heap.size + 1, 4, none⟩ = some (.int .i64 (v).st) := qb.cell 4
      have q9 : V.cell? ⟨w.heap.size + 1, 5, none⟩ = some (.int .i64 (v).rev) := qb.cell 5
      have q10 : V.cell? ⟨w.heap.size + 1, 6, none⟩ = some (.bool (v).fin) := qb.cell 6
      have q11 : V.cell? ⟨w.heap.size + 1, 7, none⟩ = some (.int .i64 (v).rk) := qb.cell 7
      have q12 : V.cell? ⟨w.heap.size + 1, 8, none⟩ = some (.int .i64 (v).cnt) := qb.cell 8
      have q13 : V.cell? ⟨w.heap.size + 1, 9, none⟩ = some (.int .i64 (v).sum) := qb.cell 9
      have q14 : V.cell? ⟨w.heap.size + 1, 10, none⟩ = some (.int .i64 (v).mn) := qb.cell 10
      have q15 : V.cell? ⟨w.heap.size + 1, 11, none⟩ = some (.int .i64 (v).mx) := qb.cell 11
      have q16 : V.cell? ⟨w.heap.size + 1, 12, none⟩ = some (.int .i64 (v).q0) := qb.cell 12
      have q17 : V.cell? ⟨w.heap.size + 1, 13, none⟩ = some (.int .i64 (v).q1) := qb.cell 13
      have q18 : V.cell? ⟨w.heap.size + 1, 14, none⟩ = some (.int .i64 (v).q2) := qb.cell 14
      have q19 : V.cell? ⟨w.heap.size + 1, 15, none⟩ = some (.bool (v).over) := qb.cell 15
      replace hud := hu0.trans' hud
      clear hu0 hW0
      refine wpE_fl rfl rfl (fun _ _ => rfl) ?_
      go_simp
      refine wpE_nil ?_
      have c2 : V.cell? ⟨b, 20, none⟩ = some (.pointer l.adr) := hb.cell 20
      replace hrb := hrb.upd (Upd.drew (fun _ => False) V) id
      replace hb := hb.upd (Upd.drew (fun _ => False) V) id
      replace hl := hl.upd (Upd.drew (fun _ => False) V) (fun _ _ => id)
      replace hr := hr.upd (Upd.drew (fun _ => False) V) (fun _ _ => id)
      replace qb := qb.upd (Upd.drew (fun _ => False) V) id
      replace qk := qk.upd (Upd.drew (fun _ => False) V) id
      replace hud := hud.stepDrew
      replace c2 : V.drew.cell? ⟨b, 20, none⟩ = some (.pointer l.adr) := hb.cell 20
      have k1 := ihl.out V.drew hl hap.2.2.2.1 bl r1 (by omega) hrb m2
      have k2 : CallsIn Fence.wide 0 Try.prog 44 #[.pointer (some ⟨rb, 0, none⟩), .pointer l.adr, ekCE k, evCE v] V.drew fun e W2 => ∃ t1 : Tr KCE VCE, e = .returned (.tuple #[.pointer t1.adr, .bool (hadL c k l.list)]) ∧ W2.cell? ⟨b, 20, none⟩ = some (.pointer l.adr) ∧ W2.frozen? ⟨b, 20, none⟩ = false ∧ b < W2.heap.size ∧ (W2.cell? ⟨w.heap.size, 0, none⟩ = some (.string (k).1) ∧ W2.cell? ⟨w.heap.size, 1, none⟩ = some (.string (k).2.1) ∧ W2.cell? ⟨w.heap.size, 2, none⟩ = some (.int .i64 (k).2.2.1) ∧ W2.cell? ⟨w.heap.size, 3, none⟩ = some (.int .i64 (k).2.2.2) ∧ W2.cell? ⟨w.heap.size + 1, 0, none⟩ = some (.int .i64 (v).ep) ∧ W2.cell? ⟨w.heap.size + 1, 1, none⟩ = some (.string (v).key) ∧ W2.cell? ⟨w.heap.size + 1, 2, none⟩ = some (.string (v).pol) ∧ W2.cell? ⟨w.heap.size + 1, 3, none⟩ = some (.int .i64 (v).kd) ∧ W2.cell? ⟨w.heap.size + 1, 4, none⟩ = some (.int .i64 (v).st) ∧ W2.cell? ⟨w.heap.size + 1, 5, none⟩ = some (.int .i64 (v).rev) ∧ W2.cell? ⟨w.heap.size + 1, 6, none⟩ = some (.bool (v).fin) ∧ W2.cell? ⟨w.heap.size + 1, 7, none⟩ = some (.int .i64 (v).rk) ∧ W2.cell? ⟨w.heap.size + 1, 8, none⟩ = some (.int .i64 (v).cnt) ∧ W2.cell? ⟨w.heap.size + 1, 9, none⟩ = some (.int .i64 (v).sum) ∧ W2.cell? ⟨w.heap.size + 1, 10, none⟩ = some (.int .i64 (v).mn) ∧ W2.cell? ⟨w.heap.size + 1, 11, none⟩ = some (.int .i64 (v).mx) ∧ W2.cell? ⟨w.heap.size + 1, 12, none⟩ = some (.int .i64 (v).q0) ∧ W2.cell? ⟨w.heap.size + 1, 13, none⟩ = some (.int .i64 (v).q1) ∧ W2.cell? ⟨w.heap.size + 1, 14, none⟩ = some (.int .i64 (v).q2) ∧ W2.cell? ⟨w.heap.size + 1, 15, none⟩ = some (.bool (v).over)) ∧ ((W2.setCell ⟨b, 20, none⟩ (.pointer t1.adr)).cell? ⟨w.heap.size, 0, none⟩ = some (.string (k).1) ∧ (W2.setCell ⟨b, 20, none⟩ (.pointer t1.adr)).cell? ⟨w.heap.size, 1, none⟩ = some (.string (k).2.1) ∧ (W2.setCell ⟨b, 20, none⟩ (.pointer t1.adr)).cell? ⟨w.heap.size, 2, none⟩ = some (.int .i64 (k).2.2.1) ∧ (W2.setCell ⟨b, 20, none⟩ (.pointer t1.adr)).cell? ⟨w.heap.size, 3, none⟩ = some (.int .i64 (k).2.2.2) ∧ (W2.setCell ⟨b, 20, none⟩ (.pointer t1.adr)).cell? ⟨w.heap.size + 1, 0, none⟩ = some (.int .i64 (v).ep) ∧ (W2.setCell ⟨b, 20, none⟩ (.pointer t1.adr)).cell? ⟨w.heap.size + 1, 1, none⟩ = some (.string (v).key) ∧ (W2.setCell ⟨b, 20, none⟩ (.pointer t1.adr)).cell? ⟨w.heap.size + 1, 2, none⟩ = some (.string (v).pol) ∧ (W2.setCell ⟨b, 20, none⟩ (.pointer t1.adr)).cell? ⟨w.heap.size + 1, 3, none⟩ = some (.int .i64 (v).kd) ∧ (W2.setCell ⟨b, 20, none⟩ (.pointer t1.adr)).cell? ⟨w.heap.size + 1, 4, none⟩ = some (.int .i64 (v).st) ∧ (W2.setCell ⟨b, 20, none⟩ (.pointer t1.adr)).cell? ⟨w.heap.size + 1, 5, none⟩ = some (.int .i64 (v).rev) ∧ (W2.setCell ⟨b, 20, none⟩ (.pointer t1.adr)).cell? ⟨w.heap.size + 1, 6, none⟩ = some (.bool (v).fin) ∧ (W2.setCell ⟨b, 20, none⟩ (.pointer t1.adr)).cell? ⟨w.heap.size + 1, 7, none⟩ = some (.int .i64 (v).rk) ∧ (W2.setCell ⟨b, 20, none⟩ (.pointer t1.adr)).cell? ⟨w.heap.size + 1, 8, none⟩ = some (.int .i64 (v).cnt) ∧ (W2.setCell ⟨b, 20, none⟩ (.pointer t1.adr)).cell? ⟨w.heap.size + 1, 9, none⟩ = some (.int .i64 (v).sum) ∧ (W2.setCell ⟨b, 20, none⟩ (.pointer t1.adr)).cell? ⟨w.heap.size + 1, 10, none⟩ = some (.int .i64 (v).mn) ∧ (W2.setCell ⟨b, 20, none⟩ (.pointer t1.adr)).cell? ⟨w.heap.size + 1, 11, none⟩ = some (.int .i64 (v).mx) ∧ (W2.setCell ⟨b, 20, none⟩ (.pointer t1.adr)).cell? ⟨w.heap.size + 1, 12, none⟩ = some (.int .i64 (v).q0) ∧ (W2.setCell ⟨b, 20, none⟩ (.pointer t1.adr)).cell? ⟨w.heap.size + 1, 13, none⟩ = some (.int .i64 (v).q1) ∧ (W2.setCell ⟨b, 20, none⟩ (.pointer t1.adr)).cell? ⟨w.heap.size + 1, 14, none⟩ = some (.int .i64 (v).q2) ∧ (W2.setCell ⟨b, 20, none⟩ (.pointer t1.adr)).cell? ⟨w.heap.size + 1, 15, none⟩ = some (.bool (v).over)) ∧
          CallsIn Fence.wide 0 Try.prog 57 #[.pointer (some ⟨b, 0, none⟩)] (W2.setCell ⟨b, 20, none⟩ (.pointer t1.adr)) fun e W3 => ∃ t2 : Tr KCE VCE, e = .returned (.pointer t2.adr) ∧ PutFinCE c k v (Tr.node b k0 v0 l r) w t2 W3 := by
        refine k1.mono ?_
        rintro e W2 ⟨t1, rfl, z1, z2, z3, z4, z5, z6, z7, z8⟩
        have hz := hud.size
        have nb : ¬ t1.has b := fun h => by
          rcases z5 b h with h | h
          · exact hap.1 h
          · have := hb.lt; omega
        have hap' : (Tr.node b k0 v0 t1 r).apart := by
          refine ⟨nb, hap.2.1, fun j h h' => ?_, z2, hap.2.2.2.2⟩
          rcases z5 j h with h | h
          · exact hap.2.2.1 j h h'
          · have := hr.lt j h'; omega
        have hb2 := hb.upd z6 hap.1
        have ho2 := hr.upd z6 (fun j h h' => hap.2.2.1 j h' h)
        have hb3 : Blk (W2.setCell ⟨b, 20, none⟩ (.pointer t1.adr)) b (mkCE k0 v0 (.pointer t1.adr) (.pointer r.adr) ((1 + max l.high r.high : Nat) : Int) ((1 + l.many + r.many : Nat) : Int)) 104 := by simpa [mkCE] using hb2.set 20 (.pointer t1.adr)
        have z1' : Tr.lies 104 mkCE (W2.setCell ⟨b, 20, none⟩ (.pointer t1.adr)) t1 := z1.upd (Upd.setCell (M := fun j => j = b) rfl _) (fun j h e => nb (e ▸ h))
        have ho3 : Tr.lies 104 mkCE (W2.setCell ⟨b, 20, none⟩ (.pointer t1.adr)) r := ho2.upd (Upd.setCell (M := fun j => j = b) rfl _) (fun j h e => hap.2.1 (e ▸ h))
        have hq := qle.out t1 l z4 r1
        have qk2 := qk.upd z6 (fun h => by have := hlw.out _ h; omega)
        have qk3 := qk2.other (p := ⟨b, 20, none⟩) (by dsimp only; omega) (.pointer t1.adr)
        have qb2 := qb.upd z6 (fun h => by have := hlw.out _ h; omega)
        have qb3 := qb2.other (p := ⟨b, 20, none⟩) (by dsimp only; omega) (.pointer t1.adr)
        refine ⟨t1, rfl, hb2.cell 20, hb2.frozen 20, hb2.lt, ⟨qk2.cell 0, qk2.cell 1, qk2.cell 2, qk2.cell 3, qb2.cell 0, qb2.cell 1, qb2.cell 2, qb2.cell 3, qb2.cell 4, qb2.cell 5, qb2.cell 6, qb2.cell 7, qb2.cell 8, qb2.cell 9, qb2.cell 10, qb2.cell 11, qb2.cell 12, qb2.cell 13, qb2.cell 14, qb2.cell 15⟩, ⟨qk3.cell 0, qk3.cell 1, qk3.cell 2, qk3.cell 3, qb3.cell 0, qb3.cell 1, qb3.cell 2, qb3.cell 3, qb3.cell 4, qb3.cell 5, qb3.cell 6, qb3.cell 7, qb3.cell 8, qb3.cell 9, qb3.cell 10, qb3.cell 11, qb3.cell 12, qb3.cell 13, qb3.cell 14, qb3.cell 15⟩, ?_⟩
        refine (evenCE (n := 0) hb3 z1' ho3 hap' z3 br (by omega) (by omega) (by omega)).mono ?_
        rintro e W3 ⟨t2, rfl, y1, y2, y3, y4, y5, y6, y7, y8, y9⟩
        refine ⟨t2, rfl, y1, y2, y3, ?_, fun j hj => ?_, ?_, ?_, ?_⟩
        · rw [y4, z4]; exact e1.out.symm
        · rcases (y5 j).1 hj with h | h | h
          · exact .inl (.inl h)
          · exact (z5 j h).elim (fun h => .inl (.inr (.inl h))) (fun h => .inr (by omega))
          · exact .inl (.inr (.inr h))
        · refine (((hud.mono (M' := (Tr.node b k0 v0 l r).has) fun _ _ h => h.elim).trans' (z6.mono fun j _ h => .inr (.inl h))).stepSet (.inl (.inl rfl)) _).trans y6 (fun j hj => ?_)
          rcases hj with h | h | h
          · exact .inl (.inl h)
          · exact (z5 j h).elim (fun h => .inl (.inr (.inl h))) (fun h => .inr (by omega))
          · exact .inl (.inr (.inr h))
        · simp only [Tr.high]; omega
        · simp only [Tr.high]; omega
      replace k2 := Lib.hid k2
      clear k1 hl hr hb hrb
      gi_wp2
      refine wpIn_eager [(0, true), (1, true), (2, true), (3, true), (4, true), (6, true), (7, true), (5, false), (8, false), (9, true), (10, true), (11, true), (12, true), (13, true), (14, false), (15, true)] (fun U => (U.cell? ⟨w.heap.size, 0, none⟩ = some (.string (k).1) ∧ U.cell? ⟨w.heap.size, 1, none⟩ = some (.string (k).2.1) ∧ U.cell? ⟨w.heap.size, 2, none⟩ = some (.int .i64 (k).2.2.1) ∧ U.cell? ⟨w.heap.size, 3, none⟩ = some (.int .i64 (k).2.2.2) ∧ U.cell? ⟨w.heap.size + 1, 0, none⟩ = some (.int .i64 (v).ep) ∧ U.cell? ⟨w.heap.size + 1, 1, none⟩ = some (.string (v).key) ∧ U.cell? ⟨w.heap.size + 1, 2, none⟩ = some (.string (v).pol) ∧ U.cell? ⟨w.heap.size + 1, 3, none⟩ = some (.int .i64 (v).kd) ∧ U.cell? ⟨w.heap.size + 1, 4, none⟩ = some (.int .i64 (v).st) ∧ U.cell? ⟨w.heap.size + 1, 5, none⟩ = some (.int .i64 (v).rev) ∧ U.cell? ⟨w.heap.size + 1, 6, none⟩ = some (.bool (v).fin) ∧ U.cell? ⟨w.heap.size + 1, 7, none⟩ = some (.int .i64 (v).rk) ∧ U.cell? ⟨w.heap.size + 1, 8, none⟩ = some (.int .i64 (v).cnt) ∧ U.cell? ⟨w.heap.size + 1, 9, none⟩ = some (.int .i64 (v).sum) ∧ U.cell? ⟨w.heap.size + 1, 10, none⟩ = some (.int .i64 (v).mn) ∧ U.cell? ⟨w.heap.size + 1, 11, none⟩ = some (.int .i64 (v).mx) ∧ U.cell? ⟨w.heap.size + 1, 12, none⟩ = some (.int .i64 (v).q0) ∧ U.cell? ⟨w.heap.size + 1, 13, none⟩ = some (.int .i64 (v).q1) ∧ U.cell? ⟨w.heap.size + 1, 14, none⟩ = some (.int .i64 (v).q2) ∧ U.cell? ⟨w.heap.size + 1, 15, none⟩ = some (.bool (v).over))) (by kernel_rfl) (by kernel_rfl) ⟨q0, q1, q2, q3, q4, q5, q6, q7, q8, q9, q10, q11, q12, q13, q14, q15, q16, q17, q18, q19⟩ ?_
      repeat (first | (refine wpE_fl rfl rfl (fun _ _ => rfl) ?_; go_simp) | (refine wpE_sk rfl rfl ?_; go_simp) | (refine wpE_fl (v := ?_) rfl rfl ?_ ?_; rotate_left; (intro W' h'; (try dsimp only at h'); go_simp; exact rfl); go_simp) | (refine wpE_ef rfl ?_; go_simp; gi_wp2_with (first | refine (⟨trivial, rfl, ?_⟩ : Fence.wide.fn _ ∧ Fence.wide.depth = none ∧ _) | refine (⟨trivial, trivial, rfl, ?_⟩ : Fence.wide.fn _ ∧ Fence.wide.fn _ ∧ Fence.wide.depth = none ∧ _) | (gi_at_call 44; refine k2.out.mono ?_; rintro e W2 ⟨t1, rfl, cs, cf, cl, hq2, hq3, fin⟩; (replace hq2 := Lib.hid hq2); (replace hq3 := Lib.hid hq3); (replace fin := Lib.hid fin)) | refine (⟨trivial, ?_⟩ : Fence.wide.fn _ ∧ _)); (first | refine ⟨by first | exact ⟨q0, q1, q2, q3, q4, q5, q6, q7, q8, q9, q10, q11, q12, q13, q14, q15, q16, q17, q18, q19⟩ | exact hq2.out | exact hq3.out, ?_⟩ | skip)))
      refine wpE_nil ?_
      gi_wp2_with (first | refine (⟨trivial, rfl, ?_⟩ : Fence.wide.fn _ ∧ Fence.wide.depth = none ∧ _) | (gi_at_call 57; refine fin.out.mono ?_; rintro e W3 ⟨t2, rfl, fin2⟩))
      refine bodyPost_ret (results_tmp2 rfl _ _ _) rfl ?_
      refine ⟨t2, ?_, fin2⟩
      show Ending.returned (Value.tuple #[Value.pointer t2.adr, Value.bool (hadL c k l.list)]) = _
      rw [show (Tr.node b k0 v0 l r).list = l.list ++ (k0, v0) :: r.list from rfl, e2.out]
set_option maxRecDepth 100000 in
set_option maxHeartbeats 2000000 in
theorem put2CE {c : KCE → KCE → Int} {cf : Fn} {ca cc : Array Value} (hcmp : CmpV Try.prog ekCE c cf ca cc) {rb : Nat} {x : Value} {k : KCE} {v : VCE} {b : Nat} {k0 : KCE} {v0 : VCE} {l r : Tr KCE VCE} (ihl : ∀ (w : World), Tr.lies 104 mkCE w l → l.apart → l.bal → Rise c l.list → l.many < 100000 → Blk w rb #[.func cf ca cc, x] 88 → ¬ l.has rb →
    CallsIn Fence.wide 0 Try.prog 44 #[.pointer (some ⟨rb, 0, none⟩), .pointer l.adr, ekCE k, evCE v] w (PutPostCE c k v l w)) (ihr : ∀ (w : World), Tr.lies 104 mkCE w r → r.apart → r.bal → Rise c r.list → r.many < 100000 → Blk w rb #[.func cf ca cc, x] 88 → ¬ r.has rb →
    CallsIn Fence.wide 0 Try.prog 44 #[.pointer (some ⟨rb, 0, none⟩), .pointer r.adr, ekCE k, evCE v] w (PutPostCE c k v r w)) (w : World) (hlies : Tr.lies 104 mkCE w (Tr.node b k0 v0 l r)) (hap : (Tr.node b k0 v0 l r).apart) (hbal : (Tr.node b k0 v0 l r).bal) (hrise : Rise c (Tr.node b k0 v0 l r).list) (hmany : (Tr.node b k0 v0 l r).many < 100000) (hrb : Blk w rb #[.func cf ca cc, x] 88) (hnrb : ¬ (Tr.node b k0 v0 l r).has rb) (hs : c k k0 = 0) :
        CallsIn Fence.wide 0 Try.prog 44 #[.pointer (some ⟨rb, 0, none⟩), .pointer (Tr.node b k0 v0 l r).adr, ekCE k, evCE v] w (PutPostCE c k v (Tr.node b k0 v0 l r) w) := by
    obtain ⟨hb, hl, hr⟩ := hlies
    obtain ⟨bl, br, g1, g2⟩ := hbal
    have hrise' := hrise
    obtain ⟨r1, r2, _, _, _⟩ := Rise.parts (l := l.list) (r := r.list) (x := (k0, v0)) hrise
    simp only [Tr.has, not_or] at hnrb
    obtain ⟨m1, m2, m3⟩ := hnrb
    simp only [Tr.many] at hmany
    simp only [Tr.adr]
    have qle : ∀ (t' s : Tr KCE VCE), t'.list = putL c k v s.list → Rise c s.list → t'.many ≤ s.many + 1 := fun t' s e h => by rw [← Tr.many_list t', ← Tr.many_list s, e]; exact putL_le hcmp.ord v h
    replace qle := Lib.hid qle
    replace ihl := Lib.hid ihl
    replace ihr := Lib.hid ihr
    · skip
      obtain ⟨e1, _, e2, _, _⟩ := node_eq hcmp.ord (l := l.list) (r := r.list) (x := (k0, v0)) hrise' hs v
      replace e1 := Lib.hid e1
      replace e2 := Lib.hid e2
      replace hrise' := Lib.hid hrise'
      replace hrise := Lib.hid hrise
      have hkk0 := Lib.hid ((hcmp.ord.eq _ _).1 hs)
      have hlw := Lib.hid (fun j h => Tr.lies.lt hl j h)
      have hrw := Lib.hid (fun j h => Tr.lies.lt hr j h)
      have hbw := hb.lt
      have hu0 : Upd (fun _ => False) w ((w.alloc (.cells #[.string (k).1, .string (k).2.1, .int .i64 (k).2.2.1, .int .i64 (k).2.2.2] 24)).alloc (.cells #[.int .i64 (v).ep, .string (v).key, .string (v).pol, .int .i64 (v).kd, .int .i64 (v).st, .int .i64 (v).rev, .bool (v).fin, .int .i64 (v).rk, .int .i64 (v).cnt, .int .i64 (v).sum, .int .i64 (v).mn, .int .i64 (v).mx, .int .i64 (v).q0, .int .i64 (v).q1, .int .i64 (v).q2, .bool (v).over] 63)) := (Upd.alloc _ w _).stepAlloc _
      have qk := (Blk.new w #[.string (k).1, .string (k).2.1, .int .i64 (k).2.2.1, .int .i64 (k).2.2.2] 24).alloc (.cells #[.int .i64 (v).ep, .string (v).key, .string (v).pol, .int .i64 (v).kd, .int .i64 (v).st, .int .i64 (v).rev, .bool (v).fin, .int .i64 (v).rk, .int .i64 (v).cnt, .int .i64 (v).sum, .int .i64 (v).mn, .int .i64 (v).mx, .int .i64 (v).q0, .int .i64 (v).q1, .int .i64 (v).q2, .bool (v).over] 63)
      have qb := Blk.new (w.alloc (.cells #[.string (k).1, .string (k).2.1, .int .i64 (k).2.2.1, .int .i64 (k).2.2.2] 24)) #[.int .i64 (v).ep, .string (v).key, .string (v).pol, .int .i64 (v).kd, .int .i64 (v).st, .int .i64 (v).rev, .bool (v).fin, .int .i64 (v).rk, .int .i64 (v).cnt, .int .i64 (v).sum, .int .i64 (v).mn, .int .i64 (v).mx, .int .i64 (v).q0, .int .i64 (v).q1, .int .i64 (v).q2, .bool (v).over] 63
      rw [World.size_alloc] at qb
      replace hrb := hrb.upd hu0 id
      replace hb := hb.upd hu0 id
      replace hl := hl.upd hu0 (fun _ _ => id)
      replace hr := hr.upd hu0 (fun _ _ => id)
      obtain ⟨W0, hW0⟩ : ∃ W0, ((w.alloc (.cells #[.string (k).1, .string (k).2.1, .int .i64 (k).2.2.1, .int .i64 (k).2.2.2] 24)).alloc (.cells #[.int .i64 (v).ep, .string (v).key, .string (v).pol, .int .i64 (v).kd, .int .i64 (v).st, .int .i64 (v).rev, .bool (v).fin, .int .i64 (v).rk, .int .i64 (v).cnt, .int .i64 (v).sum, .int .i64 (v).mn, .int .i64 (v).mx, .int .i64 (v).q0, .int .i64 (v).q1, .int .i64 (v).q2, .bool (v).over] 63)) = W0 := ⟨_, rfl⟩
      rw [hW0] at hu0 qb hrb hb hl hr qk
      replace qb := Lib.hid qb
      replace qk := Lib.hid qk
      refine callsIn_any (n := 0) (callsIn_of_wp Try.func44 rfl trivial ?_)
      simp only [Try.ntmps44, List.size_toArray, List.length_cons, List.length_nil, Nat.reduceAdd, Nat.reduceSub, Array.replicate_succ, Array.replicate_zero, List.push_toArray, List.append_toArray, List.nil_append, List.cons_append]
      have c0 : W0.cell? ⟨rb, 0, none⟩ = some (.func cf ca cc) := hrb.cell 0
      have c10 : W0.cell? ⟨b, 0, none⟩ = some (.string (k0).1) := hb.cell 0
      have ck0 : W0.cell? ⟨w.heap.size, 0, none⟩ = some (.string (k).1) := qk.out.cell 0
      have c11 : W0.cell? ⟨b, 1, none⟩ = some (.string (k0).2.1) := hb.cell 1
      have ck1 : W0.cell? ⟨w.heap.size, 1, none⟩ = some (.string (k).2.1) := qk.out.cell 1
      have c12 : W0.cell? ⟨b, 2, none⟩ = some (.int .i64 (k0).2.2.1) := hb.cell 2
      have ck2 : W0.cell? ⟨w.heap.size, 2, none⟩ = some (.int .i64 (k).2.2.1) := qk.out.cell 2
      have c13 : W0.cell? ⟨b, 3, none⟩ = some (.int .i64 (k0).2.2.2) := hb.cell 3
      have ck3 : W0.cell? ⟨w.heap.size, 3, none⟩ = some (.int .i64 (k).2.2.2) := qk.out.cell 3
      have hkk := Lib.hid (hcmp.call k k0 W0.drew)
      gi_wp2
      refine wpIn_eager [(0, true), (1, true), (2, true), (3, true), (4, true), (5, true), (6, true), (7, true), (8, true), (9, false), (10, true)] (fun V => V.cell? ⟨rb, 0, none⟩ = some (.func cf ca cc) ∧ V.cell? ⟨b, 0, none⟩ = some (.string (k0).1) ∧ V.cell? ⟨b, 1, none⟩ = some (.string (k0).2.1) ∧ V.cell? ⟨b, 2, none⟩ = some (.int .i64 (k0).2.2.1) ∧ V.cell? ⟨b, 3, none⟩ = some (.int .i64 (k0).2.2.2) ∧ V.cell? ⟨w.heap.size, 0, none⟩ = some (.string (k).1) ∧ V.cell? ⟨w.heap.size, 1, none⟩ = some (.string (k).2.1) ∧ V.cell? ⟨w.heap.size, 2, none⟩ = some (.int .i64 (k).2.2.1) ∧ V.cell? ⟨w.heap.size, 3, none⟩ = some (.int .i64 (k).2.2.2)) (by kernel_rfl) (by kernel_rfl) ⟨c0, c10, c11, c12, c13, ck0, ck1, ck2, ck3⟩ ?_
      refine wpE_fl rfl rfl (fun _ _ => rfl) ?_
      go_simp
      refine wpE_fl rfl rfl (fun _ _ => rfl) ?_
      go_simp
      refine wpE_fl (v := .pointer (some ⟨rb, 0, none⟩)) rfl rfl (fun W' h' => ?_) ?_
      · go_simp
      go_simp
      refine wpE_fl (v := .func cf ca cc) rfl rfl (fun W' h' => ?_) ?_
      · obtain ⟨h1, h20, h21, h22, h23, h24, h25, h26, h27⟩ := h'; go_simp
      go_simp
      refine wpE_fl (v := ekCE k) rfl rfl (fun W' h' => ?_) ?_
      · obtain ⟨h1, h20, h21, h22, h23, h24, h25, h26, h27⟩ := h'; go_simp
      go_simp
      refine wpE_fl rfl rfl (fun _ _ => rfl) ?_
      go_simp
      refine wpE_fl rfl rfl (fun _ _ => rfl) ?_
      go_simp
      refine wpE_fl (v := .pointer (some ⟨b, 0, none⟩)) rfl rfl (fun W' h' => ?_) ?_
      · go_simp
      go_simp
      refine wpE_fl (v := ekCE k0) rfl rfl (fun W' h' => ?_) ?_
      · obtain ⟨h1, h20, h21, h22, h23, h24, h25, h26, h27⟩ := h'; go_simp
      go_simp
      refine wpE_ef rfl ?_
      go_simp
      gi_wp2_with ((with_reducible refine listV2 hkk.out ?_ ?_ ?_ ?_); rfl; rfl; rfl; rintro vv V ⟨rfl, hud⟩; (replace hud := (Upd.drew (fun _ => False) W0).trans' hud))
      clear hkk c0 c10 c11 c12 c13 ck0 ck1 ck2 ck3
      replace hrb := hrb.upd hud id
      replace hb := hb.upd hud id
      replace hl := hl.upd hud (fun _ _ => id)
      replace hr := hr.upd hud (fun _ _ => id)
      replace qk := qk.out.upd hud id
      refine ⟨⟨hrb.cell 0, hb.cell 0, hb.cell 1, hb.cell 2, hb.cell 3, qk.cell 0, qk.cell 1, qk.cell 2, qk.cell 3⟩, ?_⟩
      replace qb := qb.out.upd hud id
      have q0 : V.cell? ⟨w.heap.size, 0, none⟩ = some (.string (k).1) := qk.cell 0
      have q1 : V.cell? ⟨w.heap.size, 1, none⟩ = some (.string (k).2.1) := qk.cell 1
      have q2 : V.cell? ⟨w.heap.size, 2, none⟩ = some (.int .i64 (k).2.2.1) := qk.cell 2
      have q3 : V.cell? ⟨w.heap.size, 3, none⟩ = some (.int .i64 (k).2.2.2) := qk.cell 3
      have q4 : V.cell? ⟨w.heap.size + 1, 0, none⟩ = some (.int .i64 (v).ep) := qb.cell 0
      have q5 : V.cell? ⟨w.heap.size + 1, 1, none⟩ = some (.string (v).key) := qb.cell 1
      have q6 : V.cell? ⟨w.heap.size + 1, 2, none⟩ = some (.string (v).pol) := qb.cell 2
      have q7 : V.cell? ⟨w.heap.size + 1, 3, none⟩ = some (.int .i64 (v).kd) := qb.cell 3
      have q8 : V.cell? ⟨w.heap.size + 1, 4, none⟩ = some (.int .i64 (v).st) := qb.cell 4
      have q9 : V.cell? ⟨w.heap.size + 1, 5, none⟩ = some (.int .i64 (v).rev) := qb.cell 5
      have q10 : V.cell? ⟨w.heap.size + 1, 6, none⟩ = some (.bool (v).fin) := qb.cell 6
      have q11 : V.cell? ⟨w.heap.size + 1, 7, none⟩ = some (.int .i64 (v).rk) := qb.cell 7
      have q12 : V.cell? ⟨w.heap.size + 1, 8, none⟩ = some (.int .i64 (v).cnt) := qb.cell 8
      have q13 : V.cell? ⟨w.heap.size + 1, 9, none⟩ = some (.int .i64 (v).sum) := qb.cell 9
      have q14 : V.cell? ⟨w.heap.size + 1, 10, none⟩ = some (.int .i64 (v).mn) := qb.cell 10
      have q15 : V.cell? ⟨w.heap.size + 1, 11, none⟩ = some (.int .i64 (v).mx) := qb.cell 11
      have q16 : V.cell? ⟨w.heap.size + 1, 12, none⟩ = some (.int .i64 (v).q0) := qb.cell 12
      have q17 : V.cell? ⟨w.heap.size + 1, 13, none⟩ = some (.int .i64 (v).q1) := qb.cell 13
      have q18 : V.cell? ⟨w.heap.size + 1, 14, none⟩ = some (.int .i64 (v).q2) := qb.cell 14
      have q19 : V.cell? ⟨w.heap.size + 1, 15, none⟩ = some (.bool (v).over) := qb.cell 15
      replace hud := hu0.trans' hud
      clear hu0 hW0 qb qk
      refine wpE_fl rfl rfl (fun _ _ => rfl) ?_
      go_simp
      refine wpE_nil ?_
      have c10 : V.cell? ⟨b, 4, none⟩ = some (.int .i64 (v0).ep) := hb.cell 4
      have cf0 := hb.frozen 4
      have c11 : V.cell? ⟨b, 5, none⟩ = some (.string (v0).key) := hb.cell 5
      have cf1 := hb.frozen 5
      have c12 : V.cell? ⟨b, 6, none⟩ = some (.string (v0).pol) := hb.cell 6
      have cf2 := hb.frozen 6
      have c13 : V.cell? ⟨b, 7, none⟩ = some (.int .i64 (v0).kd) := hb.cell 7
      have cf3 := hb.frozen 7
      have c14 : V.cell? ⟨b, 8, none⟩ = some (.int .i64 (v0).st) := hb.cell 8
      have cf4 := hb.frozen 8
      have c15 : V.cell? ⟨b, 9, none⟩ = some (.int .i64 (v0).rev) := hb.cell 9
      have cf5 := hb.frozen 9
      have c16 : V.cell? ⟨b, 10, none⟩ = some (.bool (v0).fin) := hb.cell 10
      have cf6 := hb.frozen 10
      have c17 : V.cell? ⟨b, 11, none⟩ = some (.int .i64 (v0).rk) := hb.cell 11
      have cf7 := hb.frozen 11
      have c18 : V.cell? ⟨b, 12, none⟩ = some (.int .i64 (v0).cnt) := hb.cell 12
      have cf8 := hb.frozen 12
      have c19 : V.cell? ⟨b, 13, none⟩ = some (.int .i64 (v0).sum) := hb.cell 13
      have cf9 := hb.frozen 13
      have c110 : V.cell? ⟨b, 14, none⟩ = some (.int .i64 (v0).mn) := hb.cell 14
      have cf10 := hb.frozen 14
      have c111 : V.cell? ⟨b, 15, none⟩ = some (.int .i64 (v0).mx) := hb.cell 15
      have cf11 := hb.frozen 15
      have c112 : V.cell? ⟨b, 16, none⟩ = some (.int .i64 (v0).q0) := hb.cell 16
      have cf12 := hb.frozen 16
      have c113 : V.cell? ⟨b, 17, none⟩ = some (.int .i64 (v0).q1) := hb.cell 17
      have cf13 := hb.frozen 17
      have c114 : V.cell? ⟨b, 18, none⟩ = some (.int .i64 (v0).q2) := hb.cell 18
      have cf14 := hb.frozen 18
      have c115 : V.cell? ⟨b, 19, none⟩ = some (.bool (v0).over) := hb.cell 19
      have cf15 := hb.frozen 19
      have cl := hb.lt
      have hus : Upd (fun j => j = b) V ((((((((((((((((V.setCell ⟨b, 4, none⟩ (.int .i64 (v).ep)).setCell ⟨b, 5, none⟩ (.string (v).key)).setCell ⟨b, 6, none⟩ (.string (v).pol)).setCell ⟨b, 7, none⟩ (.int .i64 (v).kd)).setCell ⟨b, 8, none⟩ (.int .i64 (v).st)).setCell ⟨b, 9, none⟩ (.int .i64 (v).rev)).setCell ⟨b, 10, none⟩ (.bool (v).fin)).setCell ⟨b, 11, none⟩ (.int .i64 (v).rk)).setCell ⟨b, 12, none⟩ (.int .i64 (v).cnt)).setCell ⟨b, 13, none⟩ (.int .i64 (v).sum)).setCell ⟨b, 14, none⟩ (.int .i64 (v).mn)).setCell ⟨b, 15, none⟩ (.int .i64 (v).mx)).setCell ⟨b, 16, none⟩ (.int .i64 (v).q0)).setCell ⟨b, 17, none⟩ (.int .i64 (v).q1)).setCell ⟨b, 18, none⟩ (.int .i64 (v).q2)).setCell ⟨b, 19, none⟩ (.bool (v).over)) := by
          have h0 := Upd.refl (fun j => j = b) V
          replace h0 := h0.stepSet (p := ⟨b, 4, none⟩) (.inl rfl) (.int .i64 (v).ep)
          replace h0 := h0.stepSet (p := ⟨b, 5, none⟩) (.inl rfl) (.string (v).key)
          replace h0 := h0.stepSet (p := ⟨b, 6, none⟩) (.inl rfl) (.string (v).pol)
          replace h0 := h0.stepSet (p := ⟨b, 7, none⟩) (.inl rfl) (.int .i64 (v).kd)
          replace h0 := h0.stepSet (p := ⟨b, 8, none⟩) (.inl rfl) (.int .i64 (v).st)
          replace h0 := h0.stepSet (p := ⟨b, 9, none⟩) (.inl rfl) (.int .i64 (v).rev)
          replace h0 := h0.stepSet (p := ⟨b, 10, none⟩) (.inl rfl) (.bool (v).fin)
          replace h0 := h0.stepSet (p := ⟨b, 11, none⟩) (.inl rfl) (.int .i64 (v).rk)
          replace h0 := h0.stepSet (p := ⟨b, 12, none⟩) (.inl rfl) (.int .i64 (v).cnt)
          replace h0 := h0.stepSet (p := ⟨b, 13, none⟩) (.inl rfl) (.int .i64 (v).sum)
          replace h0 := h0.stepSet (p := ⟨b, 14, none⟩) (.inl rfl) (.int .i64 (v).mn)
          replace h0 := h0.stepSet (p := ⟨b, 15, none⟩) (.inl rfl) (.int .i64 (v).mx)
          replace h0 := h0.stepSet (p := ⟨b, 16, none⟩) (.inl rfl) (.int .i64 (v).q0)
          replace h0 := h0.stepSet (p := ⟨b, 17, none⟩) (.inl rfl) (.int .i64 (v).q1)
          replace h0 := h0.stepSet (p := ⟨b, 18, none⟩) (.inl rfl) (.int .i64 (v).q2)
          replace h0 := h0.stepSet (p := ⟨b, 19, none⟩) (.inl rfl) (.bool (v).over)
          exact h0
      have hb3 : Blk ((((((((((((((((V.setCell ⟨b, 4, none⟩ (.int .i64 (v).ep)).setCell ⟨b, 5, none⟩ (.string (v).key)).setCell ⟨b, 6, none⟩ (.string (v).pol)).setCell ⟨b, 7, none⟩ (.int .i64 (v).kd)).setCell ⟨b, 8, none⟩ (.int .i64 (v).st)).setCell ⟨b, 9, none⟩ (.int .i64 (v).rev)).setCell ⟨b, 10, none⟩ (.bool (v).fin)).setCell ⟨b, 11, none⟩ (.int .i64 (v).rk)).setCell ⟨b, 12, none⟩ (.int .i64 (v).cnt)).setCell ⟨b, 13, none⟩ (.int .i64 (v).sum)).setCell ⟨b, 14, none⟩ (.int .i64 (v).mn)).setCell ⟨b, 15, none⟩ (.int .i64 (v).mx)).setCell ⟨b, 16, none⟩ (.int .i64 (v).q0)).setCell ⟨b, 17, none⟩ (.int .i64 (v).q1)).setCell ⟨b, 18, none⟩ (.int .i64 (v).q2)).setCell ⟨b, 19, none⟩ (.bool (v).over)) b (mkCE k0 v (.pointer l.adr) (.pointer r.adr) ((1 + max l.high r.high : Nat) : Int) ((1 + l.many + r.many : Nat) : Int)) 104 := by simpa [mkCE] using (((((((((((((((hb.set 4 (.int .i64 (v).ep)).set 5 (.string (v).key)).set 6 (.string (v).pol)).set 7 (.int .i64 (v).kd)).set 8 (.int .i64 (v).st)).set 9 (.int .i64 (v).rev)).set 10 (.bool (v).fin)).set 11 (.int .i64 (v).rk)).set 12 (.int .i64 (v).cnt)).set 13 (.int .i64 (v).sum)).set 14 (.int .i64 (v).mn)).set 15 (.int .i64 (v).mx)).set 16 (.int .i64 (v).q0)).set 17 (.int .i64 (v).q1)).set 18 (.int .i64 (v).q2)).set 19 (.bool (v).over)
      have hl3 : Tr.lies 104 mkCE ((((((((((((((((V.setCell ⟨b, 4, none⟩ (.int .i64 (v).ep)).setCell ⟨b, 5, none⟩ (.string (v).key)).setCell ⟨b, 6, none⟩ (.string (v).pol)).setCell ⟨b, 7, none⟩ (.int .i64 (v).kd)).setCell ⟨b, 8, none⟩ (.int .i64 (v).st)).setCell ⟨b, 9, none⟩ (.int .i64 (v).rev)).setCell ⟨b, 10, none⟩ (.bool (v).fin)).setCell ⟨b, 11, none⟩ (.int .i64 (v).rk)).setCell ⟨b, 12, none⟩ (.int .i64 (v).cnt)).setCell ⟨b, 13, none⟩ (.int .i64 (v).sum)).setCell ⟨b, 14, none⟩ (.int .i64 (v).mn)).setCell ⟨b, 15, none⟩ (.int .i64 (v).mx)).setCell ⟨b, 16, none⟩ (.int .i64 (v).q0)).setCell ⟨b, 17, none⟩ (.int .i64 (v).q1)).setCell ⟨b, 18, none⟩ (.int .i64 (v).q2)).setCell ⟨b, 19, none⟩ (.bool (v).over)) l := hl.upd hus (fun j h e => hap.1 (e ▸ h))
      have hr3 : Tr.lies 104 mkCE ((((((((((((((((V.setCell ⟨b, 4, none⟩ (.int .i64 (v).ep)).setCell ⟨b, 5, none⟩ (.string (v).key)).setCell ⟨b, 6, none⟩ (.string (v).pol)).setCell ⟨b, 7, none⟩ (.int .i64 (v).kd)).setCell ⟨b, 8, none⟩ (.int .i64 (v).st)).setCell ⟨b, 9, none⟩ (.int .i64 (v).rev)).setCell ⟨b, 10, none⟩ (.bool (v).fin)).setCell ⟨b, 11, none⟩ (.int .i64 (v).rk)).setCell ⟨b, 12, none⟩ (.int .i64 (v).cnt)).setCell ⟨b, 13, none⟩ (.int .i64 (v).sum)).setCell ⟨b, 14, none⟩ (.int .i64 (v).mn)).setCell ⟨b, 15, none⟩ (.int .i64 (v).mx)).setCell ⟨b, 16, none⟩ (.int .i64 (v).q0)).setCell ⟨b, 17, none⟩ (.int .i64 (v).q1)).setCell ⟨b, 18, none⟩ (.int .i64 (v).q2)).setCell ⟨b, 19, none⟩ (.bool (v).over)) r := hr.upd hus (fun j h e => hap.2.1 (e ▸ h))
      have hap' : (Tr.node b k0 v l r).apart := hap
      have fin := Lib.hid (evenCE (n := 0) hb3 hl3 hr3 hap' bl br (by omega) (by omega) (by omega))
      clear hb3 hl3 hr3
      have hs2 : ¬ c k k0 < 0 := by omega
      have hs3 : ¬ 0 < c k k0 := by omega
      gi_wp2_with (first | refine (⟨trivial, rfl, ?_⟩ : Fence.wide.fn _ ∧ Fence.wide.depth = none ∧ _) | (gi_at_call 57; refine fin.out.mono ?_; rintro e W3 ⟨t2, rfl, y1, y2, y3, y4, y5, y6, y7, y8, y9⟩))
      refine bodyPost_ret (results_tmp2 rfl _ _ _) rfl ?_
      refine ⟨t2, ?_, y1, y2, y3, ?_, fun j hj => .inl ((y5 j).1 hj), ?_, ?_, ?_⟩
      · show Ending.returned (Value.tuple #[Value.pointer t2.adr, Value.bool true]) = _
        rw [show (Tr.node b k0 v0 l r).list = l.list ++ (k0, v0) :: r.list from rfl, e2.out]
      · rw [y4]; exact (congrArg (fun q => l.list ++ (q, v) :: r.list) hkk0.out.symm).trans e1.out.symm
      · exact ((hud.mono (M' := (Tr.node b k0 v0 l r).has) fun _ _ h => h.elim).trans hus (fun j hj => .inl (.inl hj))).trans y6 (fun j hj => .inl hj)
      · simp only [Tr.high]; have := y9 g1 g2; omega
      · simp only [Tr.high]; omega
set_option maxRecDepth 100000 in
set_option maxHeartbeats 2000000 in
theorem put3CE {c : KCE → KCE → Int} {cf : Fn} {ca cc : Array Value} (hcmp : CmpV Try.prog ekCE c cf ca cc) {rb : Nat} {x : Value} {k : KCE} {v : VCE} {b : Nat} {k0 : KCE} {v0 : VCE} {l r : Tr KCE VCE} (ihl : ∀ (w : World), Tr.lies 104 mkCE w l → l.apart → l.bal → Rise c l.list → l.many < 100000 → Blk w rb #[.func cf ca cc, x] 88 → ¬ l.has rb →
    CallsIn Fence.wide 0 Try.prog 44 #[.pointer (some ⟨rb, 0, none⟩), .pointer l.adr, ekCE k, evCE v] w (PutPostCE c k v l w)) (ihr : ∀ (w : World), Tr.lies 104 mkCE w r → r.apart → r.bal → Rise c r.list → r.many < 100000 → Blk w rb #[.func cf ca cc, x] 88 → ¬ r.has rb →
    CallsIn Fence.wide 0 Try.prog 44 #[.pointer (some ⟨rb, 0, none⟩), .pointer r.adr, ekCE k, evCE v] w (PutPostCE c k v r w)) (w : World) (hlies : Tr.lies 104 mkCE w (Tr.node b k0 v0 l r)) (hap : (Tr.node b k0 v0 l r).apart) (hbal : (Tr.node b k0 v0 l r).bal) (hrise : Rise c (Tr.node b k0 v0 l r).list) (hmany : (Tr.node b k0 v0 l r).many < 100000) (hrb : Blk w rb #[.func cf ca cc, x] 88) (hnrb : ¬ (Tr.node b k0 v0 l r).has rb) (hs : 0 < c k k0) :
        CallsIn Fence.wide 0 Try.prog 44 #[.pointer (some ⟨rb, 0, none⟩), .pointer (Tr.node b k0 v0 l r).adr, ekCE k, evCE v] w (PutPostCE c k v (Tr.node b k0 v0 l r) w) := by
    obtain ⟨hb, hl, hr⟩ := hlies
    obtain ⟨bl, br, g1, g2⟩ := hbal
    have hrise' := hrise
    obtain ⟨r1, r2, _, _, _⟩ := Rise.parts (l := l.list) (r := r.list) (x := (k0, v0)) hrise
    simp only [Tr.has, not_or] at hnrb
    obtain ⟨m1, m2, m3⟩ := hnrb
    simp only [Tr.many] at hmany
    simp only [Tr.adr]
    have qle : ∀ (t' s : Tr KCE VCE), t'.list = putL c k v s.list → Rise c s.list → t'.many ≤ s.many + 1 := fun t' s e h => by rw [← Tr.many_list t', ← Tr.many_list s, e]; exact putL_le hcmp.ord v h
    replace qle := Lib.hid qle
    replace ihl := Lib.hid ihl
    replace ihr := Lib.hid ihr
    · skip
      obtain ⟨e1, _, e2, _, _⟩ := node_gt hcmp.ord (l := l.list) (r := r.list) (x := (k0, v0)) hrise' hs v
      replace e1 := Lib.hid e1
      replace e2 := Lib.hid e2
      replace hrise' := Lib.hid hrise'
      replace hrise := Lib.hid hrise
      have hlw := Lib.hid (fun j h => Tr.lies.lt hl j h)
      have hrw := Lib.hid (fun j h => Tr.lies.lt hr j h)
      have hbw := hb.lt
      have hu0 : Upd (fun _ => False) w ((w.alloc (.cells #[.string (k).1, .string (k).2.1, .int .i64 (k).2.2.1, .int .i64 (k).2.2.2] 24)).alloc (.cells #[.int .i64 (v).ep, .string (v).key, .string (v).pol, .int .i64 (v).kd, .int .i64 (v).st, .int .i64 (v).rev, .bool (v).fin, .int .i64 (v).rk, .int .i64 (v).cnt, .int .i64 (v).sum, .int .i64 (v).mn, .int .i64 (v).mx, .int .i64 (v).q0, .int .i64 (v).q1, .int .i64 (v).q2, .bool (v).over] 63)) := (Upd.alloc _ w _).stepAlloc _
      have qk := (Blk.new w #[.string (k).1, .string (k).2.1, .int .i64 (k).2.2.1, .int .i64 (k).2.2.2] 24).alloc (.cells #[.int .i64 (v).ep, .string (v).key, .string (v).pol, .int .i64 (v).kd, .int .i64 (v).st, .int .i64 (v).rev, .bool (v).fin, .int .i64 (v).rk, .int .i64 (v).cnt, .int .i64 (v).sum, .int .i64 (v).mn, .int .i64 (v).mx, .int .i64 (v).q0, .int .i64 (v).q1, .int .i64 (v).q2, .bool (v).over] 63)
      have qb := Blk.new (w.alloc (.cells #[.string (k).1, .string (k).2.1, .int .i64 (k).2.2.1, .int .i64 (k).2.2.2] 24)) #[.int .i64 (v).ep, .string (v).key, .string (v).pol, .int .i64 (v).kd, .int .i64 (v).st, .int .i64 (v).rev, .bool (v).fin, .int .i64 (v).rk, .int .i64 (v).cnt, .int .i64 (v).sum, .int .i64 (v).mn, .int .i64 (v).mx, .int .i64 (v).q0, .int .i64 (v).q1, .int .i64 (v).q2, .bool (v).over] 63
      rw [World.size_alloc] at qb
      replace hrb := hrb.upd hu0 id
      replace hb := hb.upd hu0 id
      replace hl := hl.upd hu0 (fun _ _ => id)
      replace hr := hr.upd hu0 (fun _ _ => id)
      obtain ⟨W0, hW0⟩ : ∃ W0, ((w.alloc (.cells #[.string (k).1, .string (k).2.1, .int .i64 (k).2.2.1, .int .i64 (k).2.2.2] 24)).alloc (.cells #[.int .i64 (v).ep, .string (v).key, .string (v).pol, .int .i64 (v).kd, .int .i64 (v).st, .int .i64 (v).rev, .bool (v).fin, .int .i64 (v).rk, .int .i64 (v).cnt, .int .i64 (v).sum, .int .i64 (v).mn, .int .i64 (v).mx, .int .i64 (v).q0, .int .i64 (v).q1, .int .i64 (v).q2, .bool (v).over] 63)) = W0 := ⟨_, rfl⟩
      rw [hW0] at hu0 qb hrb hb hl hr qk
      replace qb := Lib.hid qb
      replace qk := Lib.hid qk
      refine callsIn_any (n := 0) (callsIn_of_wp Try.func44 rfl trivial ?_)
      simp only [Try.ntmps44, List.size_toArray, List.length_cons, List.length_nil, Nat.reduceAdd, Nat.reduceSub, Array.replicate_succ, Array.replicate_zero, List.push_toArray, List.append_toArray, List.nil_append, List.cons_append]
      have c0 : W0.cell? ⟨rb, 0, none⟩ = some (.func cf ca cc) := hrb.cell 0
      have c10 : W0.cell? ⟨b, 0, none⟩ = some (.string (k0).1) := hb.cell 0
      have ck0 : W0.cell? ⟨w.heap.size, 0, none⟩ = some (.string (k).1) := qk.out.cell 0
      have c11 : W0.cell? ⟨b, 1, none⟩ = some (.string (k0).2.1) := hb.cell 1
      have ck1 : W0.cell? ⟨w.heap.size, 1, none⟩ = some (.string (k).2.1) := qk.out.cell 1
      have c12 : W0.cell? ⟨b, 2, none⟩ = some (.int .i64 (k0).2.2.1) := hb.cell 2
      have ck2 : W0.cell? ⟨w.heap.size, 2, none⟩ = some (.int .i64 (k).2.2.1) := qk.out.cell 2
      have c13 : W0.cell? ⟨b, 3, none⟩ = some (.int .i64 (k0).2.2.2) := hb.cell 3
      have ck3 : W0.cell? ⟨w.heap.size, 3, none⟩ = some (.int .i64 (k).2.2.2) := qk.out.cell 3
      have hkk := Lib.hid (hcmp.call k k0 W0.drew)
      gi_wp2
      refine wpIn_eager [(0, true), (1, true), (2, true), (3, true), (4, true), (5, true), (6, true), (7, true), (8, true), (9, false), (10, true)] (fun V => V.cell? ⟨rb, 0, none⟩ = some (.func cf ca cc) ∧ V.cell? ⟨b, 0, none⟩ = some (.string (k0).1) ∧ V.cell? ⟨b, 1, none⟩ = some (.string (k0).2.1) ∧ V.cell? ⟨b, 2, none⟩ = some (.int .i64 (k0).2.2.1) ∧ V.cell? ⟨b, 3, none⟩ = some (.int .i64 (k0).2.2.2) ∧ V.cell? ⟨w.heap.size, 0, none⟩ = some (.string (k).1) ∧ V.cell? ⟨w.heap.size, 1, none⟩ = some (.string (k).2.1) ∧ V.cell? ⟨w.heap.size, 2, none⟩ = some (.int .i64 (k).2.2.1) ∧ V.cell? ⟨w.heap.size, 3, none⟩ = some (.int .i64 (k).2.2.2)) (by kernel_rfl) (by kernel_rfl) ⟨c0, c10, c11, c12, c13, ck0, ck1, ck2, ck3⟩ ?_
      refine wpE_fl rfl rfl (fun _ _ => rfl) ?_
      go_simp
      refine wpE_fl rfl rfl (fun _ _ => rfl) ?_
      go_simp
      refine wpE_fl (v := .pointer (some ⟨rb, 0, none⟩)) rfl rfl (fun W' h' => ?_) ?_
      · go_simp
      go_simp
      refine wpE_fl (v := .func cf ca cc) rfl rfl (fun W' h' => ?_) ?_
      · obtain ⟨h1, h20, h21, h22, h23, h24, h25, h26, h27⟩ := h'; go_simp
      go_simp
      refine wpE_fl (v := ekCE k) rfl rfl (fun W' h' => ?_) ?_
      · obtain ⟨h1, h20, h21, h22, h23, h24, h25, h26, h27⟩ := h'; go_simp
      go_simp
      refine wpE_fl rfl rfl (fun _ _ => rfl) ?_
      go_simp
      refine wpE_fl rfl rfl (fun _ _ => rfl) ?_
      go_simp
      refine wpE_fl (v := .pointer (some ⟨b, 0, none⟩)) rfl rfl (fun W' h' => ?_) ?_
      · go_simp
      go_simp
      refine wpE_fl (v := ekCE k0) rfl rfl (fun W' h' => ?_) ?_
      · obtain ⟨h1, h20, h21, h22, h23, h24, h25, h26, h27⟩ := h'; go_simp
      go_simp
      refine wpE_ef rfl ?_
      go_simp
      gi_wp2_with ((with_reducible refine listV2 hkk.out ?_ ?_ ?_ ?_); rfl; rfl; rfl; rintro vv V ⟨rfl, hud⟩; (replace hud := (Upd.drew (fun _ => False) W0).trans' hud))
      clear hkk c0 c10 c11 c12 c13 ck0 ck1 ck2 ck3
      replace hrb := hrb.upd hud id
      replace hb := hb.upd hud id
      replace hl := hl.upd hud (fun _ _ => id)
      replace hr := hr.upd hud (fun _ _ => id)
      replace qk := qk.out.upd hud id
      refine ⟨⟨hrb.cell 0, hb.cell 0, hb.cell 1, hb.cell 2, hb.cell 3, qk.cell 0, qk.cell 1, qk.cell 2, qk.cell 3⟩, ?_⟩
      replace qb := qb.out.upd hud id
      have q0 : V.cell? ⟨w.heap.size, 0, none⟩ = some (.string (k).1) := qk.cell 0
      have q1 : V.cell? ⟨w.heap.size, 1, none⟩ = some (.string (k).2.1) := qk.cell 1
      have q2 : V.cell? ⟨w.heap.size, 2, none⟩ = some (.int .i64 (k).2.2.1) := qk.cell 2
      have q3 : V.cell? ⟨w.heap.size, 3, none⟩ = some (.int .i64 (k).2.2.2) := qk.cell 3
      have q4 : V.cell? ⟨w.heap.size + 1, 0, none⟩ = some (.int .i64 (v).ep) := qb.cell 0
      have q5 : V.cell? ⟨w.heap.size + 1, 1, none⟩ = some (.string (v).key) := qb.cell 1
      have q6 : V.cell? ⟨w.heap.size + 1, 2, none⟩ = some (.string (v).pol) := qb.cell 2
      have q7 : V.cell? ⟨w.heap.size + 1, 3, none⟩ = some (.int .i64 (v).kd) := qb.cell 3
      have q8 : V.cell? ⟨w.heap.size + 1, 4, none⟩ = some (.int .i64 (v).st) := qb.cell 4
      have q9 : V.cell? ⟨w.heap.size + 1, 5, none⟩ = some (.int .i64 (v).rev) := qb.cell 5
      have q10 : V.cell? ⟨w.heap.size + 1, 6, none⟩ = some (.bool (v).fin) := qb.cell 6
      have q11 : V.cell? ⟨w.heap.size + 1, 7, none⟩ = some (.int .i64 (v).rk) := qb.cell 7
      have q12 : V.cell? ⟨w.heap.size + 1, 8, none⟩ = some (.int .i64 (v).cnt) := qb.cell 8
      have q13 : V.cell? ⟨w.heap.size + 1, 9, none⟩ = some (.int .i64 (v).sum) := qb.cell 9
      have q14 : V.cell? ⟨w.heap.size + 1, 10, none⟩ = some (.int .i64 (v).mn) := qb.cell 10
      have q15 : V.cell? ⟨w.heap.size + 1, 11, none⟩ = some (.int .i64 (v).mx) := qb.cell 11
      have q16 : V.cell? ⟨w.heap.size + 1, 12, none⟩ = some (.int .i64 (v).q0) := qb.cell 12
      have q17 : V.cell? ⟨w.heap.size + 1, 13, none⟩ = some (.int .i64 (v).q1) := qb.cell 13
      have q18 : V.cell? ⟨w.heap.size + 1, 14, none⟩ = some (.int .i64 (v).q2) := qb.cell 14
      have q19 : V.cell? ⟨w.heap.size + 1, 15, none⟩ = some (.bool (v).over) := qb.cell 15
      replace hud := hu0.trans' hud
      clear hu0 hW0
      refine wpE_fl rfl rfl (fun _ _ => rfl) ?_
      go_simp
      refine wpE_nil ?_
      have c3 : V.cell? ⟨b, 21, none⟩ = some (.pointer r.adr) := hb.cell 21
      have hs2 : ¬ c k k0 < 0 := by omega
      replace hrb := hrb.upd (Upd.drew (fun _ => False) V) id
      replace hb := hb.upd (Upd.drew (fun _ => False) V) id
      replace hl := hl.upd (Upd.drew (fun _ => False) V) (fun _ _ => id)
      replace hr := hr.upd (Upd.drew (fun _ => False) V) (fun _ _ => id)
      replace qb := qb.upd (Upd.drew (fun _ => False) V) id
      replace qk := qk.upd (Upd.drew (fun _ => False) V) id
      replace hud := hud.stepDrew
      replace c3 : V.drew.cell? ⟨b, 21, none⟩ = some (.pointer r.adr) := hb.cell 21
      have k1 := ihr.out V.drew hr hap.2.2.2.2 br r2 (by omega) hrb m3
      have k2 : CallsIn Fence.wide 0 Try.prog 44 #[.pointer (some ⟨rb, 0, none⟩), .pointer r.adr, ekCE k, evCE v] V.drew fun e W2 => ∃ t1 : Tr KCE VCE, e = .returned (.tuple #[.pointer t1.adr, .bool (hadL c k r.list)]) ∧ W2.cell? ⟨b, 21, none⟩ = some (.pointer r.adr) ∧ W2.frozen? ⟨b, 21, none⟩ = false ∧ b < W2.heap.size ∧ (W2.cell? ⟨w.heap.size, 0, none⟩ = some (.string (k).1) ∧ W2.cell? ⟨w.heap.size, 1, none⟩ = some (.string (k).2.1) ∧ W2.cell? ⟨w.heap.size, 2, none⟩ = some (.int .i64 (k).2.2.1) ∧ W2.cell? ⟨w.heap.size, 3, none⟩ = some (.int .i64 (k).2.2.2) ∧ W2.cell? ⟨w.heap.size + 1, 0, none⟩ = some (.int .i64 (v).ep) ∧ W2.cell? ⟨w.heap.size + 1, 1, none⟩ = some (.string (v).key) ∧ W2.cell? ⟨w.heap.size + 1, 2, none⟩ = some (.string (v).pol) ∧ W2.cell? ⟨w.heap.size + 1, 3, none⟩ = some (.int .i64 (v).kd) ∧ W2.cell? ⟨w.heap.size + 1, 4, none⟩ = some (.int .i64 (v).st) ∧ W2.cell? ⟨w.heap.size + 1, 5, none⟩ = some (.int .i64 (v).rev) ∧ W2.cell? ⟨w.heap.size + 1, 6, none⟩ = some (.bool (v).fin) ∧ W2.cell? ⟨w.heap.size + 1, 7, none⟩ = some (.int .i64 (v).rk) ∧ W2.cell? ⟨w.heap.size + 1, 8, none⟩ = some (.int .i64 (v).cnt) ∧ W2.cell? ⟨w.heap.size + 1, 9, none⟩ = some (.int .i64 (v).sum) ∧ W2.cell? ⟨w.heap.size + 1, 10, none⟩ = some (.int .i64 (v).mn) ∧ W2.cell? ⟨w.heap.size + 1, 11, none⟩ = some (.int .i64 (v).mx) ∧ W2.cell? ⟨w.heap.size + 1, 12, none⟩ = some (.int .i64 (v).q0) ∧ W2.cell? ⟨w.heap.size + 1, 13, none⟩ = some (.int .i64 (v).q1) ∧ W2.cell? ⟨w.heap.size + 1, 14, none⟩ = some (.int .i64 (v).q2) ∧ W2.cell? ⟨w.heap.size + 1, 15, none⟩ = some (.bool (v).over)) ∧ ((W2.setCell ⟨b, 21, none⟩ (.pointer t1.adr)).cell? ⟨w.heap.size, 0, none⟩ = some (.string (k).1) ∧ (W2.setCell ⟨b, 21, none⟩ (.pointer t1.adr)).cell? ⟨w.heap.size, 1, none⟩ = some (.string (k).2.1) ∧ (W2.setCell ⟨b, 21, none⟩ (.pointer t1.adr)).cell? ⟨w.heap.size, 2, none⟩ = some (.int .i64 (k).2.2.1) ∧ (W2.setCell ⟨b, 21, none⟩ (.pointer t1.adr)).cell? ⟨w.heap.size, 3, none⟩ = some (.int .i64 (k).2.2.2) ∧ (W2.setCell ⟨b, 21, none⟩ (.pointer t1.adr)).cell? ⟨w.heap.size + 1, 0, none⟩ = some (.int .i64 (v).ep) ∧ (W2.setCell ⟨b, 21, none⟩ (.pointer t1.adr)).cell? ⟨w.heap.size + 1, 1, none⟩ = some (.string (v).key) ∧ (W2.setCell ⟨b, 21, none⟩ (.pointer t1.adr)).cell? ⟨w.heap.size + 1, 2, none⟩ = some (.string (v).pol) ∧ (W2.setCell ⟨b, 21, none⟩ (.pointer t1.adr)).cell? ⟨w.heap.size + 1, 3, none⟩ = some (.int .i64 (v).kd) ∧ (W2.setCell ⟨b, 21, none⟩ (.pointer t1.adr)).cell? ⟨w.heap.size + 1, 4, none⟩ = some (.int .i64 (v).st) ∧ (W2.setCell ⟨b, 21, none⟩ (.pointer t1.adr)).cell? ⟨w.heap.size + 1, 5, none⟩ = some (.int .i64 (v).rev) ∧ (W2.setCell ⟨b, 21, none⟩ (.pointer t1.adr)).cell? ⟨w.heap.size + 1, 6, none⟩ = some (.bool (v).fin) ∧ (W2.setCell ⟨b, 21, none⟩ (.pointer t1.adr)).cell? ⟨w.heap.size + 1, 7, none⟩ = some (.int .i64 (v).rk) ∧ (W2.setCell ⟨b, 21, none⟩ (.pointer t1.adr)).cell? ⟨w.heap.size + 1, 8, none⟩ = some (.int .i64 (v).cnt) ∧ (W2.setCell ⟨b, 21, none⟩ (.pointer t1.adr)).cell? ⟨w.heap.size + 1, 9, none⟩ = some (.int .i64 (v).sum) ∧ (W2.setCell ⟨b, 21, none⟩ (.pointer t1.adr)).cell? ⟨w.heap.size + 1, 10, none⟩ = some (.int .i64 (v).mn) ∧ (W2.setCell ⟨b, 21, none⟩ (.pointer t1.adr)).cell? ⟨w.heap.size + 1, 11, none⟩ = some (.int .i64 (v).mx) ∧ (W2.setCell ⟨b, 21, none⟩ (.pointer t1.adr)).cell? ⟨w.heap.size + 1, 12, none⟩ = some (.int .i64 (v).q0) ∧ (W2.setCell ⟨b, 21, none⟩ (.pointer t1.adr)).cell? ⟨w.heap.size + 1, 13, none⟩ = some (.int .i64 (v).q1) ∧ (W2.setCell ⟨b, 21, none⟩ (.pointer t1.adr)).cell? ⟨w.heap.size + 1, 14, none⟩ = some (.int .i64 (v).q2) ∧ (W2.setCell ⟨b, 21, none⟩ (.pointer t1.adr)).cell? ⟨w.heap.size + 1, 15, none⟩ = some (.bool (v).over)) ∧
          CallsIn Fence.wide 0 Try.prog 57 #[.pointer (some ⟨b, 0, none⟩)] (W2.setCell ⟨b, 21, none⟩ (.pointer t1.adr)) fun e W3 => ∃ t2 : Tr KCE VCE, e = .returned (.pointer t2.adr) ∧ PutFinCE c k v (Tr.node b k0 v0 l r) w t2 W3 := by
        refine k1.mono ?_
        rintro e W2 ⟨t1, rfl, z1, z2, z3, z4, z5, z6, z7, z8⟩
        have hz := hud.size
        have nb : ¬ t1.has b := fun h => by
          rcases z5 b h with h | h
          · exact hap.2.1 h
          · have := hb.lt; omega
        have hap' : (Tr.node b k0 v0 l t1).apart := by
          refine ⟨hap.1, nb, fun j h h' => ?_, hap.2.2.2.1, z2⟩
          rcases z5 j h' with h' | h'
          · exact hap.2.2.1 j h h'
          · have := hl.lt j h; omega
        have hb2 := hb.upd z6 hap.2.1
        have ho2 := hl.upd z6 (fun j h h' => hap.2.2.1 j h h')
        have hb3 : Blk (W2.setCell ⟨b, 21, none⟩ (.pointer t1.adr)) b (mkCE k0 v0 (.pointer l.adr) (.pointer t1.adr) ((1 + max l.high r.high : Nat) : Int) ((1 + l.many + r.many : Nat) : Int)) 104 := by simpa [mkCE] using hb2.set 21 (.pointer t1.adr)
        have z1' : Tr.lies 104 mkCE (W2.setCell ⟨b, 21, none⟩ (.pointer t1.adr)) t1 := z1.upd (Upd.setCell (M := fun j => j = b) rfl _) (fun j h e => nb (e ▸ h))
        have ho3 : Tr.lies 104 mkCE (W2.setCell ⟨b, 21, none⟩ (.pointer t1.adr)) l := ho2.upd (Upd.setCell (M := fun j => j = b) rfl _) (fun j h e => hap.1 (e ▸ h))
        have hq := qle.out t1 r z4 r2
        have qk2 := qk.upd z6 (fun h => by have := hrw.out _ h; omega)
        have qk3 := qk2.other (p := ⟨b, 21, none⟩) (by dsimp only; omega) (.pointer t1.adr)
        have qb2 := qb.upd z6 (fun h => by have := hrw.out _ h; omega)
        have qb3 := qb2.other (p := ⟨b, 21, none⟩) (by dsimp only; omega) (.pointer t1.adr)
        refine ⟨t1, rfl, hb2.cell 21, hb2.frozen 21, hb2.lt, ⟨qk2.cell 0, qk2.cell 1, qk2.cell 2, qk2.cell 3, qb2.cell 0, qb2.cell 1, qb2.cell 2, qb2.cell 3, qb2.cell 4, qb2.cell 5, qb2.cell 6, qb2.cell 7, qb2.cell 8, qb2.cell 9, qb2.cell 10, qb2.cell 11, qb2.cell 12, qb2.cell 13, qb2.cell 14, qb2.cell 15⟩, ⟨qk3.cell 0, qk3.cell 1, qk3.cell 2, qk3.cell 3, qb3.cell 0, qb3.cell 1, qb3.cell 2, qb3.cell 3, qb3.cell 4, qb3.cell 5, qb3.cell 6, qb3.cell 7, qb3.cell 8, qb3.cell 9, qb3.cell 10, qb3.cell 11, qb3.cell 12, qb3.cell 13, qb3.cell 14, qb3.cell 15⟩, ?_⟩
        refine (evenCE (n := 0) hb3 ho3 z1' hap' bl z3 (by omega) (by omega) (by omega)).mono ?_
        rintro e W3 ⟨t2, rfl, y1, y2, y3, y4, y5, y6, y7, y8, y9⟩
        refine ⟨t2, rfl, y1, y2, y3, ?_, fun j hj => ?_, ?_, ?_, ?_⟩
        · rw [y4, z4]; exact e1.out.symm
        · rcases (y5 j).1 hj with h | h | h
          · exact .inl (.inl h)
          · exact .inl (.inr (.inl h))
          · exact (z5 j h).elim (fun h => .inl (.inr (.inr h))) (fun h => .inr (by omega))
        · refine (((hud.mono (M' := (Tr.node b k0 v0 l r).has) fun _ _ h => h.elim).trans' (z6.mono fun j _ h => .inr (.inr h))).stepSet (.inl (.inl rfl)) _).trans y6 (fun j hj => ?_)
          rcases hj with h | h | h
          · exact .inl (.inl h)
          · exact .inl (.inr (.inl h))
          · exact (z5 j h).elim (fun h => .inl (.inr (.inr h))) (fun h => .inr (by omega))
        · simp only [Tr.high]; omega
        · simp only [Tr.high]; omega
      replace k2 := Lib.hid k2
      clear k1 hl hr hb hrb
      gi_wp2
      refine wpIn_eager [(0, true), (1, true), (2, true), (3, true), (4, true), (6, true), (7, true), (5, false), (8, false), (9, true), (10, true), (11, true), (12, true), (13, true), (14, false), (15, true)] (fun U => (U.cell? ⟨w.heap.size, 0, none⟩ = some (.string (k).1) ∧ U.cell? ⟨w.heap.size, 1, none⟩ = some (.string (k).2.1) ∧ U.cell? ⟨w.heap.size, 2, none⟩ = some (.int .i64 (k).2.2.1) ∧ U.cell? ⟨w.heap.size, 3, none⟩ = some (.int .i64 (k).2.2.2) ∧ U.cell? ⟨w.heap.size + 1, 0, none⟩ = some (.int .i64 (v).ep) ∧ U.cell? ⟨w.heap.size + 1, 1, none⟩ = some (.string (v).key) ∧ U.cell? ⟨w.heap.size + 1, 2, none⟩ = some (.string (v).pol) ∧ U.cell? ⟨w.heap.size + 1, 3, none⟩ = some (.int .i64 (v).kd) ∧ U.cell? ⟨w.heap.size + 1, 4, none⟩ = some (.int .i64 (v).st) ∧ U.cell? ⟨w.heap.size + 1, 5, none⟩ = some (.int .i64 (v).rev) ∧ U.cell? ⟨w.heap.size + 1, 6, none⟩ = some (.bool (v).fin) ∧ U.cell? ⟨w.heap.size + 1, 7, none⟩ = some (.int .i64 (v).rk) ∧ U.cell? ⟨w.heap.size + 1, 8, none⟩ = some (.int .i64 (v).cnt) ∧ U.cell? ⟨w.heap.size + 1, 9, none⟩ = some (.int .i64 (v).sum) ∧ U.cell? ⟨w.heap.size + 1, 10, none⟩ = some (.int .i64 (v).mn) ∧ U.cell? ⟨w.heap.size + 1, 11, none⟩ = some (.int .i64 (v).mx) ∧ U.cell? ⟨w.heap.size + 1, 12, none⟩ = some (.int .i64 (v).q0) ∧ U.cell? ⟨w.heap.size + 1, 13, none⟩ = some (.int .i64 (v).q1) ∧ U.cell? ⟨w.heap.size + 1, 14, none⟩ = some (.int .i64 (v).q2) ∧ U.cell? ⟨w.heap.size + 1, 15, none⟩ = some (.bool (v).over))) (by kernel_rfl) (by kernel_rfl) ⟨q0, q1, q2, q3, q4, q5, q6, q7, q8, q9, q10, q11, q12, q13, q14, q15, q16, q17, q18, q19⟩ ?_
      repeat (first | (refine wpE_fl rfl rfl (fun _ _ => rfl) ?_; go_simp) | (refine wpE_sk rfl rfl ?_; go_simp) | (refine wpE_fl (v := ?_) rfl rfl ?_ ?_; rotate_left; (intro W' h'; (try dsimp only at h'); go_simp; exact rfl); go_simp) | (refine wpE_ef rfl ?_; go_simp; gi_wp2_with (first | refine (⟨trivial, rfl, ?_⟩ : Fence.wide.fn _ ∧ Fence.wide.depth = none ∧ _) | refine (⟨trivial, trivial, rfl, ?_⟩ : Fence.wide.fn _ ∧ Fence.wide.fn _ ∧ Fence.wide.depth = none ∧ _) | (gi_at_call 44; refine k2.out.mono ?_; rintro e W2 ⟨t1, rfl, cs, cf, cl, hq2, hq3, fin⟩; (replace hq2 := Lib.hid hq2); (replace hq3 := Lib.hid hq3); (replace fin := Lib.hid fin)) | refine (⟨trivial, ?_⟩ : Fence.wide.fn _ ∧ _)); (first | refine ⟨by first | exact ⟨q0, q1, q2, q3, q4, q5, q6, q7, q8, q9, q10, q11, q12, q13, q14, q15, q16, q17, q18, q19⟩ | exact hq2.out | exact hq3.out, ?_⟩ | skip)))
      refine wpE_nil ?_
      gi_wp2_with (first | refine (⟨trivial, rfl, ?_⟩ : Fence.wide.fn _ ∧ Fence.wide.depth = none ∧ _) | (gi_at_call 57; refine fin.out.mono ?_; rintro e W3 ⟨t2, rfl, fin2⟩))
      refine bodyPost_ret (results_tmp2 rfl _ _ _) rfl ?_
      refine ⟨t2, ?_, fin2⟩
      show Ending.returned (Value.tuple #[Value.pointer t2.adr, Value.bool (hadL c k r.list)]) = _
      rw [show (Tr.node b k0 v0 l r).list = l.list ++ (k0, v0) :: r.list from rfl, e2.out]
set_option maxRecDepth 100000 in
set_option maxHeartbeats 2000000 in
theorem putCE {c : KCE → KCE → Int} {cf : Fn} {ca cc : Array Value} (hcmp : CmpV Try.prog ekCE c cf ca cc) {rb : Nat} {x : Value} {k : KCE} {v : VCE} : ∀ (t : Tr KCE VCE) (w : World), Tr.lies 104 mkCE w t → t.apart → t.bal → Rise c t.list → t.many < 100000 → Blk w rb #[.func cf ca cc, x] 88 → ¬ t.has rb →
    CallsIn Fence.wide 0 Try.prog 44 #[.pointer (some ⟨rb, 0, none⟩), .pointer t.adr, ekCE k, evCE v] w (PutPostCE c k v t w) := by
  intro t
  induction t with
  | nil =>
    intro w _ _ _ _ _ hrb _
    simp only [Tr.adr]
    refine callsIn_any (n := 0) (callsIn_of_wp Try.func44 rfl trivial ?_)
    simp only [Try.ntmps44, List.size_toArray, List.length_cons, List.length_nil, Nat.reduceAdd, Nat.reduceSub, Array.replicate_succ, Array.replicate_zero, List.push_toArray, List.append_toArray, List.nil_append, List.cons_append]
    have z0 : ((w.alloc (.cells #[.string (k).1, .string (k).2.1, .int .i64 (k).2.2.1, .int .i64 (k).2.2.2] 24)).alloc (.cells #[.int .i64 (v).ep, .string (v).key, .string (v).pol, .int .i64 (v).kd, .int .i64 (v).st, .int .i64 (v).rev, .bool (v).fin, .int .i64 (v).rk, .int .i64 (v).cnt, .int .i64 (v).sum, .int .i64 (v).mn, .int .i64 (v).mx, .int .i64 (v).q0, .int .i64 (v).q1, .int .i64 (v).q2, .bool (v).over] 63)).heap.size = (w.heap.size + 1 + 1) := by simp only [World.size_alloc]
    have hnew := Lib.hid (Blk.new ((w.alloc (.cells #[.string (k).1, .string (k).2.1, .int .i64 (k).2.2.1, .int .i64 (k).2.2.2] 24)).alloc (.cells #[.int .i64 (v).ep, .string (v).key, .string (v).pol, .int .i64 (v).kd, .int .i64 (v).st, .int .i64 (v).rev, .bool (v).fin, .int .i64 (v).rk, .int .i64 (v).cnt, .int .i64 (v).sum, .int .i64 (v).mn, .int .i64 (v).mx, .int .i64 (v).q0, .int .i64 (v).q1, .int .i64 (v).q2, .bool (v).over] 63)) (mkCE k v (.pointer none) (.pointer none) 0 0) 104)
    rw [z0] at hnew
    gi_wp2_with (first | refine (⟨trivial, rfl, ?_⟩ : Fence.wide.fn _ ∧ Fence.wide.depth = none ∧ _) | (gi_at_call 56; refine (countCE (hl := 0) (hr := 0) (nl := 0) (nr := 0) (lp := none) (rp := none) (k := k) (v := v) (h0 := 0) (n0 := 0) hnew.out (.inl ⟨rfl, rfl, rfl⟩) (.inl ⟨rfl, rfl, rfl⟩) (by simp) (by simp) (by omega) (by omega) (by omega)).mono ?_; rintro e W2 ⟨rfl, hb', hu2⟩))
    refine bodyPost_ret (results_tmp2 rfl _ _ _) rfl ?_
    refine ⟨.node (w.heap.size + 1 + 1) k v .nil .nil, rfl, ⟨hb', trivial, trivial⟩, ⟨id, id, fun _ h => h.elim, trivial, trivial⟩, ⟨trivial, trivial, by simp [Tr.high], by simp [Tr.high]⟩, rfl, fun j hj => ?_, ?_, by simp [Tr.high], by simp [Tr.high]⟩
    · rcases hj with h | h | h
      · exact .inr (by omega)
      · exact h.elim
      · exact h.elim
    · exact ((Upd.alloc _ w _).stepAlloc _).trans ((Upd.alloc (fun _ => False) _ _).trans hu2 (fun j hj => .inr (by rw [z0]; omega))) (fun j hj => hj.elim)
  | node b k0 v0 l r ihl ihr =>
    intro w hlies hap hbal hrise hmany hrb hnrb
    rcases Int.lt_trichotomy (c k k0) 0 with hs | hs | hs
    · exact put1CE hcmp ihl ihr w hlies hap hbal hrise hmany hrb hnrb hs
    · exact put2CE hcmp ihl ihr w hlies hap hbal hrise hmany hrb hnrb hs
    · exact put3CE hcmp ihl ihr w hlies hap hbal hrise hmany hrb hnrb hs

/-- A RACK: its block and its tree; l: its entries in order. -/
structure RackCE (c : KCE → KCE → Int) (cf : Fn) (ca cc : Array Value) (rb : Nat) (t : Tr KCE VCE) (l : List (KCE × VCE)) (w : World) : Prop where
  blk : Blk w rb #[.func cf ca cc, .pointer t.adr] 88
  lies : Tr.lies 104 mkCE w t
  apart : t.apart
  bal : t.bal
  list : t.list = l
  rise : Rise c l
  root : ¬ t.has rb
theorem RackCE.agree {c : KCE → KCE → Int} {cf : Fn} {ca cc : Array Value} {rb : Nat} {t : Tr KCE VCE} {l : List (KCE × VCE)} {w w' : World} (h : RackCE c cf ca cc rb t l w) (ha : Agree (fun j => j = rb ∨ t.has j) w w') : RackCE c cf ca cc rb t l w' :=
  ⟨h.blk.agree ha (.inl rfl), h.lies.agree (ha.mono fun _ h => .inr h), h.apart, h.bal, h.list, h.rise, h.root⟩
theorem RackCE.lt {c : KCE → KCE → Int} {cf : Fn} {ca cc : Array Value} {rb : Nat} {t : Tr KCE VCE} {l : List (KCE × VCE)} {w : World} (h : RackCE c cf ca cc rb t l w) : ∀ j, (j = rb ∨ t.has j) → j < w.heap.size := by
  rintro j (rfl | hj)
  · exact h.blk.lt
  · exact h.lies.lt j hj
theorem RackCE.upd {c : KCE → KCE → Int} {cf : Fn} {ca cc : Array Value} {rb : Nat} {t : Tr KCE VCE} {l : List (KCE × VCE)} {w w' : World} {M : Nat → Prop} (h : RackCE c cf ca cc rb t l w) (hu : Upd M w w') (hm : ∀ j, (j = rb ∨ t.has j) → ¬ M j) : RackCE c cf ca cc rb t l w' :=
  h.agree (hu.agree fun j hj => ⟨h.lt j hj, hm j hj⟩)
theorem RackCE.many {c : KCE → KCE → Int} {cf : Fn} {ca cc : Array Value} {rb : Nat} {t : Tr KCE VCE} {l : List (KCE × VCE)} {w : World} (h : RackCE c cf ca cc rb t l w) : t.many = l.length := by rw [← h.list, Tr.many_list]

set_option maxHeartbeats 1000000 in
theorem rackNewCE {n : Nat} {c : KCE → KCE → Int} {cf : Fn} {ca cc : Array Value} {w : World} : CallsIn Fence.wide n Try.prog 25 #[.func cf ca cc] w fun e w' => e = .returned (.pointer (some ⟨w.heap.size, 0, none⟩)) ∧ RackCE c cf ca cc w.heap.size .nil [] w' ∧ Upd (fun _ => False) w w' := by
  refine callsIn_any (n := 0) (callsIn_of_wp Try.func25 rfl trivial ?_)
  simp only [Try.ntmps25, List.size_toArray, List.length_cons, List.length_nil, Nat.reduceAdd, Nat.reduceSub, Array.replicate_succ, Array.replicate_zero, List.push_toArray, List.append_toArray, List.nil_append, List.cons_append]
  gi_wp2
  go_ret
  exact ⟨rfl, ⟨Blk.new _ _ _, trivial, trivial, trivial, rfl, List.Pairwise.nil, id⟩, Upd.alloc _ _ _⟩

set_option maxRecDepth 100000 in
set_option maxHeartbeats 1000000 in
theorem rackPutCE {n : Nat} {c : KCE → KCE → Int} {cf : Fn} {ca cc : Array Value} (hcmp : CmpV Try.prog ekCE c cf ca cc) {rb : Nat} {t : Tr KCE VCE} {l : List (KCE × VCE)} {k : KCE} {v : VCE} {w : World} (h : RackCE c cf ca cc rb t l w) (hn : l.length < 100000) :
    CallsIn Fence.wide n Try.prog 28 #[.pointer (some ⟨rb, 0, none⟩), ekCE k, evCE v] w fun e w' => e = .returned (.bool (hadL c k l)) ∧ ∃ t', RackCE c cf ca cc rb t' (putL c k v l) w' ∧ (∀ j, t'.has j → t.has j ∨ w.heap.size ≤ j) ∧ Upd (fun j => j = rb ∨ t.has j) w w' := by
  have hu0 : Upd (fun _ => False) w ((w.alloc (.cells #[.string (k).1, .string (k).2.1, .int .i64 (k).2.2.1, .int .i64 (k).2.2.2] 24)).alloc (.cells #[.int .i64 (v).ep, .string (v).key, .string (v).pol, .int .i64 (v).kd, .int .i64 (v).st, .int .i64 (v).rev, .bool (v).fin, .int .i64 (v).rk, .int .i64 (v).cnt, .int .i64 (v).sum, .int .i64 (v).mn, .int .i64 (v).mx, .int .i64 (v).q0, .int .i64 (v).q1, .int .i64 (v).q2, .bool (v).over] 63)).drew := ((Upd.alloc _ w _).stepAlloc _).stepDrew
  have hhw := Lib.hid h.lt
  have qk : Blk ((w.alloc (.cells #[.string (k).1, .string (k).2.1, .int .i64 (k).2.2.1, .int .i64 (k).2.2.2] 24)).alloc (.cells #[.int .i64 (v).ep, .string (v).key, .string (v).pol, .int .i64 (v).kd, .int .i64 (v).st, .int .i64 (v).rev, .bool (v).fin, .int .i64 (v).rk, .int .i64 (v).cnt, .int .i64 (v).sum, .int .i64 (v).mn, .int .i64 (v).mx, .int .i64 (v).q0, .int .i64 (v).q1, .int .i64 (v).q2, .bool (v).over] 63)).drew w.heap.size #[.string (k).1, .string (k).2.1, .int .i64 (k).2.2.1, .int .i64 (k).2.2.2] 24 := ((Blk.new w _ _).alloc _).upd (Upd.drew (fun _ => False) _) id
  have qb : Blk ((w.alloc (.cells #[.string (k).1, .string (k).2.1, .int .i64 (k).2.2.1, .int .i64 (k).2.2.2] 24)).alloc (.cells #[.int .i64 (v).ep, .string (v).key, .string (v).pol, .int .i64 (v).kd, .int .i64 (v).st, .int .i64 (v).rev, .bool (v).fin, .int .i64 (v).rk, .int .i64 (v).cnt, .int .i64 (v).sum, .int .i64 (v).mn, .int .i64 (v).mx, .int .i64 (v).q0, .int .i64 (v).q1, .int .i64 (v).q2, .bool (v).over] 63)).drew (w.heap.size + 1) #[.int .i64 (v).ep, .string (v).key, .string (v).pol, .int .i64 (v).kd, .int .i64 (v).st, .int .i64 (v).rev, .bool (v).fin, .int .i64 (v).rk, .int .i64 (v).cnt, .int .i64 (v).sum, .int .i64 (v).mn, .int .i64 (v).mx, .int .i64 (v).q0, .int .i64 (v).q1, .int .i64 (v).q2, .bool (v).over] 63 := by
    have h := (Blk.new (w.alloc (.cells #[.string (k).1, .string (k).2.1, .int .i64 (k).2.2.1, .int .i64 (k).2.2.2] 24)) #[.int .i64 (v).ep, .string (v).key, .string (v).pol, .int .i64 (v).kd, .int .i64 (v).st, .int .i64 (v).rev, .bool (v).fin, .int .i64 (v).rk, .int .i64 (v).cnt, .int .i64 (v).sum, .int .i64 (v).mn, .int .i64 (v).mx, .int .i64 (v).q0, .int .i64 (v).q1, .int .i64 (v).q2, .bool (v).over] 63).upd (Upd.drew (fun _ => False) _) id
    rwa [World.size_alloc] at h
  have hz0 := hu0.size
  have h0 := h.upd hu0 (fun _ _ => id)
  have k1 := putCE hcmp (k := k) (v := v) t ((w.alloc (.cells #[.string (k).1, .string (k).2.1, .int .i64 (k).2.2.1, .int .i64 (k).2.2.2] 24)).alloc (.cells #[.int .i64 (v).ep, .string (v).key, .string (v).pol, .int .i64 (v).kd, .int .i64 (v).st, .int .i64 (v).rev, .bool (v).fin, .int .i64 (v).rk, .int .i64 (v).cnt, .int .i64 (v).sum, .int .i64 (v).mn, .int .i64 (v).mx, .int .i64 (v).q0, .int .i64 (v).q1, .int .i64 (v).q2, .bool (v).over] 63)).drew h0.lies h.apart h.bal (by rw [h.list]; exact h.rise) (by rw [h.many]; exact hn) h0.blk h.root
  have k2 : CallsIn Fence.wide 0 Try.prog 44 #[.pointer (some ⟨rb, 0, none⟩), .pointer t.adr, ekCE k, evCE v] ((w.alloc (.cells #[.string (k).1, .string (k).2.1, .int .i64 (k).2.2.1, .int .i64 (k).2.2.2] 24)).alloc (.cells #[.int .i64 (v).ep, .string (v).key, .string (v).pol, .int .i64 (v).kd, .int .i64 (v).st, .int .i64 (v).rev, .bool (v).fin, .int .i64 (v).rk, .int .i64 (v).cnt, .int .i64 (v).sum, .int .i64 (v).mn, .int .i64 (v).mx, .int .i64 (v).q0, .int .i64 (v).q1, .int .i64 (v).q2, .bool (v).over] 63)).drew fun e W2 => ∃ t1 : Tr KCE VCE, e = .returned (.tuple #[.pointer t1.adr, .bool (hadL c k l)]) ∧ W2.cell? ⟨rb, 1, none⟩ = some (.pointer t.adr) ∧ W2.frozen? ⟨rb, 1, none⟩ = false ∧ rb < W2.heap.size ∧ (W2.cell? ⟨w.heap.size, 0, none⟩ = some (.string (k).1) ∧ W2.cell? ⟨w.heap.size, 1, none⟩ = some (.string (k).2.1) ∧ W2.cell? ⟨w.heap.size, 2, none⟩ = some (.int .i64 (k).2.2.1) ∧ W2.cell? ⟨w.heap.size, 3, none⟩ = some (.int .i64 (k).2.2.2) ∧ W2.cell? ⟨w.heap.size + 1, 0, none⟩ = some (.int .i64 (v).ep) ∧ W2.cell? ⟨w.heap.size + 1, 1, none⟩ = some (.string (v).key) ∧ W2.cell? ⟨w.heap.size + 1, 2, none⟩ = some (.string (v).pol) ∧ W2.cell? ⟨w.heap.size + 1, 3, none⟩ = some (.int .i64 (v).kd) ∧ W2.cell? ⟨w.heap.size + 1, 4, none⟩ = some (.int .i64 (v).st) ∧ W2.cell? ⟨w.heap.size + 1, 5, none⟩ = some (.int .i64 (v).rev) ∧ W2.cell? ⟨w.heap.size + 1, 6, none⟩ = some (.bool (v).fin) ∧ W2.cell? ⟨w.heap.size + 1, 7, none⟩ = some (.int .i64 (v).rk) ∧ W2.cell? ⟨w.heap.size + 1, 8, none⟩ = some (.int .i64 (v).cnt) ∧ W2.cell? ⟨w.heap.size + 1, 9, none⟩ = some (.int .i64 (v).sum) ∧ W2.cell? ⟨w.heap.size + 1, 10, none⟩ = some (.int .i64 (v).mn) ∧ W2.cell? ⟨w.heap.size + 1, 11, none⟩ = some (.int .i64 (v).mx) ∧ W2.cell? ⟨w.heap.size + 1, 12, none⟩ = some (.int .i64 (v).q0) ∧ W2.cell? ⟨w.heap.size + 1, 13, none⟩ = some (.int .i64 (v).q1) ∧ W2.cell? ⟨w.heap.size + 1, 14, none⟩ = some (.int .i64 (v).q2) ∧ W2.cell? ⟨w.heap.size + 1, 15, none⟩ = some (.bool (v).over)) ∧
      RackCE c cf ca cc rb t1 (putL c k v l) (W2.setCell ⟨rb, 1, none⟩ (.pointer t1.adr)) ∧ (∀ j, t1.has j → t.has j ∨ w.heap.size ≤ j) ∧ Upd (fun j => j = rb ∨ t.has j) w (W2.setCell ⟨rb, 1, none⟩ (.pointer t1.adr)) := by
    refine k1.mono ?_
    rintro e W2 ⟨t1, rfl, z1, z2, z3, z4, z5, z6, z7, z8⟩
    have hb := h0.blk.upd z6 h.root
    have hr : ¬ t1.has rb := fun hh => by
      rcases z5 rb hh with h1 | h1
      · exact h.root h1
      · have := h0.blk.lt; omega
    have qk2 := qk.upd z6 (fun h => by have := hhw.out _ (.inr h); omega)
    have qb2 := qb.upd z6 (fun h => by have := hhw.out _ (.inr h); omega)
    refine ⟨t1, by rw [h.list], hb.cell 1, hb.frozen 1, hb.lt, ⟨qk2.cell 0, qk2.cell 1, qk2.cell 2, qk2.cell 3, qb2.cell 0, qb2.cell 1, qb2.cell 2, qb2.cell 3, qb2.cell 4, qb2.cell 5, qb2.cell 6, qb2.cell 7, qb2.cell 8, qb2.cell 9, qb2.cell 10, qb2.cell 11, qb2.cell 12, qb2.cell 13, qb2.cell 14, qb2.cell 15⟩, ⟨by simpa using hb.set 1 (.pointer t1.adr), z1.upd (Upd.setCell (M := fun j => j = rb) rfl _) (fun j hj e => hr (e ▸ hj)), z2, z3, by rw [z4, h.list], putL_rise hcmp.ord h.rise k v, hr⟩, (fun j hj => (z5 j hj).imp id (fun h => Nat.le_trans hz0 h)), ((hu0.mono (M' := fun j => j = rb ∨ t.has j) fun _ _ h => h.elim).trans' (z6.mono fun j _ hj => .inr hj)).stepSet (.inl (.inl rfl)) _⟩
  have c1 := h0.blk.cell 1
  have p0 : ((w.alloc (.cells #[.string (k).1, .string (k).2.1, .int .i64 (k).2.2.1, .int .i64 (k).2.2.2] 24)).alloc (.cells #[.int .i64 (v).ep, .string (v).key, .string (v).pol, .int .i64 (v).kd, .int .i64 (v).st, .int .i64 (v).rev, .bool (v).fin, .int .i64 (v).rk, .int .i64 (v).cnt, .int .i64 (v).sum, .int .i64 (v).mn, .int .i64 (v).mx, .int .i64 (v).q0, .int .i64 (v).q1, .int .i64 (v).q2, .bool (v).over] 63)).drew.cell? ⟨w.heap.size, 0, none⟩ = some (.string (k).1) := qk.cell 0
  have p1 : ((w.alloc (.cells #[.string (k).1, .string (k).2.1, .int .i64 (k).2.2.1, .int .i64 (k).2.2.2] 24)).alloc (.cells #[.int .i64 (v).ep, .string (v).key, .string (v).pol, .int .i64 (v).kd, .int .i64 (v).st, .int .i64 (v).rev, .bool (v).fin, .int .i64 (v).rk, .int .i64 (v).cnt, .int .i64 (v).sum, .int .i64 (v).mn, .int .i64 (v).mx, .int .i64 (v).q0, .int .i64 (v).q1, .int .i64 (v).q2, .bool (v).over] 63)).drew.cell? ⟨w.heap.size, 1, none⟩ = some (.string (k).2.1) := qk.cell 1
  have p2 : ((w.alloc (.cells #[.string (k).1, .string (k).2.1, .int .i64 (k).2.2.1, .int .i64 (k).2.2.2] 24)).alloc (.cells #[.int .i64 (v).ep, .string (v).key, .string (v).pol, .int .i64 (v).kd, .int .i64 (v).st, .int .i64 (v).rev, .bool (v).fin, .int .i64 (v).rk, .int .i64 (v).cnt, .int .i64 (v).sum, .int .i64 (v).mn, .int .i64 (v).mx, .int .i64 (v).q0, .int .i64 (v).q1, .int .i64 (v).q2, .bool (v).over] 63)).drew.cell? ⟨w.heap.size, 2, none⟩ = some (.int .i64 (k).2.2.1) := qk.cell 2
  have p3 : ((w.alloc (.cells #[.string (k).1, .string (k).2.1, .int .i64 (k).2.2.1, .int .i64 (k).2.2.2] 24)).alloc (.cells #[.int .i64 (v).ep, .string (v).key, .string (v).pol, .int .i64 (v).kd, .int .i64 (v).st, .int .i64 (v).rev, .bool (v).fin, .int .i64 (v).rk, .int .i64 (v).cnt, .int .i64 (v).sum, .int .i64 (v).mn, .int .i64 (v).mx, .int .i64 (v).q0, .int .i64 (v).q1, .int .i64 (v).q2, .bool (v).over] 63)).drew.cell? ⟨w.heap.size, 3, none⟩ = some (.int .i64 (k).2.2.2) := qk.cell 3
  have p4 : ((w.alloc (.cells #[.string (k).1, .string (k).2.1, .int .i64 (k).2.2.1, .int .i64 (k).2.2.2] 24)).alloc (.cells #[.int .i64 (v).ep, .string (v).key, .string (v).pol, .int .i64 (v).kd, .int .i64 (v).st, .int .i64 (v).rev, .bool (v).fin, .int .i64 (v).rk, .int .i64 (v).cnt, .int .i64 (v).sum, .int .i64 (v).mn, .int .i64 (v).mx, .int .i64 (v).q0, .int .i64 (v).q1, .int .i64 (v).q2, .bool (v).over] 63)).drew.cell? ⟨w.heap.size + 1, 0, none⟩ = some (.int .i64 (v).ep) := qb.cell 0
  have p5 : ((w.alloc (.cells #[.string (k).1, .string (k).2.1, .int .i64 (k).2.2.1, .int .i64 (k).2.2.2] 24)).alloc (.cells #[.int .i64 (v).ep, .string (v).key, .string (v).pol, .int .i64 (v).kd, .int .i64 (v).st, .int .i64 (v).rev, .bool (v).fin, .int .i64 (v).rk, .int .i64 (v).cnt, .int .i64 (v).sum, .int .i64 (v).mn, .int .i64 (v).mx, .int .i64 (v).q0, .int .i64 (v).q1, .int .i64 (v).q2, .bool (v).over] 63)).drew.cell? ⟨w.heap.size + 1, 1, none⟩ = some (.string (v).key) := qb.cell 1
  have p6 : ((w.alloc (.cells #[.string (k).1, .string (k).2.1, .int .i64 (k).2.2.1, .int .i64 (k).2.2.2] 24)).alloc (.cells #[.int .i64 (v).ep, .string (v).key, .string (v).pol, .int .i64 (v).kd, .int .i64 (v).st, .int .i64 (v).rev, .bool (v).fin, .int .i64 (v).rk, .int .i64 (v).cnt, .int .i64 (v).sum, .int .i64 (v).mn, .int .i64 (v).mx, .int .i64 (v).q0, .int .i64 (v).q1, .int .i64 (v).q2, .bool (v).over] 63)).drew.cell? ⟨w.heap.size + 1, 2, none⟩ = some (.string (v).pol) := qb.cell 2
  have p7 : ((w.alloc (.cells #[.string (k).1, .string (k).2.1, .int .i64 (k).2.2.1, .int .i64 (k).2.2.2] 24)).alloc (.cells #[.int .i64 (v).ep, .string (v).key, .string (v).pol, .int .i64 (v).kd, .int .i64 (v).st, .int .i64 (v).rev, .bool (v).fin, .int .i64 (v).rk, .int .i64 (v).cnt, .int .i64 (v).sum, .int .i64 (v).mn, .int .i64 (v).mx, .int .i64 (v).q0, .int .i64 (v).q1, .int .i64 (v).q2, .bool (v).over] 63)).drew.cell? ⟨w.heap.size + 1, 3, none⟩ = some (.int .i64 (v).kd) := qb.cell 3
  have p8 : ((w.alloc (.cells #[.string (k).1, .string (k).2.1, .int .i64 (k).2.2.1, .int .i64 (k).2.2.2] 24)).alloc (.cells #[.int .i64 (v).ep, .string (v).key, .string (v).pol, .int .i64 (v).kd, .int .i64 (v).st, .int .i64 (v).rev, .bool (v).fin, .int .i64 (v).rk, .int .i64 (v).cnt, .int .i64 (v).sum, .int .i64 (v).mn, .int .i64 (v).mx, .int .i64 (v).q0, .int .i64 (v).q1, .int .i64 (v).q2, .bool (v).over] 63)).drew.cell? ⟨w.heap.size + 1, 4, none⟩ = some (.int .i64 (v).st) := qb.cell 4
  have p9 : ((w.alloc (.cells #[.string (k).1, .string (k).2.1, .int .i64 (k).2.2.1, .int .i64 (k).2.2.2] 24)).alloc (.cells #[.int .i64 (v).ep, .string (v).key, .string (v).pol, .int .i64 (v).kd, .int .i64 (v).st, .int .i64 (v).rev, .bool (v).fin, .int .i64 (v).rk, .int .i64 (v).cnt, .int .i64 (v).sum, .int .i64 (v).mn, .int .i64 (v).mx, .int .i64 (v).q0, .int .i64 (v).q1, .int .i64 (v).q2, .bool (v).over] 63)).drew.cell? ⟨w.heap.size + 1, 5, none⟩ = some (.int .i64 (v).rev) := qb.cell 5
  have p10 : ((w.alloc (.cells #[.string (k).1, .string (k).2.1, .int .i64 (k).2.2.1, .int .i64 (k).2.2.2] 24)).alloc (.cells #[.int .i64 (v).ep, .string (v).key, .string (v).pol, .int .i64 (v).kd, .int .i64 (v).st, .int .i64 (v).rev, .bool (v).fin, .int .i64 (v).rk, .int .i64 (v).cnt, .int .i64 (v).sum, .int .i64 (v).mn, .int .i64 (v).mx, .int .i64 (v).q0, .int .i64 (v).q1, .int .i64 (v).q2, .bool (v).over] 63)).drew.cell? ⟨w.heap.size + 1, 6, none⟩ = some (.bool (v).fin) := qb.cell 6
  have p11 : ((w.alloc (.cells #[.string (k).1, .string (k).2.1, .int .i64 (k).2.2.1, .int .i64 (k).2.2.2] 24)).alloc (.cells #[.int .i64 (v).ep, .string (v).key, .string (v).pol, .int .i64 (v).kd, .int .i64 (v).st, .int .i64 (v).rev, .bool (v).fin, .int .i64 (v).rk, .int .i64 (v).cnt, .int .i64 (v).sum, .int .i64 (v).mn, .int .i64 (v).mx, .int .i64 (v).q0, .int .i64 (v).q1, .int .i64 (v).q2, .bool (v).over] 63)).drew.cell? ⟨w.heap.size + 1, 7, none⟩ = some (.int .i64 (v).rk) := qb.cell 7
  have p12 : ((w.alloc (.cells #[.string (k).1, .string (k).2.1, .int .i64 (k).2.2.1, .int .i64 (k).2.2.2] 24)).alloc (.cells #[.int .i64 (v).ep, .string (v).key, .string (v).pol, .int .i64 (v).kd, .int .i64 (v).st, .int .i64 (v).rev, .bool (v).fin, .int .i64 (v).rk, .int .i64 (v).cnt, .int .i64 (v).sum, .int .i64 (v).mn, .int .i64 (v).mx, .int .i64 (v).q0, .int .i64 (v).q1, .int .i64 (v).q2, .bool (v).over] 63)).drew.cell? ⟨w.heap.size + 1, 8, none⟩ = some (.int .i64 (v).cnt) := qb.cell 8
  have p13 : ((w.alloc (.cells #[.string (k).1, .string (k).2.1, .int .i64 (k).2.2.1, .int .i64 (k).2.2.2] 24)).alloc (.cells #[.int .i64 (v).ep, .string (v).key, .string (v).pol, .int .i64 (v).kd, .int .i64 (v).st, .int .i64 (v).rev, .bool (v).fin, .int .i64 (v).rk, .int .i64 (v).cnt, .int .i64 (v).sum, .int .i64 (v).mn, .int .i64 (v).mx, .int .i64 (v).q0, .int .i64 (v).q1, .int .i64 (v).q2, .bool (v).over] 63)).drew.cell? ⟨w.heap.size + 1, 9, none⟩ = some (.int .i64 (v).sum) := qb.cell 9
  have p14 : ((w.alloc (.cells #[.string (k).1, .string (k).2.1, .int .i64 (k).2.2.1, .int .i64 (k).2.2.2] 24)).alloc (.cells #[.int .i64 (v).ep, .string (v).key, .string (v).pol, .int .i64 (v).kd, .int .i64 (v).st, .int .i64 (v).rev, .bool (v).fin, .int .i64 (v).rk, .int .i64 (v).cnt, .int .i64 (v).sum, .int .i64 (v).mn, .int .i64 (v).mx, .int .i64 (v).q0, .int .i64 (v).q1, .int .i64 (v).q2, .bool (v).over] 63)).drew.cell? ⟨w.heap.size + 1, 10, none⟩ = some (.int .i64 (v).mn) := qb.cell 10
  have p15 : ((w.alloc (.cells #[.string (k).1, .string (k).2.1, .int .i64 (k).2.2.1, .int .i64 (k).2.2.2] 24)).alloc (.cells #[.int .i64 (v).ep, .string (v).key, .string (v).pol, .int .i64 (v).kd, .int .i64 (v).st, .int .i64 (v).rev, .bool (v).fin, .int .i64 (v).rk, .int .i64 (v).cnt, .int .i64 (v).sum, .int .i64 (v).mn, .int .i64 (v).mx, .int .i64 (v).q0, .int .i64 (v).q1, .int .i64 (v).q2, .bool (v).over] 63)).drew.cell? ⟨w.heap.size + 1, 11, none⟩ = some (.int .i64 (v).mx) := qb.cell 11
  have p16 : ((w.alloc (.cells #[.string (k).1, .string (k).2.1, .int .i64 (k).2.2.1, .int .i64 (k).2.2.2] 24)).alloc (.cells #[.int .i64 (v).ep, .string (v).key, .string (v).pol, .int .i64 (v).kd, .int .i64 (v).st, .int .i64 (v).rev, .bool (v).fin, .int .i64 (v).rk, .int .i64 (v).cnt, .int .i64 (v).sum, .int .i64 (v).mn, .int .i64 (v).mx, .int .i64 (v).q0, .int .i64 (v).q1, .int .i64 (v).q2, .bool (v).over] 63)).drew.cell? ⟨w.heap.size + 1, 12, none⟩ = some (.int .i64 (v).q0) := qb.cell 12
  have p17 : ((w.alloc (.cells #[.string (k).1, .string (k).2.1, .int .i64 (k).2.2.1, .int .i64 (k).2.2.2] 24)).alloc (.cells #[.int .i64 (v).ep, .string (v).key, .string (v).pol, .int .i64 (v).kd, .int .i64 (v).st, .int .i64 (v).rev, .bool (v).fin, .int .i64 (v).rk, .int .i64 (v).cnt, .int .i64 (v).sum, .int .i64 (v).mn, .int .i64 (v).mx, .int .i64 (v).q0, .int .i64 (v).q1, .int .i64 (v).q2, .bool (v).over] 63)).drew.cell? ⟨w.heap.size + 1, 13, none⟩ = some (.int .i64 (v).q1) := qb.cell 13
  have p18 : ((w.alloc (.cells #[.string (k).1, .string (k).2.1, .int .i64 (k).2.2.1, .int .i64 (k).2.2.2] 24)).alloc (.cells #[.int .i64 (v).ep, .string (v).key, .string (v).pol, .int .i64 (v).kd, .int .i64 (v).st, .int .i64 (v).rev, .bool (v).fin, .int .i64 (v).rk, .int .i64 (v).cnt, .int .i64 (v).sum, .int .i64 (v).mn, .int .i64 (v).mx, .int .i64 (v).q0, .int .i64 (v).q1, .int .i64 (v).q2, .bool (v).over] 63)).drew.cell? ⟨w.heap.size + 1, 14, none⟩ = some (.int .i64 (v).q2) := qb.cell 14
  have p19 : ((w.alloc (.cells #[.string (k).1, .string (k).2.1, .int .i64 (k).2.2.1, .int .i64 (k).2.2.2] 24)).alloc (.cells #[.int .i64 (v).ep, .string (v).key, .string (v).pol, .int .i64 (v).kd, .int .i64 (v).st, .int .i64 (v).rev, .bool (v).fin, .int .i64 (v).rk, .int .i64 (v).cnt, .int .i64 (v).sum, .int .i64 (v).mn, .int .i64 (v).mx, .int .i64 (v).q0, .int .i64 (v).q1, .int .i64 (v).q2, .bool (v).over] 63)).drew.cell? ⟨w.heap.size + 1, 15, none⟩ = some (.bool (v).over) := qb.cell 15
  replace k2 := Lib.hid k2
  clear k1 h0 hz0 hu0 qb h qk
  refine callsIn_any (n := 0) (callsIn_of_wp Try.func28 rfl trivial ?_)
  simp only [Try.ntmps28, List.size_toArray, List.length_cons, List.length_nil, Nat.reduceAdd, Nat.reduceSub, Array.replicate_succ, Array.replicate_zero, List.push_toArray, List.append_toArray, List.nil_append, List.cons_append]
  gi_wp2
  refine wpIn_eager [(0, true), (1, true), (2, true), (3, true), (4, true), (5, true), (6, true), (7, false), (8, true), (9, true), (10, true), (11, true), (12, true)] (fun U => U.cell? ⟨rb, 1, none⟩ = some (.pointer t.adr) ∧ (U.cell? ⟨w.heap.size, 0, none⟩ = some (.string (k).1) ∧ U.cell? ⟨w.heap.size, 1, none⟩ = some (.string (k).2.1) ∧ U.cell? ⟨w.heap.size, 2, none⟩ = some (.int .i64 (k).2.2.1) ∧ U.cell? ⟨w.heap.size, 3, none⟩ = some (.int .i64 (k).2.2.2) ∧ U.cell? ⟨w.heap.size + 1, 0, none⟩ = some (.int .i64 (v).ep) ∧ U.cell? ⟨w.heap.size + 1, 1, none⟩ = some (.string (v).key) ∧ U.cell? ⟨w.heap.size + 1, 2, none⟩ = some (.string (v).pol) ∧ U.cell? ⟨w.heap.size + 1, 3, none⟩ = some (.int .i64 (v).kd) ∧ U.cell? ⟨w.heap.size + 1, 4, none⟩ = some (.int .i64 (v).st) ∧ U.cell? ⟨w.heap.size + 1, 5, none⟩ = some (.int .i64 (v).rev) ∧ U.cell? ⟨w.heap.size + 1, 6, none⟩ = some (.bool (v).fin) ∧ U.cell? ⟨w.heap.size + 1, 7, none⟩ = some (.int .i64 (v).rk) ∧ U.cell? ⟨w.heap.size + 1, 8, none⟩ = some (.int .i64 (v).cnt) ∧ U.cell? ⟨w.heap.size + 1, 9, none⟩ = some (.int .i64 (v).sum) ∧ U.cell? ⟨w.heap.size + 1, 10, none⟩ = some (.int .i64 (v).mn) ∧ U.cell? ⟨w.heap.size + 1, 11, none⟩ = some (.int .i64 (v).mx) ∧ U.cell? ⟨w.heap.size + 1, 12, none⟩ = some (.int .i64 (v).q0) ∧ U.cell? ⟨w.heap.size + 1, 13, none⟩ = some (.int .i64 (v).q1) ∧ U.cell? ⟨w.heap.size + 1, 14, none⟩ = some (.int .i64 (v).q2) ∧ U.cell? ⟨w.heap.size + 1, 15, none⟩ = some (.bool (v).over))) (by kernel_rfl) (by kernel_rfl) ⟨c1, p0, p1, p2, p3, p4, p5, p6, p7, p8, p9, p10, p11, p12, p13, p14, p15, p16, p17, p18, p19⟩ ?_
  repeat (first | (refine wpE_fl rfl rfl (fun _ _ => rfl) ?_; go_simp) | (refine wpE_sk rfl rfl ?_; go_simp) | (refine wpE_fl (v := ?_) rfl rfl ?_ ?_; rotate_left; (intro W' h'; (try dsimp only at h'); go_simp; exact rfl); go_simp) | (refine wpE_ef rfl ?_; go_simp; gi_wp2_with (first | refine (⟨trivial, rfl, ?_⟩ : Fence.wide.fn _ ∧ Fence.wide.depth = none ∧ _) | refine (⟨trivial, trivial, rfl, ?_⟩ : Fence.wide.fn _ ∧ Fence.wide.fn _ ∧ Fence.wide.depth = none ∧ _) | (gi_at_call 44; refine k2.out.mono ?_; rintro e W2 ⟨t1, rfl, c1', f1, l1, hq2, fin⟩; (replace hq2 := Lib.hid hq2); (replace fin := Lib.hid fin)) | refine (⟨trivial, ?_⟩ : Fence.wide.fn _ ∧ _)); (first | refine ⟨by first | exact ⟨c1', hq2.out⟩, ?_⟩ | skip)))
  refine wpE_nil ?_
  gi_wp2
  go_ret
  exact ⟨rfl, t1, fin.out⟩
end Go.Proofs.Ytadeechoknpjhaa

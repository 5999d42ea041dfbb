/- rack's 'put' and 'Put', instance int, bool. -/
import Derived.Test.YtgleiajmdbekiaaProg
import Derived.Test.YtgleiajmdbekiaaBase
import Derived.Test.YtgleiajmdbekiaaTr
import Derived.Test.YtgleiajmdbekiaaFork
import Derived.Test.YtgleiajmdbekiaaRkIBB
namespace Go.Proofs.Ytgleiajmdbekiaa
open Go.RowKit Go.Shelf
attribute [local go_sem] Oper.semAt_some


theorem leafIB {w w' : World} {k : KIB} {v : VIB} (hb : Blk w' w.heap.size (mkIB k v (.pointer none) (.pointer none) ((1 + max 0 0 : Nat) : Int) ((1 + 0 + 0 : Nat) : Int)) 98) : Tr.lies 98 mkIB w' (Tr.node w.heap.size k v .nil .nil) := ⟨hb, trivial, trivial⟩

/-- What 'put' says of the tree that it answers. -/
def PutFinIB (c : KIB → KIB → Int) (k : KIB) (v : VIB) (t : Tr KIB VIB) (w : World) (t' : Tr KIB VIB) (w' : World) : Prop :=
  Tr.lies 98 mkIB w' t' ∧ t'.apart ∧ t'.bal ∧ t'.list = putL c k v t.list ∧ (∀ j, t'.has j → t.has j ∨ w.heap.size ≤ j) ∧ Upd t.has w w' ∧ t.high ≤ t'.high ∧ t'.high ≤ t.high + 1
def PutPostIB (c : KIB → KIB → Int) (k : KIB) (v : VIB) (t : Tr KIB VIB) (w : World) (e : Ending) (w' : World) : Prop :=
  ∃ t' : Tr KIB VIB, e = .returned (.tuple #[.pointer t'.adr, .bool (hadL c k t.list)]) ∧ PutFinIB c k v t w t' w'

set_option maxRecDepth 100000 in
set_option maxHeartbeats 2000000 in
theorem putIB {c : KIB → KIB → Int} {cf : Fn} {ca cc : Array Value} (hcmp : CmpV Try.prog ekIB c cf ca cc) {rb : Nat} {x : Value} {k : KIB} {v : VIB} : ∀ (t : Tr KIB VIB) (w : World), Tr.lies 98 mkIB w t → t.apart → t.bal → Rise c t.list → t.many < 100000 → Blk w rb #[.func cf ca cc, x] 96 → ¬ t.has rb →
    CallsIn Fence.wide 0 Try.prog 46 #[.pointer (some ⟨rb, 0, none⟩), .pointer t.adr, ekIB k, evIB v] w (PutPostIB c k v t w) := by
  intro t
  induction t with
  | nil =>
    intro w _ _ _ _ _ hrb _
    simp only [Tr.adr]
    refine callsIn_any (n := 0) (callsIn_of_wp Try.func46 rfl trivial ?_)
    simp only [Try.ntmps46, List.size_toArray, List.length_cons, List.length_nil, Nat.reduceAdd, Nat.reduceSub, Array.replicate_succ, Array.replicate_zero, List.push_toArray, List.append_toArray, List.nil_append, List.cons_append]
    gi_wp2_with (first | refine (⟨trivial, rfl, ?_⟩ : Fence.wide.fn _ ∧ Fence.wide.depth = none ∧ _) | (gi_at_call 66; refine (countIB (hl := 0) (hr := 0) (nl := 0) (nr := 0) (lp := none) (rp := none) (k := k) (v := v) (h0 := 0) (n0 := 0) (Blk.new w _ _) (.inl ⟨rfl, rfl, rfl⟩) (.inl ⟨rfl, rfl, rfl⟩) (by simp) (by simp) (by omega) (by omega) (by omega)).mono ?_; rintro e W2 ⟨rfl, hb', hu2⟩))
    refine bodyPost_ret (results_tmp2 rfl _ _ _) rfl ?_
    refine ⟨.node w.heap.size k v .nil .nil, rfl, ⟨hb', trivial, trivial⟩, ⟨id, id, fun _ h => h.elim, trivial, trivial⟩, ⟨trivial, trivial, by simp [Tr.high], by simp [Tr.high]⟩, rfl, fun j hj => ?_, ?_, by simp [Tr.high], by simp [Tr.high]⟩
    · rcases hj with h | h | h
      · exact .inr (by omega)
      · exact h.elim
      · exact h.elim
    · exact (Upd.alloc _ w _).trans hu2 (fun j hj => .inr (by omega))
  | node b k0 v0 l r ihl ihr =>
    intro w hlies hap hbal hrise hmany hrb hnrb
    obtain ⟨hb, hl, hr⟩ := hlies
    obtain ⟨bl, br, g1, g2⟩ := hbal
    have hrise' := hrise
    obtain ⟨r1, r2, _, _, _⟩ := Rise.parts (l := l.list) (r := r.list) (x := (k0, v0)) hrise
    simp only [Tr.has, not_or] at hnrb
    obtain ⟨m1, m2, m3⟩ := hnrb
    simp only [Tr.many] at hmany
    simp only [Tr.adr]
    have qle : ∀ (t' s : Tr KIB VIB), t'.list = putL c k v s.list → Rise c s.list → t'.many ≤ s.many + 1 := fun t' s e h => by rw [← Tr.many_list t', ← Tr.many_list s, e]; exact putL_le hcmp.ord v h
    replace qle := Lib.hid qle
    replace ihl := Lib.hid ihl
    replace ihr := Lib.hid ihr
    rcases Int.lt_trichotomy (c k k0) 0 with hs | hs | hs
    · skip
      obtain ⟨e1, _, e2, _, _⟩ := node_lt hcmp.ord (l := l.list) (r := r.list) (x := (k0, v0)) hrise' hs v
      replace e1 := Lib.hid e1
      replace e2 := Lib.hid e2
      replace hrise' := Lib.hid hrise'
      replace hrise := Lib.hid hrise
      refine callsIn_any (n := 0) (callsIn_of_wp Try.func46 rfl trivial ?_)
      simp only [Try.ntmps46, List.size_toArray, List.length_cons, List.length_nil, Nat.reduceAdd, Nat.reduceSub, Array.replicate_succ, Array.replicate_zero, List.push_toArray, List.append_toArray, List.nil_append, List.cons_append]
      have c0 : w.cell? ⟨rb, 0, none⟩ = some (.func cf ca cc) := hrb.cell 0
      have c1 : w.cell? ⟨b, 0, none⟩ = some (ekIB k0) := hb.cell 0
      have hkk := Lib.hid (hcmp.call k k0 w.drew)
      gi_wp2
      refine wpIn_eager [(0, true), (1, true), (2, true), (3, true), (4, true), (5, true), (6, true), (7, true), (8, true), (9, false), (10, true)] (fun V => V.cell? ⟨rb, 0, none⟩ = some (.func cf ca cc) ∧ V.cell? ⟨b, 0, none⟩ = some (ekIB k0)) (by kernel_rfl) (by kernel_rfl) ⟨c0, c1⟩ ?_
      refine wpE_fl rfl rfl (fun _ _ => rfl) ?_
      go_simp
      refine wpE_fl rfl rfl (fun _ _ => rfl) ?_
      go_simp
      refine wpE_fl (v := .pointer (some ⟨rb, 0, none⟩)) rfl rfl (fun W' h' => ?_) ?_
      · go_simp
      go_simp
      refine wpE_fl (v := .func cf ca cc) rfl rfl (fun W' h' => ?_) ?_
      · obtain ⟨h1, h2⟩ := h'; go_simp
      go_simp
      refine wpE_fl rfl rfl (fun _ _ => rfl) ?_
      go_simp
      refine wpE_fl rfl rfl (fun _ _ => rfl) ?_
      go_simp
      refine wpE_fl rfl rfl (fun _ _ => rfl) ?_
      go_simp
      refine wpE_fl (v := .pointer (some ⟨b, 0, none⟩)) rfl rfl (fun W' h' => ?_) ?_
      · go_simp
      go_simp
      refine wpE_fl (v := ekIB k0) rfl rfl (fun W' h' => ?_) ?_
      · obtain ⟨h1, h2⟩ := h'; go_simp
      go_simp
      refine wpE_ef rfl ?_
      go_simp
      gi_wp2_with ((with_reducible refine listV2 hkk.out ?_ ?_ ?_ ?_); rfl; rfl; rfl; rintro vv V ⟨rfl, hud⟩; (replace hud := (Upd.drew (fun _ => False) w).trans' hud))
      clear hkk c0 c1
      replace hrb := hrb.upd hud id
      replace hb := hb.upd hud id
      replace hl := hl.upd hud (fun _ _ => id)
      replace hr := hr.upd hud (fun _ _ => id)
      refine ⟨⟨hrb.cell 0, hb.cell 0⟩, ?_⟩
      refine wpE_fl rfl rfl (fun _ _ => rfl) ?_
      go_simp
      refine wpE_nil ?_
      have c2 : V.cell? ⟨b, 2, none⟩ = some (.pointer l.adr) := hb.cell 2
      have k1 := ihl.out V hl hap.2.2.2.1 bl r1 (by omega) hrb m2
      have k2 : CallsIn Fence.wide 0 Try.prog 46 #[.pointer (some ⟨rb, 0, none⟩), .pointer l.adr, ekIB k, evIB v] V fun e W2 => ∃ t1 : Tr KIB VIB, e = .returned (.tuple #[.pointer t1.adr, .bool (hadL c k l.list)]) ∧ W2.cell? ⟨b, 2, none⟩ = some (.pointer l.adr) ∧ W2.frozen? ⟨b, 2, none⟩ = false ∧ b < W2.heap.size ∧
          CallsIn Fence.wide 0 Try.prog 67 #[.pointer (some ⟨b, 0, none⟩)] (W2.setCell ⟨b, 2, none⟩ (.pointer t1.adr)) fun e W3 => ∃ t2 : Tr KIB VIB, e = .returned (.pointer t2.adr) ∧ PutFinIB c k v (Tr.node b k0 v0 l r) w t2 W3 := by
        refine k1.mono ?_
        rintro e W2 ⟨t1, rfl, z1, z2, z3, z4, z5, z6, z7, z8⟩
        have hz := hud.size
        have nb : ¬ t1.has b := fun h => by
          rcases z5 b h with h | h
          · exact hap.1 h
          · have := hb.lt; omega
        have hap' : (Tr.node b k0 v0 t1 r).apart := by
          refine ⟨nb, hap.2.1, fun j h h' => ?_, z2, hap.2.2.2.2⟩
          rcases z5 j h with h | h
          · exact hap.2.2.1 j h h'
          · have := hr.lt j h'; omega
        have hb2 := hb.upd z6 hap.1
        have ho2 := hr.upd z6 (fun j h h' => hap.2.2.1 j h' h)
        have hb3 : Blk (W2.setCell ⟨b, 2, none⟩ (.pointer t1.adr)) b (mkIB k0 v0 (.pointer t1.adr) (.pointer r.adr) ((1 + max l.high r.high : Nat) : Int) ((1 + l.many + r.many : Nat) : Int)) 98 := by simpa [mkIB] using hb2.set 2 (.pointer t1.adr)
        have z1' : Tr.lies 98 mkIB (W2.setCell ⟨b, 2, none⟩ (.pointer t1.adr)) t1 := z1.upd (Upd.setCell (M := fun j => j = b) rfl _) (fun j h e => nb (e ▸ h))
        have ho3 : Tr.lies 98 mkIB (W2.setCell ⟨b, 2, none⟩ (.pointer t1.adr)) r := ho2.upd (Upd.setCell (M := fun j => j = b) rfl _) (fun j h e => hap.2.1 (e ▸ h))
        have hq := qle.out t1 l z4 r1
        refine ⟨t1, rfl, hb2.cell 2, hb2.frozen 2, hb2.lt, ?_⟩
        refine (evenIB (n := 0) hb3 z1' ho3 hap' z3 br (by omega) (by omega) (by omega)).mono ?_
        rintro e W3 ⟨t2, rfl, y1, y2, y3, y4, y5, y6, y7, y8, y9⟩
        refine ⟨t2, rfl, y1, y2, y3, ?_, fun j hj => ?_, ?_, ?_, ?_⟩
        · rw [y4, z4]; exact e1.out.symm
        · rcases (y5 j).1 hj with h | h | h
          · exact .inl (.inl h)
          · exact (z5 j h).elim (fun h => .inl (.inr (.inl h))) (fun h => .inr (by omega))
          · exact .inl (.inr (.inr h))
        · refine (((hud.mono (M' := (Tr.node b k0 v0 l r).has) fun _ _ h => h.elim).trans' (z6.mono fun j _ h => .inr (.inl h))).stepSet (.inl (.inl rfl)) _).trans y6 (fun j hj => ?_)
          rcases hj with h | h | h
          · exact .inl (.inl h)
          · exact (z5 j h).elim (fun h => .inl (.inr (.inl h))) (fun h => .inr (by omega))
          · exact .inl (.inr (.inr h))
        · simp only [Tr.high]; omega
        · simp only [Tr.high]; omega
      replace k2 := Lib.hid k2
      clear k1 hl hr hb hrb
      gi_wp2_with (first | refine (⟨trivial, rfl, ?_⟩ : Fence.wide.fn _ ∧ Fence.wide.depth = none ∧ _) | (gi_at_call 46; refine k2.out.mono ?_; rintro e W2 ⟨t1, rfl, cs, cf, cl, fin⟩; (replace fin := Lib.hid fin)) | (gi_at_call 67; refine fin.out.mono ?_; rintro e W3 ⟨t2, rfl, fin2⟩))
      refine bodyPost_ret (results_tmp2 rfl _ _ _) rfl ?_
      refine ⟨t2, ?_, fin2⟩
      show Ending.returned (Value.tuple #[Value.pointer t2.adr, Value.bool (hadL c k l.list)]) = _
      rw [show (Tr.node b k0 v0 l r).list = l.list ++ (k0, v0) :: r.list from rfl, e2.out]
    · skip
      obtain ⟨e1, _, e2, _, _⟩ := node_eq hcmp.ord (l := l.list) (r := r.list) (x := (k0, v0)) hrise' hs v
      replace e1 := Lib.hid e1
      replace e2 := Lib.hid e2
      replace hrise' := Lib.hid hrise'
      replace hrise := Lib.hid hrise
      have hkk0 := Lib.hid ((hcmp.ord.eq _ _).1 hs)
      refine callsIn_any (n := 0) (callsIn_of_wp Try.func46 rfl trivial ?_)
      simp only [Try.ntmps46, List.size_toArray, List.length_cons, List.length_nil, Nat.reduceAdd, Nat.reduceSub, Array.replicate_succ, Array.replicate_zero, List.push_toArray, List.append_toArray, List.nil_append, List.cons_append]
      have c0 : w.cell? ⟨rb, 0, none⟩ = some (.func cf ca cc) := hrb.cell 0
      have c1 : w.cell? ⟨b, 0, none⟩ = some (ekIB k0) := hb.cell 0
      have hkk := Lib.hid (hcmp.call k k0 w.drew)
      gi_wp2
      refine wpIn_eager [(0, true), (1, true), (2, true), (3, true), (4, true), (5, true), (6, true), (7, true), (8, true), (9, false), (10, true)] (fun V => V.cell? ⟨rb, 0, none⟩ = some (.func cf ca cc) ∧ V.cell? ⟨b, 0, none⟩ = some (ekIB k0)) (by kernel_rfl) (by kernel_rfl) ⟨c0, c1⟩ ?_
      refine wpE_fl rfl rfl (fun _ _ => rfl) ?_
      go_simp
      refine wpE_fl rfl rfl (fun _ _ => rfl) ?_
      go_simp
      refine wpE_fl (v := .pointer (some ⟨rb, 0, none⟩)) rfl rfl (fun W' h' => ?_) ?_
      · go_simp
      go_simp
      refine wpE_fl (v := .func cf ca cc) rfl rfl (fun W' h' => ?_) ?_
      · obtain ⟨h1, h2⟩ := h'; go_simp
      go_simp
      refine wpE_fl rfl rfl (fun _ _ => rfl) ?_
      go_simp
      refine wpE_fl rfl rfl (fun _ _ => rfl) ?_
      go_simp
      refine wpE_fl rfl rfl (fun _ _ => rfl) ?_
      go_simp
      refine wpE_fl (v := .pointer (some ⟨b, 0, none⟩)) rfl rfl (fun W' h' => ?_) ?_
      · go_simp
      go_simp
      refine wpE_fl (v := ekIB k0) rfl rfl (fun W' h' => ?_) ?_
      · obtain ⟨h1, h2⟩ := h'; go_simp
      go_simp
      refine wpE_ef rfl ?_
      go_simp
      gi_wp2_with ((with_reducible refine listV2 hkk.out ?_ ?_ ?_ ?_); rfl; rfl; rfl; rintro vv V ⟨rfl, hud⟩; (replace hud := (Upd.drew (fun _ => False) w).trans' hud))
      clear hkk c0 c1
      replace hrb := hrb.upd hud id
      replace hb := hb.upd hud id
      replace hl := hl.upd hud (fun _ _ => id)
      replace hr := hr.upd hud (fun _ _ => id)
      refine ⟨⟨hrb.cell 0, hb.cell 0⟩, ?_⟩
      refine wpE_fl rfl rfl (fun _ _ => rfl) ?_
      go_simp
      refine wpE_nil ?_
      have c1 : V.cell? ⟨b, 1, none⟩ = some (evIB v0) := hb.cell 1
      have cf := hb.frozen 1
      have cl := hb.lt
      have hb3 : Blk (V.setCell ⟨b, 1, none⟩ (evIB v)) b (mkIB k0 v (.pointer l.adr) (.pointer r.adr) ((1 + max l.high r.high : Nat) : Int) ((1 + l.many + r.many : Nat) : Int)) 98 := by simpa [mkIB] using hb.set 1 (evIB v)
      have hl3 : Tr.lies 98 mkIB (V.setCell ⟨b, 1, none⟩ (evIB v)) l := hl.upd (Upd.setCell (M := fun j => j = b) rfl _) (fun j h e => hap.1 (e ▸ h))
      have hr3 : Tr.lies 98 mkIB (V.setCell ⟨b, 1, none⟩ (evIB v)) r := hr.upd (Upd.setCell (M := fun j => j = b) rfl _) (fun j h e => hap.2.1 (e ▸ h))
      have hap' : (Tr.node b k0 v l r).apart := hap
      have fin := Lib.hid (evenIB (n := 0) hb3 hl3 hr3 hap' bl br (by omega) (by omega) (by omega))
      clear hb3 hl3 hr3
      have hs2 : ¬ c k k0 < 0 := by omega
      have hs3 : ¬ 0 < c k k0 := by omega
      gi_wp2_with (first | refine (⟨trivial, rfl, ?_⟩ : Fence.wide.fn _ ∧ Fence.wide.depth = none ∧ _) | (gi_at_call 67; refine fin.out.mono ?_; rintro e W3 ⟨t2, rfl, y1, y2, y3, y4, y5, y6, y7, y8, y9⟩))
      refine bodyPost_ret (results_tmp2 rfl _ _ _) rfl ?_
      refine ⟨t2, ?_, y1, y2, y3, ?_, fun j hj => .inl ((y5 j).1 hj), ?_, ?_, ?_⟩
      · show Ending.returned (Value.tuple #[Value.pointer t2.adr, Value.bool true]) = _
        rw [show (Tr.node b k0 v0 l r).list = l.list ++ (k0, v0) :: r.list from rfl, e2.out]
      · rw [y4]; exact (congrArg (fun q => l.list ++ (q, v) :: r.list) hkk0.out.symm).trans e1.out.symm
      · exact ((hud.mono (M' := (Tr.node b k0 v0 l r).has) fun _ _ h => h.elim).stepSet (.inl (.inl rfl)) _).trans y6 (fun j hj => .inl hj)
      · simp only [Tr.high]; have := y9 g1 g2; omega
      · simp only [Tr.high]; omega
    · skip
      obtain ⟨e1, _, e2, _, _⟩ := node_gt hcmp.ord (l := l.list) (r := r.list) (x := (k0, v0)) hrise' hs v
      replace e1 := Lib.hid e1
      replace e2 := Lib.hid e2
      replace hrise' := Lib.hid hrise'
      replace hrise := Lib.hid hrise
      refine callsIn_any (n := 0) (callsIn_of_wp Try.func46 rfl trivial ?_)
      simp only [Try.ntmps46, List.size_toArray, List.length_cons, List.length_nil, Nat.reduceAdd, Nat.reduceSub, Array.replicate_succ, Array.replicate_zero, List.push_toArray, List.append_toArray, List.nil_append, List.cons_append]
      have c0 : w.cell? ⟨rb, 0, none⟩ = some (.func cf ca cc) := hrb.cell 0
      have c1 : w.cell? ⟨b, 0, none⟩ = some (ekIB k0) := hb.cell 0
      have hkk := Lib.hid (hcmp.call k k0 w.drew)
      gi_wp2
      refine wpIn_eager [(0, true), (1, true), (2, true), (3, true), (4, true), (5, true), (6, true), (7, true), (8, true), (9, false), (10, true)] (fun V => V.cell? ⟨rb, 0, none⟩ = some (.func cf ca cc) ∧ V.cell? ⟨b, 0, none⟩ = some (ekIB k0)) (by kernel_rfl) (by kernel_rfl) ⟨c0, c1⟩ ?_
      refine wpE_fl rfl rfl (fun _ _ => rfl) ?_
      go_simp
      refine wpE_fl rfl rfl (fun _ _ => rfl) ?_
      go_simp
      refine wpE_fl (v := .pointer (some ⟨rb, 0, none⟩)) rfl rfl (fun W' h' => ?_) ?_
      · go_simp
      go_simp
      refine wpE_fl (v := .func cf ca cc) rfl rfl (fun W' h' => ?_) ?_
      · obtain ⟨h1, h2⟩ := h'; go_simp
      go_simp
      refine wpE_fl rfl rfl (fun _ _ => rfl) ?_
      go_simp
      refine wpE_fl rfl rfl (fun _ _ => rfl) ?_
      go_simp
      refine wpE_fl rfl rfl (fun _ _ => rfl) ?_
      go_simp
      refine wpE_fl (v := .pointer (some ⟨b, 0, none⟩)) rfl rfl (fun W' h' => ?_) ?_
      · go_simp
      go_simp
      refine wpE_fl (v := ekIB k0) rfl rfl (fun W' h' => ?_) ?_
      · obtain ⟨h1, h2⟩ := h'; go_simp
      go_simp
      refine wpE_ef rfl ?_
      go_simp
      gi_wp2_with ((with_reducible refine listV2 hkk.out ?_ ?_ ?_ ?_); rfl; rfl; rfl; rintro vv V ⟨rfl, hud⟩; (replace hud := (Upd.drew (fun _ => False) w).trans' hud))
      clear hkk c0 c1
      replace hrb := hrb.upd hud id
      replace hb := hb.upd hud id
      replace hl := hl.upd hud (fun _ _ => id)
      replace hr := hr.upd hud (fun _ _ => id)
      refine ⟨⟨hrb.cell 0, hb.cell 0⟩, ?_⟩
      refine wpE_fl rfl rfl (fun _ _ => rfl) ?_
      go_simp
      refine wpE_nil ?_
      have c3 : V.cell? ⟨b, 3, none⟩ = some (.pointer r.adr) := hb.cell 3
      have hs2 : ¬ c k k0 < 0 := by omega
      have k1 := ihr.out V hr hap.2.2.2.2 br r2 (by omega) hrb m3
      have k2 : CallsIn Fence.wide 0 Try.prog 46 #[.pointer (some ⟨rb, 0, none⟩), .pointer r.adr, ekIB k, evIB v] V fun e W2 => ∃ t1 : Tr KIB VIB, e = .returned (.tuple #[.pointer t1.adr, .bool (hadL c k r.list)]) ∧ W2.cell? ⟨b, 3, none⟩ = some (.pointer r.adr) ∧ W2.frozen? ⟨b, 3, none⟩ = false ∧ b < W2.heap.size ∧
          CallsIn Fence.wide 0 Try.prog 67 #[.pointer (some ⟨b, 0, none⟩)] (W2.setCell ⟨b, 3, none⟩ (.pointer t1.adr)) fun e W3 => ∃ t2 : Tr KIB VIB, e = .returned (.pointer t2.adr) ∧ PutFinIB c k v (Tr.node b k0 v0 l r) w t2 W3 := by
        refine k1.mono ?_
        rintro e W2 ⟨t1, rfl, z1, z2, z3, z4, z5, z6, z7, z8⟩
        have hz := hud.size
        have nb : ¬ t1.has b := fun h => by
          rcases z5 b h with h | h
          · exact hap.2.1 h
          · have := hb.lt; omega
        have hap' : (Tr.node b k0 v0 l t1).apart := by
          refine ⟨hap.1, nb, fun j h h' => ?_, hap.2.2.2.1, z2⟩
          rcases z5 j h' with h' | h'
          · exact hap.2.2.1 j h h'
          · have := hl.lt j h; omega
        have hb2 := hb.upd z6 hap.2.1
        have ho2 := hl.upd z6 (fun j h h' => hap.2.2.1 j h h')
        have hb3 : Blk (W2.setCell ⟨b, 3, none⟩ (.pointer t1.adr)) b (mkIB k0 v0 (.pointer l.adr) (.pointer t1.adr) ((1 + max l.high r.high : Nat) : Int) ((1 + l.many + r.many : Nat) : Int)) 98 := by simpa [mkIB] using hb2.set 3 (.pointer t1.adr)
        have z1' : Tr.lies 98 mkIB (W2.setCell ⟨b, 3, none⟩ (.pointer t1.adr)) t1 := z1.upd (Upd.setCell (M := fun j => j = b) rfl _) (fun j h e => nb (e ▸ h))
        have ho3 : Tr.lies 98 mkIB (W2.setCell ⟨b, 3, none⟩ (.pointer t1.adr)) l := ho2.upd (Upd.setCell (M := fun j => j = b) rfl _) (fun j h e => hap.1 (e ▸ h))
        have hq := qle.out t1 r z4 r2
        refine ⟨t1, rfl, hb2.cell 3, hb2.frozen 3, hb2.lt, ?_⟩
        refine (evenIB (n := 0) hb3 ho3 z1' hap' bl z3 (by omega) (by omega) (by omega)).mono ?_
        rintro e W3 ⟨t2, rfl, y1, y2, y3, y4, y5, y6, y7, y8, y9⟩
        refine ⟨t2, rfl, y1, y2, y3, ?_, fun j hj => ?_, ?_, ?_, ?_⟩
        · rw [y4, z4]; exact e1.out.symm
        · rcases (y5 j).1 hj with h | h | h
          · exact .inl (.inl h)
          · exact .inl (.inr (.inl h))
          · exact (z5 j h).elim (fun h => .inl (.inr (.inr h))) (fun h => .inr (by omega))
        · refine (((hud.mono (M' := (Tr.node b k0 v0 l r).has) fun _ _ h => h.elim).trans' (z6.mono fun j _ h => .inr (.inr h))).stepSet (.inl (.inl rfl)) _).trans y6 (fun j hj => ?_)
          rcases hj with h | h | h
          · exact .inl (.inl h)
          · exact .inl (.inr (.inl h))
          · exact (z5 j h).elim (fun h => .inl (.inr (.inr h))) (fun h => .inr (by omega))
        · simp only [Tr.high]; omega
        · simp only [Tr.high]; omega
      replace k2 := Lib.hid k2
      clear k1 hl hr hb hrb
      gi_wp2_with (first | refine (⟨trivial, rfl, ?_⟩ : Fence.wide.fn _ ∧ Fence.wide.depth = none ∧ _) | (gi_at_call 46; refine k2.out.mono ?_; rintro e W2 ⟨t1, rfl, cs, cf, cl, fin⟩; (replace fin := Lib.hid fin)) | (gi_at_call 67; refine fin.out.mono ?_; rintro e W3 ⟨t2, rfl, fin2⟩))
      refine bodyPost_ret (results_tmp2 rfl _ _ _) rfl ?_
      refine ⟨t2, ?_, fin2⟩
      show Ending.returned (Value.tuple #[Value.pointer t2.adr, Value.bool (hadL c k r.list)]) = _
      rw [show (Tr.node b k0 v0 l r).list = l.list ++ (k0, v0) :: r.list from rfl, e2.out]

/-- A RACK: its block and its tree; l: its entries in order. -/
structure RackIB (c : KIB → KIB → Int) (cf : Fn) (ca cc : Array Value) (rb : Nat) (t : Tr KIB VIB) (l : List (KIB × VIB)) (w : World) : Prop where
  blk : Blk w rb #[.func cf ca cc, .pointer t.adr] 96
  lies : Tr.lies 98 mkIB w t
  apart : t.apart
  bal : t.bal
  list : t.list = l
  rise : Rise c l
  root : ¬ t.has rb
theorem RackIB.agree {c : KIB → KIB → Int} {cf : Fn} {ca cc : Array Value} {rb : Nat} {t : Tr KIB VIB} {l : List (KIB × VIB)} {w w' : World} (h : RackIB c cf ca cc rb t l w) (ha : Agree (fun j => j = rb ∨ t.has j) w w') : RackIB c cf ca cc rb t l w' :=
  ⟨h.blk.agree ha (.inl rfl), h.lies.agree (ha.mono fun _ h => .inr h), h.apart, h.bal, h.list, h.rise, h.root⟩
theorem RackIB.lt {c : KIB → KIB → Int} {cf : Fn} {ca cc : Array Value} {rb : Nat} {t : Tr KIB VIB} {l : List (KIB × VIB)} {w : World} (h : RackIB c cf ca cc rb t l w) : ∀ j, (j = rb ∨ t.has j) → j < w.heap.size := by
  rintro j (rfl | hj)
  · exact h.blk.lt
  · exact h.lies.lt j hj
theorem RackIB.upd {c : KIB → KIB → Int} {cf : Fn} {ca cc : Array Value} {rb : Nat} {t : Tr KIB VIB} {l : List (KIB × VIB)} {w w' : World} {M : Nat → Prop} (h : RackIB c cf ca cc rb t l w) (hu : Upd M w w') (hm : ∀ j, (j = rb ∨ t.has j) → ¬ M j) : RackIB c cf ca cc rb t l w' :=
  h.agree (hu.agree fun j hj => ⟨h.lt j hj, hm j hj⟩)
theorem RackIB.many {c : KIB → KIB → Int} {cf : Fn} {ca cc : Array Value} {rb : Nat} {t : Tr KIB VIB} {l : List (KIB × VIB)} {w : World} (h : RackIB c cf ca cc rb t l w) : t.many = l.length := by rw [← h.list, Tr.many_list]

set_option maxHeartbeats 1000000 in
theorem rackNewIB {n : Nat} {c : KIB → KIB → Int} {cf : Fn} {ca cc : Array Value} {w : World} : CallsIn Fence.wide n Try.prog 43 #[.func cf ca cc] w fun e w' => e = .returned (.pointer (some ⟨w.heap.size, 0, none⟩)) ∧ RackIB c cf ca cc w.heap.size .nil [] w' ∧ Upd (fun _ => False) w w' := by
  refine callsIn_any (n := 0) (callsIn_of_wp Try.func43 rfl trivial ?_)
  simp only [Try.ntmps43, List.size_toArray, List.length_cons, List.length_nil, Nat.reduceAdd, Nat.reduceSub, Array.replicate_succ, Array.replicate_zero, List.push_toArray, List.append_toArray, List.nil_append, List.cons_append]
  gi_wp2
  go_ret
  exact ⟨rfl, ⟨Blk.new _ _ _, trivial, trivial, trivial, rfl, List.Pairwise.nil, id⟩, Upd.alloc _ _ _⟩

set_option maxRecDepth 100000 in
set_option maxHeartbeats 1000000 in
theorem rackPutIB {n : Nat} {c : KIB → KIB → Int} {cf : Fn} {ca cc : Array Value} (hcmp : CmpV Try.prog ekIB c cf ca cc) {rb : Nat} {t : Tr KIB VIB} {l : List (KIB × VIB)} {k : KIB} {v : VIB} {w : World} (h : RackIB c cf ca cc rb t l w) (hn : l.length < 100000) :
    CallsIn Fence.wide n Try.prog 26 #[.pointer (some ⟨rb, 0, none⟩), ekIB k, evIB v] w fun e w' => e = .returned (.bool (hadL c k l)) ∧ ∃ t', RackIB c cf ca cc rb t' (putL c k v l) w' ∧ (∀ j, t'.has j → t.has j ∨ w.heap.size ≤ j) ∧ Upd (fun j => j = rb ∨ t.has j) w w' := by
  have k1 := putIB hcmp (k := k) (v := v) t w h.lies h.apart h.bal (by rw [h.list]; exact h.rise) (by rw [h.many]; exact hn) h.blk h.root
  have k2 : CallsIn Fence.wide 0 Try.prog 46 #[.pointer (some ⟨rb, 0, none⟩), .pointer t.adr, ekIB k, evIB v] w fun e W2 => ∃ t1 : Tr KIB VIB, e = .returned (.tuple #[.pointer t1.adr, .bool (hadL c k l)]) ∧ W2.cell? ⟨rb, 1, none⟩ = some (.pointer t.adr) ∧ W2.frozen? ⟨rb, 1, none⟩ = false ∧ rb < W2.heap.size ∧
      RackIB c cf ca cc rb t1 (putL c k v l) (W2.setCell ⟨rb, 1, none⟩ (.pointer t1.adr)) ∧ (∀ j, t1.has j → t.has j ∨ w.heap.size ≤ j) ∧ Upd (fun j => j = rb ∨ t.has j) w (W2.setCell ⟨rb, 1, none⟩ (.pointer t1.adr)) := by
    refine k1.mono ?_
    rintro e W2 ⟨t1, rfl, z1, z2, z3, z4, z5, z6, z7, z8⟩
    have hb := h.blk.upd z6 h.root
    have hr : ¬ t1.has rb := fun hh => by
      rcases z5 rb hh with h1 | h1
      · exact h.root h1
      · have := h.blk.lt; omega
    refine ⟨t1, by rw [h.list], hb.cell 1, hb.frozen 1, hb.lt, ⟨by simpa using hb.set 1 (.pointer t1.adr), z1.upd (Upd.setCell (M := fun j => j = rb) rfl _) (fun j hj e => hr (e ▸ hj)), z2, z3, by rw [z4, h.list], putL_rise hcmp.ord h.rise k v, hr⟩, z5, (z6.mono fun j _ hj => .inr hj).stepSet (.inl (.inl rfl)) _⟩
  have c1 := h.blk.cell 1
  replace k2 := Lib.hid k2
  clear k1 h
  refine callsIn_any (n := 0) (callsIn_of_wp Try.func26 rfl trivial ?_)
  simp only [Try.ntmps26, List.size_toArray, List.length_cons, List.length_nil, Nat.reduceAdd, Nat.reduceSub, Array.replicate_succ, Array.replicate_zero, List.push_toArray, List.append_toArray, List.nil_append, List.cons_append]
  gi_wp2_with (first | refine (⟨trivial, rfl, ?_⟩ : Fence.wide.fn _ ∧ Fence.wide.depth = none ∧ _) | (gi_at_call 46; refine k2.out.mono ?_; rintro e W2 ⟨t1, rfl, c1, f1, l1, fin⟩; (replace fin := Lib.hid fin)))
  go_ret
  exact ⟨rfl, t1, fin.out⟩
end Go.Proofs.Ytgleiajmdbekiaa

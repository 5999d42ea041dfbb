/- rack's 'least', 'drop' and 'Drop', instance int, bool. -/
import Derived.Test.YtgleiajmdbekiaaProg
import Derived.Test.YtgleiajmdbekiaaBase
import Derived.Test.YtgleiajmdbekiaaTr
import Derived.Test.YtgleiajmdbekiaaFork
import Derived.Test.YtgleiajmdbekiaaRkIBC
namespace Go.Proofs.Ytgleiajmdbekiaa
open Go.RowKit Go.Shelf
attribute [local go_sem] Oper.semAt_some


/-- What 'least' leaves: the first node, and the tree of the others. -/
def LeastFinIB (t : Tr KIB VIB) (w : World) (b1 : Nat) (t' : Tr KIB VIB) (w' : World) : Prop :=
  (∃ k1 v1 x y h n, Blk w' b1 (mkIB k1 v1 (.pointer x) (.pointer y) h n) 98 ∧ t.list = (k1, v1) :: t'.list) ∧ Tr.lies 98 mkIB w' t' ∧ t'.apart ∧ t'.bal ∧ ¬ t'.has b1 ∧ t.has b1 ∧ (∀ j, t'.has j → t.has j) ∧ Upd t.has w w' ∧ t'.high ≤ t.high ∧ t.high ≤ t'.high + 1

set_option maxRecDepth 100000 in
set_option maxHeartbeats 2000000 in
theorem leastIB : ∀ (t : Tr KIB VIB) (w : World), t ≠ .nil → Tr.lies 98 mkIB w t → t.apart → t.bal → t.many < 100000 →
    CallsIn Fence.wide 0 Try.prog 68 #[.pointer t.adr] w fun e w' => ∃ b1 t', e = .returned (.tuple #[.pointer (some ⟨b1, 0, none⟩), .pointer t'.adr]) ∧ LeastFinIB t w b1 t' w' := by
  intro t
  induction t with
  | nil => intro w h; exact absurd rfl h
  | node b k0 v0 l r ihl ihr =>
    clear ihr
    intro w _ hlies hap hbal hmany
    obtain ⟨hb, hl, hr⟩ := hlies
    obtain ⟨bl, br, g1, g2⟩ := hbal
    simp only [Tr.many] at hmany
    simp only [Tr.adr]
    have c2 : w.cell? ⟨b, 2, none⟩ = some (.pointer l.adr) := hb.cell 2
    have c3 : w.cell? ⟨b, 3, none⟩ = some (.pointer r.adr) := hb.cell 3
    by_cases hnil : l = .nil
    · subst hnil
      have c2' : w.cell? ⟨b, 2, none⟩ = some (.pointer none) := c2
      clear c2
      refine callsIn_any (n := 0) (callsIn_of_wp Try.func68 rfl trivial ?_)
      simp only [Try.ntmps68, List.size_toArray, List.length_cons, List.length_nil, Nat.reduceAdd, Nat.reduceSub, Array.replicate_succ, Array.replicate_zero, List.push_toArray, List.append_toArray, List.nil_append, List.cons_append]
      gi_wp2
      refine wpIn_eager [(0, true), (1, true), (2, true), (3, true), (4, true), (5, true), (6, true)] (fun V => V.cell? ⟨b, 3, none⟩ = some (.pointer r.adr)) (by kernel_rfl) (by kernel_rfl) c3 ?_
      refine wpE_fl rfl rfl (fun _ _ => rfl) ?_
      go_simp
      refine wpE_fl rfl rfl (fun _ _ => rfl) ?_
      go_simp
      refine wpE_fl rfl rfl (fun _ _ => rfl) ?_
      go_simp
      refine wpE_fl (v := .pointer (some ⟨b, 3, none⟩)) rfl rfl (fun W' h' => ?_) ?_
      · go_simp
      go_simp
      refine wpE_fl (v := .pointer r.adr) rfl rfl (fun W' h' => ?_) ?_
      · go_simp
      go_simp
      refine wpE_fl rfl rfl (fun _ _ => rfl) ?_
      go_simp
      refine wpE_fl rfl rfl (fun _ _ => rfl) ?_
      go_simp
      refine wpE_nil ?_
      gi_wp2
      refine bodyPost_ret (results_tmp2 rfl _ _ _) rfl ?_
      refine ⟨b, r, rfl, ⟨k0, v0, none, r.adr, _, _, hb.upd (Upd.drew (fun _ => False) w) id, rfl⟩, hr.upd (Upd.drew (fun _ => False) w) (fun _ _ => id), hap.2.2.2.2, br, hap.2.1, .inl rfl, fun j hj => .inr (.inr hj), (Upd.drew _ w), by simp only [Tr.high]; omega, by simp only [Tr.high] at g2 ⊢; omega⟩
    · have hla : ∃ q, l.adr = some q := by
        cases l with
        | nil => exact absurd rfl hnil
        | node _ _ _ _ _ => exact ⟨_, rfl⟩
      obtain ⟨q, hq⟩ := hla
      have k1 := ihl w hnil hl hap.2.2.2.1 bl (by omega)
      have k2 : CallsIn Fence.wide 0 Try.prog 68 #[.pointer l.adr] w fun e W2 => ∃ (b1 : Nat) (t1 : Tr KIB VIB), e = .returned (.tuple #[.pointer (some ⟨b1, 0, none⟩), .pointer (Tr.adr t1)]) ∧ W2.cell? ⟨b, 2, none⟩ = some (.pointer l.adr) ∧ W2.frozen? ⟨b, 2, none⟩ = false ∧ b < W2.heap.size ∧
          CallsIn Fence.wide 0 Try.prog 67 #[.pointer (some ⟨b, 0, none⟩)] (W2.setCell ⟨b, 2, none⟩ (.pointer t1.adr)) fun e W3 => ∃ t2 : Tr KIB VIB, e = .returned (.pointer t2.adr) ∧ LeastFinIB (Tr.node b k0 v0 l r) w b1 t2 W3 := by
        refine k1.mono ?_
        rintro e W2 ⟨b1, t1, rfl, ⟨k1, v1, x1, x2, h1, n1, zb, zl⟩, z1, z2, z3, z4, z5, z6, z7, z8, z9⟩
        have nb : ¬ t1.has b := fun h => hap.1 (z6 b h)
        have hap' : (Tr.node b k0 v0 t1 r).apart := ⟨nb, hap.2.1, fun j h h' => hap.2.2.1 j (z6 j h) h', z2, hap.2.2.2.2⟩
        have hb2 := hb.upd z7 hap.1
        have ho2 := hr.upd z7 (fun j h h' => hap.2.2.1 j h' h)
        have hb3 : Blk (W2.setCell ⟨b, 2, none⟩ (.pointer t1.adr)) b (mkIB k0 v0 (.pointer t1.adr) (.pointer r.adr) ((1 + max l.high r.high : Nat) : Int) ((1 + l.many + r.many : Nat) : Int)) 98 := by simpa [mkIB] using hb2.set 2 (.pointer t1.adr)
        have z1' : Tr.lies 98 mkIB (W2.setCell ⟨b, 2, none⟩ (.pointer t1.adr)) t1 := z1.upd (Upd.setCell (M := fun j => j = b) rfl _) (fun j h e => nb (e ▸ h))
        have ho3 : Tr.lies 98 mkIB (W2.setCell ⟨b, 2, none⟩ (.pointer t1.adr)) r := ho2.upd (Upd.setCell (M := fun j => j = b) rfl _) (fun j h e => hap.2.1 (e ▸ h))
        have hb1 : b1 ≠ b := fun e => hap.1 (e ▸ z5)
        have zb3 := zb.other (p := ⟨b, 2, none⟩) hb1 (.pointer t1.adr)
        have hm : t1.many + 1 = l.many := by rw [← Tr.many_list, ← Tr.many_list, zl, List.length_cons]
        refine ⟨b1, t1, rfl, hb2.cell 2, hb2.frozen 2, hb2.lt, ?_⟩
        refine (evenIB (n := 0) hb3 z1' ho3 hap' z3 br (by omega) (by omega) (by omega)).mono ?_
        rintro e W3 ⟨t2, rfl, y1, y2, y3, y4, y5, y6, y7, y8, y9⟩
        have hn1 : ¬ (Tr.node b k0 v0 t1 r).has b1 := by
          rintro (h | h | h)
          · exact hb1 h
          · exact z4 h
          · exact hap.2.2.1 _ z5 h
        refine ⟨t2, rfl, ⟨k1, v1, x1, x2, h1, n1, zb3.upd y6 hn1, ?_⟩, y1, y2, y3, fun h => hn1 ((y5 _).1 h), .inr (.inl z5), fun j hj => ?_, ?_, ?_, ?_⟩
        · rw [y4]; simp [Tr.list, zl]
        · rcases (y5 j).1 hj with h | h | h
          · exact .inl h
          · exact .inr (.inl (z6 j h))
          · exact .inr (.inr h)
        · refine ((z7.mono (M' := (Tr.node b k0 v0 l r).has) fun j _ h => .inr (.inl h)).stepSet (.inl (.inl rfl)) _).trans y6 (fun j hj => ?_)
          rcases hj with h | h | h
          · exact .inl (.inl h)
          · exact .inl (.inr (.inl (z6 j h)))
          · exact .inl (.inr (.inr h))
        · simp only [Tr.high]; omega
        · simp only [Tr.high]; omega
      have hq2 := Lib.hid hq
      rw [hq] at c2 k2
      replace k2 := Lib.hid k2
      clear k1 hl hr hb hq hq2 c3
      refine callsIn_any (n := 0) (callsIn_of_wp Try.func68 rfl trivial ?_)
      simp only [Try.ntmps68, List.size_toArray, List.length_cons, List.length_nil, Nat.reduceAdd, Nat.reduceSub, Array.replicate_succ, Array.replicate_zero, List.push_toArray, List.append_toArray, List.nil_append, List.cons_append]
      gi_wp2_with (first | refine (⟨trivial, rfl, ?_⟩ : Fence.wide.fn _ ∧ Fence.wide.depth = none ∧ _) | (gi_at_call 68; refine k2.out.mono ?_; rintro e W2 ⟨b1, t1, rfl, cs, cf, cl, fin⟩; (replace fin := Lib.hid fin)) | (gi_at_call 67; refine fin.out.mono ?_; rintro e W3 ⟨t2, rfl, fin2⟩))
      refine bodyPost_ret (results_tmp2 rfl _ _ _) rfl ?_
      exact ⟨b1, t2, rfl, fin2⟩

/-- What 'drop' says of the tree that it answers. -/
def DropFinIB (c : KIB → KIB → Int) (k : KIB) (t : Tr KIB VIB) (w : World) (t' : Tr KIB VIB) (w' : World) : Prop :=
  Tr.lies 98 mkIB w' t' ∧ t'.apart ∧ t'.bal ∧ t'.list = dropL c k t.list ∧ (∀ j, t'.has j → t.has j ∨ w.heap.size ≤ j) ∧ Upd t.has w w' ∧ t'.high ≤ t.high ∧ t.high ≤ t'.high + 1
def DropPostIB (c : KIB → KIB → Int) (k : KIB) (t : Tr KIB VIB) (w : World) (e : Ending) (w' : World) : Prop :=
  ∃ t' : Tr KIB VIB, e = .returned (.tuple #[.pointer t'.adr, .bool (hadL c k t.list)]) ∧ DropFinIB c k t w t' w'

set_option maxRecDepth 100000 in
set_option maxHeartbeats 2000000 in
theorem dropIB {c : KIB → KIB → Int} {cf : Fn} {ca cc : Array Value} (hcmp : CmpV Try.prog ekIB c cf ca cc) {rb : Nat} {x : Value} {k : KIB} : ∀ (t : Tr KIB VIB) (w : World), Tr.lies 98 mkIB w t → t.apart → t.bal → Rise c t.list → t.many < 100000 → Blk w rb #[.func cf ca cc, x] 96 → ¬ t.has rb →
    CallsIn Fence.wide 0 Try.prog 48 #[.pointer (some ⟨rb, 0, none⟩), .pointer t.adr, ekIB k] w (DropPostIB c k t w) := by
  intro t
  induction t with
  | nil =>
    intro w _ _ _ _ _ hrb _
    clear hrb
    simp only [Tr.adr]
    refine callsIn_any (n := 0) (callsIn_of_wp Try.func48 rfl trivial ?_)
    simp only [Try.ntmps48, List.size_toArray, List.length_cons, List.length_nil, Nat.reduceAdd, Nat.reduceSub, Array.replicate_succ, Array.replicate_zero, List.push_toArray, List.append_toArray, List.nil_append, List.cons_append]
    gi_wp2
    refine bodyPost_ret (results_tmp2 rfl _ _ _) rfl ?_
    exact ⟨.nil, rfl, trivial, trivial, trivial, rfl, fun _ h => h.elim, Upd.refl _ _, Nat.le_refl _, Nat.le_succ _⟩
  | node b k0 v0 l r ihl ihr =>
    intro w hlies hap hbal hrise hmany hrb hnrb
    obtain ⟨hb, hl, hr⟩ := hlies
    obtain ⟨bl, br, g1, g2⟩ := hbal
    have hrise' := hrise
    obtain ⟨r1, r2, _, _, _⟩ := Rise.parts (l := l.list) (r := r.list) (x := (k0, v0)) hrise
    simp only [Tr.has, not_or] at hnrb
    obtain ⟨m1, m2, m3⟩ := hnrb
    simp only [Tr.many] at hmany
    simp only [Tr.adr]
    have qle : ∀ (t' s : Tr KIB VIB), t'.list = dropL c k s.list → Rise c s.list → t'.many ≤ s.many + 1 := fun t' s e _ => by rw [← Tr.many_list t', ← Tr.many_list s, e]; have := dropL_le (c := c) k s.list; omega
    replace qle := Lib.hid qle
    replace ihl := Lib.hid ihl
    replace ihr := Lib.hid ihr
    rcases Int.lt_trichotomy (c k k0) 0 with hs | hs | hs
    · skip
      obtain ⟨_, e1, e2, _, _⟩ := node_lt hcmp.ord (l := l.list) (r := r.list) (x := (k0, v0)) hrise' hs v0
      replace e1 := Lib.hid e1
      replace e2 := Lib.hid e2
      replace hrise' := Lib.hid hrise'
      replace hrise := Lib.hid hrise
      refine callsIn_any (n := 0) (callsIn_of_wp Try.func48 rfl trivial ?_)
      simp only [Try.ntmps48, List.size_toArray, List.length_cons, List.length_nil, Nat.reduceAdd, Nat.reduceSub, Array.replicate_succ, Array.replicate_zero, List.push_toArray, List.append_toArray, List.nil_append, List.cons_append]
      have c0 : w.cell? ⟨rb, 0, none⟩ = some (.func cf ca cc) := hrb.cell 0
      have c1 : w.cell? ⟨b, 0, none⟩ = some (ekIB k0) := hb.cell 0
      have hkk := Lib.hid (hcmp.call k k0 w.drew)
      gi_wp2
      refine wpIn_eager [(0, true), (1, true), (2, true), (3, true), (4, true), (5, true), (6, true), (7, true), (8, true), (9, false), (10, true)] (fun V => V.cell? ⟨rb, 0, none⟩ = some (.func cf ca cc) ∧ V.cell? ⟨b, 0, none⟩ = some (ekIB k0)) (by kernel_rfl) (by kernel_rfl) ⟨c0, c1⟩ ?_
      refine wpE_fl rfl rfl (fun _ _ => rfl) ?_
      go_simp
      refine wpE_fl rfl rfl (fun _ _ => rfl) ?_
      go_simp
      refine wpE_fl (v := .pointer (some ⟨rb, 0, none⟩)) rfl rfl (fun W' h' => ?_) ?_
      · go_simp
      go_simp
      refine wpE_fl (v := .func cf ca cc) rfl rfl (fun W' h' => ?_) ?_
      · obtain ⟨h1, h2⟩ := h'; go_simp
      go_simp
      refine wpE_fl rfl rfl (fun _ _ => rfl) ?_
      go_simp
      refine wpE_fl rfl rfl (fun _ _ => rfl) ?_
      go_simp
      refine wpE_fl rfl rfl (fun _ _ => rfl) ?_
      go_simp
      refine wpE_fl (v := .pointer (some ⟨b, 0, none⟩)) rfl rfl (fun W' h' => ?_) ?_
      · go_simp
      go_simp
      refine wpE_fl (v := ekIB k0) rfl rfl (fun W' h' => ?_) ?_
      · obtain ⟨h1, h2⟩ := h'; go_simp
      go_simp
      refine wpE_ef rfl ?_
      go_simp
      gi_wp2_with ((with_reducible refine listV2 hkk.out ?_ ?_ ?_ ?_); rfl; rfl; rfl; rintro vv V ⟨rfl, hud⟩; (replace hud := (Upd.drew (fun _ => False) w).trans' hud))
      clear hkk c0 c1
      replace hrb := hrb.upd hud id
      replace hb := hb.upd hud id
      replace hl := hl.upd hud (fun _ _ => id)
      replace hr := hr.upd hud (fun _ _ => id)
      refine ⟨⟨hrb.cell 0, hb.cell 0⟩, ?_⟩
      refine wpE_fl rfl rfl (fun _ _ => rfl) ?_
      go_simp
      refine wpE_nil ?_
      have c2 : V.cell? ⟨b, 2, none⟩ = some (.pointer l.adr) := hb.cell 2
      have k1 := ihl.out V hl hap.2.2.2.1 bl r1 (by omega) hrb m2
      have k2 : CallsIn Fence.wide 0 Try.prog 48 #[.pointer (some ⟨rb, 0, none⟩), .pointer l.adr, ekIB k] V fun e W2 => ∃ t1 : Tr KIB VIB, e = .returned (.tuple #[.pointer t1.adr, .bool (hadL c k l.list)]) ∧ W2.cell? ⟨b, 2, none⟩ = some (.pointer l.adr) ∧ W2.frozen? ⟨b, 2, none⟩ = false ∧ b < W2.heap.size ∧
          CallsIn Fence.wide 0 Try.prog 67 #[.pointer (some ⟨b, 0, none⟩)] (W2.setCell ⟨b, 2, none⟩ (.pointer t1.adr)) fun e W3 => ∃ t2 : Tr KIB VIB, e = .returned (.pointer t2.adr) ∧ DropFinIB c k (Tr.node b k0 v0 l r) w t2 W3 := by
        refine k1.mono ?_
        rintro e W2 ⟨t1, rfl, z1, z2, z3, z4, z5, z6, z7, z8⟩
        have hz := hud.size
        have nb : ¬ t1.has b := fun h => by
          rcases z5 b h with h | h
          · exact hap.1 h
          · have := hb.lt; omega
        have hap' : (Tr.node b k0 v0 t1 r).apart := by
          refine ⟨nb, hap.2.1, fun j h h' => ?_, z2, hap.2.2.2.2⟩
          rcases z5 j h with h | h
          · exact hap.2.2.1 j h h'
          · have := hr.lt j h'; omega
        have hb2 := hb.upd z6 hap.1
        have ho2 := hr.upd z6 (fun j h h' => hap.2.2.1 j h' h)
        have hb3 : Blk (W2.setCell ⟨b, 2, none⟩ (.pointer t1.adr)) b (mkIB k0 v0 (.pointer t1.adr) (.pointer r.adr) ((1 + max l.high r.high : Nat) : Int) ((1 + l.many + r.many : Nat) : Int)) 98 := by simpa [mkIB] using hb2.set 2 (.pointer t1.adr)
        have z1' : Tr.lies 98 mkIB (W2.setCell ⟨b, 2, none⟩ (.pointer t1.adr)) t1 := z1.upd (Upd.setCell (M := fun j => j = b) rfl _) (fun j h e => nb (e ▸ h))
        have ho3 : Tr.lies 98 mkIB (W2.setCell ⟨b, 2, none⟩ (.pointer t1.adr)) r := ho2.upd (Upd.setCell (M := fun j => j = b) rfl _) (fun j h e => hap.2.1 (e ▸ h))
        have hq := qle.out t1 l z4 r1
        refine ⟨t1, rfl, hb2.cell 2, hb2.frozen 2, hb2.lt, ?_⟩
        refine (evenIB (n := 0) hb3 z1' ho3 hap' z3 br (by omega) (by omega) (by omega)).mono ?_
        rintro e W3 ⟨t2, rfl, y1, y2, y3, y4, y5, y6, y7, y8, y9⟩
        refine ⟨t2, rfl, y1, y2, y3, ?_, fun j hj => ?_, ?_, ?_, ?_⟩
        · rw [y4, z4]; exact e1.out.symm
        · rcases (y5 j).1 hj with h | h | h
          · exact .inl (.inl h)
          · exact (z5 j h).elim (fun h => .inl (.inr (.inl h))) (fun h => .inr (by omega))
          · exact .inl (.inr (.inr h))
        · refine (((hud.mono (M' := (Tr.node b k0 v0 l r).has) fun _ _ h => h.elim).trans' (z6.mono fun j _ h => .inr (.inl h))).stepSet (.inl (.inl rfl)) _).trans y6 (fun j hj => ?_)
          rcases hj with h | h | h
          · exact .inl (.inl h)
          · exact (z5 j h).elim (fun h => .inl (.inr (.inl h))) (fun h => .inr (by omega))
          · exact .inl (.inr (.inr h))
        · simp only [Tr.high]; omega
        · simp only [Tr.high]; omega
      replace k2 := Lib.hid k2
      clear k1 hl hr hb hrb
      gi_wp2_with (first | refine (⟨trivial, rfl, ?_⟩ : Fence.wide.fn _ ∧ Fence.wide.depth = none ∧ _) | (gi_at_call 48; refine k2.out.mono ?_; rintro e W2 ⟨t1, rfl, cs, cf, cl, fin⟩; (replace fin := Lib.hid fin)) | (gi_at_call 67; refine fin.out.mono ?_; rintro e W3 ⟨t2, rfl, fin2⟩))
      refine bodyPost_ret (results_tmp2 rfl _ _ _) rfl ?_
      refine ⟨t2, ?_, fin2⟩
      show Ending.returned (Value.tuple #[Value.pointer t2.adr, Value.bool (hadL c k l.list)]) = _
      rw [show (Tr.node b k0 v0 l r).list = l.list ++ (k0, v0) :: r.list from rfl, e2.out]
    · skip
      obtain ⟨_, e1, e2, _, _⟩ := node_eq hcmp.ord (l := l.list) (r := r.list) (x := (k0, v0)) hrise' hs v0
      replace e1 := Lib.hid e1
      replace e2 := Lib.hid e2
      replace hrise' := Lib.hid hrise'
      replace hrise := Lib.hid hrise
      by_cases hnil : r = .nil
      · subst hnil
        refine callsIn_any (n := 0) (callsIn_of_wp Try.func48 rfl trivial ?_)
        simp only [Try.ntmps48, List.size_toArray, List.length_cons, List.length_nil, Nat.reduceAdd, Nat.reduceSub, Array.replicate_succ, Array.replicate_zero, List.push_toArray, List.append_toArray, List.nil_append, List.cons_append]
        have c0 : w.cell? ⟨rb, 0, none⟩ = some (.func cf ca cc) := hrb.cell 0
        have c1 : w.cell? ⟨b, 0, none⟩ = some (ekIB k0) := hb.cell 0
        have hkk := Lib.hid (hcmp.call k k0 w.drew)
        gi_wp2
        refine wpIn_eager [(0, true), (1, true), (2, true), (3, true), (4, true), (5, true), (6, true), (7, true), (8, true), (9, false), (10, true)] (fun V => V.cell? ⟨rb, 0, none⟩ = some (.func cf ca cc) ∧ V.cell? ⟨b, 0, none⟩ = some (ekIB k0)) (by kernel_rfl) (by kernel_rfl) ⟨c0, c1⟩ ?_
        refine wpE_fl rfl rfl (fun _ _ => rfl) ?_
        go_simp
        refine wpE_fl rfl rfl (fun _ _ => rfl) ?_
        go_simp
        refine wpE_fl (v := .pointer (some ⟨rb, 0, none⟩)) rfl rfl (fun W' h' => ?_) ?_
        · go_simp
        go_simp
        refine wpE_fl (v := .func cf ca cc) rfl rfl (fun W' h' => ?_) ?_
        · obtain ⟨h1, h2⟩ := h'; go_simp
        go_simp
        refine wpE_fl rfl rfl (fun _ _ => rfl) ?_
        go_simp
        refine wpE_fl rfl rfl (fun _ _ => rfl) ?_
        go_simp
        refine wpE_fl rfl rfl (fun _ _ => rfl) ?_
        go_simp
        refine wpE_fl (v := .pointer (some ⟨b, 0, none⟩)) rfl rfl (fun W' h' => ?_) ?_
        · go_simp
        go_simp
        refine wpE_fl (v := ekIB k0) rfl rfl (fun W' h' => ?_) ?_
        · obtain ⟨h1, h2⟩ := h'; go_simp
        go_simp
        refine wpE_ef rfl ?_
        go_simp
        gi_wp2_with ((with_reducible refine listV2 hkk.out ?_ ?_ ?_ ?_); rfl; rfl; rfl; rintro vv V ⟨rfl, hud⟩; (replace hud := (Upd.drew (fun _ => False) w).trans' hud))
        clear hkk c0 c1
        replace hrb := hrb.upd hud id
        replace hb := hb.upd hud id
        replace hl := hl.upd hud (fun _ _ => id)
        replace hr := hr.upd hud (fun _ _ => id)
        refine ⟨⟨hrb.cell 0, hb.cell 0⟩, ?_⟩
        refine wpE_fl rfl rfl (fun _ _ => rfl) ?_
        go_simp
        refine wpE_nil ?_
        have c2 : V.cell? ⟨b, 2, none⟩ = some (.pointer l.adr) := hb.cell 2
        have c3 : V.cell? ⟨b, 3, none⟩ = some (.pointer none) := hb.cell 3
        have hs2 : ¬ c k k0 < 0 := by omega
        have hs3 : ¬ 0 < c k k0 := by omega
        gi_wp2
        refine bodyPost_ret (results_tmp2 rfl _ _ _) rfl ?_
        refine ⟨l, ?_, hl, hap.2.2.2.1, bl, ?_, fun j hj => .inl (.inr (.inl hj)), hud.mono fun _ _ h => h.elim, ?_, ?_⟩
        · show Ending.returned (Value.tuple #[Value.pointer l.adr, Value.bool true]) = _
          rw [show (Tr.node b k0 v0 l .nil).list = l.list ++ (k0, v0) :: Tr.list .nil from rfl, e2.out]
        · rw [show (Tr.node b k0 v0 l .nil).list = l.list ++ (k0, v0) :: Tr.list .nil from rfl, e1.out]; simp [Tr.list]
        · simp only [Tr.high]; omega
        · simp only [Tr.high] at g1 ⊢; omega
      · have hra : ∃ q, r.adr = some q := by
          cases r with
          | nil => exact absurd rfl hnil
          | node _ _ _ _ _ => exact ⟨_, rfl⟩
        obtain ⟨q, hq⟩ := hra
        refine callsIn_any (n := 0) (callsIn_of_wp Try.func48 rfl trivial ?_)
        simp only [Try.ntmps48, List.size_toArray, List.length_cons, List.length_nil, Nat.reduceAdd, Nat.reduceSub, Array.replicate_succ, Array.replicate_zero, List.push_toArray, List.append_toArray, List.nil_append, List.cons_append]
        have c0 : w.cell? ⟨rb, 0, none⟩ = some (.func cf ca cc) := hrb.cell 0
        have c1 : w.cell? ⟨b, 0, none⟩ = some (ekIB k0) := hb.cell 0
        have hkk := Lib.hid (hcmp.call k k0 w.drew)
        gi_wp2
        refine wpIn_eager [(0, true), (1, true), (2, true), (3, true), (4, true), (5, true), (6, true), (7, true), (8, true), (9, false), (10, true)] (fun V => V.cell? ⟨rb, 0, none⟩ = some (.func cf ca cc) ∧ V.cell? ⟨b, 0, none⟩ = some (ekIB k0)) (by kernel_rfl) (by kernel_rfl) ⟨c0, c1⟩ ?_
        refine wpE_fl rfl rfl (fun _ _ => rfl) ?_
        go_simp
        refine wpE_fl rfl rfl (fun _ _ => rfl) ?_
        go_simp
        refine wpE_fl (v := .pointer (some ⟨rb, 0, none⟩)) rfl rfl (fun W' h' => ?_) ?_
        · go_simp
        go_simp
        refine wpE_fl (v := .func cf ca cc) rfl rfl (fun W' h' => ?_) ?_
        · obtain ⟨h1, h2⟩ := h'; go_simp
        go_simp
        refine wpE_fl rfl rfl (fun _ _ => rfl) ?_
        go_simp
        refine wpE_fl rfl rfl (fun _ _ => rfl) ?_
        go_simp
        refine wpE_fl rfl rfl (fun _ _ => rfl) ?_
        go_simp
        refine wpE_fl (v := .pointer (some ⟨b, 0, none⟩)) rfl rfl (fun W' h' => ?_) ?_
        · go_simp
        go_simp
        refine wpE_fl (v := ekIB k0) rfl rfl (fun W' h' => ?_) ?_
        · obtain ⟨h1, h2⟩ := h'; go_simp
        go_simp
        refine wpE_ef rfl ?_
        go_simp
        gi_wp2_with ((with_reducible refine listV2 hkk.out ?_ ?_ ?_ ?_); rfl; rfl; rfl; rintro vv V ⟨rfl, hud⟩; (replace hud := (Upd.drew (fun _ => False) w).trans' hud))
        clear hkk c0 c1
        replace hrb := hrb.upd hud id
        replace hb := hb.upd hud id
        replace hl := hl.upd hud (fun _ _ => id)
        replace hr := hr.upd hud (fun _ _ => id)
        refine ⟨⟨hrb.cell 0, hb.cell 0⟩, ?_⟩
        refine wpE_fl rfl rfl (fun _ _ => rfl) ?_
        go_simp
        refine wpE_nil ?_
        have c3 : V.cell? ⟨b, 3, none⟩ = some (.pointer r.adr) := hb.cell 3
        have hs2 : ¬ c k k0 < 0 := by omega
        have hs3 : ¬ 0 < c k k0 := by omega
        have k1 := leastIB r V hnil hr hap.2.2.2.2 br (by omega)
        have k2 : CallsIn Fence.wide 0 Try.prog 68 #[.pointer r.adr] V fun e W2 => ∃ (b1 : Nat) (t1 : Tr KIB VIB) (x1 y1 : Option Addr), e = .returned (.tuple #[.pointer (some ⟨b1, 0, none⟩), .pointer (Tr.adr t1)]) ∧ W2.cell? ⟨b, 2, none⟩ = some (.pointer l.adr) ∧ W2.cell? ⟨b1, 2, none⟩ = some (.pointer x1) ∧ W2.cell? ⟨b1, 3, none⟩ = some (.pointer y1) ∧ (W2.setCell ⟨b1, 2, none⟩ (.pointer l.adr)).cell? ⟨b1, 3, none⟩ = some (.pointer y1) ∧ W2.frozen? ⟨b1, 2, none⟩ = false ∧ (W2.setCell ⟨b1, 2, none⟩ (.pointer l.adr)).frozen? ⟨b1, 3, none⟩ = false ∧ b1 < W2.heap.size ∧
            CallsIn Fence.wide 0 Try.prog 67 #[.pointer (some ⟨b1, 0, none⟩)] ((W2.setCell ⟨b1, 2, none⟩ (.pointer l.adr)).setCell ⟨b1, 3, none⟩ (.pointer t1.adr)) fun e W3 => ∃ t2 : Tr KIB VIB, e = .returned (.pointer t2.adr) ∧ DropFinIB c k (Tr.node b k0 v0 l r) w t2 W3 := by
          refine k1.mono ?_
          rintro e W2 ⟨b1, t1, rfl, ⟨k1, v1, x1, x2, h1, n1, zb, zl⟩, z1, z2, z3, z4, z5, z6, z7, z8, z9⟩
          have hz := hud.size
          have nl : ¬ l.has b1 := fun h => hap.2.2.1 _ h z5
          have hap' : (Tr.node b1 k1 v1 l t1).apart := ⟨nl, z4, fun j h h' => hap.2.2.1 j h (z6 j h'), hap.2.2.2.1, z2⟩
          have hb2 := hb.upd z7 hap.2.1
          have hl2 := hl.upd z7 (fun j h h' => hap.2.2.1 j h h')
          have zb2 : Blk (W2.setCell ⟨b1, 2, none⟩ (.pointer l.adr)) b1 (mkIB k1 v1 (.pointer l.adr) (.pointer x2) h1 n1) 98 := by simpa [mkIB] using zb.set 2 (.pointer l.adr)
          have zb3 : Blk ((W2.setCell ⟨b1, 2, none⟩ (.pointer l.adr)).setCell ⟨b1, 3, none⟩ (.pointer t1.adr)) b1 (mkIB k1 v1 (.pointer l.adr) (.pointer t1.adr) h1 n1) 98 := by simpa [mkIB] using zb2.set 3 (.pointer t1.adr)
          have hu2 : Upd (fun j => j = b1) W2 ((W2.setCell ⟨b1, 2, none⟩ (.pointer l.adr)).setCell ⟨b1, 3, none⟩ (.pointer t1.adr)) := ((Upd.refl (fun j => j = b1) W2).stepSet (p := ⟨b1, 2, none⟩) (.inl rfl) _).stepSet (p := ⟨b1, 3, none⟩) (.inl rfl) _
          have hm : t1.many + 1 = r.many := by rw [← Tr.many_list, ← Tr.many_list, zl, List.length_cons]
          refine ⟨b1, t1, x1, x2, rfl, hb2.cell 2, zb.cell 2, zb.cell 3, zb2.cell 3, zb.frozen 2, zb2.frozen 3, zb.lt, ?_⟩
          refine (evenIB (n := 0) zb3 (hl2.upd hu2 fun j h e => nl (e ▸ h)) (z1.upd hu2 fun j h e => z4 (e ▸ h)) hap' bl z3 (by omega) (by omega) (by omega)).mono ?_
          rintro e W3 ⟨t2, rfl, y1, y2, y3, y4, y5, y6, y7, y8, y9⟩
          have hsub : ∀ j, (Tr.node b1 k1 v1 l t1).has j → (Tr.node b k0 v0 l r).has j := by
            rintro j (h | h | h)
            · exact .inr (.inr (h ▸ z5))
            · exact .inr (.inl h)
            · exact .inr (.inr (z6 j h))
          refine ⟨t2, rfl, y1, y2, y3, ?_, fun j hj => .inl (hsub j ((y5 j).1 hj)), ?_, ?_, ?_⟩
          · rw [y4, show (Tr.node b k0 v0 l r).list = l.list ++ (k0, v0) :: r.list from rfl, e1.out, zl]
          · exact (((hud.mono (M' := (Tr.node b k0 v0 l r).has) fun _ _ h => h.elim).trans' (z7.mono fun j _ h => .inr (.inr h))).trans' (hu2.mono fun j _ h => .inr (.inr (h ▸ z5)))).trans' (y6.mono fun j _ h => hsub j h)
          · simp only [Tr.high]; omega
          · simp only [Tr.high]; omega
        rw [hq] at c3 k2
        replace k2 := Lib.hid k2
        clear k1 hl hr hb hq hrb
        gi_wp2_with (first | refine (⟨trivial, rfl, ?_⟩ : Fence.wide.fn _ ∧ Fence.wide.depth = none ∧ _) | (gi_at_call 68; refine k2.out.mono ?_; rintro e W2 ⟨b1, t1, x1, y1, rfl, cs, ct, ct3, cu, cf, cg, cl, fin⟩; (replace fin := Lib.hid fin)) | (gi_at_call 67; refine fin.out.mono ?_; rintro e W3 ⟨t2, rfl, fin2⟩))
        refine bodyPost_ret (results_tmp2 rfl _ _ _) rfl ?_
        refine ⟨t2, ?_, fin2⟩
        show Ending.returned (Value.tuple #[Value.pointer t2.adr, Value.bool true]) = _
        rw [show (Tr.node b k0 v0 l r).list = l.list ++ (k0, v0) :: r.list from rfl, e2.out]
    · skip
      obtain ⟨_, e1, e2, _, _⟩ := node_gt hcmp.ord (l := l.list) (r := r.list) (x := (k0, v0)) hrise' hs v0
      replace e1 := Lib.hid e1
      replace e2 := Lib.hid e2
      replace hrise' := Lib.hid hrise'
      replace hrise := Lib.hid hrise
      refine callsIn_any (n := 0) (callsIn_of_wp Try.func48 rfl trivial ?_)
      simp only [Try.ntmps48, List.size_toArray, List.length_cons, List.length_nil, Nat.reduceAdd, Nat.reduceSub, Array.replicate_succ, Array.replicate_zero, List.push_toArray, List.append_toArray, List.nil_append, List.cons_append]
      have c0 : w.cell? ⟨rb, 0, none⟩ = some (.func cf ca cc) := hrb.cell 0
      have c1 : w.cell? ⟨b, 0, none⟩ = some (ekIB k0) := hb.cell 0
      have hkk := Lib.hid (hcmp.call k k0 w.drew)
      gi_wp2
      refine wpIn_eager [(0, true), (1, true), (2, true), (3, true), (4, true), (5, true), (6, true), (7, true), (8, true), (9, false), (10, true)] (fun V => V.cell? ⟨rb, 0, none⟩ = some (.func cf ca cc) ∧ V.cell? ⟨b, 0, none⟩ = some (ekIB k0)) (by kernel_rfl) (by kernel_rfl) ⟨c0, c1⟩ ?_
      refine wpE_fl rfl rfl (fun _ _ => rfl) ?_
      go_simp
      refine wpE_fl rfl rfl (fun _ _ => rfl) ?_
      go_simp
      refine wpE_fl (v := .pointer (some ⟨rb, 0, none⟩)) rfl rfl (fun W' h' => ?_) ?_
      · go_simp
      go_simp
      refine wpE_fl (v := .func cf ca cc) rfl rfl (fun W' h' => ?_) ?_
      · obtain ⟨h1, h2⟩ := h'; go_simp
      go_simp
      refine wpE_fl rfl rfl (fun _ _ => rfl) ?_
      go_simp
      refine wpE_fl rfl rfl (fun _ _ => rfl) ?_
      go_simp
      refine wpE_fl rfl rfl (fun _ _ => rfl) ?_
      go_simp
      refine wpE_fl (v := .pointer (some ⟨b, 0, none⟩)) rfl rfl (fun W' h' => ?_) ?_
      · go_simp
      go_simp
      refine wpE_fl (v := ekIB k0) rfl rfl (fun W' h' => ?_) ?_
      · obtain ⟨h1, h2⟩ := h'; go_simp
      go_simp
      refine wpE_ef rfl ?_
      go_simp
      gi_wp2_with ((with_reducible refine listV2 hkk.out ?_ ?_ ?_ ?_); rfl; rfl; rfl; rintro vv V ⟨rfl, hud⟩; (replace hud := (Upd.drew (fun _ => False) w).trans' hud))
      clear hkk c0 c1
      replace hrb := hrb.upd hud id
      replace hb := hb.upd hud id
      replace hl := hl.upd hud (fun _ _ => id)
      replace hr := hr.upd hud (fun _ _ => id)
      refine ⟨⟨hrb.cell 0, hb.cell 0⟩, ?_⟩
      refine wpE_fl rfl rfl (fun _ _ => rfl) ?_
      go_simp
      refine wpE_nil ?_
      have c3 : V.cell? ⟨b, 3, none⟩ = some (.pointer r.adr) := hb.cell 3
      have hs2 : ¬ c k k0 < 0 := by omega
      have k1 := ihr.out V hr hap.2.2.2.2 br r2 (by omega) hrb m3
      have k2 : CallsIn Fence.wide 0 Try.prog 48 #[.pointer (some ⟨rb, 0, none⟩), .pointer r.adr, ekIB k] V fun e W2 => ∃ t1 : Tr KIB VIB, e = .returned (.tuple #[.pointer t1.adr, .bool (hadL c k r.list)]) ∧ W2.cell? ⟨b, 3, none⟩ = some (.pointer r.adr) ∧ W2.frozen? ⟨b, 3, none⟩ = false ∧ b < W2.heap.size ∧
          CallsIn Fence.wide 0 Try.prog 67 #[.pointer (some ⟨b, 0, none⟩)] (W2.setCell ⟨b, 3, none⟩ (.pointer t1.adr)) fun e W3 => ∃ t2 : Tr KIB VIB, e = .returned (.pointer t2.adr) ∧ DropFinIB c k (Tr.node b k0 v0 l r) w t2 W3 := by
        refine k1.mono ?_
        rintro e W2 ⟨t1, rfl, z1, z2, z3, z4, z5, z6, z7, z8⟩
        have hz := hud.size
        have nb : ¬ t1.has b := fun h => by
          rcases z5 b h with h | h
          · exact hap.2.1 h
          · have := hb.lt; omega
        have hap' : (Tr.node b k0 v0 l t1).apart := by
          refine ⟨hap.1, nb, fun j h h' => ?_, hap.2.2.2.1, z2⟩
          rcases z5 j h' with h' | h'
          · exact hap.2.2.1 j h h'
          · have := hl.lt j h; omega
        have hb2 := hb.upd z6 hap.2.1
        have ho2 := hl.upd z6 (fun j h h' => hap.2.2.1 j h h')
        have hb3 : Blk (W2.setCell ⟨b, 3, none⟩ (.pointer t1.adr)) b (mkIB k0 v0 (.pointer l.adr) (.pointer t1.adr) ((1 + max l.high r.high : Nat) : Int) ((1 + l.many + r.many : Nat) : Int)) 98 := by simpa [mkIB] using hb2.set 3 (.pointer t1.adr)
        have z1' : Tr.lies 98 mkIB (W2.setCell ⟨b, 3, none⟩ (.pointer t1.adr)) t1 := z1.upd (Upd.setCell (M := fun j => j = b) rfl _) (fun j h e => nb (e ▸ h))
        have ho3 : Tr.lies 98 mkIB (W2.setCell ⟨b, 3, none⟩ (.pointer t1.adr)) l := ho2.upd (Upd.setCell (M := fun j => j = b) rfl _) (fun j h e => hap.1 (e ▸ h))
        have hq := qle.out t1 r z4 r2
        refine ⟨t1, rfl, hb2.cell 3, hb2.frozen 3, hb2.lt, ?_⟩
        refine (evenIB (n := 0) hb3 ho3 z1' hap' bl z3 (by omega) (by omega) (by omega)).mono ?_
        rintro e W3 ⟨t2, rfl, y1, y2, y3, y4, y5, y6, y7, y8, y9⟩
        refine ⟨t2, rfl, y1, y2, y3, ?_, fun j hj => ?_, ?_, ?_, ?_⟩
        · rw [y4, z4]; exact e1.out.symm
        · rcases (y5 j).1 hj with h | h | h
          · exact .inl (.inl h)
          · exact .inl (.inr (.inl h))
          · exact (z5 j h).elim (fun h => .inl (.inr (.inr h))) (fun h => .inr (by omega))
        · refine (((hud.mono (M' := (Tr.node b k0 v0 l r).has) fun _ _ h => h.elim).trans' (z6.mono fun j _ h => .inr (.inr h))).stepSet (.inl (.inl rfl)) _).trans y6 (fun j hj => ?_)
          rcases hj with h | h | h
          · exact .inl (.inl h)
          · exact .inl (.inr (.inl h))
          · exact (z5 j h).elim (fun h => .inl (.inr (.inr h))) (fun h => .inr (by omega))
        · simp only [Tr.high]; omega
        · simp only [Tr.high]; omega
      replace k2 := Lib.hid k2
      clear k1 hl hr hb hrb
      gi_wp2_with (first | refine (⟨trivial, rfl, ?_⟩ : Fence.wide.fn _ ∧ Fence.wide.depth = none ∧ _) | (gi_at_call 48; refine k2.out.mono ?_; rintro e W2 ⟨t1, rfl, cs, cf, cl, fin⟩; (replace fin := Lib.hid fin)) | (gi_at_call 67; refine fin.out.mono ?_; rintro e W3 ⟨t2, rfl, fin2⟩))
      refine bodyPost_ret (results_tmp2 rfl _ _ _) rfl ?_
      refine ⟨t2, ?_, fin2⟩
      show Ending.returned (Value.tuple #[Value.pointer t2.adr, Value.bool (hadL c k r.list)]) = _
      rw [show (Tr.node b k0 v0 l r).list = l.list ++ (k0, v0) :: r.list from rfl, e2.out]

set_option maxHeartbeats 1000000 in
theorem rackDropIB {n : Nat} {c : KIB → KIB → Int} {cf : Fn} {ca cc : Array Value} (hcmp : CmpV Try.prog ekIB c cf ca cc) {rb : Nat} {t : Tr KIB VIB} {l : List (KIB × VIB)} {k : KIB} {w : World} (h : RackIB c cf ca cc rb t l w) (hn : l.length < 100000) :
    CallsIn Fence.wide n Try.prog 29 #[.pointer (some ⟨rb, 0, none⟩), ekIB k] w fun e w' => e = .returned (.bool (hadL c k l)) ∧ ∃ t', RackIB c cf ca cc rb t' (dropL c k l) w' ∧ (∀ j, t'.has j → t.has j ∨ w.heap.size ≤ j) ∧ Upd (fun j => j = rb ∨ t.has j) w w' := by
  have k1 := dropIB hcmp (k := k) t w h.lies h.apart h.bal (by rw [h.list]; exact h.rise) (by rw [h.many]; exact hn) h.blk h.root
  have k2 : CallsIn Fence.wide 0 Try.prog 48 #[.pointer (some ⟨rb, 0, none⟩), .pointer t.adr, ekIB k] w fun e W2 => ∃ t1 : Tr KIB VIB, e = .returned (.tuple #[.pointer t1.adr, .bool (hadL c k l)]) ∧ W2.cell? ⟨rb, 1, none⟩ = some (.pointer t.adr) ∧ W2.frozen? ⟨rb, 1, none⟩ = false ∧ rb < W2.heap.size ∧
      RackIB c cf ca cc rb t1 (dropL c k l) (W2.setCell ⟨rb, 1, none⟩ (.pointer t1.adr)) ∧ (∀ j, t1.has j → t.has j ∨ w.heap.size ≤ j) ∧ Upd (fun j => j = rb ∨ t.has j) w (W2.setCell ⟨rb, 1, none⟩ (.pointer t1.adr)) := by
    refine k1.mono ?_
    rintro e W2 ⟨t1, rfl, z1, z2, z3, z4, z5, z6, z7, z8⟩
    have hb := h.blk.upd z6 h.root
    have hr : ¬ t1.has rb := fun hh => by
      rcases z5 rb hh with h1 | h1
      · exact h.root h1
      · have := h.blk.lt; omega
    refine ⟨t1, by rw [h.list], hb.cell 1, hb.frozen 1, hb.lt, ⟨by simpa using hb.set 1 (.pointer t1.adr), z1.upd (Upd.setCell (M := fun j => j = rb) rfl _) (fun j hj e => hr (e ▸ hj)), z2, z3, by rw [z4, h.list], dropL_rise h.rise k, hr⟩, z5, (z6.mono fun j _ hj => .inr hj).stepSet (.inl (.inl rfl)) _⟩
  have c1 := h.blk.cell 1
  replace k2 := Lib.hid k2
  clear k1 h
  refine callsIn_any (n := 0) (callsIn_of_wp Try.func29 rfl trivial ?_)
  simp only [Try.ntmps29, List.size_toArray, List.length_cons, List.length_nil, Nat.reduceAdd, Nat.reduceSub, Array.replicate_succ, Array.replicate_zero, List.push_toArray, List.append_toArray, List.nil_append, List.cons_append]
  gi_wp2_with (first | refine (⟨trivial, rfl, ?_⟩ : Fence.wide.fn _ ∧ Fence.wide.depth = none ∧ _) | (gi_at_call 48; refine k2.out.mono ?_; rintro e W2 ⟨t1, rfl, c1, f1, l1, fin⟩; (replace fin := Lib.hid fin)))
  go_ret
  exact ⟨rfl, t1, fin.out⟩
end Go.Proofs.Ytgleiajmdbekiaa

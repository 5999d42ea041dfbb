/- rack's iterators, instance int, bool. -/
import Derived.Test.YtgleiajmdbekiaaProg
import Derived.Test.YtgleiajmdbekiaaBase
import Derived.Test.YtgleiajmdbekiaaTr
import Derived.Test.YtgleiajmdbekiaaFork
import Derived.Test.YtgleiajmdbekiaaRkIBC
namespace Go.Proofs.Ytgleiajmdbekiaa
open Go.RowKit Go.Shelf
attribute [local go_sem] Oper.semAt_some


abbrev encIB (x : KIB × VIB) : Array Value := #[ekIB x.1, evIB x.2]
/-- What a walk over a part of the tree leaves. -/
def WalkedIB {σ : Type} (xs : List (KIB × VIB)) (step : σ → KIB × VIB → σ × Bool) (Rep : σ → (Nat → Prop) → World → Prop) (st : σ) (S D : Nat → Prop) (w W : World) (i : Nat) (e : Ending) (W2 : World) : Prop :=
  ∃ b, e = .returned (.bool b) ∧ Agree D w W2 ∧ (b = true → LeafRel step Rep st S (fun _ => False) W xs i W2) ∧ (b = false → RunEnd Rep (goF step st xs).1 (fun _ => True) S (fun _ => False) W undef W2)
theorem yieldIB {σ : Type} {xs : List (KIB × VIB)} {step : σ → KIB × VIB → σ × Bool} {Rep : σ → (Nat → Prop) → World → Prop} {yf : Fn} {ya yc : Array Value} {st : σ} {S D : Nat → Prop} {w W : World} (hx : RunCtx Try.prog encIB xs step Rep (.func yf ya yc) st S (fun _ => False) D w W) (hD : ∀ k, D k → k < w.heap.size) {x : KIB × VIB} {m : List (KIB × VIB)} {i : Nat} {wr : World} (hl : LeafRel step Rep st S (fun _ => False) W xs i wr) (hp : Part xs i (x :: m)) :
    CallV Try.prog (.func yf ya yc) (encIB x) wr fun v W2 => ∃ b, v = .bool b ∧ Agree D w W2 ∧ (b = true → LeafRel step Rep st S (fun _ => False) W xs (i + 1) W2) ∧ (b = false → RunEnd Rep (goF step st xs).1 (fun _ => True) S (fun _ => False) W undef W2) := by
  obtain ⟨hi, hxi⟩ := hp.head
  have h := hl.call hx hi
  rw [hxi] at h
  refine h.mono ?_
  rintro v W2 ⟨b, rfl, hu, h1, h2⟩
  refine ⟨b, rfl, (hl.agree hx fun k hk => ⟨hD k hk, id⟩).trans (hu.agree fun j hj => ?_), h1, h2⟩
  have h1 := hD j hj
  have h2 := hx.size
  have h3 := hl.size
  exact ⟨by omega, fun hh => hh.elim (fun hh => (hx.own j hh).2.1 hj) (fun hh => by omega)⟩

set_option maxRecDepth 100000 in
set_option maxHeartbeats 2000000 in
theorem upIB {c : KIB → KIB → Int} {σ : Type} {xs : List (KIB × VIB)} {step : σ → KIB × VIB → σ × Bool} {Rep : σ → (Nat → Prop) → World → Prop} {yf : Fn} {ya yc : Array Value} {st : σ} {S D : Nat → Prop} {w W : World} {af : Fn} {aa ac : Array Value} {p : KIB → Bool} (hx : RunCtx Try.prog encIB xs step Rep (.func yf ya yc) st S (fun _ => False) D w W) (hD : ∀ k, D k → k < w.heap.size)
    (hah : ∀ k wr, Agree D w wr → CallV Try.prog (.func af aa ac) #[ekIB k] wr fun v W2 => v = .bool (p k) ∧ Upd (fun _ => False) wr W2) (hmon : ∀ a b, c a b < 0 → p b = true → p a = true) :
    ∀ (s : Tr KIB VIB), Tr.lies 98 mkIB w s → (∀ j, s.has j → D j) → Rise c s.list → ∀ (i : Nat) (wr : World), LeafRel step Rep st S (fun _ => False) W xs i wr → Part xs i (behindL p s.list) →
      CallsIn Fence.wide 0 Try.prog 60 #[.pointer s.adr, .func af aa ac, .func yf ya yc] wr (WalkedIB xs step Rep st S D w W (i + (behindL p s.list).length)) := by
  intro s
  induction s with
  | nil =>
    intro _ _ _ i wr hl _
    have hag := Lib.hid (hl.agree hx fun k hk => ⟨hD k hk, id⟩)
    replace hl := Lib.hid hl
    simp only [Tr.adr_nil]
    clear hx hah
    refine callsIn_any (n := 0) (callsIn_of_wp Try.func60 rfl trivial ?_)
    simp only [Try.ntmps60, List.size_toArray, List.length_cons, List.length_nil, Nat.reduceAdd, Nat.reduceSub, Array.replicate_succ, Array.replicate_zero, List.push_toArray, List.append_toArray, List.nil_append, List.cons_append]
    gi_wp2
    go_ret
    exact ⟨true, rfl, hag.out, fun _ => hl.out, fun h => by cases h⟩
  | node b k0 v0 l r ihl ihr =>
    intro hlies hsub hrise i wr hl hp
    have hrise' := hrise
    obtain ⟨q1, q2, _, _, _⟩ := Rise.parts (l := l.list) (r := r.list) (x := (k0, v0)) hrise
    have hag := hl.agree hx fun k hk => ⟨hD k hk, id⟩
    have hb0 := hlies.1
    have hbD := hsub b (.inl rfl)
    have hb := hb0.agree hag hbD
    have hk := Lib.hid (hah k0 wr hag)
    have IL := ihl hlies.2.1 (fun j h => hsub j (.inr (.inl h))) q1
    have IR := ihr hlies.2.2 (fun j h => hsub j (.inr (.inr h))) q2
    clear ihl ihr hah
    simp only [Tr.adr_node]
    have c0 : wr.cell? ⟨b, 0, none⟩ = some (ekIB k0) := hb.cell 0
    cases hpk : p k0 with
    | true =>
      rw [show (Tr.node b k0 v0 l r).list = l.list ++ (k0, v0) :: r.list from rfl, behind_skip (c := c) hmon hrise' hpk] at hp ⊢
      have k2 : ∀ W2, Upd (fun _ => False) wr W2 → W2.cell? ⟨b, 3, none⟩ = some (.pointer r.adr) ∧ CallsIn Fence.wide 0 Try.prog 60 #[.pointer r.adr, .func af aa ac, .func yf ya yc] W2 (WalkedIB xs step Rep st S D w W (i + (behindL p r.list).length)) := fun W2 hu => by
        have hl2 : LeafRel step Rep st S (fun _ => False) W xs i W2 := by
          obtain ⟨s1, S1, e1, e2, e3, e4⟩ := hl
          exact ⟨s1, S1, e1, hx.stab _ _ _ _ e2 (hu.agree fun j hj => ⟨(e4 j hj).1, id⟩) hu.size, e3.trans' (hu.mono fun _ _ h => h.elim), fun j hj => ⟨Nat.lt_of_lt_of_le (e4 j hj).1 hu.size, (e4 j hj).2⟩⟩
        exact ⟨(hb.upd hu id).cell 3, IR i W2 hl2 hp⟩
      replace k2 := Lib.hid k2
      rw [hpk] at hk
      clear IL IR hx hl hag hb0 hbD hlies hsub hp hb
      refine callsIn_any (n := 0) (callsIn_of_wp Try.func60 rfl trivial ?_)
      simp only [Try.ntmps60, List.size_toArray, List.length_cons, List.length_nil, Nat.reduceAdd, Nat.reduceSub, Array.replicate_succ, Array.replicate_zero, List.push_toArray, List.append_toArray, List.nil_append, List.cons_append]
      gi_wp2_with (first | refine (⟨trivial, rfl, ?_⟩ : Fence.wide.fn _ ∧ Fence.wide.depth = none ∧ _) | ((with_reducible refine listV1 hk.out ?_ ?_ ?_); rfl; rfl; rintro v W2 ⟨rfl, hu⟩; obtain ⟨c3, k3⟩ := k2.out W2 hu; (replace k3 := Lib.hid k3)) | (gi_at_call 60; refine k3.out.mono ?_; rintro e W3 ⟨bb, rfl, fin⟩; (replace fin := Lib.hid fin)))
      go_ret
      exact ⟨bb, rfl, fin.out⟩
    | false =>
      rw [show (Tr.node b k0 v0 l r).list = l.list ++ (k0, v0) :: r.list from rfl, behind_go hpk] at hp ⊢
      have hlen : i + (behindL p l.list ++ (k0, v0) :: behindL p r.list).length = (i + (behindL p l.list).length + 1) + (behindL p r.list).length := by simp only [List.length_append, List.length_cons]; omega
      rw [hlen]
      clear hlen
      have k2 : ∀ W2, Upd (fun _ => False) wr W2 → W2.cell? ⟨b, 2, none⟩ = some (.pointer l.adr) ∧ W2.cell? ⟨b, 0, none⟩ = some (ekIB k0) ∧ W2.cell? ⟨b, 1, none⟩ = some (evIB v0) ∧ W2.cell? ⟨b, 3, none⟩ = some (.pointer r.adr) ∧ CallsIn Fence.wide 0 Try.prog 60 #[.pointer l.adr, .func af aa ac, .func yf ya yc] W2 (WalkedIB xs step Rep st S D w W (i + (behindL p l.list).length)) := fun W2 hu => by
        have hl2 : LeafRel step Rep st S (fun _ => False) W xs i W2 := by
          obtain ⟨s1, S1, e1, e2, e3, e4⟩ := hl
          exact ⟨s1, S1, e1, hx.stab _ _ _ _ e2 (hu.agree fun j hj => ⟨(e4 j hj).1, id⟩) hu.size, e3.trans' (hu.mono fun _ _ h => h.elim), fun j hj => ⟨Nat.lt_of_lt_of_le (e4 j hj).1 hu.size, (e4 j hj).2⟩⟩
        have hb2 := hb.upd hu id
        exact ⟨hb2.cell 2, hb2.cell 0, hb2.cell 1, hb2.cell 3, IL i W2 hl2 hp.left⟩
      have k3 : ∀ W2, LeafRel step Rep st S (fun _ => False) W xs (i + (behindL p l.list).length) W2 → CallV Try.prog (.func yf ya yc) #[ekIB k0, evIB v0] W2 fun v W2 => ∃ b, v = .bool b ∧ Agree D w W2 ∧ (b = true → LeafRel step Rep st S (fun _ => False) W xs (i + (behindL p l.list).length + 1) W2) ∧ (b = false → RunEnd Rep (goF step st xs).1 (fun _ => True) S (fun _ => False) W undef W2) :=
        fun W2 h => yieldIB (x := (k0, v0)) (m := behindL p r.list) hx hD h hp.right
      have k4 := fun W2 h => IR (i + (behindL p l.list).length + 1) W2 h hp.right.tail
      have kc : ∀ W2, Agree D w W2 → W2.cell? ⟨b, 2, none⟩ = some (.pointer l.adr) ∧ W2.cell? ⟨b, 0, none⟩ = some (ekIB k0) ∧ W2.cell? ⟨b, 1, none⟩ = some (evIB v0) ∧ W2.cell? ⟨b, 3, none⟩ = some (.pointer r.adr) := fun W2 h => by
        have hb2 := hb0.agree h hbD
        exact ⟨hb2.cell 2, hb2.cell 0, hb2.cell 1, hb2.cell 3⟩
      replace k2 := Lib.hid k2
      replace k3 := Lib.hid k3
      replace k4 := Lib.hid k4
      replace kc := Lib.hid kc
      rw [hpk] at hk
      clear IL IR hx hl hag hb0 hbD hlies hsub hp hb
      refine callsIn_any (n := 0) (callsIn_of_wp Try.func60 rfl trivial ?_)
      simp only [Try.ntmps60, List.size_toArray, List.length_cons, List.length_nil, Nat.reduceAdd, Nat.reduceSub, Array.replicate_succ, Array.replicate_zero, List.push_toArray, List.append_toArray, List.nil_append, List.cons_append]
      gi_wp2_with (first | refine (⟨trivial, rfl, ?_⟩ : Fence.wide.fn _ ∧ Fence.wide.depth = none ∧ _) | ((with_reducible refine listV1 hk.out ?_ ?_ ?_); rfl; rfl; rintro v W2 ⟨rfl, hu⟩; obtain ⟨e1, e2, e3, e4, k5⟩ := k2.out W2.drew hu.stepDrew; (replace k5 := Lib.hid k5)))
      refine wpIn_eager [(0, true), (1, true), (2, true), (3, true), (4, true), (5, true), (6, false), (7, true), (8, true), (9, true), (10, true), (11, true), (12, true), (13, true), (14, true), (15, true), (16, true), (17, false), (18, true), (19, true), (20, true), (21, true), (22, true), (23, true), (24, true), (25, true), (26, false), (27, true), (28, true)] (fun V => V.cell? ⟨b, 2, none⟩ = some (.pointer l.adr) ∧ V.cell? ⟨b, 0, none⟩ = some (ekIB k0) ∧ V.cell? ⟨b, 1, none⟩ = some (evIB v0) ∧ V.cell? ⟨b, 3, none⟩ = some (.pointer r.adr)) (by kernel_rfl) (by kernel_rfl) ⟨e1, e2, e3, e4⟩ ?_
      refine wpE_fl rfl rfl (fun _ _ => rfl) ?_
      go_simp
      refine wpE_fl rfl rfl (fun _ _ => rfl) ?_
      go_simp
      refine wpE_fl (v := .pointer (some ⟨b, 2, none⟩)) rfl rfl (fun W' h' => ?_) ?_
      · go_simp
      go_simp
      refine wpE_fl (v := .pointer l.adr) rfl rfl (fun W' h' => ?_) ?_
      · obtain ⟨h1, h2, h3, h4⟩ := h'; go_simp
      go_simp
      refine wpE_fl rfl rfl (fun _ _ => rfl) ?_
      go_simp
      refine wpE_fl rfl rfl (fun _ _ => rfl) ?_
      go_simp
      refine wpE_ef rfl ?_
      go_simp
      gi_wp2_with (first | refine (⟨trivial, rfl, ?_⟩ : Fence.wide.fn _ ∧ Fence.wide.depth = none ∧ _) | (gi_at_call 60; refine k5.out.mono ?_; rintro e W3 ⟨b1, rfl, ag1, y1, n1⟩; (replace ag1 := Lib.hid ag1); (replace y1 := Lib.hid y1); (replace n1 := Lib.hid n1)))
      refine ⟨kc.out _ ag1.out, ?_⟩
      cases b1 with
      | false =>
        refine wpE_fl rfl rfl (fun _ _ => rfl) ?_
        go_simp
        refine wpE_sk rfl rfl ?_
        go_simp
        refine wpE_sk rfl rfl ?_
        go_simp
        refine wpE_sk rfl rfl ?_
        go_simp
        refine wpE_sk rfl rfl ?_
        go_simp
        refine wpE_sk rfl rfl ?_
        go_simp
        refine wpE_sk rfl rfl ?_
        go_simp
        refine wpE_sk rfl rfl ?_
        go_simp
        refine wpE_sk rfl rfl ?_
        go_simp
        refine wpE_sk rfl rfl ?_
        go_simp
        refine wpE_ef rfl ?_
        go_simp
        gi_wp2_with ((with_reducible refine listSkipV ?_ ?_ ?_); rfl; rfl)
        refine ⟨kc.out _ ag1.out, ?_⟩
        refine wpE_fl rfl rfl (fun _ _ => rfl) ?_
        go_simp
        refine wpE_fl rfl rfl (fun _ _ => rfl) ?_
        go_simp
        refine wpE_sk rfl rfl ?_
        go_simp
        refine wpE_sk rfl rfl ?_
        go_simp
        refine wpE_sk rfl rfl ?_
        go_simp
        refine wpE_sk rfl rfl ?_
        go_simp
        refine wpE_sk rfl rfl ?_
        go_simp
        refine wpE_sk rfl rfl ?_
        go_simp
        refine wpE_ef rfl ?_
        go_simp
        gi_wp2_with (refine (⟨trivial, ?_⟩ : Fence.wide.fn _ ∧ _))
        refine ⟨kc.out _ ag1.out, ?_⟩
        refine wpE_fl rfl rfl (fun _ _ => rfl) ?_
        go_simp
        refine wpE_fl rfl rfl (fun _ _ => rfl) ?_
        go_simp
        refine wpE_nil ?_
        gi_wp2
        go_ret
        exact ⟨false, rfl, ag1.out, fun h => (by cases h), fun _ => n1.out (by first | exact rfl | exact trivial)⟩
      | true =>
        replace k3 := Lib.hid (k3.out _ (y1.out (by first | exact rfl | exact trivial)))
        refine wpE_fl rfl rfl (fun _ _ => rfl) ?_
        go_simp
        refine wpE_fl rfl rfl (fun _ _ => rfl) ?_
        go_simp
        refine wpE_fl rfl rfl (fun _ _ => rfl) ?_
        go_simp
        refine wpE_fl rfl rfl (fun _ _ => rfl) ?_
        go_simp
        refine wpE_fl (v := .pointer (some ⟨b, 0, none⟩)) rfl rfl (fun W' h' => ?_) ?_
        · go_simp
        go_simp
        refine wpE_fl (v := ekIB k0) rfl rfl (fun W' h' => ?_) ?_
        · obtain ⟨h1, h2, h3, h4⟩ := h'; go_simp
        go_simp
        refine wpE_fl rfl rfl (fun _ _ => rfl) ?_
        go_simp
        refine wpE_fl rfl rfl (fun _ _ => rfl) ?_
        go_simp
        refine wpE_fl (v := .pointer (some ⟨b, 1, none⟩)) rfl rfl (fun W' h' => ?_) ?_
        · go_simp
        go_simp
        refine wpE_fl (v := evIB v0) rfl rfl (fun W' h' => ?_) ?_
        · obtain ⟨h1, h2, h3, h4⟩ := h'; go_simp
        go_simp
        refine wpE_ef rfl ?_
        go_simp
        gi_wp2_with ((with_reducible refine listV2g k3.out ?_ ?_ ?_ ?_ ?_); rfl; rfl; rfl; rfl; rintro v W4 ⟨b2, rfl, ag2, y2, n2⟩; (replace ag2 := Lib.hid ag2); (replace y2 := Lib.hid y2); (replace n2 := Lib.hid n2))
        refine ⟨kc.out _ ag2.out, ?_⟩
        cases b2 with
        | false =>
          refine wpE_fl rfl rfl (fun _ _ => rfl) ?_
          go_simp
          refine wpE_fl rfl rfl (fun _ _ => rfl) ?_
          go_simp
          refine wpE_sk rfl rfl ?_
          go_simp
          refine wpE_sk rfl rfl ?_
          go_simp
          refine wpE_sk rfl rfl ?_
          go_simp
          refine wpE_sk rfl rfl ?_
          go_simp
          refine wpE_sk rfl rfl ?_
          go_simp
          refine wpE_sk rfl rfl ?_
          go_simp
          refine wpE_ef rfl ?_
          go_simp
          gi_wp2_with (refine (⟨trivial, ?_⟩ : Fence.wide.fn _ ∧ _))
          refine ⟨kc.out _ ag2.out, ?_⟩
          refine wpE_fl rfl rfl (fun _ _ => rfl) ?_
          go_simp
          refine wpE_fl rfl rfl (fun _ _ => rfl) ?_
          go_simp
          refine wpE_nil ?_
          gi_wp2
          go_ret
          exact ⟨false, rfl, ag2.out, fun h => (by cases h), fun _ => n2.out (by first | exact rfl | exact trivial)⟩
        | true =>
          replace k4 := Lib.hid (k4.out _ (y2.out (by first | exact rfl | exact trivial)))
          refine wpE_fl rfl rfl (fun _ _ => rfl) ?_
          go_simp
          refine wpE_fl rfl rfl (fun _ _ => rfl) ?_
          go_simp
          refine wpE_fl rfl rfl (fun _ _ => rfl) ?_
          go_simp
          refine wpE_fl rfl rfl (fun _ _ => rfl) ?_
          go_simp
          refine wpE_fl (v := .pointer (some ⟨b, 3, none⟩)) rfl rfl (fun W' h' => ?_) ?_
          · go_simp
          go_simp
          refine wpE_fl (v := .pointer r.adr) rfl rfl (fun W' h' => ?_) ?_
          · obtain ⟨h1, h2, h3, h4⟩ := h'; go_simp
          go_simp
          refine wpE_fl rfl rfl (fun _ _ => rfl) ?_
          go_simp
          refine wpE_fl rfl rfl (fun _ _ => rfl) ?_
          go_simp
          refine wpE_ef rfl ?_
          go_simp
          gi_wp2_with (first | refine (⟨trivial, trivial, rfl, ?_⟩ : Fence.wide.fn _ ∧ Fence.wide.fn _ ∧ Fence.wide.depth = none ∧ _) | refine (⟨trivial, rfl, ?_⟩ : Fence.wide.fn _ ∧ Fence.wide.depth = none ∧ _) | (gi_at_call 60; refine k4.out.mono ?_; rintro e W5 ⟨b3, rfl, fin⟩; (replace fin := Lib.hid fin)) | refine (⟨trivial, ?_⟩ : Fence.wide.fn _ ∧ _))
          refine ⟨kc.out _ fin.out.1, ?_⟩
          refine wpE_fl rfl rfl (fun _ _ => rfl) ?_
          go_simp
          refine wpE_fl rfl rfl (fun _ _ => rfl) ?_
          go_simp
          refine wpE_nil ?_
          gi_wp2
          go_ret
          exact ⟨b3, rfl, fin.out⟩


theorem rackAllIB {n : Nat} {rb : Nat} {w : World} : CallsIn Fence.wide n Try.prog 39 #[.pointer (some ⟨rb, 0, none⟩)] w fun e w' => ∃ bv, e = .returned (.func (.func 59) #[] #[.pointer (some ⟨bv, 0, none⟩)]) ∧ Blk w' bv #[.pointer (some ⟨rb, 0, none⟩)] 63 ∧ w.heap.size ≤ bv ∧ Upd (fun _ => False) w w' := by
  refine callsIn_any (n := 0) (callsIn_of_wp Try.func39 rfl trivial ?_)
  simp only [Try.ntmps39, List.size_toArray, List.length_cons, List.length_nil, Nat.reduceAdd, Nat.reduceSub, Array.replicate_succ, Array.replicate_zero, List.push_toArray, List.append_toArray, List.nil_append, List.cons_append]
  gi_wp2
  go_ret
  exact ⟨_, rfl, Blk.new _ _ _, Nat.le_refl _, Upd.alloc _ _ _⟩


set_option maxRecDepth 100000 in
set_option maxHeartbeats 2000000 in
theorem allSeqIB {c : KIB → KIB → Int} {cf : Fn} {ca cc : Array Value} {rb : Nat} {t : Tr KIB VIB} {l : List (KIB × VIB)} {w : World} (h : RackIB c cf ca cc rb t l w) {bv : Nat} (hbv : Blk w bv #[.pointer (some ⟨rb, 0, none⟩)] 63) :
    SeqO Try.prog (.func (.func 59) #[] #[.pointer (some ⟨bv, 0, none⟩)]) encIB ((l).map fun x => ((), x)) () () (fun _ _ => True) (fun _ => False) (fun j => j = bv ∨ j = rb ∨ t.has j) w := by
  have hD : ∀ j, (j = bv ∨ j = rb ∨ t.has j) → j < w.heap.size := by
    rintro j (rfl | rfl | hj)
    · exact hbv.lt
    · exact h.blk.lt
    · exact h.lies.lt j hj
  refine ⟨⟨_, _, rfl⟩, fun k hk => ⟨hD k hk, id⟩, fun _ h => h.elim, fun _ _ _ _ _ => trivial, ?_⟩
  intro σ step Rep y s S W hx _
  have ee : ((l).map fun x => ((), x)).map (·.2) = l := by simp [Function.comp_def]
  rw [ee] at hx ⊢
  clear ee
  refine CallV.of_calls (n := 0) (enters_of Try.func59 (by kernel_rfl) rfl) ?_
  obtain ⟨yf, ya, yc, rfl⟩ := hx.shape
  have hag := hx.agree
  have c1 := (hbv.agree hag (.inl rfl)).cell0
  have c2 : W.cell? ⟨rb, 1, none⟩ = some (.pointer t.adr) := (h.blk.agree hag (by simp)).cell 1
  have hah : ∀ k wr, Agree (fun j => j = bv ∨ j = rb ∨ t.has j) w wr → CallV Try.prog (.func (.func 61) #[] #[]) #[ekIB k] wr fun v W2 => v = .bool ((fun _ => false) k) ∧ Upd (fun _ => False) wr W2 := by
    intro k wr _
    clear hx
    refine CallV.of_calls (n := 0) (enters_of Try.func61 (by kernel_rfl) rfl) ?_
    refine callsIn_of_wp Try.func61 rfl trivial ?_
    simp only [Try.ntmps61, List.size_toArray, List.length_cons, List.length_nil, Nat.reduceAdd, Nat.reduceSub, Array.replicate_succ, Array.replicate_zero, List.push_toArray, List.append_toArray, List.nil_append, List.cons_append]
    gi_wp2
    go_ret
    exact ⟨_, rfl, rfl, Upd.refl _ _⟩
  have k1 := upIB (c := c) (p := fun _ => false) hx hD hah (fun _ _ _ h => h) t h.lies (fun j hj => .inr (.inr hj)) (by rw [h.list]; exact h.rise) 0 W (LeafRel.start hx) (by rw [behind_all, h.list]; exact Part.whole l)
  rw [behind_all, h.list, Nat.zero_add] at k1
  clear hah
  have k2 := k1.mono (R' := fun e W2 => ∃ b : Bool, e = .returned (.bool b) ∧ RunEnd Rep (goF step s (l)).1 (fun _ => True) S (fun _ => False) W (.tuple #[]) W2) (by
    rintro e W2 ⟨b, rfl, _, h1, h2⟩
    refine ⟨b, rfl, ?_⟩
    cases b with
    | false => exact h2 rfl
    | true => exact (h1 rfl).done (by simp) _)
  replace k2 := Lib.hid k2
  clear k1
  refine callsIn_of_wp Try.func59 rfl trivial ?_
  simp only [Try.ntmps59, List.size_toArray, List.length_cons, List.length_nil, Nat.reduceAdd, Nat.reduceSub, Array.replicate_succ, Array.replicate_zero, List.push_toArray, List.append_toArray, List.nil_append, List.cons_append]
  clear hx h hbv hD hag
  gi_wp2_with (first | refine (⟨trivial, rfl, ?_⟩ : Fence.wide.fn _ ∧ Fence.wide.depth = none ∧ _) | (gi_at_call 60; refine k2.out.mono ?_; rintro e W3 ⟨bb, rfl, fin⟩; (replace fin := Lib.hid fin)))
  go_end0
  exact ⟨_, rfl, fin.out⟩



end Go.Proofs.Ytgleiajmdbekiaa

/- rack's iterators, instance tidemill/api.Cell, tidemill/silo.Entry. -/
import Derived.Test.YtadeechoknpjhaaProg
import Derived.Test.YtadeechoknpjhaaBase
import Derived.Test.YtadeechoknpjhaaTr
import Derived.Test.YtadeechoknpjhaaFork
import Derived.Test.YtadeechoknpjhaaRkCEC
set_option linter.unusedSimpArgs false
set_option linter.unusedVariables false
namespace Go.Proofs.Ytadeechoknpjhaa
open Go.RowKit Go.Shelf
attribute [local go_sem] Oper.semAt_some


abbrev encCE (x : KCE × VCE) : Array Value := #[ekCE x.1, evCE x.2]
/-- What a walk over a part of the tree leaves. -/
def WalkedCE {σ : Type} (xs : List (KCE × VCE)) (step : σ → KCE × VCE → σ × Bool) (Rep : σ → (Nat → Prop) → World → Prop) (st : σ) (S D : Nat → Prop) (w W : World) (i : Nat) (e : Ending) (W2 : World) : Prop :=
  ∃ b, e = .returned (.bool b) ∧ Agree D w W2 ∧ (b = true → LeafRel step Rep st S (fun _ => False) W xs i W2) ∧ (b = false → RunEnd Rep (goF step st xs).1 (fun _ => True) S (fun _ => False) W undef W2)
theorem yieldCE {σ : Type} {xs : List (KCE × VCE)} {step : σ → KCE × VCE → σ × Bool} {Rep : σ → (Nat → Prop) → World → Prop} {yf : Fn} {ya yc : Array Value} {st : σ} {S D : Nat → Prop} {w W : World} (hx : RunCtx Try.prog encCE xs step Rep (.func yf ya yc) st S (fun _ => False) D w W) (hD : ∀ k, D k → k < w.heap.size) {x : KCE × VCE} {m : List (KCE × VCE)} {i : Nat} {wr : World} (hl : LeafRel step Rep st S (fun _ => False) W xs i wr) (hp : Part xs i (x :: m)) :
    CallV Try.prog (.func yf ya yc) (encCE x) wr fun v W2 => ∃ b, v = .bool b ∧ Agree D w W2 ∧ (b = true → LeafRel step Rep st S (fun _ => False) W xs (i + 1) W2) ∧ (b = false → RunEnd Rep (goF step st xs).1 (fun _ => True) S (fun _ => False) W undef W2) := by
  obtain ⟨hi, hxi⟩ := hp.head
  have h := hl.call hx hi
  rw [hxi] at h
  refine h.mono ?_
  rintro v W2 ⟨b, rfl, hu, h1, h2⟩
  refine ⟨b, rfl, (hl.agree hx fun k hk => ⟨hD k hk, id⟩).trans (hu.agree fun j hj => ?_), h1, h2⟩
  have h1 := hD j hj
  have h2 := hx.size
  have h3 := hl.size
  exact ⟨by omega, fun hh => hh.elim (fun hh => (hx.own j hh).2.1 hj) (fun hh => by omega)⟩

set_option maxRecDepth 100000 in
set_option maxHeartbeats 2000000 in
theorem upCE {c : KCE → KCE → Int} {σ : Type} {xs : List (KCE × VCE)} {step : σ → KCE × VCE → σ × Bool} {Rep : σ → (Nat → Prop) → World → Prop} {yf : Fn} {ya yc : Array Value} {st : σ} {S D : Nat → Prop} {w W : World} {af : Fn} {aa ac : Array Value} {p : KCE → Bool} (hx : RunCtx Try.prog encCE xs step Rep (.func yf ya yc) st S (fun _ => False) D w W) (hD : ∀ k, D k → k < w.heap.size)
    (hah : ∀ k wr, Agree D w wr → CallV Try.prog (.func af aa ac) #[ekCE k] wr fun v W2 => v = .bool (p k) ∧ Upd (fun _ => False) wr W2) (hmon : ∀ a b, c a b < 0 → p b = true → p a = true) :
    ∀ (s : Tr KCE VCE), Tr.lies 104 mkCE w s → (∀ j, s.has j → D j) → Rise c s.list → ∀ (i : Nat) (wr : World), LeafRel step Rep st S (fun _ => False) W xs i wr → Part xs i (behindL p s.list) →
      CallsIn Fence.wide 0 Try.prog 46 #[.pointer s.adr, .func af aa ac, .func yf ya yc] wr (WalkedCE xs step Rep st S D w W (i + (behindL p s.list).length)) := by
  intro s
  induction s with
  | nil =>
    intro _ _ _ i wr hl _
    have hag := Lib.hid (hl.agree hx fun k hk => ⟨hD k hk, id⟩)
    replace hl := Lib.hid hl
    simp only [Tr.adr_nil]
    clear hx hah
    refine callsIn_any (n := 0) (callsIn_of_wp Try.func46 rfl trivial ?_)
    simp only [Try.ntmps46, List.size_toArray, List.length_cons, List.length_nil, Nat.reduceAdd, Nat.reduceSub, Array.replicate_succ, Array.replicate_zero, List.push_toArray, List.append_toArray, List.nil_append, List.cons_append]
    gi_wp2
    go_ret
    exact ⟨true, rfl, hag.out, fun _ => hl.out, fun h => by cases h⟩
  | node b k0 v0 l r ihl ihr =>
    intro hlies hsub hrise i wr hl hp
    have hrise' := hrise
    obtain ⟨q1, q2, _, _, _⟩ := Rise.parts (l := l.list) (r := r.list) (x := (k0, v0)) hrise
    have hag := hl.agree hx fun k hk => ⟨hD k hk, id⟩
    have hb0 := hlies.1
    have hbD := hsub b (.inl rfl)
    have hb := hb0.agree hag hbD
    have hk := Lib.hid (hah k0 wr hag)
    have IL := ihl hlies.2.1 (fun j h => hsub j (.inr (.inl h))) q1
    have IR := ihr hlies.2.2 (fun j h => hsub j (.inr (.inr h))) q2
    clear ihl ihr hah
    simp only [Tr.adr_node]
    have c0 : (wr.cell? ⟨b, 0, none⟩ = some (.string (k0).1) ∧ wr.cell? ⟨b, 1, none⟩ = some (.string (k0).2.1) ∧ wr.cell? ⟨b, 2, none⟩ = some (.int .i64 (k0).2.2.1) ∧ wr.cell? ⟨b, 3, none⟩ = some (.int .i64 (k0).2.2.2)) := ⟨hb.cell 0, hb.cell 1, hb.cell 2, hb.cell 3⟩
    obtain ⟨c0, c0', c0'', c0'''⟩ := c0
    cases hpk : p k0 with
    | true =>
      rw [show (Tr.node b k0 v0 l r).list = l.list ++ (k0, v0) :: r.list from rfl, behind_skip (c := c) hmon hrise' hpk] at hp ⊢
      have k2 : ∀ W2, Upd (fun _ => False) wr W2 → W2.cell? ⟨b, 21, none⟩ = some (.pointer r.adr) ∧ CallsIn Fence.wide 0 Try.prog 46 #[.pointer r.adr, .func af aa ac, .func yf ya yc] W2 (WalkedCE xs step Rep st S D w W (i + (behindL p r.list).length)) := fun W2 hu => by
        have hl2 : LeafRel step Rep st S (fun _ => False) W xs i W2 := by
          obtain ⟨s1, S1, e1, e2, e3, e4⟩ := hl
          exact ⟨s1, S1, e1, hx.stab _ _ _ _ e2 (hu.agree fun j hj => ⟨(e4 j hj).1, id⟩) hu.size, e3.trans' (hu.mono fun _ _ h => h.elim), fun j hj => ⟨Nat.lt_of_lt_of_le (e4 j hj).1 hu.size, (e4 j hj).2⟩⟩
        exact ⟨(hb.upd hu id).cell 21, IR i W2 hl2 hp⟩
      replace k2 := Lib.hid k2
      rw [hpk] at hk
      clear IL IR hx hl hag hb0 hbD hlies hsub hp hb
      refine callsIn_any (n := 0) (callsIn_of_wp Try.func46 rfl trivial ?_)
      simp only [Try.ntmps46, List.size_toArray, List.length_cons, List.length_nil, Nat.reduceAdd, Nat.reduceSub, Array.replicate_succ, Array.replicate_zero, List.push_toArray, List.append_toArray, List.nil_append, List.cons_append]
      gi_wp2_with (first | refine (⟨trivial, rfl, ?_⟩ : Fence.wide.fn _ ∧ Fence.wide.depth = none ∧ _) | ((with_reducible refine listV1 hk.out ?_ ?_ ?_); rfl; rfl; rintro v W2 ⟨rfl, hu⟩; obtain ⟨c3, k3⟩ := k2.out W2 hu; (replace k3 := Lib.hid k3)) | (gi_at_call 46; refine k3.out.mono ?_; rintro e W3 ⟨bb, rfl, fin⟩; (replace fin := Lib.hid fin)))
      go_ret
      exact ⟨bb, rfl, fin.out⟩
    | false =>
      rw [show (Tr.node b k0 v0 l r).list = l.list ++ (k0, v0) :: r.list from rfl, behind_go hpk] at hp ⊢
      have hlen : i + (behindL p l.list ++ (k0, v0) :: behindL p r.list).length = (i + (behindL p l.list).length + 1) + (behindL p r.list).length := by simp only [List.length_append, List.length_cons]; omega
      rw [hlen]
      clear hlen
      have k2 : ∀ W2, Upd (fun _ => False) wr W2 → W2.cell? ⟨b, 20, none⟩ = some (.pointer l.adr) ∧ (W2.cell? ⟨b, 0, none⟩ = some (.string (k0).1) ∧ W2.cell? ⟨b, 1, none⟩ = some (.string (k0).2.1) ∧ W2.cell? ⟨b, 2, none⟩ = some (.int .i64 (k0).2.2.1) ∧ W2.cell? ⟨b, 3, none⟩ = some (.int .i64 (k0).2.2.2)) ∧ (W2.cell? ⟨b, 4, none⟩ = some (.int .i64 (v0).ep) ∧ W2.cell? ⟨b, 5, none⟩ = some (.string (v0).key) ∧ W2.cell? ⟨b, 6, none⟩ = some (.string (v0).pol) ∧ W2.cell? ⟨b, 7, none⟩ = some (.int .i64 (v0).kd) ∧ W2.cell? ⟨b, 8, none⟩ = some (.int .i64 (v0).st) ∧ W2.cell? ⟨b, 9, none⟩ = some (.int .i64 (v0).rev) ∧ W2.cell? ⟨b, 10, none⟩ = some (.bool (v0).fin) ∧ W2.cell? ⟨b, 11, none⟩ = some (.int .i64 (v0).rk) ∧ W2.cell? ⟨b, 12, none⟩ = some (.int .i64 (v0).cnt) ∧ W2.cell? ⟨b, 13, none⟩ = some (.int .i64 (v0).sum) ∧ W2.cell? ⟨b, 14, none⟩ = some (.int .i64 (v0).mn) ∧ W2.cell? ⟨b, 15, none⟩ = some (.int .i64 (v0).mx) ∧ W2.cell? ⟨b, 16, none⟩ = some (.int .i64 (v0).q0) ∧ W2.cell? ⟨b, 17, none⟩ = some (.int .i64 (v0).q1) ∧ W2.cell? ⟨b, 18, none⟩ = some (.int .i64 (v0).q2) ∧ W2.cell? ⟨b, 19, none⟩ = some (.bool (v0).over)) ∧ W2.cell? ⟨b, 21, none⟩ = some (.pointer r.adr) ∧ CallsIn Fence.wide 0 Try.prog 46 #[.pointer l.adr, .func af aa ac, .func yf ya yc] W2 (WalkedCE xs step Rep st S D w W (i + (behindL p l.list).length)) := fun W2 hu => by
        have hl2 : LeafRel step Rep st S (fun _ => False) W xs i W2 := by
          obtain ⟨s1, S1, e1, e2, e3, e4⟩ := hl
          exact ⟨s1, S1, e1, hx.stab _ _ _ _ e2 (hu.agree fun j hj => ⟨(e4 j hj).1, id⟩) hu.size, e3.trans' (hu.mono fun _ _ h => h.elim), fun j hj => ⟨Nat.lt_of_lt_of_le (e4 j hj).1 hu.size, (e4 j hj).2⟩⟩
        have hb2 := hb.upd hu id
        exact ⟨hb2.cell 20, ⟨hb2.cell 0, hb2.cell 1, hb2.cell 2, hb2.cell 3⟩, ⟨hb2.cell 4, hb2.cell 5, hb2.cell 6, hb2.cell 7, hb2.cell 8, hb2.cell 9, hb2.cell 10, hb2.cell 11, hb2.cell 12, hb2.cell 13, hb2.cell 14, hb2.cell 15, hb2.cell 16, hb2.cell 17, hb2.cell 18, hb2.cell 19⟩, hb2.cell 21, IL i W2 hl2 hp.left⟩
      have k3 : ∀ W2, LeafRel step Rep st S (fun _ => False) W xs (i + (behindL p l.list).length) W2 → CallV Try.prog (.func yf ya yc) #[ekCE k0, evCE v0] W2 fun v W2 => ∃ b, v = .bool b ∧ Agree D w W2 ∧ (b = true → LeafRel step Rep st S (fun _ => False) W xs (i + (behindL p l.list).length + 1) W2) ∧ (b = false → RunEnd Rep (goF step st xs).1 (fun _ => True) S (fun _ => False) W undef W2) :=
        fun W2 h => yieldCE (x := (k0, v0)) (m := behindL p r.list) hx hD h hp.right
      have k4 := fun W2 h => IR (i + (behindL p l.list).length + 1) W2 h hp.right.tail
      have kc : ∀ W2, Agree D w W2 → W2.cell? ⟨b, 20, none⟩ = some (.pointer l.adr) ∧ (W2.cell? ⟨b, 0, none⟩ = some (.string (k0).1) ∧ W2.cell? ⟨b, 1, none⟩ = some (.string (k0).2.1) ∧ W2.cell? ⟨b, 2, none⟩ = some (.int .i64 (k0).2.2.1) ∧ W2.cell? ⟨b, 3, none⟩ = some (.int .i64 (k0).2.2.2)) ∧ (W2.cell? ⟨b, 4, none⟩ = some (.int .i64 (v0).ep) ∧ W2.cell? ⟨b, 5, none⟩ = some (.string (v0).key) ∧ W2.cell? ⟨b, 6, none⟩ = some (.string (v0).pol) ∧ W2.cell? ⟨b, 7, none⟩ = some (.int .i64 (v0).kd) ∧ W2.cell? ⟨b, 8, none⟩ = some (.int .i64 (v0).st) ∧ W2.cell? ⟨b, 9, none⟩ = some (.int .i64 (v0).rev) ∧ W2.cell? ⟨b, 10, none⟩ = some (.bool (v0).fin) ∧ W2.cell? ⟨b, 11, none⟩ = some (.int .i64 (v0).rk) ∧ W2.cell? ⟨b, 12, none⟩ = some (.int .i64 (v0).cnt) ∧ W2.cell? ⟨b, 13, none⟩ = some (.int .i64 (v0).sum) ∧ W2.cell? ⟨b, 14, none⟩ = some (.int .i64 (v0).mn) ∧ W2.cell? ⟨b, 15, none⟩ = some (.int .i64 (v0).mx) ∧ W2.cell? ⟨b, 16, none⟩ = some (.int .i64 (v0).q0) ∧ W2.cell? ⟨b, 17, none⟩ = some (.int .i64 (v0).q1) ∧ W2.cell? ⟨b, 18, none⟩ = some (.int .i64 (v0).q2) ∧ W2.cell? ⟨b, 19, none⟩ = some (.bool (v0).over)) ∧ W2.cell? ⟨b, 21, none⟩ = some (.pointer r.adr) := fun W2 h => by
        have hb2 := hb0.agree h hbD
        exact ⟨hb2.cell 20, ⟨hb2.cell 0, hb2.cell 1, hb2.cell 2, hb2.cell 3⟩, ⟨hb2.cell 4, hb2.cell 5, hb2.cell 6, hb2.cell 7, hb2.cell 8, hb2.cell 9, hb2.cell 10, hb2.cell 11, hb2.cell 12, hb2.cell 13, hb2.cell 14, hb2.cell 15, hb2.cell 16, hb2.cell 17, hb2.cell 18, hb2.cell 19⟩, hb2.cell 21⟩
      replace k2 := Lib.hid k2
      replace k3 := Lib.hid k3
      replace k4 := Lib.hid k4
      replace kc := Lib.hid kc
      rw [hpk] at hk
      clear IL IR hx hl hag hb0 hbD hlies hsub hp hb
      refine callsIn_any (n := 0) (callsIn_of_wp Try.func46 rfl trivial ?_)
      simp only [Try.ntmps46, List.size_toArray, List.length_cons, List.length_nil, Nat.reduceAdd, Nat.reduceSub, Array.replicate_succ, Array.replicate_zero, List.push_toArray, List.append_toArray, List.nil_append, List.cons_append]
      gi_wp2_with (first | refine (⟨trivial, rfl, ?_⟩ : Fence.wide.fn _ ∧ Fence.wide.depth = none ∧ _) | ((with_reducible refine listV1 hk.out ?_ ?_ ?_); rfl; rfl; rintro v W2 ⟨rfl, hu⟩; obtain ⟨e1, e2, e3, e4, k5⟩ := k2.out W2.drew hu.stepDrew; (replace k5 := Lib.hid k5)))
      refine wpIn_eager [(0, true), (1, true), (2, true), (3, true), (4, true), (5, true), (6, false), (7, true), (8, true), (9, true), (10, true), (11, true), (12, true), (13, true), (14, true), (15, true), (16, true), (17, false), (18, true), (19, true), (20, true), (21, true), (22, true), (23, true), (24, true), (25, true), (26, false), (27, true), (28, true)] (fun V => V.cell? ⟨b, 20, none⟩ = some (.pointer l.adr) ∧ (V.cell? ⟨b, 0, none⟩ = some (.string (k0).1) ∧ V.cell? ⟨b, 1, none⟩ = some (.string (k0).2.1) ∧ V.cell? ⟨b, 2, none⟩ = some (.int .i64 (k0).2.2.1) ∧ V.cell? ⟨b, 3, none⟩ = some (.int .i64 (k0).2.2.2)) ∧ (V.cell? ⟨b, 4, none⟩ = some (.int .i64 (v0).ep) ∧ V.cell? ⟨b, 5, none⟩ = some (.string (v0).key) ∧ V.cell? ⟨b, 6, none⟩ = some (.string (v0).pol) ∧ V.cell? ⟨b, 7, none⟩ = some (.int .i64 (v0).kd) ∧ V.cell? ⟨b, 8, none⟩ = some (.int .i64 (v0).st) ∧ V.cell? ⟨b, 9, none⟩ = some (.int .i64 (v0).rev) ∧ V.cell? ⟨b, 10, none⟩ = some (.bool (v0).fin) ∧ V.cell? ⟨b, 11, none⟩ = some (.int .i64 (v0).rk) ∧ V.cell? ⟨b, 12, none⟩ = some (.int .i64 (v0).cnt) ∧ V.cell? ⟨b, 13, none⟩ = some (.int .i64 (v0).sum) ∧ V.cell? ⟨b, 14, none⟩ = some (.int .i64 (v0).mn) ∧ V.cell? ⟨b, 15, none⟩ = some (.int .i64 (v0).mx) ∧ V.cell? ⟨b, 16, none⟩ = some (.int .i64 (v0).q0) ∧ V.cell? ⟨b, 17, none⟩ = some (.int .i64 (v0).q1) ∧ V.cell? ⟨b, 18, none⟩ = some (.int .i64 (v0).q2) ∧ V.cell? ⟨b, 19, none⟩ = some (.bool (v0).over)) ∧ V.cell? ⟨b, 21, none⟩ = some (.pointer r.adr)) (by kernel_rfl) (by kernel_rfl) ⟨e1, e2, e3, e4⟩ ?_
      refine wpE_fl rfl rfl (fun _ _ => rfl) ?_
      go_simp
      refine wpE_fl rfl rfl (fun _ _ => rfl) ?_
      go_simp
      refine wpE_fl (v := .pointer (some ⟨b, 20, none⟩)) rfl rfl (fun W' h' => ?_) ?_
      · go_simp
      go_simp
      refine wpE_fl (v := .pointer l.adr) rfl rfl (fun W' h' => ?_) ?_
      · obtain ⟨h1, ⟨h2, h2', h2'', h2'''⟩, ⟨h3, h3', h3'', h3''', h3'''', h3''''', h3'''''', h3''''''', h3'''''''', h3''''''''', h3'''''''''', h3''''''''''', h3'''''''''''', h3''''''''''''', h3'''''''''''''', h3'''''''''''''''⟩, h4⟩ := h'; go_simp
      go_simp
      refine wpE_fl rfl rfl (fun _ _ => rfl) ?_
      go_simp
      refine wpE_fl rfl rfl (fun _ _ => rfl) ?_
      go_simp
      refine wpE_ef rfl ?_
      go_simp
      gi_wp2_with (first | refine (⟨trivial, rfl, ?_⟩ : Fence.wide.fn _ ∧ Fence.wide.depth = none ∧ _) | (gi_at_call 46; refine k5.out.mono ?_; rintro e W3 ⟨b1, rfl, ag1, y1, n1⟩; (replace ag1 := Lib.hid ag1); (replace y1 := Lib.hid y1); (replace n1 := Lib.hid n1)))
      refine ⟨kc.out _ ag1.out, ?_⟩
      cases b1 with
      | false =>
        refine wpE_fl rfl rfl (fun _ _ => rfl) ?_
        go_simp
        refine wpE_sk rfl rfl ?_
        go_simp
        refine wpE_sk rfl rfl ?_
        go_simp
        refine wpE_sk rfl rfl ?_
        go_simp
        refine wpE_sk rfl rfl ?_
        go_simp
        refine wpE_sk rfl rfl ?_
        go_simp
        refine wpE_sk rfl rfl ?_
        go_simp
        refine wpE_sk rfl rfl ?_
        go_simp
        refine wpE_sk rfl rfl ?_
        go_simp
        refine wpE_sk rfl rfl ?_
        go_simp
        refine wpE_ef rfl ?_
        go_simp
        gi_wp2_with ((with_reducible refine listSkipV ?_ ?_ ?_); rfl; rfl)
        refine ⟨kc.out _ ag1.out, ?_⟩
        refine wpE_fl rfl rfl (fun _ _ => rfl) ?_
        go_simp
        refine wpE_fl rfl rfl (fun _ _ => rfl) ?_
        go_simp
        refine wpE_sk rfl rfl ?_
        go_simp
        refine wpE_sk rfl rfl ?_
        go_simp
        refine wpE_sk rfl rfl ?_
        go_simp
        refine wpE_sk rfl rfl ?_
        go_simp
        refine wpE_sk rfl rfl ?_
        go_simp
        refine wpE_sk rfl rfl ?_
        go_simp
        refine wpE_ef rfl ?_
        go_simp
        gi_wp2_with (refine (⟨trivial, ?_⟩ : Fence.wide.fn _ ∧ _))
        refine ⟨kc.out _ ag1.out, ?_⟩
        refine wpE_fl rfl rfl (fun _ _ => rfl) ?_
        go_simp
        refine wpE_fl rfl rfl (fun _ _ => rfl) ?_
        go_simp
        refine wpE_nil ?_
        gi_wp2
        go_ret
        exact ⟨false, rfl, ag1.out, fun h => (by cases h), fun _ => n1.out (by first | exact rfl | exact trivial)⟩
      | true =>
        replace k3 := Lib.hid (k3.out _ (y1.out (by first | exact rfl | exact trivial)))
        refine wpE_fl rfl rfl (fun _ _ => rfl) ?_
        go_simp
        refine wpE_fl rfl rfl (fun _ _ => rfl) ?_
        go_simp
        refine wpE_fl rfl rfl (fun _ _ => rfl) ?_
        go_simp
        refine wpE_fl rfl rfl (fun _ _ => rfl) ?_
        go_simp
        refine wpE_fl (v := .pointer (some ⟨b, 0, none⟩)) rfl rfl (fun W' h' => ?_) ?_
        · go_simp
        go_simp
        refine wpE_fl (v := ekCE k0) rfl rfl (fun W' h' => ?_) ?_
        · obtain ⟨h1, ⟨h2, h2', h2'', h2'''⟩, ⟨h3, h3', h3'', h3''', h3'''', h3''''', h3'''''', h3''''''', h3'''''''', h3''''''''', h3'''''''''', h3''''''''''', h3'''''''''''', h3''''''''''''', h3'''''''''''''', h3'''''''''''''''⟩, h4⟩ := h'; go_simp
        go_simp
        refine wpE_fl rfl rfl (fun _ _ => rfl) ?_
        go_simp
        refine wpE_fl rfl rfl (fun _ _ => rfl) ?_
        go_simp
        refine wpE_fl (v := .pointer (some ⟨b, 4, none⟩)) rfl rfl (fun W' h' => ?_) ?_
        · go_simp
        go_simp
        refine wpE_fl (v := evCE v0) rfl rfl (fun W' h' => ?_) ?_
        · obtain ⟨h1, ⟨h2, h2', h2'', h2'''⟩, ⟨h3, h3', h3'', h3''', h3'''', h3''''', h3'''''', h3''''''', h3'''''''', h3''''''''', h3'''''''''', h3''''''''''', h3'''''''''''', h3''''''''''''', h3'''''''''''''', h3'''''''''''''''⟩, h4⟩ := h'; go_simp
        go_simp
        refine wpE_ef rfl ?_
        go_simp
        gi_wp2_with ((with_reducible refine listV2g k3.out ?_ ?_ ?_ ?_ ?_); rfl; rfl; rfl; rfl; rintro v W4 ⟨b2, rfl, ag2, y2, n2⟩; (replace ag2 := Lib.hid ag2); (replace y2 := Lib.hid y2); (replace n2 := Lib.hid n2))
        refine ⟨kc.out _ ag2.out, ?_⟩
        cases b2 with
        | false =>
          refine wpE_fl rfl rfl (fun _ _ => rfl) ?_
          go_simp
          refine wpE_fl rfl rfl (fun _ _ => rfl) ?_
          go_simp
          refine wpE_sk rfl rfl ?_
          go_simp
          refine wpE_sk rfl rfl ?_
          go_simp
          refine wpE_sk rfl rfl ?_
          go_simp
          refine wpE_sk rfl rfl ?_
          go_simp
          refine wpE_sk rfl rfl ?_
          go_simp
          refine wpE_sk rfl rfl ?_
          go_simp
          refine wpE_ef rfl ?_
          go_simp
          gi_wp2_with (refine (⟨trivial, ?_⟩ : Fence.wide.fn _ ∧ _))
          refine ⟨kc.out _ ag2.out, ?_⟩
          refine wpE_fl rfl rfl (fun _ _ => rfl) ?_
          go_simp
          refine wpE_fl rfl rfl (fun _ _ => rfl) ?_
          go_simp
          refine wpE_nil ?_
          gi_wp2
          go_ret
          exact ⟨false, rfl, ag2.out, fun h => (by cases h), fun _ => n2.out (by first | exact rfl | exact trivial)⟩
        | true =>
          replace k4 := Lib.hid (k4.out _ (y2.out (by first | exact rfl | exact trivial)))
          refine wpE_fl rfl rfl (fun _ _ => rfl) ?_
          go_simp
          refine wpE_fl rfl rfl (fun _ _ => rfl) ?_
          go_simp
          refine wpE_fl rfl rfl (fun _ _ => rfl) ?_
          go_simp
          refine wpE_fl rfl rfl (fun _ _ => rfl) ?_
          go_simp
          refine wpE_fl (v := .pointer (some ⟨b, 21, none⟩)) rfl rfl (fun W' h' => ?_) ?_
          · go_simp
          go_simp
          refine wpE_fl (v := .pointer r.adr) rfl rfl (fun W' h' => ?_) ?_
          · obtain ⟨h1, ⟨h2, h2', h2'', h2'''⟩, ⟨h3, h3', h3'', h3''', h3'''', h3''''', h3'''''', h3''''''', h3'''''''', h3''''''''', h3'''''''''', h3''''''''''', h3'''''''''''', h3''''''''''''', h3'''''''''''''', h3'''''''''''''''⟩, h4⟩ := h'; go_simp
          go_simp
          refine wpE_fl rfl rfl (fun _ _ => rfl) ?_
          go_simp
          refine wpE_fl rfl rfl (fun _ _ => rfl) ?_
          go_simp
          refine wpE_ef rfl ?_
          go_simp
          gi_wp2_with (first | refine (⟨trivial, trivial, rfl, ?_⟩ : Fence.wide.fn _ ∧ Fence.wide.fn _ ∧ Fence.wide.depth = none ∧ _) | refine (⟨trivial, rfl, ?_⟩ : Fence.wide.fn _ ∧ Fence.wide.depth = none ∧ _) | (gi_at_call 46; refine k4.out.mono ?_; rintro e W5 ⟨b3, rfl, fin⟩; (replace fin := Lib.hid fin)) | refine (⟨trivial, ?_⟩ : Fence.wide.fn _ ∧ _))
          refine ⟨kc.out _ fin.out.1, ?_⟩
          refine wpE_fl rfl rfl (fun _ _ => rfl) ?_
          go_simp
          refine wpE_fl rfl rfl (fun _ _ => rfl) ?_
          go_simp
          refine wpE_nil ?_
          gi_wp2
          go_ret
          exact ⟨b3, rfl, fin.out⟩


theorem rackAllCE {n : Nat} {rb : Nat} {w : World} : CallsIn Fence.wide n Try.prog 38 #[.pointer (some ⟨rb, 0, none⟩)] w fun e w' => ∃ bv, e = .returned (.func (.func 51) #[] #[.pointer (some ⟨bv, 0, none⟩)]) ∧ Blk w' bv #[.pointer (some ⟨rb, 0, none⟩)] 72 ∧ w.heap.size ≤ bv ∧ Upd (fun _ => False) w w' := by
  refine callsIn_any (n := 0) (callsIn_of_wp Try.func38 rfl trivial ?_)
  simp only [Try.ntmps38, List.size_toArray, List.length_cons, List.length_nil, Nat.reduceAdd, Nat.reduceSub, Array.replicate_succ, Array.replicate_zero, List.push_toArray, List.append_toArray, List.nil_append, List.cons_append]
  gi_wp2
  go_ret
  exact ⟨_, rfl, Blk.new _ _ _, Nat.le_refl _, Upd.alloc _ _ _⟩


set_option maxRecDepth 100000 in
set_option maxHeartbeats 2000000 in
theorem allSeqCE {c : KCE → KCE → Int} {cf : Fn} {ca cc : Array Value} {rb : Nat} {t : Tr KCE VCE} {l : List (KCE × VCE)} {w : World} (h : RackCE c cf ca cc rb t l w) {bv : Nat} (hbv : Blk w bv #[.pointer (some ⟨rb, 0, none⟩)] 72) :
    SeqO Try.prog (.func (.func 51) #[] #[.pointer (some ⟨bv, 0, none⟩)]) encCE ((l).map fun x => ((), x)) () () (fun _ _ => True) (fun _ => False) (fun j => j = bv ∨ j = rb ∨ t.has j) w := by
  have hD : ∀ j, (j = bv ∨ j = rb ∨ t.has j) → j < w.heap.size := by
    rintro j (rfl | rfl | hj)
    · exact hbv.lt
    · exact h.blk.lt
    · exact h.lies.lt j hj
  refine ⟨⟨_, _, rfl⟩, fun k hk => ⟨hD k hk, id⟩, fun _ h => h.elim, fun _ _ _ _ _ => trivial, ?_⟩
  intro σ step Rep y s S W hx _
  have ee : ((l).map fun x => ((), x)).map (·.2) = l := by simp [Function.comp_def]
  rw [ee] at hx ⊢
  clear ee
  refine CallV.of_calls (n := 0) (enters_of Try.func51 (by kernel_rfl) rfl) ?_
  obtain ⟨yf, ya, yc, rfl⟩ := hx.shape
  have hag := hx.agree
  have c1 := (hbv.agree hag (.inl rfl)).cell0
  have c2 : W.cell? ⟨rb, 1, none⟩ = some (.pointer t.adr) := (h.blk.agree hag (by simp)).cell 1
  have hah : ∀ k wr, Agree (fun j => j = bv ∨ j = rb ∨ t.has j) w wr → CallV Try.prog (.func (.func 52) #[] #[]) #[ekCE k] wr fun v W2 => v = .bool ((fun _ => false) k) ∧ Upd (fun _ => False) wr W2 := by
    intro k wr _
    clear hx
    refine CallV.of_calls (n := 0) (enters_of Try.func52 (by kernel_rfl) rfl) ?_
    refine callsIn_of_wp Try.func52 rfl trivial ?_
    simp only [Try.ntmps52, List.size_toArray, List.length_cons, List.length_nil, Nat.reduceAdd, Nat.reduceSub, Array.replicate_succ, Array.replicate_zero, List.push_toArray, List.append_toArray, List.nil_append, List.cons_append]
    gi_wp2
    go_ret
    exact ⟨_, rfl, rfl, Upd.alloc _ _ _⟩
  have k1 := upCE (c := c) (p := fun _ => false) hx hD hah (fun _ _ _ h => h) t h.lies (fun j hj => .inr (.inr hj)) (by rw [h.list]; exact h.rise) 0 W (LeafRel.start hx) (by rw [behind_all, h.list]; exact Part.whole l)
  rw [behind_all, h.list, Nat.zero_add] at k1
  clear hah
  have k2 := k1.mono (R' := fun e W2 => ∃ b : Bool, e = .returned (.bool b) ∧ RunEnd Rep (goF step s (l)).1 (fun _ => True) S (fun _ => False) W (.tuple #[]) W2) (by
    rintro e W2 ⟨b, rfl, _, h1, h2⟩
    refine ⟨b, rfl, ?_⟩
    cases b with
    | false => exact h2 rfl
    | true => exact (h1 rfl).done (by simp) _)
  replace k2 := Lib.hid k2
  clear k1
  refine callsIn_of_wp Try.func51 rfl trivial ?_
  simp only [Try.ntmps51, List.size_toArray, List.length_cons, List.length_nil, Nat.reduceAdd, Nat.reduceSub, Array.replicate_succ, Array.replicate_zero, List.push_toArray, List.append_toArray, List.nil_append, List.cons_append]
  clear hx h hbv hD hag
  gi_wp2_with (first | refine (⟨trivial, rfl, ?_⟩ : Fence.wide.fn _ ∧ Fence.wide.depth = none ∧ _) | (gi_at_call 46; refine k2.out.mono ?_; rintro e W3 ⟨bb, rfl, fin⟩; (replace fin := Lib.hid fin)))
  go_end0
  exact ⟨_, rfl, fin.out⟩


theorem rackFromCE {n : Nat} {rb : Nat} {w : World} {k : KCE} : CallsIn Fence.wide n Try.prog 33 #[.pointer (some ⟨rb, 0, none⟩), ekCE k] w fun e w' => ∃ bv bk, e = .returned (.func (.func 45) #[] #[.pointer (some ⟨bv, 0, none⟩), .pointer (some ⟨bk, 0, none⟩)]) ∧ Blk w' bv #[.pointer (some ⟨rb, 0, none⟩)] 72 ∧ Blk w' bk #[.string (k).1, .string (k).2.1, .int .i64 (k).2.2.1, .int .i64 (k).2.2.2] 24 ∧ w.heap.size ≤ bv ∧ w.heap.size ≤ bk ∧ Upd (fun _ => False) w w' := by
  refine callsIn_any (n := 0) (callsIn_of_wp Try.func33 rfl trivial ?_)
  simp only [Try.ntmps33, List.size_toArray, List.length_cons, List.length_nil, Nat.reduceAdd, Nat.reduceSub, Array.replicate_succ, Array.replicate_zero, List.push_toArray, List.append_toArray, List.nil_append, List.cons_append]
  gi_wp2
  go_ret
  exact ⟨_, _, rfl, (Blk.new _ _ _).alloc _, Blk.new' (by simp), Nat.le_refl _, Nat.le_succ _, (Upd.alloc _ _ _).stepAlloc _⟩

set_option maxRecDepth 100000 in
set_option maxHeartbeats 2000000 in
theorem fromSeqCE {c : KCE → KCE → Int} {cf : Fn} {ca cc : Array Value} {rb : Nat} {t : Tr KCE VCE} {l : List (KCE × VCE)} {w : World} (h : RackCE c cf ca cc rb t l w) {bv : Nat} (hbv : Blk w bv #[.pointer (some ⟨rb, 0, none⟩)] 72) {bk : Nat} {key : KCE} (hbk : Blk w bk #[.string (key).1, .string (key).2.1, .int .i64 (key).2.2.1, .int .i64 (key).2.2.2] 24) (hcmp : CmpV Try.prog ekCE c cf ca cc) :
    SeqO Try.prog (.func (.func 45) #[] #[.pointer (some ⟨bv, 0, none⟩), .pointer (some ⟨bk, 0, none⟩)]) encCE (((behindL (fun a => decide (c a key < 0)) l)).map fun x => ((), x)) () () (fun _ _ => True) (fun _ => False) (fun j => j = bv ∨ j = bk ∨ j = rb ∨ t.has j) w := by
  have hD : ∀ j, (j = bv ∨ j = bk ∨ j = rb ∨ t.has j) → j < w.heap.size := by
    rintro j (rfl | rfl | rfl | hj)
    · exact hbv.lt
    · exact hbk.lt
    · exact h.blk.lt
    · exact h.lies.lt j hj
  refine ⟨⟨_, _, rfl⟩, fun k hk => ⟨hD k hk, id⟩, fun _ h => h.elim, fun _ _ _ _ _ => trivial, ?_⟩
  intro σ step Rep y s S W hx _
  have ee : (((behindL (fun a => decide (c a key < 0)) l)).map fun x => ((), x)).map (·.2) = (behindL (fun a => decide (c a key < 0)) l) := by simp [Function.comp_def]
  rw [ee] at hx ⊢
  clear ee
  refine CallV.of_calls (n := 0) (enters_of Try.func45 (by kernel_rfl) rfl) ?_
  obtain ⟨yf, ya, yc, rfl⟩ := hx.shape
  have hag := hx.agree
  have c1 := (hbv.agree hag (.inl rfl)).cell0
  have c2 : W.cell? ⟨rb, 1, none⟩ = some (.pointer t.adr) := (h.blk.agree hag (by simp)).cell 1
  have c3 := (hbk.agree hag (.inr (.inl rfl))).cell 0
  have hah : ∀ k wr, Agree (fun j => j = bv ∨ j = bk ∨ j = rb ∨ t.has j) w wr → CallV Try.prog (.func (.func 47) #[] #[.pointer (some ⟨bv, 0, none⟩), .pointer (some ⟨bk, 0, none⟩)]) #[ekCE k] wr fun v W2 => v = .bool ((fun a => decide (c a key < 0)) k) ∧ Upd (fun _ => False) wr W2 := by
    intro k wr hag2
    clear hx
    have hbv2 := hbv.agree hag2 (.inl rfl)
    have hbk2 := hbk.agree hag2 (.inr (.inl rfl))
    have hrb2 := h.blk.agree hag2 (.inr (.inr (.inl rfl)))
    have uk := Upd.alloc (fun _ => False) wr (.cells #[.string (k).1, .string (k).2.1, .int .i64 (k).2.2.1, .int .i64 (k).2.2.2] 24)
    have hkb := Blk.new wr #[.string (k).1, .string (k).2.1, .int .i64 (k).2.2.1, .int .i64 (k).2.2.2] 24
    replace hbv2 := hbv2.upd uk id
    replace hbk2 := hbk2.upd uk id
    replace hrb2 := hrb2.upd uk id
    have hkk := Lib.hid (hcmp.call k key (wr.alloc (.cells #[.string (k).1, .string (k).2.1, .int .i64 (k).2.2.1, .int .i64 (k).2.2.2] 24)).drew)
    refine CallV.of_calls (n := 0) (enters_of Try.func47 (by kernel_rfl) rfl) ?_
    refine callsIn_of_wp Try.func47 rfl trivial ?_
    simp only [Try.ntmps47, List.size_toArray, List.length_cons, List.length_nil, Nat.reduceAdd, Nat.reduceSub, Array.replicate_succ, Array.replicate_zero, List.push_toArray, List.append_toArray, List.nil_append, List.cons_append]
    gi_wp2
    refine wpIn_eager [(0, true), (1, true), (2, true), (3, true), (4, true), (5, true), (6, false), (7, true), (8, true)] (fun V => V.cell? ⟨bv, 0, none⟩ = some (.pointer (some ⟨rb, 0, none⟩)) ∧ V.cell? ⟨rb, 0, none⟩ = some (.func cf ca cc) ∧ V.cell? ⟨bk, 0, none⟩ = some (.string (key).1) ∧ V.cell? ⟨bk, 1, none⟩ = some (.string (key).2.1) ∧ V.cell? ⟨bk, 2, none⟩ = some (.int .i64 (key).2.2.1) ∧ V.cell? ⟨bk, 3, none⟩ = some (.int .i64 (key).2.2.2) ∧ V.cell? ⟨wr.heap.size, 0, none⟩ = some (.string (k).1) ∧ V.cell? ⟨wr.heap.size, 1, none⟩ = some (.string (k).2.1) ∧ V.cell? ⟨wr.heap.size, 2, none⟩ = some (.int .i64 (k).2.2.1) ∧ V.cell? ⟨wr.heap.size, 3, none⟩ = some (.int .i64 (k).2.2.2)) (by kernel_rfl) (by kernel_rfl) ⟨hbv2.cell 0, hrb2.cell 0, hbk2.cell 0, hbk2.cell 1, hbk2.cell 2, hbk2.cell 3, hkb.cell 0, hkb.cell 1, hkb.cell 2, hkb.cell 3⟩ ?_
    refine wpE_fl (v := .pointer (some ⟨rb, 0, none⟩)) rfl rfl (fun W' h' => ?_) ?_
    · obtain ⟨h1, h2, h30, h31, h32, h33, h34, h35, h36, h37⟩ := h'; go_simp
    go_simp
    refine wpE_fl rfl rfl (fun _ _ => rfl) ?_
    go_simp
    refine wpE_fl (v := .pointer (some ⟨rb, 0, none⟩)) rfl rfl (fun W' h' => ?_) ?_
    · go_simp
    go_simp
    refine wpE_fl (v := .func cf ca cc) rfl rfl (fun W' h' => ?_) ?_
    · obtain ⟨h1, h2, h30, h31, h32, h33, h34, h35, h36, h37⟩ := h'; go_simp
    go_simp
    refine wpE_fl (v := ekCE k) rfl rfl (fun W' h' => ?_) ?_
    · obtain ⟨h1, h2, h30, h31, h32, h33, h34, h35, h36, h37⟩ := h'; go_simp
    go_simp
    refine wpE_fl (v := ekCE key) rfl rfl (fun W' h' => ?_) ?_
    · obtain ⟨h1, h2, h30, h31, h32, h33, h34, h35, h36, h37⟩ := h'; go_simp
    go_simp
    refine wpE_ef rfl ?_
    go_simp
    gi_wp2_with ((with_reducible refine listV2 hkk.out ?_ ?_ ?_ ?_); rfl; rfl; rfl; rintro vv W2 ⟨rfl, hud⟩; (replace hud := (Upd.drew (fun _ => False) _).trans' hud))
    refine ⟨⟨(hbv2.upd hud id).cell 0, (hrb2.upd hud id).cell 0, (hbk2.upd hud id).cell 0, (hbk2.upd hud id).cell 1, (hbk2.upd hud id).cell 2, (hbk2.upd hud id).cell 3, (hkb.upd hud id).cell 0, (hkb.upd hud id).cell 1, (hkb.upd hud id).cell 2, (hkb.upd hud id).cell 3⟩, ?_⟩
    refine wpE_fl (v := .bool (decide (c k key < 0))) rfl rfl (fun W' h' => ?_) ?_
    · go_simp
    go_simp
    refine wpE_fl rfl rfl (fun _ _ => rfl) ?_
    go_simp
    refine wpE_nil ?_
    gi_wp2
    go_ret
    exact ⟨_, rfl, rfl, uk.trans' hud⟩
  have k1 := upCE (c := c) (p := fun a => decide (c a key < 0)) hx hD hah (fun a b h1 h2 => by simp only [decide_eq_true_eq] at h2 ⊢; exact hcmp.ord.trans _ _ _ h1 h2) t h.lies (fun j hj => .inr (.inr (.inr hj))) (by rw [h.list]; exact h.rise) 0 W (LeafRel.start hx) (by rw [h.list]; exact Part.whole _)
  rw [h.list, Nat.zero_add] at k1
  clear hah
  have k2 := k1.mono (R' := fun e W2 => ∃ b : Bool, e = .returned (.bool b) ∧ RunEnd Rep (goF step s ((behindL (fun a => decide (c a key < 0)) l))).1 (fun _ => True) S (fun _ => False) W (.tuple #[]) W2) (by
    rintro e W2 ⟨b, rfl, _, h1, h2⟩
    refine ⟨b, rfl, ?_⟩
    cases b with
    | false => exact h2 rfl
    | true => exact (h1 rfl).done (by simp) _)
  replace k2 := Lib.hid k2
  clear k1
  refine callsIn_of_wp Try.func45 rfl trivial ?_
  simp only [Try.ntmps45, List.size_toArray, List.length_cons, List.length_nil, Nat.reduceAdd, Nat.reduceSub, Array.replicate_succ, Array.replicate_zero, List.push_toArray, List.append_toArray, List.nil_append, List.cons_append]
  clear hx h hbv hbk hD hag
  gi_wp2_with (first | refine (⟨trivial, rfl, ?_⟩ : Fence.wide.fn _ ∧ Fence.wide.depth = none ∧ _) | (gi_at_call 46; refine k2.out.mono ?_; rintro e W3 ⟨bb, rfl, fin⟩; (replace fin := Lib.hid fin)))
  go_end0
  exact ⟨_, rfl, fin.out⟩
end Go.Proofs.Ytadeechoknpjhaa

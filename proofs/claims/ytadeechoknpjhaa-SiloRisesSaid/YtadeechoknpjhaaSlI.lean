/- silo: the document's find. -/
import Derived.Test.YtadeechoknpjhaaProg
import Derived.Test.YtadeechoknpjhaaBase
import Derived.Test.YtadeechoknpjhaaSlG
import Derived.Test.YtadeechoknpjhaaSlH
set_option linter.unusedSimpArgs false
set_option linter.unusedVariables false
namespace Go.Proofs.Ytadeechoknpjhaa
open Go.RowKit Go.Shelf
attribute [local go_sem] Oper.semAt_some

theorem getPr (vs : List VCE) (i : Nat) (h : i < vs.length) : (vs.map prE)[i]'(by simpa using h) = prE vs[i] := by simp
section
variable {vs : List VCE} {A : Option Addr} {cap : Nat} {W : World}
set_option maxRecDepth 100000 in
set_option maxHeartbeats 4000000 in
theorem find20_c {n : Nat} {k : KCE} (hr : Reads1 W A (flatE vs)) (hrise : Rise cmpC (vs.map prE)) (hl : vs.length ≤ 100000) (hsz : ∀ v ∈ vs, v.key.size ≤ maxLen ∧ v.pol.size ≤ maxLen) :
    CallsIn Fence.wide n Try.prog 30 #[.slice A vs.length cap, .agg #[.string (k).1, .string (k).2.1, .int .i64 (k).2.2.1, .int .i64 (k).2.2.2]] W fun e w' => e = .returned (.tuple #[.int .i64 (rankL cmpC k (vs.map prE) : Nat), .bool (hadL cmpC k (vs.map prE))]) ∧ Upd (fun _ => False) W w' := by
  have u0 := Upd.alloc (fun _ => False) W (.cells #[.string (k).1, .string (k).2.1, .int .i64 (k).2.2.1, .int .i64 (k).2.2.2] 24)
  have b0 := Blk.new W #[.string (k).1, .string (k).2.1, .int .i64 (k).2.2.1, .int .i64 (k).2.2.2] 24
  obtain ⟨W0, hW0⟩ : ∃ W0, W.alloc (.cells #[.string (k).1, .string (k).2.1, .int .i64 (k).2.2.1, .int .i64 (k).2.2.2] 24) = W0 := ⟨_, rfl⟩
  rw [hW0] at u0 b0
  have hr0 := hr.agree' (w' := W0) (u0.agree fun j hj => ⟨hr.lt' j hj, id⟩)
  refine callsIn_any (n := 0) (callsIn_of_wp Try.func30 rfl trivial ?_)
  simp only [Try.ntmps30, List.size_toArray, List.length_cons, List.length_nil, Nat.reduceAdd, Nat.reduceSub, Array.replicate_succ, Array.replicate_zero, List.push_toArray, List.append_toArray, List.nil_append, List.cons_append]
  gi_wp2_with (first | (rw [hW0]; skip))
  gi_loopw [6] (fun u wr => ∃ a : Nat, u = .int .i64 a ∧ a ≤ rankL cmpC k (vs.map prE) ∧ Upd (fun _ => False) W0 wr) (fun u _ => vs.length - (intOf u).toNat)
  case atStart => exact ⟨0, rfl, Nat.zero_le _, Upd.refl _ _⟩
  case round =>
    obtain ⟨a, rfl, ha, hu⟩ := hrel
    have hrl := rank_le (c := cmpC) k (vs.map prE)
    rw [List.length_map] at hrl
    by_cases hlt : a < vs.length
    · have hra := rank_at ordrC hrise a (by simpa using hlt) (k := k)
      have hhad := had_at ordrC hrise (k := k)
      rw [getPr vs a hlt] at hra
      obtain ⟨g, o, rfl, hat⟩ := atE_at hr0 hlt
      have hin := hsz _ (List.getElem_mem hlt)
      obtain ⟨v, hv⟩ : ∃ v, vs[a] = v := ⟨_, rfl⟩
      rw [hv] at hra hat hin
      have hcell := Lib.hid fun V (u : Upd (fun _ => False) W0 V) => show (V.cell? ⟨W.heap.size, 0, none⟩ = some (.string (k).1) ∧ V.cell? ⟨W.heap.size, 1, none⟩ = some (.string (k).2.1) ∧ V.cell? ⟨W.heap.size, 2, none⟩ = some (.int .i64 (k).2.2.1) ∧ V.cell? ⟨W.heap.size, 3, none⟩ = some (.int .i64 (k).2.2.2)) ∧ (V.cell? ⟨g, o + a * 16 + 1, none⟩ = some (.string (v).key) ∧ V.cell? ⟨g, o + a * 16 + 2, none⟩ = some (.string (v).pol) ∧ V.cell? ⟨g, o + a * 16 + 3, none⟩ = some (.int .i64 (v).kd) ∧ V.cell? ⟨g, o + a * 16 + 4, none⟩ = some (.int .i64 (v).st)) from
        ⟨⟨(b0.upd u id).cell 0, (b0.upd u id).cell 1, (b0.upd u id).cell 2, (b0.upd u id).cell 3⟩, ⟨cell_upd u hat.c1, cell_upd u hat.c2, cell_upd u hat.c3, cell_upd u hat.c4⟩⟩
      have tx := Lib.hid fun V => cmp20_c (n := 0) (a := cellE v) (b := k) (W := V) hin.1 hin.2
      have h0 := hcell.out _ hu.stepDrew
      have q2 := guardC
      have q1 := fun w => eqlC1 (cellE v) k w
      have hb : a = rankL cmpC k (vs.map prE) → decide (cellE v = k) = hadL cmpC k (vs.map prE) := fun e => by
        rw [Bool.eq_iff_iff, decide_eq_true_eq, hhad]
        constructor
        · intro h; exact ⟨by rw [← e]; simpa using hlt, by simp only [← e]; rw [getPr vs a hlt, hv]; exact h⟩
        · rintro ⟨_, h⟩; simp only [← e] at h; rw [getPr vs a hlt, hv] at h; exact h
      clear hr hr0 hrise hsz hat hin hhad hv b0
      replace hu := Lib.hid hu
      replace u0 := Lib.hid u0
      by_cases hc : cmpC (cellE v) k < 0
      · have hra' := hra.2 hc
        clear hra hb q1 q2
        obtain ⟨c, hcc⟩ : ∃ c, cmpC (cellE v) k = c := ⟨_, rfl⟩
        rw [hcc] at hc tx
        clear hcc
        gi_wp2_with (first | refine (⟨trivial, rfl, ?_⟩ : Fence.wide.fn _ ∧ Fence.wide.depth = none ∧ _) | refine (⟨trivial, ?_⟩ : Fence.wide.fn _ ∧ _))
        refine wpIn_eager [(0, true), (1, true), (2, true), (3, true), (4, true), (5, true), (6, true), (7, true), (8, true), (9, true), (10, true), (11, true), (12, false), (13, true), (14, true)] (fun V => (V.cell? ⟨W.heap.size, 0, none⟩ = some (.string (k).1) ∧ V.cell? ⟨W.heap.size, 1, none⟩ = some (.string (k).2.1) ∧ V.cell? ⟨W.heap.size, 2, none⟩ = some (.int .i64 (k).2.2.1) ∧ V.cell? ⟨W.heap.size, 3, none⟩ = some (.int .i64 (k).2.2.2)) ∧ (V.cell? ⟨g, o + a * 16 + 1, none⟩ = some (.string (v).key) ∧ V.cell? ⟨g, o + a * 16 + 2, none⟩ = some (.string (v).pol) ∧ V.cell? ⟨g, o + a * 16 + 3, none⟩ = some (.int .i64 (v).kd) ∧ V.cell? ⟨g, o + a * 16 + 4, none⟩ = some (.int .i64 (v).st))) (by kernel_rfl) (by kernel_rfl) h0 ?_
        repeat (first | (refine wpE_fl rfl rfl (fun _ _ => rfl) ?_; go_simp) | (refine wpE_sk rfl rfl ?_; go_simp) | (refine wpE_fl (v := ?_) rfl rfl ?_ ?_; rotate_left; (intro W' h'; (try dsimp only at h'); go_simp; exact rfl); go_simp) | (refine wpE_ef rfl ?_; go_simp; gi_wp2_with (first | refine (⟨trivial, rfl, ?_⟩ : Fence.wide.fn _ ∧ Fence.wide.depth = none ∧ _) | refine (⟨trivial, trivial, rfl, ?_⟩ : Fence.wide.fn _ ∧ Fence.wide.fn _ ∧ Fence.wide.depth = none ∧ _) | (gi_at_call 36; (with_reducible refine (tx.out _).mono ?_); rintro e W2 ⟨rfl, h2⟩; (replace h2 := Lib.hid (hu.out.stepDrew.trans' h2))) | refine (⟨trivial, ?_⟩ : Fence.wide.fn _ ∧ _)); (first | refine ⟨by first | exact hcell.out _ h2.out, ?_⟩ | skip)))
        refine wpE_nil ?_
        gi_wp2
        exact ⟨⟨a + 1, by go_num, by omega, h2.out⟩, by show vs.length - ((a : Int) + 1).toNat < vs.length - (a : Int).toNat; omega⟩
      · have har : a = rankL cmpC k (vs.map prE) := by have h : ¬ a < rankL cmpC k (vs.map prE) := fun h => hc (hra.1 h); omega
        have hb' := hb har
        clear hra hb
        obtain ⟨c, hcc⟩ : ∃ c, cmpC (cellE v) k = c := ⟨_, rfl⟩
        rw [hcc] at hc tx
        clear hcc
        obtain ⟨bb, hbb⟩ : ∃ bb, decide (cellE v = k) = bb := ⟨_, rfl⟩
        rw [hbb] at hb'
        simp only [hbb] at q1
        clear hbb ha
        replace hb' := Lib.hid hb'
        replace har := Lib.hid har
        gi_wp2_with (first | refine (⟨trivial, rfl, ?_⟩ : Fence.wide.fn _ ∧ Fence.wide.depth = none ∧ _) | refine (⟨trivial, ?_⟩ : Fence.wide.fn _ ∧ _))
        refine wpIn_eager [(0, true), (1, true), (2, true), (3, true), (4, true), (5, true), (6, true), (7, true), (8, true), (9, true), (10, true), (11, true), (12, false), (13, true), (14, true)] (fun V => (V.cell? ⟨W.heap.size, 0, none⟩ = some (.string (k).1) ∧ V.cell? ⟨W.heap.size, 1, none⟩ = some (.string (k).2.1) ∧ V.cell? ⟨W.heap.size, 2, none⟩ = some (.int .i64 (k).2.2.1) ∧ V.cell? ⟨W.heap.size, 3, none⟩ = some (.int .i64 (k).2.2.2)) ∧ (V.cell? ⟨g, o + a * 16 + 1, none⟩ = some (.string (v).key) ∧ V.cell? ⟨g, o + a * 16 + 2, none⟩ = some (.string (v).pol) ∧ V.cell? ⟨g, o + a * 16 + 3, none⟩ = some (.int .i64 (v).kd) ∧ V.cell? ⟨g, o + a * 16 + 4, none⟩ = some (.int .i64 (v).st))) (by kernel_rfl) (by kernel_rfl) h0 ?_
        repeat (first | (refine wpE_fl rfl rfl (fun _ _ => rfl) ?_; go_simp) | (refine wpE_sk rfl rfl ?_; go_simp) | (refine wpE_fl (v := ?_) rfl rfl ?_ ?_; rotate_left; (intro W' h'; (try dsimp only at h'); go_simp; exact rfl); go_simp) | (refine wpE_ef rfl ?_; go_simp; gi_wp2_with (first | refine (⟨trivial, rfl, ?_⟩ : Fence.wide.fn _ ∧ Fence.wide.depth = none ∧ _) | refine (⟨trivial, trivial, rfl, ?_⟩ : Fence.wide.fn _ ∧ Fence.wide.fn _ ∧ Fence.wide.depth = none ∧ _) | (gi_at_call 36; (with_reducible refine (tx.out _).mono ?_); rintro e W2 ⟨rfl, h2⟩; (replace h2 := Lib.hid (hu.out.stepDrew.trans' h2))) | refine (⟨trivial, ?_⟩ : Fence.wide.fn _ ∧ _)); (first | refine ⟨by first | exact hcell.out _ h2.out, ?_⟩ | skip)))
        refine wpE_nil ?_
        have h3 := hcell.out _ h2.out.stepDrew
        gi_wp2
        refine wpIn_eager [(0, true), (1, true), (2, true), (3, true), (4, true), (5, true), (6, true), (7, true), (8, true), (9, true), (10, true), (11, true), (12, true), (13, true), (14, true), (15, true), (16, true)] (fun V => (V.cell? ⟨W.heap.size, 0, none⟩ = some (.string (k).1) ∧ V.cell? ⟨W.heap.size, 1, none⟩ = some (.string (k).2.1) ∧ V.cell? ⟨W.heap.size, 2, none⟩ = some (.int .i64 (k).2.2.1) ∧ V.cell? ⟨W.heap.size, 3, none⟩ = some (.int .i64 (k).2.2.2)) ∧ (V.cell? ⟨g, o + a * 16 + 1, none⟩ = some (.string (v).key) ∧ V.cell? ⟨g, o + a * 16 + 2, none⟩ = some (.string (v).pol) ∧ V.cell? ⟨g, o + a * 16 + 3, none⟩ = some (.int .i64 (v).kd) ∧ V.cell? ⟨g, o + a * 16 + 4, none⟩ = some (.int .i64 (v).st))) (by kernel_rfl) (by kernel_rfl) h3 ?_
        repeat (first | (refine wpE_fl rfl rfl (fun _ _ => rfl) ?_; go_simp) | (refine wpE_sk rfl rfl ?_; go_simp) | (refine wpE_fl (v := ?_) rfl rfl ?_ ?_; rotate_left; (intro W' h'; (try dsimp only at h'); go_simp; exact rfl); go_simp) | (refine wpE_ef rfl ?_; go_simp; gi_wp2_with (first | refine (⟨trivial, rfl, ?_⟩ : Fence.wide.fn _ ∧ Fence.wide.depth = none ∧ _) | refine (⟨trivial, trivial, rfl, ?_⟩ : Fence.wide.fn _ ∧ Fence.wide.fn _ ∧ Fence.wide.depth = none ∧ _) | refine (⟨trivial, ?_⟩ : Fence.wide.fn _ ∧ _)); (first | refine ⟨by first | exact h3, ?_⟩ | skip)))
        refine wpE_nil ?_
        gi_wp2
        refine bodyPost_ret (results_tmp2 rfl _ _ _) rfl ?_
        rw [← har.out, ← hb'.out]
        exact ⟨rfl, u0.out.trans' h2.out.stepDrew⟩
    · have har : rankL cmpC k (vs.map prE) = a := by omega
      have hb : hadL cmpC k (vs.map prE) = false := by
        cases hh : hadL cmpC k (vs.map prE) with
        | false => rfl
        | true => obtain ⟨h1, _⟩ := (had_at ordrC hrise).1 hh; rw [List.length_map] at h1; omega
      replace har := Lib.hid har
      replace hb := Lib.hid hb
      replace hu := Lib.hid hu
      replace u0 := Lib.hid u0
      clear hr hr0 hrise hsz b0 ha hrl
      have hge : ¬ (a : Int) < vs.length := by omega
      gi_wp2_with (first | refine (⟨trivial, rfl, ?_⟩ : Fence.wide.fn _ ∧ Fence.wide.depth = none ∧ _) | refine (⟨trivial, ?_⟩ : Fence.wide.fn _ ∧ _))
      refine wpIn_eager [(0, true), (1, true), (2, true), (3, true), (4, true), (5, true), (6, true), (7, true), (8, true), (9, true), (10, true), (11, true), (12, false), (13, true), (14, true)] (fun _ => True) (by kernel_rfl) (by kernel_rfl) trivial ?_
      repeat (first | (refine wpE_fl rfl rfl (fun _ _ => rfl) ?_; go_simp) | (refine wpE_sk rfl rfl ?_; go_simp) | (refine wpE_fl (v := ?_) rfl rfl ?_ ?_; rotate_left; (intro W' h'; (try dsimp only at h'); go_simp; exact rfl); go_simp) | (refine wpE_ef rfl ?_; go_simp; gi_wp2_with (first | refine (⟨trivial, rfl, ?_⟩ : Fence.wide.fn _ ∧ Fence.wide.depth = none ∧ _) | refine (⟨trivial, trivial, rfl, ?_⟩ : Fence.wide.fn _ ∧ Fence.wide.fn _ ∧ Fence.wide.depth = none ∧ _) | refine (⟨trivial, ?_⟩ : Fence.wide.fn _ ∧ _)); (first | refine ⟨by first | exact trivial, ?_⟩ | skip)))
      refine wpE_nil ?_
      gi_wp2
      refine wpIn_eager [(0, true), (1, true), (2, true), (3, true), (4, true), (5, true), (6, true), (7, true), (8, true), (9, true), (10, true), (11, true), (12, true), (13, true), (14, true), (15, true), (16, true)] (fun _ => True) (by kernel_rfl) (by kernel_rfl) trivial ?_
      repeat (first | (refine wpE_fl rfl rfl (fun _ _ => rfl) ?_; go_simp) | (refine wpE_sk rfl rfl ?_; go_simp) | (refine wpE_fl (v := ?_) rfl rfl ?_ ?_; rotate_left; (intro W' h'; (try dsimp only at h'); go_simp; exact rfl); go_simp) | (refine wpE_ef rfl ?_; go_simp; gi_wp2_with (first | refine (⟨trivial, rfl, ?_⟩ : Fence.wide.fn _ ∧ Fence.wide.depth = none ∧ _) | refine (⟨trivial, trivial, rfl, ?_⟩ : Fence.wide.fn _ ∧ Fence.wide.fn _ ∧ Fence.wide.depth = none ∧ _) | refine (⟨trivial, ?_⟩ : Fence.wide.fn _ ∧ _)); (first | refine ⟨by first | exact trivial, ?_⟩ | skip)))
      refine wpE_nil ?_
      gi_wp2
      refine bodyPost_ret (results_tmp2 rfl _ _ _) rfl ?_
      rw [har.out, hb.out]
      exact ⟨rfl, u0.out.trans' hu.out.stepDrew.stepDrew⟩
end
end Go.Proofs.Ytadeechoknpjhaa

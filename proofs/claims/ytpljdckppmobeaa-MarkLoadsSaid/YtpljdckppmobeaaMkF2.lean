/- mark: the document's Can, See. -/
import Derived.Test.YtpljdckppmobeaaProg
import Derived.Test.YtpljdckppmobeaaBase
import Derived.Test.YtpljdckppmobeaaMkF
import Derived.Test.YtpljdckppmobeaaMkT
import Derived.Test.YtpljdckppmobeaaForkE
namespace Go.Proofs.Ytpljdckppmobeaa
open Go.RowKit Go.Shelf
attribute [local go_sem] Oper.semAt_some

section
variable {now low : Int} {ls : List (KSM × VSM)} {A : Option Addr} {cap : Nat} {W : World}
set_option maxRecDepth 100000 in
set_option maxHeartbeats 2000000 in
theorem can13_c {n : Nat} (hr : Reads1 W A (flatS ls)) (hrise : Rise cmpS ls) (hl : ls.length ≤ 100000) (hsz : ∀ e ∈ ls, e.1.size ≤ maxLen) (k : KSM) : CallsIn Fence.wide n Try.prog 33 #[.agg #[.int .i64 now, .int .i64 low, .slice A ls.length cap], .string k] W fun e W2 => e = .returned (.int .i64 (canL k ls)) ∧ Upd (fun _ => False) W W2 := by
  have u1 := Upd.alloc (fun _ => False) W (.cells #[.int .i64 now, .int .i64 low, .slice A ls.length cap] 43)
  have b1 := Blk.new W #[.int .i64 now, .int .i64 low, .slice A ls.length cap] 43
  have hr1 := hr.agree' (w' := W.alloc (.cells #[.int .i64 now, .int .i64 low, .slice A ls.length cap] 43)) (u1.agree fun j hj => ⟨hr.lt' j hj, id⟩)
  have kf := (find13_c (n := 0) (cap := cap) (k := k) hr1 hrise hl hsz).mono (R' := fun e W2 => e = .returned (.tuple #[.int .i64 (rankL cmpS k ls : Nat), .bool (hadL cmpS k ls)]) ∧ W2.cell? ⟨W.heap.size, 2, none⟩ = some (.slice A ls.length cap) ∧ Upd (fun _ => False) W W2) (by
    rintro e W2 ⟨rfl, u⟩
    exact ⟨rfl, (b1.upd u id).cell 2, u1.trans' u⟩)
  replace kf := Lib.hid kf
  clear hr hr1 hrise hsz b1 u1
  refine callsIn_any (n := 0) (callsIn_of_wp Try.func33 rfl trivial ?_)
  simp only [Try.ntmps33, List.size_toArray, List.length_cons, List.length_nil, Nat.reduceAdd, Nat.reduceSub, Array.replicate_succ, Array.replicate_zero, List.push_toArray, List.append_toArray, List.nil_append, List.cons_append]
  cases hh : hadL cmpS k ls with
  | true =>
    rw [hh] at kf
    gi_wp2_with (first | refine (⟨trivial, rfl, ?_⟩ : Fence.wide.fn _ ∧ Fence.wide.depth = none ∧ _) | (gi_at_call 46; (with_reducible refine kf.out.mono ?_); rintro e W2 ⟨rfl, c2, u2⟩; (skip)) | refine (⟨trivial, ?_⟩ : Fence.wide.fn _ ∧ _))
    go_ret
    exact ⟨by simp [canL, hh], u2⟩
  | false =>
    rw [hh] at kf
    by_cases h8 : 8 ≤ ls.length
    all_goals
      gi_wp2_with (first | refine (⟨trivial, rfl, ?_⟩ : Fence.wide.fn _ ∧ Fence.wide.depth = none ∧ _) | (gi_at_call 46; (with_reducible refine kf.out.mono ?_); rintro e W2 ⟨rfl, c2, u2⟩; (skip)) | refine (⟨trivial, ?_⟩ : Fence.wide.fn _ ∧ _))
      go_ret
      exact ⟨by simp [canL, hh, h8], u2⟩

theorem results_s {fn : Func} {p q : Tmp} {b : Nat} {w : World} {tmps : Array Value} {x0 x1 x2 : Value} (h : fn.results = #[.cell p 43, .tmp q]) (ha : tmps[p]?.getD undef = .pointer (some ⟨b, 0, none⟩))
    (h0 : w.cell? ⟨b, 0, none⟩ = some x0) (h1 : w.cell? ⟨b, 1, none⟩ = some x1) (h2 : w.cell? ⟨b, 2, none⟩ = some x2) : (results fn tmps).run Try.prog w = .ok (.tuple #[.agg #[x0, x1, x2], tmps[q]?.getD undef]) w := by
  have e := load3 (T := 43) rfl rfl h0 h1 h2
  simp only [results, h]
  simp [Sem.run_bind, Result.andThen, ha, asAddr, e]
theorem blk_reads3 {w : World} {b : Nat} {u0 u1 u2 : Value} {t : TypeId} (h : Blk w b #[u0, u1, u2] t) : Reads1 w (some ⟨b, 0, none⟩) [u0, u1, u2] := fun i u hu => by
  have e : (⟨b, 0, none⟩ : Addr).add i = ⟨b, i, none⟩ := by rw [add_plain', Nat.zero_add]
  refine ⟨_, rfl, ?_⟩
  rw [e]
  match i, hu with
  | 0, hu => cases hu; exact h.cell 0
  | 1, hu => cases hu; exact h.cell 1
  | 2, hu => cases hu; exact h.cell 2
theorem own_empty1S (w : World) (o : Obj) (e : TypeId) (size : Nat) : ((w.alloc o).alloc (.cells #[] e)).ownsRow (w.heap.size + 1) e size (.slice (some ⟨w.heap.size + 1, 0, none⟩) 0 0) 0 [] := by
  have h := own_emptyS (w.alloc o) e size
  rwa [World.size_alloc] at h

set_option maxRecDepth 100000 in
set_option maxHeartbeats 4000000 in
theorem see13_c {n : Nat} (hr : Reads1 W A (flatS ls)) (hcap : ls.length ≤ cap) (hrise : Rise cmpS ls) (hl : ls.length ≤ 100000) (hsz : ∀ e ∈ ls, e.1.size ≤ maxLen) (k : KSM) (time : Int) (hc : canL k ls = 0) :
    CallsIn Fence.wide n Try.prog 34 #[.agg #[.int .i64 now, .int .i64 low, .slice A ls.length cap], .string k, .int .i64 time] W fun e W2 => ∃ A' cap', e = .returned (.tuple #[.agg #[.int .i64 now, .int .i64 low, .slice A' (putL cmpS k (seeV k time now ls) ls).length cap'], .int .i64 0]) ∧
      (putL cmpS k (seeV k time now ls) ls).length ≤ cap' ∧ Reads1 W2 A' (flatS (putL cmpS k (seeV k time now ls) ls)) ∧ (∀ j, blkOf A' j → W.heap.size ≤ j ∧ j < W2.heap.size) ∧ Upd (fun _ => False) W W2 := by
  obtain ⟨W0, hW0⟩ : ∃ W0, (W.alloc (.cells #[.int .i64 now, .int .i64 low, .slice A ls.length cap] 43)).alloc (.cells #[.int .i64 0, .int .i64 0, .slice none 0 0] 43) = W0 := ⟨_, rfl⟩
  have u0 : Upd (fun _ => False) W W0 := by rw [← hW0]; exact ((Upd.refl _ _).stepAlloc _).stepAlloc _
  have b1 : Blk W0 W.heap.size #[.int .i64 now, .int .i64 low, .slice A ls.length cap] 43 := by rw [← hW0]; exact (Blk.new _ _ _).alloc _
  have b2 : Blk W0 (W.heap.size + 1) #[.int .i64 0, .int .i64 0, .slice none 0 0] 43 := by
    rw [← hW0]
    have := Blk.new (W.alloc (.cells #[.int .i64 now, .int .i64 low, .slice A ls.length cap] 43)) #[.int .i64 0, .int .i64 0, .slice none 0 0] 43
    simpa only [World.size_alloc] using this
  have hrw := Lib.hid fun V (u : Upd (fun _ => False) W V) => hr.agree' (w' := V) (u.agree fun j hj => ⟨hr.lt' j hj, id⟩)
  have hb1 := Lib.hid fun V (u : Upd (fun _ => False) W0 V) => b1.upd u id
  have hb2 := Lib.hid fun V (u : Upd (fun _ => False) W0 V) => b2.upd u id
  have a0 : W0.cell? ⟨W.heap.size, 0, none⟩ = some (.int .i64 now) := b1.cell 0
  have a1 : W0.cell? ⟨W.heap.size, 1, none⟩ = some (.int .i64 low) := b1.cell 1
  have a2 : W0.cell? ⟨W.heap.size, 2, none⟩ = some (.slice A ls.length cap) := b1.cell 2
  have kC := can13_c (n := 0) (now := now) (low := low) (cap := cap) (hrw.out _ u0) hrise hl hsz k
  rw [hc] at kC
  replace kC := Lib.hid kC
  have kF := Lib.hid fun V (u : Upd (fun _ => False) W V) => find13_c (n := 0) (cap := cap) (k := k) (hrw.out _ u) hrise hl hsz
  have hput := Lib.hid (put_at ordrS hrise (k := k) (v := seeV k time now ls))
  have hrl := rank_le (c := cmpS) k ls
  have hhad : hadL cmpS k ls = true → ∃ h : rankL cmpS k ls < ls.length, (ls[rankL cmpS k ls]).1 = k := (had_at ordrS hrise).1
  have hgv : (getL cmpS k ls).isSome = hadL cmpS k ls := get_had
  have hgo : ∀ h : rankL cmpS k ls < ls.length, (ls[rankL cmpS k ls]).1 = k → getL cmpS k ls = some (ls[rankL cmpS k ls]).2 := fun h e => by
    cases hg : getL cmpS k ls with
    | none =>
      simp only [getL, Option.map_eq_none_iff, List.find?_eq_none, decide_eq_true_eq] at hg
      exact absurd ((ordrS.eq _ _).2 e.symm) (hg _ (List.getElem_mem h))
    | some v =>
      simp only [getL, Option.map_eq_some_iff] at hg
      obtain ⟨y, hy, rfl⟩ := hg
      have h1 := List.find?_some hy
      simp only [decide_eq_true_eq] at h1
      have e1 := (ordrS.eq _ _).1 h1
      have h2 := List.mem_of_find?_eq_some hy
      obtain ⟨i, hi, rfl⟩ := List.getElem_of_mem h2
      have irr : cmpS k k = 0 := (ordrS.eq k k).2 rfl
      rcases Nat.lt_trichotomy i (rankL cmpS k ls) with h3 | h3 | h3
      · have := List.pairwise_iff_getElem.1 hrise _ _ hi h h3; rw [e, ← e1] at this; omega
      · subst h3; rfl
      · have := List.pairwise_iff_getElem.1 hrise _ _ h hi h3; rw [e, ← e1] at this; omega
  have hval : ∃ g0 : Int, ((getL cmpS k ls).getD (0, 0)).1 = g0 ∧ (hadL cmpS k ls = true → rankL cmpS k ls < ls.length ∧ (ls[rankL cmpS k ls]?).map (·.2.1) = some g0) ∧ (hadL cmpS k ls = false → g0 = 0) := by
    refine ⟨_, rfl, fun h => ?_, fun h => ?_⟩
    · obtain ⟨h1, h2⟩ := hhad h
      exact ⟨h1, by rw [hgo h1 h2, List.getElem?_eq_getElem h1]; rfl⟩
    · rw [← hgv] at h
      rw [Option.isSome_eq_false_iff, Option.isNone_iff_eq_none] at h
      rw [h]; rfl
  obtain ⟨g0, hg0, hgt, hgf⟩ := hval
  have hsv : seeV k time now ls = (max g0 time, now) := by unfold seeV; rw [hg0]
  clear hr hrise hsz hgv hgo hg0 hhad hc b1 b2
  obtain ⟨a, ha⟩ : ∃ a, rankL cmpS k ls = a := ⟨_, rfl⟩
  obtain ⟨b, hb⟩ : ∃ b, hadL cmpS k ls = b := ⟨_, rfl⟩
  rw [ha, hb] at kF hput
  rw [ha] at hrl
  rw [ha, hb] at hgt
  rw [hb] at hgf
  clear ha hb
  replace hput := hput.out
  rw [hsv] at hput ⊢
  obtain ⟨P, hP⟩ : ∃ P, putL cmpS k (max g0 time, now) ls = P := ⟨_, rfl⟩
  rw [hP] at hput ⊢
  clear hP hsv
  replace u0 := Lib.hid u0
  cases b with
  | false =>
    obtain rfl := hgf rfl
    clear hgt hgf
    simp only [Bool.false_eq_true, if_false] at hput
    refine callsIn_any (n := 0) (callsIn_of_wp Try.func34 rfl trivial ?_)
    simp only [Try.ntmps34, List.size_toArray, List.length_cons, List.length_nil, Nat.reduceAdd, Nat.reduceSub, Array.replicate_succ, Array.replicate_zero, List.push_toArray, List.append_toArray, List.nil_append, List.cons_append]
    gi_wp2_with (first | refine (⟨trivial, rfl, ?_⟩ : Fence.wide.fn _ ∧ Fence.wide.depth = none ∧ _) | (gi_at_call 33; (with_reducible refine kC.out.mono ?_); rintro e W1 ⟨rfl, u1⟩; (have c12 : W1.cell? ⟨W.heap.size, 2, none⟩ = some (.slice A ls.length cap) := (hb1.out _ u1).cell 2)) | (gi_at_call 46; (with_reducible refine (kF.out _ (u0.out.trans' u1)).mono ?_); rintro e W2 ⟨rfl, u2⟩; (have hb1' := hb1.out _ (u1.trans' u2)); (have d0 : W2.cell? ⟨W.heap.size, 0, none⟩ = some (.int .i64 now) := hb1'.cell 0); (have d2 : (W2.alloc (.cells #[.string k, .int .i64 (max 0 time), .int .i64 now] 74)).cell? ⟨W.heap.size, 2, none⟩ = some (.slice A ls.length cap) := (hb1'.alloc _).cell 2); (replace hb1' := Lib.hid hb1')) | ((with_reducible refine sliceFrom (A := A) (m := ls.length) (c := cap) (k := a) Try.underlying41 infoT ?_ ?_ ?_ ?_ ?_); rfl; rfl; omega; omega; intro A1 c1 hc1 hA1 hB1; (replace hA1 := Lib.hid hA1); (replace hB1 := Lib.hid hB1)) | refine (⟨trivial, ?_⟩ : Fence.wide.fn _ ∧ _))
    obtain ⟨V1, hV⟩ : ∃ V1, (W2.alloc (.cells #[.string k, .int .i64 (max 0 time), .int .i64 now] 74)).drew = V1 := ⟨_, rfl⟩
    have uV0 : Upd (fun _ => False) W0 V1 := by rw [← hV]; exact ((u1.trans' u2).stepAlloc _).stepDrew
    have uV : Upd (fun _ => False) W V1 := u0.out.trans' uV0
    have bx : Blk V1 W2.heap.size #[.string k, .int .i64 (max 0 time), .int .i64 now] 74 := by rw [← hV]; exact (Blk.new _ _ _).upd (Upd.drew (fun _ => False) _) id
    have hH := Lib.hid fun V (u : Upd (fun _ => False) V1 V) => show V.cell? ⟨W.heap.size, 2, none⟩ = some (.slice A ls.length cap) ∧ V.cell? ⟨W2.heap.size, 0, none⟩ = some (.string k) ∧ V.cell? ⟨W2.heap.size, 1, none⟩ = some (.int .i64 (max 0 time)) ∧ V.cell? ⟨W2.heap.size, 2, none⟩ = some (.int .i64 now) from
      ⟨(hb1.out _ (uV0.trans' u)).cell 2, (bx.upd u id).cell 0, (bx.upd u id).cell 1, (bx.upd u id).cell 2⟩
    have hrV := Lib.hid fun V (u : Upd (fun _ => False) V1 V) => hrw.out _ (uV.trans' u)
    have hb1V := Lib.hid fun V (u : Upd (fun _ => False) V1 V) => hb1.out _ (uV0.trans' u)
    have hb2V := Lib.hid fun V (u : Upd (fun _ => False) V1 V) => hb2.out _ (uV0.trans' u)
    have hzV0 : W0.heap.size = W.heap.size + 2 := by rw [← hW0]; simp
    have hzV : W.heap.size + 2 ≤ V1.heap.size := by have := uV0.size; omega
    replace uV := Lib.hid uV
    obtain ⟨rt1, rt2⟩ := run_to (m := ls.length) (A := A) Try.underlying41 infoT (show a ≤ cap by omega)
    clear bx uV0 kC kF c12 d0 d2 a0 a1 a2 hb1' u1 u2 hb1 hb2 hrw hW0
    refine wpIn_planE (.fl 1 (.fl 2 (.fl 3 (.fl 4 (.fl 6 (.fl 9 (.fork 0 (.fork 5 (.ef 7 (.ef 8 (.ef 10 (.fl 11 (.ef 12 .done))))) 7 (.ef 5 (.ef 8 (.ef 10 (.fl 11 (.ef 12 .done)))))) 7 (.ef 0 (.ef 5 (.ef 8 (.ef 10 (.fl 11 (.ef 12 .done))))))))))))) 12 (fun V => V.cell? ⟨W.heap.size, 2, none⟩ = some (.slice A ls.length cap) ∧ V.cell? ⟨W2.heap.size, 0, none⟩ = some (.string k) ∧ V.cell? ⟨W2.heap.size, 1, none⟩ = some (.int .i64 (max 0 time)) ∧ V.cell? ⟨W2.heap.size, 2, none⟩ = some (.int .i64 now)) (by kernel_rfl) (by kernel_rfl) (by rw [hV]; exact hH.out _ (Upd.refl _ _)) ?_
    rw [hV]
    repeat' (first | (refine wpU_fl rfl rfl (fun _ _ => rfl) ?_; go_simp) | (refine wpU_fl (v := ?_) rfl rfl ?_ ?_; rotate_left; (intro W' h'; (try dsimp only at h'); go_simp; exact rfl); go_simp) | (refine wpU_ef rfl ?_; (go_simp; gi_wp2_with (first | ((with_reducible refine appS (A := A) (m := a) (c := cap) Try.underlying41 infoT zS (by omega) (by omega) (own_emptyS V1 _ 3) ?_ ?_ ?_ ?_ ?_ (reads_take (k := a * 3) (hrV.out _ ((Upd.refl (fun _ => False) V1).stepAlloc _))) ?_ ?_); rfl; rfl; (focus ((try simp); (try omega))); (rw [List.length_take, flatS_len]; omega); omega; exact (fun u hu => flatS_one _ u (List.mem_of_mem_take hu)); intro v3 W3 h3 g3 e3; (simp only [Nat.zero_add, List.nil_append] at h3); have z3 := g3.size; (simp only [World.size_alloc] at z3); have u3 := ((Upd.refl (fun _ => False) V1).stepAlloc (.cells #[] 74)).trans g3 (fun j hj => .inr (by simp [Value.ownBlock] at hj; omega)); have hge3 : (∀ j, v3.ownBlock = some j → V1.heap.size ≤ j) := (fun j hj => by have := own_ge h3 j hj; (try simp at this); omega); (replace u3 := Lib.hid u3); (replace h3 := Lib.hid h3); (replace g3 := Lib.hid g3); (replace hge3 := Lib.hid hge3); clear e3) | ((with_reducible refine appS (A := A) (m := a) (c := cap) Try.underlying41 infoT zS (by omega) (by omega) ((own_emptyS V1 _ 3).alloc _) ?_ ?_ ?_ ?_ ?_ (reads_take (k := a * 3) (hrV.out _ (((Upd.refl (fun _ => False) V1).stepAlloc _).stepAlloc _))) ?_ ?_); rfl; rfl; (focus ((try simp); (try omega))); (rw [List.length_take, flatS_len]; omega); omega; exact (fun u hu => flatS_one _ u (List.mem_of_mem_take hu)); intro v3 W3 h3 g3 e3; (simp only [Nat.zero_add, List.nil_append] at h3); have z3 := g3.size; (simp only [World.size_alloc] at z3); have u3 := (((Upd.refl (fun _ => False) V1).stepAlloc (.cells #[] 74)).stepAlloc (.cells #[.string k, .int .i64 (max 0 time), .int .i64 now] 74)).trans g3 (fun j hj => .inr (by simp [Value.ownBlock] at hj; omega)); have hge3 : (∀ j, v3.ownBlock = some j → V1.heap.size ≤ j) := (fun j hj => by have := own_ge h3 j hj; (try simp at this); omega); have hx3 : Blk W3 (V1.heap.size + 1) #[.string k, .int .i64 (max 0 time), .int .i64 now] 74 := (Blk.new' (by simp)).upd g3 (by simp [Value.ownBlock]); (replace hx3 := Lib.hid hx3); (replace u3 := Lib.hid u3); (replace h3 := Lib.hid h3); (replace g3 := Lib.hid g3); (replace hge3 := Lib.hid hge3); clear e3) | ((with_reducible refine appS (A := A) (m := a) (c := cap) Try.underlying41 infoT zS (by omega) (by omega) (own_empty1S V1 (.cells #[.string k, .int .i64 (max 0 time), .int .i64 now] 74) _ 3) ?_ ?_ ?_ ?_ ?_ (reads_take (k := a * 3) (hrV.out _ (((Upd.refl (fun _ => False) V1).stepAlloc _).stepAlloc _))) ?_ ?_); rfl; rfl; (focus ((try simp); (try omega))); (rw [List.length_take, flatS_len]; omega); omega; exact (fun u hu => flatS_one _ u (List.mem_of_mem_take hu)); intro v3 W3 h3 g3 e3; (simp only [Nat.zero_add, List.nil_append] at h3); have z3 := g3.size; (simp only [World.size_alloc] at z3); have u3 := (((Upd.refl (fun _ => False) V1).stepAlloc (.cells #[.string k, .int .i64 (max 0 time), .int .i64 now] 74)).stepAlloc (.cells #[] 74)).trans g3 (fun j hj => .inr (by simp [Value.ownBlock] at hj; omega)); have hge3 : (∀ j, v3.ownBlock = some j → V1.heap.size ≤ j) := (fun j hj => by have := own_ge h3 j hj; (try simp at this); omega); have hx3 : Blk W3 V1.heap.size #[.string k, .int .i64 (max 0 time), .int .i64 now] 74 := ((Blk.new' rfl).alloc _).upd g3 (by simp [Value.ownBlock]); (replace hx3 := Lib.hid hx3); (replace u3 := Lib.hid u3); (replace h3 := Lib.hid h3); (replace g3 := Lib.hid g3); (replace hge3 := Lib.hid hge3); clear e3) | ((with_reducible refine appS (A := (some ⟨W3.heap.size, 0, none⟩)) (m := 1) (c := 1) Try.underlying41 infoT zS (by omega) (by omega) (h3.out.alloc _) ?_ ?_ ?_ ?_ ?_ (blk_reads3 (Blk.new' (cs := #[.string k, .int .i64 (max 0 time), .int .i64 now]) rfl)) ?_ ?_); rfl; rfl; (focus ((try simp); (try omega))); rfl; omega; exact (fun u hu => by simp only [List.mem_cons, List.not_mem_nil, or_false] at hu; rcases hu with rfl | rfl | rfl <;> rfl); intro v4 W4 h4 g4 e4; have z4 := g4.size; (try simp only [World.size_alloc] at z4); have u4 := (u3.out.stepAlloc (.cells #[.string k, .int .i64 (max 0 time), .int .i64 now] 74)).trans g4 (fun j hj => .inr (hge3.out j hj)); have hge4 : (∀ j, v4.ownBlock = some j → V1.heap.size ≤ j) := (fun j hj => by have := own_ge h4 j hj; (try simp at this); omega); (replace u4 := Lib.hid u4); (replace h4 := Lib.hid h4); (replace hge4 := Lib.hid hge4); clear g4 e4) | ((with_reducible refine appS (A := (some ⟨_, 0, none⟩)) (m := 1) (c := 1) Try.underlying41 infoT zS (by omega) (by omega) h3.out ?_ ?_ ?_ ?_ ?_ (blk_reads3 hx3.out) ?_ ?_); rfl; rfl; (focus ((try simp); (try omega))); rfl; omega; exact (fun u hu => by simp only [List.mem_cons, List.not_mem_nil, or_false] at hu; rcases hu with rfl | rfl | rfl <;> rfl); intro v4 W4 h4 g4 e4; have z4 := g4.size; (try simp only [World.size_alloc] at z4); have u4 := (u3.out).trans g4 (fun j hj => .inr (hge3.out j hj)); have hge4 : (∀ j, v4.ownBlock = some j → V1.heap.size ≤ j) := (fun j hj => by have := own_ge h4 j hj; (try simp at this); omega); (replace u4 := Lib.hid u4); (replace h4 := Lib.hid h4); (replace hge4 := Lib.hid hge4); clear g4 e4) | ((with_reducible refine appS (A := A1) (m := ls.length - a) (c := c1) Try.underlying41 infoT zS (by omega) (by omega) h4.out ?_ ?_ ?_ ?_ ?_ (hA1.out _ _ (hrV.out _ u4.out) (flatS_len ls)) ?_ ?_); rfl; rfl; (focus ((try simp); (try omega))); (rw [List.length_drop, flatS_len]; omega); omega; exact (fun u hu => flatS_one _ u (List.mem_of_mem_drop hu)); intro v5 W5 h5 g5 e5; have u5 := u4.out.trans g5 (fun j hj => .inr (hge4.out j hj)); have hge5 : (∀ j, v5.ownBlock = some j → V1.heap.size ≤ j) := (fun j hj => by have := own_ge h5 j hj; (try simp at this); omega); have q5 := hb1V.out _ u5; obtain ⟨A5, cap5, rfl⟩ := own_shape h5; have e52 : W5.cell? ⟨W.heap.size, 2, none⟩ = some (.slice A ls.length cap) := q5.cell 2; have f52 := q5.frozen 2; have l52 := q5.lt; (replace q5 := Lib.hid q5); (replace u5 := Lib.hid u5); (replace h5 := Lib.hid h5); (replace hge5 := Lib.hid hge5); clear g5 e5)); (first | refine ⟨by first | trivial | exact .inl rfl | exact hH.out _ (Upd.refl _ _) | exact .inr (hH.out _ (Upd.refl _ _)) | exact hH.out _ ((Upd.refl _ _).stepAlloc _) | exact .inr (hH.out _ ((Upd.refl _ _).stepAlloc _)) | exact hH.out _ (((Upd.refl _ _).stepAlloc _).stepAlloc _) | exact .inr (hH.out _ (((Upd.refl _ _).stepAlloc _).stepAlloc _)) | exact hH.out _ u3.out | exact .inr (hH.out _ u3.out) | exact hH.out _ (u3.out.stepAlloc _) | exact .inr (hH.out _ (u3.out.stepAlloc _)) | exact hH.out _ u4.out | exact .inr (hH.out _ u4.out) | exact hH.out _ u5.out | exact .inr (hH.out _ u5.out), ?_⟩ | skip))) | (refine wpU_fork rfl rfl ?_ ?_ <;> (go_simp; gi_wp2_with (first | ((with_reducible refine appS (A := A) (m := a) (c := cap) Try.underlying41 infoT zS (by omega) (by omega) (own_emptyS V1 _ 3) ?_ ?_ ?_ ?_ ?_ (reads_take (k := a * 3) (hrV.out _ ((Upd.refl (fun _ => False) V1).stepAlloc _))) ?_ ?_); rfl; rfl; (focus ((try simp); (try omega))); (rw [List.length_take, flatS_len]; omega); omega; exact (fun u hu => flatS_one _ u (List.mem_of_mem_take hu)); intro v3 W3 h3 g3 e3; (simp only [Nat.zero_add, List.nil_append] at h3); have z3 := g3.size; (simp only [World.size_alloc] at z3); have u3 := ((Upd.refl (fun _ => False) V1).stepAlloc (.cells #[] 74)).trans g3 (fun j hj => .inr (by simp [Value.ownBlock] at hj; omega)); have hge3 : (∀ j, v3.ownBlock = some j → V1.heap.size ≤ j) := (fun j hj => by have := own_ge h3 j hj; (try simp at this); omega); (replace u3 := Lib.hid u3); (replace h3 := Lib.hid h3); (replace g3 := Lib.hid g3); (replace hge3 := Lib.hid hge3); clear e3) | ((with_reducible refine appS (A := A) (m := a) (c := cap) Try.underlying41 infoT zS (by omega) (by omega) ((own_emptyS V1 _ 3).alloc _) ?_ ?_ ?_ ?_ ?_ (reads_take (k := a * 3) (hrV.out _ (((Upd.refl (fun _ => False) V1).stepAlloc _).stepAlloc _))) ?_ ?_); rfl; rfl; (focus ((try simp); (try omega))); (rw [List.length_take, flatS_len]; omega); omega; exact (fun u hu => flatS_one _ u (List.mem_of_mem_take hu)); intro v3 W3 h3 g3 e3; (simp only [Nat.zero_add, List.nil_append] at h3); have z3 := g3.size; (simp only [World.size_alloc] at z3); have u3 := (((Upd.refl (fun _ => False) V1).stepAlloc (.cells #[] 74)).stepAlloc (.cells #[.string k, .int .i64 (max 0 time), .int .i64 now] 74)).trans g3 (fun j hj => .inr (by simp [Value.ownBlock] at hj; omega)); have hge3 : (∀ j, v3.ownBlock = some j → V1.heap.size ≤ j) := (fun j hj => by have := own_ge h3 j hj; (try simp at this); omega); have hx3 : Blk W3 (V1.heap.size + 1) #[.string k, .int .i64 (max 0 time), .int .i64 now] 74 := (Blk.new' (by simp)).upd g3 (by simp [Value.ownBlock]); (replace hx3 := Lib.hid hx3); (replace u3 := Lib.hid u3); (replace h3 := Lib.hid h3); (replace g3 := Lib.hid g3); (replace hge3 := Lib.hid hge3); clear e3) | ((with_reducible refine appS (A := A) (m := a) (c := cap) Try.underlying41 infoT zS (by omega) (by omega) (own_empty1S V1 (.cells #[.string k, .int .i64 (max 0 time), .int .i64 now] 74) _ 3) ?_ ?_ ?_ ?_ ?_ (reads_take (k := a * 3) (hrV.out _ (((Upd.refl (fun _ => False) V1).stepAlloc _).stepAlloc _))) ?_ ?_); rfl; rfl; (focus ((try simp); (try omega))); (rw [List.length_take, flatS_len]; omega); omega; exact (fun u hu => flatS_one _ u (List.mem_of_mem_take hu)); intro v3 W3 h3 g3 e3; (simp only [Nat.zero_add, List.nil_append] at h3); have z3 := g3.size; (simp only [World.size_alloc] at z3); have u3 := (((Upd.refl (fun _ => False) V1).stepAlloc (.cells #[.string k, .int .i64 (max 0 time), .int .i64 now] 74)).stepAlloc (.cells #[] 74)).trans g3 (fun j hj => .inr (by simp [Value.ownBlock] at hj; omega)); have hge3 : (∀ j, v3.ownBlock = some j → V1.heap.size ≤ j) := (fun j hj => by have := own_ge h3 j hj; (try simp at this); omega); have hx3 : Blk W3 V1.heap.size #[.string k, .int .i64 (max 0 time), .int .i64 now] 74 := ((Blk.new' rfl).alloc _).upd g3 (by simp [Value.ownBlock]); (replace hx3 := Lib.hid hx3); (replace u3 := Lib.hid u3); (replace h3 := Lib.hid h3); (replace g3 := Lib.hid g3); (replace hge3 := Lib.hid hge3); clear e3) | ((with_reducible refine appS (A := (some ⟨W3.heap.size, 0, none⟩)) (m := 1) (c := 1) Try.underlying41 infoT zS (by omega) (by omega) (h3.out.alloc _) ?_ ?_ ?_ ?_ ?_ (blk_reads3 (Blk.new' (cs := #[.string k, .int .i64 (max 0 time), .int .i64 now]) rfl)) ?_ ?_); rfl; rfl; (focus ((try simp); (try omega))); rfl; omega; exact (fun u hu => by simp only [List.mem_cons, List.not_mem_nil, or_false] at hu; rcases hu with rfl | rfl | rfl <;> rfl); intro v4 W4 h4 g4 e4; have z4 := g4.size; (try simp only [World.size_alloc] at z4); have u4 := (u3.out.stepAlloc (.cells #[.string k, .int .i64 (max 0 time), .int .i64 now] 74)).trans g4 (fun j hj => .inr (hge3.out j hj)); have hge4 : (∀ j, v4.ownBlock = some j → V1.heap.size ≤ j) := (fun j hj => by have := own_ge h4 j hj; (try simp at this); omega); (replace u4 := Lib.hid u4); (replace h4 := Lib.hid h4); (replace hge4 := Lib.hid hge4); clear g4 e4) | ((with_reducible refine appS (A := (some ⟨_, 0, none⟩)) (m := 1) (c := 1) Try.underlying41 infoT zS (by omega) (by omega) h3.out ?_ ?_ ?_ ?_ ?_ (blk_reads3 hx3.out) ?_ ?_); rfl; rfl; (focus ((try simp); (try omega))); rfl; omega; exact (fun u hu => by simp only [List.mem_cons, List.not_mem_nil, or_false] at hu; rcases hu with rfl | rfl | rfl <;> rfl); intro v4 W4 h4 g4 e4; have z4 := g4.size; (try simp only [World.size_alloc] at z4); have u4 := (u3.out).trans g4 (fun j hj => .inr (hge3.out j hj)); have hge4 : (∀ j, v4.ownBlock = some j → V1.heap.size ≤ j) := (fun j hj => by have := own_ge h4 j hj; (try simp at this); omega); (replace u4 := Lib.hid u4); (replace h4 := Lib.hid h4); (replace hge4 := Lib.hid hge4); clear g4 e4) | ((with_reducible refine appS (A := A1) (m := ls.length - a) (c := c1) Try.underlying41 infoT zS (by omega) (by omega) h4.out ?_ ?_ ?_ ?_ ?_ (hA1.out _ _ (hrV.out _ u4.out) (flatS_len ls)) ?_ ?_); rfl; rfl; (focus ((try simp); (try omega))); (rw [List.length_drop, flatS_len]; omega); omega; exact (fun u hu => flatS_one _ u (List.mem_of_mem_drop hu)); intro v5 W5 h5 g5 e5; have u5 := u4.out.trans g5 (fun j hj => .inr (hge4.out j hj)); have hge5 : (∀ j, v5.ownBlock = some j → V1.heap.size ≤ j) := (fun j hj => by have := own_ge h5 j hj; (try simp at this); omega); have q5 := hb1V.out _ u5; obtain ⟨A5, cap5, rfl⟩ := own_shape h5; have e52 : W5.cell? ⟨W.heap.size, 2, none⟩ = some (.slice A ls.length cap) := q5.cell 2; have f52 := q5.frozen 2; have l52 := q5.lt; (replace q5 := Lib.hid q5); (replace u5 := Lib.hid u5); (replace h5 := Lib.hid h5); (replace hge5 := Lib.hid hge5); clear g5 e5)); (first | refine ⟨by first | trivial | exact .inl rfl | exact hH.out _ (Upd.refl _ _) | exact .inr (hH.out _ (Upd.refl _ _)) | exact hH.out _ ((Upd.refl _ _).stepAlloc _) | exact .inr (hH.out _ ((Upd.refl _ _).stepAlloc _)) | exact hH.out _ (((Upd.refl _ _).stepAlloc _).stepAlloc _) | exact .inr (hH.out _ (((Upd.refl _ _).stepAlloc _).stepAlloc _)) | exact hH.out _ u3.out | exact .inr (hH.out _ u3.out) | exact hH.out _ (u3.out.stepAlloc _) | exact .inr (hH.out _ (u3.out.stepAlloc _)) | exact hH.out _ u4.out | exact .inr (hH.out _ u4.out) | exact hH.out _ u5.out | exact .inr (hH.out _ u5.out), ?_⟩ | skip))))
    all_goals
      refine wpU_nil ?_
      have q6 := (hb2V.out _ u5.out).other (p := ⟨W.heap.size, 2, none⟩) (by dsimp only; omega) (.slice A5 (a + 1 + (ls.length - a)) cap5)
      have e50 : W5.cell? ⟨W.heap.size, 0, none⟩ = some (.int .i64 now) := q5.out.cell 0
      have e51 : W5.cell? ⟨W.heap.size, 1, none⟩ = some (.int .i64 low) := q5.out.cell 1
      have l6 := q6.lt
      have q7 := hb2V.out _ u5.out
      have s0 : W5.cell? ⟨W.heap.size + 1, 0, none⟩ = some (.int .i64 0) := q7.cell 0
      have s1 : W5.cell? ⟨W.heap.size + 1, 1, none⟩ = some (.int .i64 0) := q7.cell 1
      have s2 : W5.cell? ⟨W.heap.size + 1, 2, none⟩ = some (.slice none 0 0) := q7.cell 2
      have y0 := q7.frozen 0
      have y1 := q7.frozen 1
      have y2 := q7.frozen 2
      have l7 := q7.lt
      obtain ⟨A9, cap9, e9, hn5, hr5, _, hb5⟩ := own_readsS h5.out
      cases e9
      have hbl : ∀ j, blkOf A5 j → W.heap.size + 1 < j ∧ j < W5.heap.size := fun j hj => ⟨by have := hge5.out j (hb5 j hj); omega, (h5.out.lt j (hb5 j hj)).2⟩
      have hfl : flatS P = List.take (a * 3) (flatS ls) ++ [.string k, .int .i64 (max 0 time), .int .i64 now] ++ List.drop (a * 3) (flatS ls) := by
        rw [hput, flatS_append, flatS_take, ← flatS_drop, List.append_assoc]; rfl
      have hlen : P.length = a + 1 + (ls.length - a) := by rw [hput]; simp only [List.length_append, List.length_take, List.length_cons, List.length_drop]; omega
      have r6 := Lib.hid (((q6.set 0 (.int .i64 now)).set 1 (.int .i64 low)).set 2 (.slice A5 (a + 1 + (ls.length - a)) cap5))
      have hr6 : Reads1 ((((W5.setCell ⟨W.heap.size, 2, none⟩ (.slice A5 (a + 1 + (ls.length - a)) cap5)).setCell ⟨W.heap.size + 1, 0, none⟩ (.int .i64 now)).setCell ⟨W.heap.size + 1, 1, none⟩ (.int .i64 low)).setCell ⟨W.heap.size + 1, 2, none⟩ (.slice A5 (a + 1 + (ls.length - a)) cap5)) A5 (flatS P) := by
        rw [hfl]
        refine hr5.agree' fun i hi => ?_
        have := (hbl i hi.2).1
        rw [Below.heap_setCell _ _ _ _ (by dsimp only; omega), Below.heap_setCell _ _ _ _ (by dsimp only; omega), Below.heap_setCell _ _ _ _ (by dsimp only; omega), Below.heap_setCell _ _ _ _ (by dsimp only; omega)]
      have u6 : Upd (fun _ => False) W ((((W5.setCell ⟨W.heap.size, 2, none⟩ (.slice A5 (a + 1 + (ls.length - a)) cap5)).setCell ⟨W.heap.size + 1, 0, none⟩ (.int .i64 now)).setCell ⟨W.heap.size + 1, 1, none⟩ (.int .i64 low)).setCell ⟨W.heap.size + 1, 2, none⟩ (.slice A5 (a + 1 + (ls.length - a)) cap5)) :=
        ((((uV.out.trans' u5.out).stepSet (.inr (Nat.le_refl _)) _).stepSet (.inr (Nat.le_succ _)) _).stepSet (.inr (Nat.le_succ _)) _).stepSet (.inr (Nat.le_succ _)) _
      replace hr6 := Lib.hid hr6
      replace u6 := Lib.hid u6
      replace hbl := Lib.hid hbl
      clear h5 hr5 hb5 hge5 q6 q7 hfl hput
      gi_wp2
      refine bodyPost_ret (results_s rfl rfl (r6.out.cell 0) (r6.out.cell 1) (r6.out.cell 2)) rfl ?_
      rw [hlen]
      exact ⟨A5, cap5, rfl, hn5, hr6.out, fun j hj => ⟨by have := (hbl.out j hj).1; omega, by have := (hbl.out j hj).2; simpa using this⟩, u6.out⟩
  | true =>
    obtain ⟨hal, hge⟩ := hgt rfl
    have hx1 : (flatS ls)[a * 3 + 1]? = some (.int .i64 g0) := by
      rw [List.getElem?_eq_getElem hal] at hge
      simp at hge
      rw [flatS_get1 ls a hal, hge]
    clear hgt hgf hge
    simp only [if_true] at hput
    refine callsIn_any (n := 0) (callsIn_of_wp Try.func34 rfl trivial ?_)
    simp only [Try.ntmps34, List.size_toArray, List.length_cons, List.length_nil, Nat.reduceAdd, Nat.reduceSub, Array.replicate_succ, Array.replicate_zero, List.push_toArray, List.append_toArray, List.nil_append, List.cons_append]
    gi_wp2_with (first | refine (⟨trivial, rfl, ?_⟩ : Fence.wide.fn _ ∧ Fence.wide.depth = none ∧ _) | (gi_at_call 33; (with_reducible refine kC.out.mono ?_); rintro e W1 ⟨rfl, u1⟩; (have c12 : W1.cell? ⟨W.heap.size, 2, none⟩ = some (.slice A ls.length cap) := (hb1.out _ u1).cell 2)) | (gi_at_call 46; (with_reducible refine (kF.out _ (u0.out.trans' u1)).mono ?_); rintro e W2 ⟨rfl, u2⟩; (have hb1' := hb1.out _ (u1.trans' u2)); (have d0 : W2.cell? ⟨W.heap.size, 0, none⟩ = some (.int .i64 now) := hb1'.cell 0); (have d2 : (W2.alloc (.cells #[.string k, .int .i64 (max 0 time), .int .i64 now] 74)).cell? ⟨W.heap.size, 2, none⟩ = some (.slice A ls.length cap) := (hb1'.alloc _).cell 2); (replace hb1' := Lib.hid hb1')) | ((with_reducible refine sliceFrom (A := A) (m := ls.length) (c := cap) (k := a) Try.underlying41 infoT ?_ ?_ ?_ ?_ ?_); rfl; rfl; omega; omega; intro A1 c1 hc1 hA1 hB1; clear hB1; obtain ⟨g, o, rfl, hcx⟩ := reads_at (hA1 _ _ (hrw.out _ (((u0.out.trans' u1).trans' u2).stepAlloc (.cells #[.string k, .int .i64 (max 0 time), .int .i64 now] 74))) (flatS_len ls)) (by rw [List.length_drop, flatS_len]; omega); have d9 := hcx 1 _ (by rw [List.getElem?_drop]; exact hx1); (replace hcx := Lib.hid hcx); (replace hA1 := Lib.hid hA1)) | ((with_reducible refine sliceFrom (A := some ⟨g, o, none⟩) (m := ls.length - a) (c := c1) (k := 1) Try.underlying41 infoT ?_ ?_ ?_ ?_ ?_); rfl; rfl; omega; omega; intro A2 c2 hc2 hA2 hB2; (replace hA2 := Lib.hid hA2); (replace hB2 := Lib.hid hB2)) | refine (⟨trivial, ?_⟩ : Fence.wide.fn _ ∧ _))
    obtain ⟨V1, hV⟩ : ∃ V1, (W2.alloc (.cells #[.string k, .int .i64 (max g0 time), .int .i64 now] 74)).drew = V1 := ⟨_, rfl⟩
    have uV0 : Upd (fun _ => False) W0 V1 := by rw [← hV]; exact ((u1.trans' u2).stepAlloc _).stepDrew
    have uV : Upd (fun _ => False) W V1 := u0.out.trans' uV0
    have bx : Blk V1 W2.heap.size #[.string k, .int .i64 (max g0 time), .int .i64 now] 74 := by rw [← hV]; exact (Blk.new _ _ _).upd (Upd.drew (fun _ => False) _) id
    have hH := Lib.hid fun V (u : Upd (fun _ => False) V1 V) => show V.cell? ⟨W.heap.size, 2, none⟩ = some (.slice A ls.length cap) ∧ V.cell? ⟨W2.heap.size, 0, none⟩ = some (.string k) ∧ V.cell? ⟨W2.heap.size, 1, none⟩ = some (.int .i64 (max g0 time)) ∧ V.cell? ⟨W2.heap.size, 2, none⟩ = some (.int .i64 now) from
      ⟨(hb1.out _ (uV0.trans' u)).cell 2, (bx.upd u id).cell 0, (bx.upd u id).cell 1, (bx.upd u id).cell 2⟩
    have hrV := Lib.hid fun V (u : Upd (fun _ => False) V1 V) => hrw.out _ (uV.trans' u)
    have hb1V := Lib.hid fun V (u : Upd (fun _ => False) V1 V) => hb1.out _ (uV0.trans' u)
    have hb2V := Lib.hid fun V (u : Upd (fun _ => False) V1 V) => hb2.out _ (uV0.trans' u)
    have hzV0 : W0.heap.size = W.heap.size + 2 := by rw [← hW0]; simp
    have hzV : W.heap.size + 2 ≤ V1.heap.size := by have := uV0.size; omega
    replace uV := Lib.hid uV
    obtain ⟨rt1, rt2⟩ := run_to (m := ls.length) (A := A) Try.underlying41 infoT (show a ≤ cap by omega)
    have hA3 := Lib.hid fun V (u : Upd (fun _ => False) V1 V) => (by
      have h1 := hA2.out V _ (hA1.out V _ (hrV.out _ u) (flatS_len ls)) (by rw [List.length_drop, flatS_len]; omega)
      rw [List.drop_drop, show a * 3 + 1 * 3 = (a + 1) * 3 by omega] at h1
      exact h1 : Reads1 V A2 (List.drop ((a + 1) * 3) (flatS ls)))
    clear bx uV0 d9 hcx hx1 kC kF c12 d0 d2 a0 a1 a2 hb1' u1 u2 hb1 hb2 hrw hW0
    refine wpIn_planE (.fl 1 (.fl 2 (.fl 3 (.fl 4 (.fl 6 (.fl 9 (.fork 0 (.fork 5 (.ef 7 (.ef 8 (.ef 10 (.fl 11 (.ef 12 .done))))) 7 (.ef 5 (.ef 8 (.ef 10 (.fl 11 (.ef 12 .done)))))) 7 (.ef 0 (.ef 5 (.ef 8 (.ef 10 (.fl 11 (.ef 12 .done))))))))))))) 12 (fun V => V.cell? ⟨W.heap.size, 2, none⟩ = some (.slice A ls.length cap) ∧ V.cell? ⟨W2.heap.size, 0, none⟩ = some (.string k) ∧ V.cell? ⟨W2.heap.size, 1, none⟩ = some (.int .i64 (max g0 time)) ∧ V.cell? ⟨W2.heap.size, 2, none⟩ = some (.int .i64 now)) (by kernel_rfl) (by kernel_rfl) (by rw [hV]; exact hH.out _ (Upd.refl _ _)) ?_
    rw [hV]
    repeat' (first | (refine wpU_fl rfl rfl (fun _ _ => rfl) ?_; go_simp) | (refine wpU_fl (v := ?_) rfl rfl ?_ ?_; rotate_left; (intro W' h'; (try dsimp only at h'); go_simp; exact rfl); go_simp) | (refine wpU_ef rfl ?_; (go_simp; gi_wp2_with (first | ((with_reducible refine appS (A := A) (m := a) (c := cap) Try.underlying41 infoT zS (by omega) (by omega) (own_emptyS V1 _ 3) ?_ ?_ ?_ ?_ ?_ (reads_take (k := a * 3) (hrV.out _ ((Upd.refl (fun _ => False) V1).stepAlloc _))) ?_ ?_); rfl; rfl; (focus ((try simp); (try omega))); (rw [List.length_take, flatS_len]; omega); omega; exact (fun u hu => flatS_one _ u (List.mem_of_mem_take hu)); intro v3 W3 h3 g3 e3; (simp only [Nat.zero_add, List.nil_append] at h3); have z3 := g3.size; (simp only [World.size_alloc] at z3); have u3 := ((Upd.refl (fun _ => False) V1).stepAlloc (.cells #[] 74)).trans g3 (fun j hj => .inr (by simp [Value.ownBlock] at hj; omega)); have hge3 : (∀ j, v3.ownBlock = some j → V1.heap.size ≤ j) := (fun j hj => by have := own_ge h3 j hj; (try simp at this); omega); (replace u3 := Lib.hid u3); (replace h3 := Lib.hid h3); (replace g3 := Lib.hid g3); (replace hge3 := Lib.hid hge3); clear e3) | ((with_reducible refine appS (A := A) (m := a) (c := cap) Try.underlying41 infoT zS (by omega) (by omega) ((own_emptyS V1 _ 3).alloc _) ?_ ?_ ?_ ?_ ?_ (reads_take (k := a * 3) (hrV.out _ (((Upd.refl (fun _ => False) V1).stepAlloc _).stepAlloc _))) ?_ ?_); rfl; rfl; (focus ((try simp); (try omega))); (rw [List.length_take, flatS_len]; omega); omega; exact (fun u hu => flatS_one _ u (List.mem_of_mem_take hu)); intro v3 W3 h3 g3 e3; (simp only [Nat.zero_add, List.nil_append] at h3); have z3 := g3.size; (simp only [World.size_alloc] at z3); have u3 := (((Upd.refl (fun _ => False) V1).stepAlloc (.cells #[] 74)).stepAlloc (.cells #[.string k, .int .i64 (max g0 time), .int .i64 now] 74)).trans g3 (fun j hj => .inr (by simp [Value.ownBlock] at hj; omega)); have hge3 : (∀ j, v3.ownBlock = some j → V1.heap.size ≤ j) := (fun j hj => by have := own_ge h3 j hj; (try simp at this); omega); have hx3 : Blk W3 (V1.heap.size + 1) #[.string k, .int .i64 (max g0 time), .int .i64 now] 74 := (Blk.new' (by simp)).upd g3 (by simp [Value.ownBlock]); (replace hx3 := Lib.hid hx3); (replace u3 := Lib.hid u3); (replace h3 := Lib.hid h3); (replace g3 := Lib.hid g3); (replace hge3 := Lib.hid hge3); clear e3) | ((with_reducible refine appS (A := A) (m := a) (c := cap) Try.underlying41 infoT zS (by omega) (by omega) (own_empty1S V1 (.cells #[.string k, .int .i64 (max g0 time), .int .i64 now] 74) _ 3) ?_ ?_ ?_ ?_ ?_ (reads_take (k := a * 3) (hrV.out _ (((Upd.refl (fun _ => False) V1).stepAlloc _).stepAlloc _))) ?_ ?_); rfl; rfl; (focus ((try simp); (try omega))); (rw [List.length_take, flatS_len]; omega); omega; exact (fun u hu => flatS_one _ u (List.mem_of_mem_take hu)); intro v3 W3 h3 g3 e3; (simp only [Nat.zero_add, List.nil_append] at h3); have z3 := g3.size; (simp only [World.size_alloc] at z3); have u3 := (((Upd.refl (fun _ => False) V1).stepAlloc (.cells #[.string k, .int .i64 (max g0 time), .int .i64 now] 74)).stepAlloc (.cells #[] 74)).trans g3 (fun j hj => .inr (by simp [Value.ownBlock] at hj; omega)); have hge3 : (∀ j, v3.ownBlock = some j → V1.heap.size ≤ j) := (fun j hj => by have := own_ge h3 j hj; (try simp at this); omega); have hx3 : Blk W3 V1.heap.size #[.string k, .int .i64 (max g0 time), .int .i64 now] 74 := ((Blk.new' rfl).alloc _).upd g3 (by simp [Value.ownBlock]); (replace hx3 := Lib.hid hx3); (replace u3 := Lib.hid u3); (replace h3 := Lib.hid h3); (replace g3 := Lib.hid g3); (replace hge3 := Lib.hid hge3); clear e3) | ((with_reducible refine appS (A := (some ⟨W3.heap.size, 0, none⟩)) (m := 1) (c := 1) Try.underlying41 infoT zS (by omega) (by omega) (h3.out.alloc _) ?_ ?_ ?_ ?_ ?_ (blk_reads3 (Blk.new' (cs := #[.string k, .int .i64 (max g0 time), .int .i64 now]) rfl)) ?_ ?_); rfl; rfl; (focus ((try simp); (try omega))); rfl; omega; exact (fun u hu => by simp only [List.mem_cons, List.not_mem_nil, or_false] at hu; rcases hu with rfl | rfl | rfl <;> rfl); intro v4 W4 h4 g4 e4; have z4 := g4.size; (try simp only [World.size_alloc] at z4); have u4 := (u3.out.stepAlloc (.cells #[.string k, .int .i64 (max g0 time), .int .i64 now] 74)).trans g4 (fun j hj => .inr (hge3.out j hj)); have hge4 : (∀ j, v4.ownBlock = some j → V1.heap.size ≤ j) := (fun j hj => by have := own_ge h4 j hj; (try simp at this); omega); (replace u4 := Lib.hid u4); (replace h4 := Lib.hid h4); (replace hge4 := Lib.hid hge4); clear g4 e4) | ((with_reducible refine appS (A := (some ⟨_, 0, none⟩)) (m := 1) (c := 1) Try.underlying41 infoT zS (by omega) (by omega) h3.out ?_ ?_ ?_ ?_ ?_ (blk_reads3 hx3.out) ?_ ?_); rfl; rfl; (focus ((try simp); (try omega))); rfl; omega; exact (fun u hu => by simp only [List.mem_cons, List.not_mem_nil, or_false] at hu; rcases hu with rfl | rfl | rfl <;> rfl); intro v4 W4 h4 g4 e4; have z4 := g4.size; (try simp only [World.size_alloc] at z4); have u4 := (u3.out).trans g4 (fun j hj => .inr (hge3.out j hj)); have hge4 : (∀ j, v4.ownBlock = some j → V1.heap.size ≤ j) := (fun j hj => by have := own_ge h4 j hj; (try simp at this); omega); (replace u4 := Lib.hid u4); (replace h4 := Lib.hid h4); (replace hge4 := Lib.hid hge4); clear g4 e4) | ((with_reducible refine appS (A := A2) (m := ls.length - a - 1) (c := c2) Try.underlying41 infoT zS (by omega) (by omega) h4.out ?_ ?_ ?_ ?_ ?_ (hA3.out _ u4.out) ?_ ?_); rfl; rfl; (focus ((try simp); (try omega))); (rw [List.length_drop, flatS_len]; omega); omega; exact (fun u hu => flatS_one _ u (List.mem_of_mem_drop hu)); intro v5 W5 h5 g5 e5; have u5 := u4.out.trans g5 (fun j hj => .inr (hge4.out j hj)); have hge5 : (∀ j, v5.ownBlock = some j → V1.heap.size ≤ j) := (fun j hj => by have := own_ge h5 j hj; (try simp at this); omega); have q5 := hb1V.out _ u5; obtain ⟨A5, cap5, rfl⟩ := own_shape h5; have e52 : W5.cell? ⟨W.heap.size, 2, none⟩ = some (.slice A ls.length cap) := q5.cell 2; have f52 := q5.frozen 2; have l52 := q5.lt; (replace q5 := Lib.hid q5); (replace u5 := Lib.hid u5); (replace h5 := Lib.hid h5); (replace hge5 := Lib.hid hge5); clear g5 e5)); (first | refine ⟨by first | trivial | exact .inl rfl | exact hH.out _ (Upd.refl _ _) | exact .inr (hH.out _ (Upd.refl _ _)) | exact hH.out _ ((Upd.refl _ _).stepAlloc _) | exact .inr (hH.out _ ((Upd.refl _ _).stepAlloc _)) | exact hH.out _ (((Upd.refl _ _).stepAlloc _).stepAlloc _) | exact .inr (hH.out _ (((Upd.refl _ _).stepAlloc _).stepAlloc _)) | exact hH.out _ u3.out | exact .inr (hH.out _ u3.out) | exact hH.out _ (u3.out.stepAlloc _) | exact .inr (hH.out _ (u3.out.stepAlloc _)) | exact hH.out _ u4.out | exact .inr (hH.out _ u4.out) | exact hH.out _ u5.out | exact .inr (hH.out _ u5.out), ?_⟩ | skip))) | (refine wpU_fork rfl rfl ?_ ?_ <;> (go_simp; gi_wp2_with (first | ((with_reducible refine appS (A := A) (m := a) (c := cap) Try.underlying41 infoT zS (by omega) (by omega) (own_emptyS V1 _ 3) ?_ ?_ ?_ ?_ ?_ (reads_take (k := a * 3) (hrV.out _ ((Upd.refl (fun _ => False) V1).stepAlloc _))) ?_ ?_); rfl; rfl; (focus ((try simp); (try omega))); (rw [List.length_take, flatS_len]; omega); omega; exact (fun u hu => flatS_one _ u (List.mem_of_mem_take hu)); intro v3 W3 h3 g3 e3; (simp only [Nat.zero_add, List.nil_append] at h3); have z3 := g3.size; (simp only [World.size_alloc] at z3); have u3 := ((Upd.refl (fun _ => False) V1).stepAlloc (.cells #[] 74)).trans g3 (fun j hj => .inr (by simp [Value.ownBlock] at hj; omega)); have hge3 : (∀ j, v3.ownBlock = some j → V1.heap.size ≤ j) := (fun j hj => by have := own_ge h3 j hj; (try simp at this); omega); (replace u3 := Lib.hid u3); (replace h3 := Lib.hid h3); (replace g3 := Lib.hid g3); (replace hge3 := Lib.hid hge3); clear e3) | ((with_reducible refine appS (A := A) (m := a) (c := cap) Try.underlying41 infoT zS (by omega) (by omega) ((own_emptyS V1 _ 3).alloc _) ?_ ?_ ?_ ?_ ?_ (reads_take (k := a * 3) (hrV.out _ (((Upd.refl (fun _ => False) V1).stepAlloc _).stepAlloc _))) ?_ ?_); rfl; rfl; (focus ((try simp); (try omega))); (rw [List.length_take, flatS_len]; omega); omega; exact (fun u hu => flatS_one _ u (List.mem_of_mem_take hu)); intro v3 W3 h3 g3 e3; (simp only [Nat.zero_add, List.nil_append] at h3); have z3 := g3.size; (simp only [World.size_alloc] at z3); have u3 := (((Upd.refl (fun _ => False) V1).stepAlloc (.cells #[] 74)).stepAlloc (.cells #[.string k, .int .i64 (max g0 time), .int .i64 now] 74)).trans g3 (fun j hj => .inr (by simp [Value.ownBlock] at hj; omega)); have hge3 : (∀ j, v3.ownBlock = some j → V1.heap.size ≤ j) := (fun j hj => by have := own_ge h3 j hj; (try simp at this); omega); have hx3 : Blk W3 (V1.heap.size + 1) #[.string k, .int .i64 (max g0 time), .int .i64 now] 74 := (Blk.new' (by simp)).upd g3 (by simp [Value.ownBlock]); (replace hx3 := Lib.hid hx3); (replace u3 := Lib.hid u3); (replace h3 := Lib.hid h3); (replace g3 := Lib.hid g3); (replace hge3 := Lib.hid hge3); clear e3) | ((with_reducible refine appS (A := A) (m := a) (c := cap) Try.underlying41 infoT zS (by omega) (by omega) (own_empty1S V1 (.cells #[.string k, .int .i64 (max g0 time), .int .i64 now] 74) _ 3) ?_ ?_ ?_ ?_ ?_ (reads_take (k := a * 3) (hrV.out _ (((Upd.refl (fun _ => False) V1).stepAlloc _).stepAlloc _))) ?_ ?_); rfl; rfl; (focus ((try simp); (try omega))); (rw [List.length_take, flatS_len]; omega); omega; exact (fun u hu => flatS_one _ u (List.mem_of_mem_take hu)); intro v3 W3 h3 g3 e3; (simp only [Nat.zero_add, List.nil_append] at h3); have z3 := g3.size; (simp only [World.size_alloc] at z3); have u3 := (((Upd.refl (fun _ => False) V1).stepAlloc (.cells #[.string k, .int .i64 (max g0 time), .int .i64 now] 74)).stepAlloc (.cells #[] 74)).trans g3 (fun j hj => .inr (by simp [Value.ownBlock] at hj; omega)); have hge3 : (∀ j, v3.ownBlock = some j → V1.heap.size ≤ j) := (fun j hj => by have := own_ge h3 j hj; (try simp at this); omega); have hx3 : Blk W3 V1.heap.size #[.string k, .int .i64 (max g0 time), .int .i64 now] 74 := ((Blk.new' rfl).alloc _).upd g3 (by simp [Value.ownBlock]); (replace hx3 := Lib.hid hx3); (replace u3 := Lib.hid u3); (replace h3 := Lib.hid h3); (replace g3 := Lib.hid g3); (replace hge3 := Lib.hid hge3); clear e3) | ((with_reducible refine appS (A := (some ⟨W3.heap.size, 0, none⟩)) (m := 1) (c := 1) Try.underlying41 infoT zS (by omega) (by omega) (h3.out.alloc _) ?_ ?_ ?_ ?_ ?_ (blk_reads3 (Blk.new' (cs := #[.string k, .int .i64 (max g0 time), .int .i64 now]) rfl)) ?_ ?_); rfl; rfl; (focus ((try simp); (try omega))); rfl; omega; exact (fun u hu => by simp only [List.mem_cons, List.not_mem_nil, or_false] at hu; rcases hu with rfl | rfl | rfl <;> rfl); intro v4 W4 h4 g4 e4; have z4 := g4.size; (try simp only [World.size_alloc] at z4); have u4 := (u3.out.stepAlloc (.cells #[.string k, .int .i64 (max g0 time), .int .i64 now] 74)).trans g4 (fun j hj => .inr (hge3.out j hj)); have hge4 : (∀ j, v4.ownBlock = some j → V1.heap.size ≤ j) := (fun j hj => by have := own_ge h4 j hj; (try simp at this); omega); (replace u4 := Lib.hid u4); (replace h4 := Lib.hid h4); (replace hge4 := Lib.hid hge4); clear g4 e4) | ((with_reducible refine appS (A := (some ⟨_, 0, none⟩)) (m := 1) (c := 1) Try.underlying41 infoT zS (by omega) (by omega) h3.out ?_ ?_ ?_ ?_ ?_ (blk_reads3 hx3.out) ?_ ?_); rfl; rfl; (focus ((try simp); (try omega))); rfl; omega; exact (fun u hu => by simp only [List.mem_cons, List.not_mem_nil, or_false] at hu; rcases hu with rfl | rfl | rfl <;> rfl); intro v4 W4 h4 g4 e4; have z4 := g4.size; (try simp only [World.size_alloc] at z4); have u4 := (u3.out).trans g4 (fun j hj => .inr (hge3.out j hj)); have hge4 : (∀ j, v4.ownBlock = some j → V1.heap.size ≤ j) := (fun j hj => by have := own_ge h4 j hj; (try simp at this); omega); (replace u4 := Lib.hid u4); (replace h4 := Lib.hid h4); (replace hge4 := Lib.hid hge4); clear g4 e4) | ((with_reducible refine appS (A := A2) (m := ls.length - a - 1) (c := c2) Try.underlying41 infoT zS (by omega) (by omega) h4.out ?_ ?_ ?_ ?_ ?_ (hA3.out _ u4.out) ?_ ?_); rfl; rfl; (focus ((try simp); (try omega))); (rw [List.length_drop, flatS_len]; omega); omega; exact (fun u hu => flatS_one _ u (List.mem_of_mem_drop hu)); intro v5 W5 h5 g5 e5; have u5 := u4.out.trans g5 (fun j hj => .inr (hge4.out j hj)); have hge5 : (∀ j, v5.ownBlock = some j → V1.heap.size ≤ j) := (fun j hj => by have := own_ge h5 j hj; (try simp at this); omega); have q5 := hb1V.out _ u5; obtain ⟨A5, cap5, rfl⟩ := own_shape h5; have e52 : W5.cell? ⟨W.heap.size, 2, none⟩ = some (.slice A ls.length cap) := q5.cell 2; have f52 := q5.frozen 2; have l52 := q5.lt; (replace q5 := Lib.hid q5); (replace u5 := Lib.hid u5); (replace h5 := Lib.hid h5); (replace hge5 := Lib.hid hge5); clear g5 e5)); (first | refine ⟨by first | trivial | exact .inl rfl | exact hH.out _ (Upd.refl _ _) | exact .inr (hH.out _ (Upd.refl _ _)) | exact hH.out _ ((Upd.refl _ _).stepAlloc _) | exact .inr (hH.out _ ((Upd.refl _ _).stepAlloc _)) | exact hH.out _ (((Upd.refl _ _).stepAlloc _).stepAlloc _) | exact .inr (hH.out _ (((Upd.refl _ _).stepAlloc _).stepAlloc _)) | exact hH.out _ u3.out | exact .inr (hH.out _ u3.out) | exact hH.out _ (u3.out.stepAlloc _) | exact .inr (hH.out _ (u3.out.stepAlloc _)) | exact hH.out _ u4.out | exact .inr (hH.out _ u4.out) | exact hH.out _ u5.out | exact .inr (hH.out _ u5.out), ?_⟩ | skip))))
    all_goals
      refine wpU_nil ?_
      have q6 := (hb2V.out _ u5.out).other (p := ⟨W.heap.size, 2, none⟩) (by dsimp only; omega) (.slice A5 (a + 1 + (ls.length - a - 1)) cap5)
      have e50 : W5.cell? ⟨W.heap.size, 0, none⟩ = some (.int .i64 now) := q5.out.cell 0
      have e51 : W5.cell? ⟨W.heap.size, 1, none⟩ = some (.int .i64 low) := q5.out.cell 1
      have l6 := q6.lt
      have q7 := hb2V.out _ u5.out
      have s0 : W5.cell? ⟨W.heap.size + 1, 0, none⟩ = some (.int .i64 0) := q7.cell 0
      have s1 : W5.cell? ⟨W.heap.size + 1, 1, none⟩ = some (.int .i64 0) := q7.cell 1
      have s2 : W5.cell? ⟨W.heap.size + 1, 2, none⟩ = some (.slice none 0 0) := q7.cell 2
      have y0 := q7.frozen 0
      have y1 := q7.frozen 1
      have y2 := q7.frozen 2
      have l7 := q7.lt
      obtain ⟨A9, cap9, e9, hn5, hr5, _, hb5⟩ := own_readsS h5.out
      cases e9
      have hbl : ∀ j, blkOf A5 j → W.heap.size + 1 < j ∧ j < W5.heap.size := fun j hj => ⟨by have := hge5.out j (hb5 j hj); omega, (h5.out.lt j (hb5 j hj)).2⟩
      have hfl : flatS P = List.take (a * 3) (flatS ls) ++ [.string k, .int .i64 (max g0 time), .int .i64 now] ++ List.drop ((a + 1) * 3) (flatS ls) := by
        rw [hput, flatS_append, flatS_take, ← flatS_drop, List.append_assoc]; rfl
      have hlen : P.length = a + 1 + (ls.length - a - 1) := by rw [hput]; simp only [List.length_append, List.length_take, List.length_cons, List.length_drop]; omega
      have r6 := Lib.hid (((q6.set 0 (.int .i64 now)).set 1 (.int .i64 low)).set 2 (.slice A5 (a + 1 + (ls.length - a - 1)) cap5))
      have hr6 : Reads1 ((((W5.setCell ⟨W.heap.size, 2, none⟩ (.slice A5 (a + 1 + (ls.length - a - 1)) cap5)).setCell ⟨W.heap.size + 1, 0, none⟩ (.int .i64 now)).setCell ⟨W.heap.size + 1, 1, none⟩ (.int .i64 low)).setCell ⟨W.heap.size + 1, 2, none⟩ (.slice A5 (a + 1 + (ls.length - a - 1)) cap5)) A5 (flatS P) := by
        rw [hfl]
        refine hr5.agree' fun i hi => ?_
        have := (hbl i hi.2).1
        rw [Below.heap_setCell _ _ _ _ (by dsimp only; omega), Below.heap_setCell _ _ _ _ (by dsimp only; omega), Below.heap_setCell _ _ _ _ (by dsimp only; omega), Below.heap_setCell _ _ _ _ (by dsimp only; omega)]
      have u6 : Upd (fun _ => False) W ((((W5.setCell ⟨W.heap.size, 2, none⟩ (.slice A5 (a + 1 + (ls.length - a - 1)) cap5)).setCell ⟨W.heap.size + 1, 0, none⟩ (.int .i64 now)).setCell ⟨W.heap.size + 1, 1, none⟩ (.int .i64 low)).setCell ⟨W.heap.size + 1, 2, none⟩ (.slice A5 (a + 1 + (ls.length - a - 1)) cap5)) :=
        ((((uV.out.trans' u5.out).stepSet (.inr (Nat.le_refl _)) _).stepSet (.inr (Nat.le_succ _)) _).stepSet (.inr (Nat.le_succ _)) _).stepSet (.inr (Nat.le_succ _)) _
      replace hr6 := Lib.hid hr6
      replace u6 := Lib.hid u6
      replace hbl := Lib.hid hbl
      clear h5 hr5 hb5 hge5 q6 q7 hfl hput
      gi_wp2
      refine bodyPost_ret (results_s rfl rfl (r6.out.cell 0) (r6.out.cell 1) (r6.out.cell 2)) rfl ?_
      rw [hlen]
      exact ⟨A5, cap5, rfl, hn5, hr6.out, fun j hj => ⟨by have := (hbl.out j hj).1; omega, by have := (hbl.out j hj).2; simpa using this⟩, u6.out⟩
end
end Go.Proofs.Ytpljdckppmobeaa

/- mark: Load. -/
import Derived.Test.YtpljdckppmobeaaProg
import Derived.Test.YtpljdckppmobeaaBase
import Derived.Test.YtpljdckppmobeaaMkR
import Derived.Test.YtpljdckppmobeaaMkQa
import Derived.Test.YtpljdckppmobeaaMkJ
namespace Go.Proofs.Ytpljdckppmobeaa
open Go.RowKit Go.Shelf
attribute [local go_sem] Oper.semAt_some

theorem putL_last {c : KSM → KSM → Int} (ho : Ordr c) {l : List (KSM × VSM)} {k : KSM} {v : VSM} (h : ∀ x ∈ l, c x.1 k < 0) : putL c k v l = l ++ [(k, v)] := by
  unfold putL
  rw [List.filter_eq_self.2 fun x hx => by have := (ho.flip _ _).1 (h x hx); simpa using this, List.filter_eq_nil_iff.2 fun x hx => by have := (ho.flip _ _).1 (h x hx); simp; omega]
theorem rightP.rise {now low : Int} {ls : List (KSM × VSM)} (h : rightP now low ls) : Rise cmpS ls := by
  have step : ∀ i (hi : i < ls.length) d (hd : i + d + 1 < ls.length), cmpS ls[i].1 ls[i + d + 1].1 < 0 := by
    intro i hi d
    induction d with
    | zero =>
      intro hd
      have := (h.1 (i + 1) hd).2.1 (by omega)
      simpa using this
    | succ d ih =>
      intro hd
      have h1 := ih (by omega)
      have h2 := (h.1 (i + d + 1 + 1) (by omega)).2.1 (by omega)
      simp only [Nat.add_sub_cancel] at h2
      exact ordrS.trans _ _ _ h1 h2
  refine List.pairwise_iff_getElem.2 fun i j hi hj hij => ?_
  obtain ⟨d, rfl⟩ : ∃ d, j = i + d + 1 := ⟨j - i - 1, by omega⟩
  exact step i hi d hj
theorem rightP.put {now low : Int} {ls : List (KSM × VSM)} (h : rightP now low ls) {k : Nat} (hk : k < ls.length) : putL cmpS ls[k].1 ls[k].2 (ls.take k) = ls.take (k + 1) := by
  rw [putL_last ordrS, List.take_succ_eq_append_getElem hk]
  intro x hx
  obtain ⟨i, hi, rfl⟩ := List.getElem_of_mem hx
  rw [List.length_take] at hi
  rw [List.getElem_take]
  exact List.pairwise_iff_getElem.1 h.rise _ _ _ _ (by omega)
theorem rightP.ok {now low idle drain : Int} {ls : List (KSM × VSM)} (h : rightP now low ls) (hi : 0 ≤ idle ∧ idle ≤ mxT) (hd : 0 ≤ drain ∧ drain ≤ mxT) : MkOk idle drain now low ls := by
  refine ⟨hi, hd, h.2.1, h.2.2.1, h.2.2.2, fun x hx => ?_, fun x hx => ?_⟩
  · obtain ⟨i, hi, rfl⟩ := List.getElem_of_mem hx
    exact (h.1 i hi).2.2.1
  · obtain ⟨i, hi, rfl⟩ := List.getElem_of_mem hx
    exact (h.1 i hi).2.2.2
section
variable {mb : Nat} {idle drain now low now0 low0 : Int} {ls : List (KSM × VSM)} {F : Nat → Prop} {A : Option Addr} {cap : Nat} {W : World}
/-- A key is put. -/
theorem MkI.put (h : MkI mb idle drain now low ls F W) (hl : ls.length < 100000) (k : KSM) (v : VSM) : ∃ rb, W.cell? ⟨mb, 4, none⟩ = some (.pointer (some ⟨rb, 0, none⟩)) ∧
    CallsIn Fence.wide 0 Try.prog 29 #[.pointer (some ⟨rb, 0, none⟩), .string k, .agg #[.int .i64 v.1, .int .i64 v.2]] W fun e W2 => ∃ b F', e = .returned (.bool b) ∧ W2.cell? ⟨mb, 4, none⟩ = some (.pointer (some ⟨rb, 0, none⟩)) ∧ MkI mb idle drain now low (putL cmpS k v ls) F' W2 ∧ (∀ j, F' j → F j ∨ W.heap.size ≤ j) ∧ Upd F W W2 := by
  obtain ⟨rb, t, h1, h2, h3, h4⟩ := h
  refine ⟨rb, h1.cell 4, (rackPutSM (n := 0) cmpV_strings (v := v) h2 hl).mono ?_⟩
  rintro e W4 ⟨rfl, t', q1, q2, q3⟩
  refine ⟨_, fun j => j = mb ∨ j = rb ∨ t'.has j, rfl, (h1.upd q3 h4).cell 4, ⟨rb, t', h1.upd q3 h4, q1, fun j => Iff.rfl, ?_⟩, ?_, q3.mono fun j _ hj => (h3 j).2 (.inr hj)⟩
  · rintro (h | h)
    · exact h4 (.inl h)
    · rcases q2 _ h with h | h
      · exact h4 (.inr h)
      · have := h1.lt; omega
  · rintro j (h | h | h)
    · exact .inl ((h3 j).2 (.inl h))
    · exact .inl ((h3 j).2 (.inr (.inl h)))
    · rcases q2 j h with h | h
      · exact .inl ((h3 j).2 (.inr (.inr h)))
      · exact .inr (by omega)
/-- The clock and the watermark are set. -/
theorem MkI.set (h : MkI mb idle drain now0 low0 ls F W) (now low : Int) : MkI mb idle drain now low ls F ((W.setCell ⟨mb, 2, none⟩ (.int .i64 now)).setCell ⟨mb, 3, none⟩ (.int .i64 low)) := by
  obtain ⟨rb, t, h1, h2, h3, h4⟩ := h
  have hu : Upd (fun j => j = mb) W ((W.setCell ⟨mb, 2, none⟩ (.int .i64 now)).setCell ⟨mb, 3, none⟩ (.int .i64 low)) := ((Upd.refl (fun j => j = mb) W).stepSet (.inl rfl) _).stepSet (.inl rfl) _
  exact ⟨rb, t, (h1.set 2 (.int .i64 now)).set 3 (.int .i64 low), h2.upd hu fun j hj e => h4 (e ▸ hj), h3, h4⟩
theorem loadBad_c {n : Nat} (hb : ¬ (0 ≤ idle ∧ idle ≤ mxT ∧ 0 ≤ drain ∧ drain ≤ mxT)) : CallsIn Fence.wide n Try.prog 20 #[.int .i64 idle, .int .i64 drain, .agg #[.int .i64 now, .int .i64 low, .slice A ls.length cap]] W fun e W2 => e = .returned (.tuple #[.pointer none, .int .i64 1]) ∧ Upd (fun _ => False) W W2 := by
  have k0 := Lib.hid fun (W : World) => markNewNo_c (n := 0) (W := W) hb
  clear hb
  refine callsIn_any (n := 0) (callsIn_of_wp Try.func20 rfl trivial ?_)
  simp only [Try.ntmps20, List.size_toArray, List.length_cons, List.length_nil, Nat.reduceAdd, Nat.reduceSub, Array.replicate_succ, Array.replicate_zero, List.push_toArray, List.append_toArray, List.nil_append, List.cons_append]
  gi_wp2_with (first | refine (⟨trivial, rfl, ?_⟩ : Fence.wide.fn _ ∧ Fence.wide.depth = none ∧ _) | (gi_at_call 7; (with_reducible refine (k0.out _).mono ?_); rintro e W2 ⟨rfl, u2⟩; (skip)) | refine (⟨trivial, ?_⟩ : Fence.wide.fn _ ∧ _))
  refine bodyPost_ret (results_tmp2 rfl _ _ _) rfl ?_
  exact ⟨rfl, (Upd.alloc _ _ _).trans' u2⟩
set_option maxRecDepth 100000 in
set_option maxHeartbeats 1000000 in
theorem loadNo_c {n : Nat} (hi : 0 ≤ idle ∧ idle ≤ mxT) (hd : 0 ≤ drain ∧ drain ≤ mxT) (hr : Reads1 W A (flatS ls)) (hl : ls.length ≤ 100000) (hsz : ∀ e ∈ ls, e.1.size ≤ maxLen) (hn : ¬ rightP now low ls) : CallsIn Fence.wide n Try.prog 20 #[.int .i64 idle, .int .i64 drain, .agg #[.int .i64 now, .int .i64 low, .slice A ls.length cap]] W fun e W2 => e = .returned (.tuple #[.pointer none, .int .i64 2]) ∧ Upd (fun _ => False) W W2 := by
  have u1 := Upd.alloc (fun _ => False) W (.cells #[.int .i64 now, .int .i64 low, .slice A ls.length cap] 47)
  have b1 := Blk.new W #[.int .i64 now, .int .i64 low, .slice A ls.length cap] 47
  have k0 := (markNew_c (n := 0) (W := W.alloc (.cells #[.int .i64 now, .int .i64 low, .slice A ls.length cap] 47)) hi hd).mono (R' := fun e W2 => ∃ mb, e = .returned (.tuple #[.pointer (some ⟨mb, 0, none⟩), .int .i64 0]) ∧ D3 W.heap.size now low (.slice A ls.length cap) W2 ∧
      CallsIn Fence.wide 0 Try.prog 38 #[.agg #[.int .i64 now, .int .i64 low, .slice A ls.length cap]] W2 fun e W3 => e = .returned (.bool false) ∧ Upd (fun _ => False) W W3) (by
    rintro e W2 ⟨mb, F, rfl, g1, g2, g3⟩
    have u2 := u1.trans' g3
    refine ⟨mb, rfl, d3 (b1.upd g3 id), (right13_c (n := 0) (hr.agree' (u2.agree fun j hj => ⟨hr.lt' j hj, id⟩)) hl hsz).mono ?_⟩
    rintro e W3 ⟨h, u3⟩
    exact ⟨boolP h (by simp [hn]), u2.trans' u3⟩)
  replace k0 := Lib.hid k0
  clear hi hd hr hsz hn u1 b1
  refine callsIn_any (n := 0) (callsIn_of_wp Try.func20 rfl trivial ?_)
  simp only [Try.ntmps20, List.size_toArray, List.length_cons, List.length_nil, Nat.reduceAdd, Nat.reduceSub, Array.replicate_succ, Array.replicate_zero, List.push_toArray, List.append_toArray, List.nil_append, List.cons_append]
  gi_wp2_with (first | refine (⟨trivial, rfl, ?_⟩ : Fence.wide.fn _ ∧ Fence.wide.depth = none ∧ _) | (gi_at_call 7; (with_reducible refine k0.out.mono ?_); rintro e W2 ⟨mb, rfl, ⟨d0, d1, d2⟩, k1⟩; (replace k1 := Lib.hid k1)) | (gi_at_call 38; (with_reducible refine k1.out.mono ?_); rintro e W3 ⟨rfl, u3⟩; (replace u3 := Lib.hid u3)) | refine (⟨trivial, ?_⟩ : Fence.wide.fn _ ∧ _))
  refine bodyPost_ret (results_tmp2 rfl _ _ _) rfl ?_
  exact ⟨rfl, u3.out⟩
set_option maxRecDepth 100000 in
set_option maxHeartbeats 4000000 in
theorem load_c {n : Nat} (hi : 0 ≤ idle ∧ idle ≤ mxT) (hd : 0 ≤ drain ∧ drain ≤ mxT) (hr : Reads1 W A (flatS ls)) (hsz : ∀ e ∈ ls, e.1.size ≤ maxLen) (hp : rightP now low ls) : CallsIn Fence.wide n Try.prog 20 #[.int .i64 idle, .int .i64 drain, .agg #[.int .i64 now, .int .i64 low, .slice A ls.length cap]] W fun e W2 => ∃ mb F, e = .returned (.tuple #[.pointer (some ⟨mb, 0, none⟩), .int .i64 0]) ∧ MkI mb idle drain now low ls F W2 ∧ (∀ j, F j → W.heap.size ≤ j) ∧ Upd (fun _ => False) W W2 := by
  have hl : ls.length ≤ 8 := hp.2.2.2
  have hput := Lib.hid fun k hk => hp.put (k := k) hk
  have u1 := Upd.alloc (fun _ => False) W (.cells #[.int .i64 now, .int .i64 low, .slice A ls.length cap] 47)
  have b1 := Blk.new W #[.int .i64 now, .int .i64 low, .slice A ls.length cap] 47
  have hrW := Lib.hid fun V (u : Upd (fun _ => False) W V) => hr.agree' (w' := V) (u.agree fun j hj => ⟨hr.lt' j hj, id⟩)
  have k0 := (markNew_c (n := 0) (W := W.alloc (.cells #[.int .i64 now, .int .i64 low, .slice A ls.length cap] 47)) hi hd).mono (R' := fun e W2 => ∃ mb, e = .returned (.tuple #[.pointer (some ⟨mb, 0, none⟩), .int .i64 0]) ∧ D3 W.heap.size now low (.slice A ls.length cap) W2 ∧
      CallsIn Fence.wide 0 Try.prog 38 #[.agg #[.int .i64 now, .int .i64 low, .slice A ls.length cap]] W2 fun e W3 => e = .returned (.bool true) ∧ ∃ F, MkI mb idle drain 0 0 [] F W3 ∧ (∀ j, F j → W.heap.size + 1 ≤ j) ∧ Upd (fun _ => False) W W3 ∧ Blk W3 W.heap.size #[.int .i64 now, .int .i64 low, .slice A ls.length cap] 47) (by
    rintro e W2 ⟨mb, F, rfl, g1, g2, g3⟩
    have u2 := u1.trans' g3
    refine ⟨mb, rfl, d3 (b1.upd g3 id), (right13_c (n := 0) (hr.agree' (u2.agree fun j hj => ⟨hr.lt' j hj, id⟩)) (by omega) hsz).mono ?_⟩
    rintro e W3 ⟨h, u3⟩
    simp only [World.size_alloc] at g2
    exact ⟨boolP h (by simp [hp]), F, g1.upd u3 fun _ _ => id, g2, u2.trans' u3, (b1.upd g3 id).upd u3 id⟩)
  replace k0 := Lib.hid k0
  clear hi hd hr hsz hp u1 b1
  refine callsIn_any (n := 0) (callsIn_of_wp Try.func20 rfl trivial ?_)
  simp only [Try.ntmps20, List.size_toArray, List.length_cons, List.length_nil, Nat.reduceAdd, Nat.reduceSub, Array.replicate_succ, Array.replicate_zero, List.push_toArray, List.append_toArray, List.nil_append, List.cons_append]
  gi_wp2_with (first | refine (⟨trivial, rfl, ?_⟩ : Fence.wide.fn _ ∧ Fence.wide.depth = none ∧ _) | (gi_at_call 7; (with_reducible refine k0.out.mono ?_); rintro e W2 ⟨mb, rfl, ⟨d0, d1, d2⟩, k1⟩; (replace k1 := Lib.hid k1)) | (gi_at_call 38; (with_reducible refine k1.out.mono ?_); rintro e W3 ⟨rfl, F, hI, hF, u3, bs⟩; (replace hF := Lib.hid hF); (replace u3 := Lib.hid u3); (replace hI := Lib.hid hI)) | refine (⟨trivial, ?_⟩ : Fence.wide.fn _ ∧ _))
  have hmb : Hid (W.heap.size ≠ mb) := Lib.hid (by
    obtain ⟨rb, t, h1, h2, h3, h4⟩ := hI.out
    have := hF.out mb ((h3 mb).2 (.inl rfl))
    omega)
  have f0 : W3.cell? ⟨W.heap.size, 0, none⟩ = some (.int .i64 now) := bs.cell 0
  have f1 : W3.cell? ⟨W.heap.size, 1, none⟩ = some (.int .i64 low) := bs.cell 1
  have bs2 := bs.other (p := ⟨mb, 2, none⟩) hmb.out (.int .i64 now)
  have g0 : (W3.setCell ⟨mb, 2, none⟩ (.int .i64 now)).cell? ⟨W.heap.size, 0, none⟩ = some (.int .i64 now) := bs2.cell 0
  have g1 : (W3.setCell ⟨mb, 2, none⟩ (.int .i64 now)).cell? ⟨W.heap.size, 1, none⟩ = some (.int .i64 low) := bs2.cell 1
  have bs3 := bs2.other (p := ⟨mb, 3, none⟩) hmb.out (.int .i64 low)
  have i0 : ((W3.setCell ⟨mb, 2, none⟩ (.int .i64 now)).setCell ⟨mb, 3, none⟩ (.int .i64 low)).cell? ⟨W.heap.size, 0, none⟩ = some (.int .i64 now) := bs3.cell 0
  have i1 : ((W3.setCell ⟨mb, 2, none⟩ (.int .i64 now)).setCell ⟨mb, 3, none⟩ (.int .i64 low)).cell? ⟨W.heap.size, 1, none⟩ = some (.int .i64 low) := bs3.cell 1
  have i2 : ((W3.setCell ⟨mb, 2, none⟩ (.int .i64 now)).setCell ⟨mb, 3, none⟩ (.int .i64 low)).cell? ⟨W.heap.size, 2, none⟩ = some (.slice A ls.length cap) := bs3.cell 2
  have hJ := Lib.hid (hI.out.set now low)
  obtain ⟨m2, m3, n2, n3, mlt⟩ : W3.cell? ⟨mb, 2, none⟩ = some (.int .i64 0) ∧ W3.cell? ⟨mb, 3, none⟩ = some (.int .i64 0) ∧ W3.frozen? ⟨mb, 2, none⟩ = false ∧ W3.frozen? ⟨mb, 3, none⟩ = false ∧ mb < W3.heap.size := by
    obtain ⟨rb, t, h1, h2, h3, h4⟩ := hI.out
    exact ⟨h1.cell 2, h1.cell 3, h1.frozen 2, h1.frozen 3, h1.lt⟩
  have uJ : Hid (Upd (fun _ => False) W ((W3.setCell ⟨mb, 2, none⟩ (.int .i64 now)).setCell ⟨mb, 3, none⟩ (.int .i64 low)).drew) := Lib.hid (by
    have : W.heap.size ≤ mb := by
      obtain ⟨rb, t, h1, h2, h3, h4⟩ := hI.out
      have := hF.out mb ((h3 mb).2 (.inl rfl))
      omega
    exact ((u3.out.stepSet (.inr this) _).stepSet (.inr this) _).stepDrew)
  clear bs bs2 bs3 k0 k1
  refine wpIn_eager [(0, true), (1, true), (2, true), (3, true), (4, true), (5, true), (6, true), (7, true), (8, false), (9, true), (10, true), (11, false)] (fun V => V.cell? ⟨W.heap.size, 0, none⟩ = some (.int .i64 now) ∧ V.cell? ⟨W.heap.size, 1, none⟩ = some (.int .i64 low)) (by kernel_rfl) (by kernel_rfl) ⟨f0, f1⟩ ?_
  repeat (first | (refine wpE_fl rfl rfl (fun _ _ => rfl) ?_; go_simp) | (refine wpE_sk rfl rfl ?_; go_simp) | (refine wpE_fl (v := ?_) rfl rfl ?_ ?_; rotate_left; (intro W' h'; (try dsimp only at h'); go_simp; exact rfl); go_simp) | (refine wpE_ef rfl ?_; go_simp; gi_wp2_with (first | refine (⟨trivial, rfl, ?_⟩ : Fence.wide.fn _ ∧ Fence.wide.depth = none ∧ _) | refine (⟨trivial, trivial, rfl, ?_⟩ : Fence.wide.fn _ ∧ Fence.wide.fn _ ∧ Fence.wide.depth = none ∧ _) | refine (⟨trivial, ?_⟩ : Fence.wide.fn _ ∧ _)); (first | refine ⟨by first | exact ⟨f0, f1⟩ | exact ⟨g0, g1⟩ | exact ⟨i0, i1⟩, ?_⟩ | skip)))
  refine wpE_nil ?_
  gi_wp2
  gi_loopw [37] (fun i wr => ∃ k F, i = .int .i64 (k : Nat) ∧ k ≤ ls.length ∧ MkI mb idle drain now low (ls.take k) F wr ∧ (∀ j, F j → W.heap.size ≤ j) ∧ Upd (fun _ => False) W wr) (fun i _ => ls.length - (intOf i).toNat)
  case atStart => exact ⟨0, F, rfl, Nat.zero_le _, hJ.out.upd (Upd.drew (fun _ => False) _) fun _ _ => id, fun j hj => by have := hF.out j hj; omega, uJ.out⟩
  case round =>
    obtain ⟨k, F', rfl, hk, hK, hF', hu⟩ := hrel
    by_cases hlt : k < ls.length
    · obtain ⟨g, o, rfl, hc⟩ := reads_at (hrW.out _ hu) (by rw [flatS_len]; omega)
      have c0 := hc _ _ (flatS_get ls k hlt)
      have c1 := hc _ _ (flatS_get1 ls k hlt)
      have c2 := hc _ _ (flatS_get2 ls k hlt)
      rw [← Nat.add_assoc] at c1 c2
      have hw5 : IntKind.i64.wrap ((k : Int) + 1) = (k : Int) + 1 := Go.IntWalk.i64_in _ ⟨by omega, by omega⟩
      have hpu := hput.out k hlt
      obtain ⟨x, hx⟩ : ∃ x, ls[k] = x := ⟨_, rfl⟩
      rw [hx] at c0 c1 c2 hpu
      clear hx hc
      obtain ⟨nm, tm, at0⟩ := x
      simp only at c0 c1 c2 hpu
      have ua := (Upd.alloc (fun _ => False) wr (.cells #[.string nm, .int .i64 tm, .int .i64 at0] 75)).stepDrew
      have ba := (Blk.new wr #[.string nm, .int .i64 tm, .int .i64 at0] 75).upd (Upd.drew (fun _ => False) _) id
      obtain ⟨rb, p4, kP⟩ := (hK.upd ua fun _ _ => id).put (by rw [List.length_take]; omega) nm (tm, at0)
      have kP := kP.mono (R' := fun e W4 => ∃ b, e = .returned (.bool b) ∧ (W4.cell? ⟨mb, 4, none⟩ = some (.pointer (some ⟨rb, 0, none⟩)) ∧ W4.cell? ⟨wr.heap.size, 0, none⟩ = some (.string nm) ∧ W4.cell? ⟨wr.heap.size, 1, none⟩ = some (.int .i64 tm) ∧ W4.cell? ⟨wr.heap.size, 2, none⟩ = some (.int .i64 at0)) ∧ (∃ F, MkI mb idle drain now low (ls.take (k + 1)) F W4 ∧ (∀ j, F j → W.heap.size ≤ j) ∧ Upd (fun _ => False) W W4)) (by
        rintro e W4 ⟨b, F2, rfl, h0, h1, h2, h3⟩
        rw [hpu] at h1
        have ba4 := ba.upd h3 fun hh => by have := hK.lt _ hh; omega
        have z := (hu.trans' ua).size
        exact ⟨b, rfl, ⟨h0, ba4.cell 0, ba4.cell 1, ba4.cell 2⟩, F2, h1, fun j hj => (h2 j hj).elim (hF' j) fun h => by omega, (hu.trans' ua).trans h3 fun j hj => .inr (hF' j hj)⟩)
      replace kP := Lib.hid kP
      have b0 : (wr.alloc (.cells #[.string nm, .int .i64 tm, .int .i64 at0] 75)).drew.cell? ⟨wr.heap.size, 0, none⟩ = some (.string nm) := ba.cell 0
      have b1 : (wr.alloc (.cells #[.string nm, .int .i64 tm, .int .i64 at0] 75)).drew.cell? ⟨wr.heap.size, 1, none⟩ = some (.int .i64 tm) := ba.cell 1
      have b2 : (wr.alloc (.cells #[.string nm, .int .i64 tm, .int .i64 at0] 75)).drew.cell? ⟨wr.heap.size, 2, none⟩ = some (.int .i64 at0) := ba.cell 2
      clear hpu ua ba hK hu
      gi_wp2
      refine wpIn_eager [(0, true), (1, true), (2, true), (3, true), (4, true), (5, true), (6, true), (7, true), (8, true), (9, true), (10, true), (11, false)] (fun V => V.cell? ⟨mb, 4, none⟩ = some (.pointer (some ⟨rb, 0, none⟩)) ∧ V.cell? ⟨wr.heap.size, 0, none⟩ = some (.string nm) ∧ V.cell? ⟨wr.heap.size, 1, none⟩ = some (.int .i64 tm) ∧ V.cell? ⟨wr.heap.size, 2, none⟩ = some (.int .i64 at0)) (by kernel_rfl) (by kernel_rfl) ⟨p4, b0, b1, b2⟩ ?_
      repeat (first | (refine wpE_fl rfl rfl (fun _ _ => rfl) ?_; go_simp) | (refine wpE_sk rfl rfl ?_; go_simp) | (refine wpE_fl (v := ?_) rfl rfl ?_ ?_; rotate_left; (intro W' h'; (try dsimp only at h'); go_simp; exact rfl); go_simp) | (refine wpE_ef rfl ?_; go_simp; gi_wp2_with (first | refine (⟨trivial, rfl, ?_⟩ : Fence.wide.fn _ ∧ Fence.wide.depth = none ∧ _) | refine (⟨trivial, trivial, rfl, ?_⟩ : Fence.wide.fn _ ∧ Fence.wide.fn _ ∧ Fence.wide.depth = none ∧ _) | (gi_at_call 29; (with_reducible refine kP.out.mono ?_); rintro e W4 ⟨b, rfl, hh4, fin⟩; (replace fin := Lib.hid fin)) | refine (⟨trivial, ?_⟩ : Fence.wide.fn _ ∧ _)); (first | refine ⟨by first | exact hh4, ?_⟩ | skip)))
      refine wpE_nil ?_
      gi_wp2_with (first | refine (⟨trivial, rfl, ?_⟩ : Fence.wide.fn _ ∧ Fence.wide.depth = none ∧ _) | refine (⟨trivial, ?_⟩ : Fence.wide.fn _ ∧ _))
      obtain ⟨F2, r1, r2, r3⟩ := fin.out
      exact ⟨⟨k + 1, F2, by go_num, by omega, r1, r2, r3⟩, by simp [intOf]; omega⟩
    · obtain rfl : k = ls.length := by omega
      rw [List.take_length] at hK
      replace hK := Lib.hid hK
      replace hu := Lib.hid hu
      gi_wp2_with (first | refine (⟨trivial, rfl, ?_⟩ : Fence.wide.fn _ ∧ Fence.wide.depth = none ∧ _) | refine (⟨trivial, ?_⟩ : Fence.wide.fn _ ∧ _))
      refine bodyPost_ret (results_tmp2 rfl _ _ _) rfl ?_
      exact ⟨mb, F', rfl, hK.out, hF', hu.out⟩
end
end Go.Proofs.Ytpljdckppmobeaa

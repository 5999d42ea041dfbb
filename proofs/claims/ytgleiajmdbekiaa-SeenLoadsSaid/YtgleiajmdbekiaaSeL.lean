/- seen: Load. -/
import Derived.Test.YtgleiajmdbekiaaProg
import Derived.Test.YtgleiajmdbekiaaBase
import Derived.Test.YtgleiajmdbekiaaSeQ
namespace Go.Proofs.Ytgleiajmdbekiaa
open Go.RowKit Go.Shelf
attribute [local go_sem] Oper.semAt_some

theorem putL_last {α β : Type} {c : α → α → Int} (ho : Ordr c) {l : List (α × β)} {k : α} {v : β} (h : ∀ x ∈ l, c x.1 k < 0) : putL c k v l = l ++ [(k, v)] := by
  unfold putL
  rw [List.filter_eq_self.2 fun x hx => by have := (ho.flip _ _).1 (h x hx); simpa using this, List.filter_eq_nil_iff.2 fun x hx => by have := (ho.flip _ _).1 (h x hx); simp; omega]
theorem insI_last {q : Int} {s : List Int} (h : ∀ x ∈ s, x < q) : insI q s = s ++ [q] := by
  have hc : ∀ x ∈ s, 0 < cmpI q x := fun x hx => by
    have := h x hx
    simp only [cmpI]; rw [if_neg (by omega), if_pos (by omega)]; omega
  unfold insI
  rw [List.filter_eq_self.2 fun x hx => by simpa using hc x hx, List.filter_eq_nil_iff.2 fun x hx => by have := hc x hx; simp; omega]
section
variable {cb : Nat} {f : Int} {s : List Int} {G : Nat → Prop} {W : World}
/-- A number is put. -/
theorem CameI.put (h : CameI cb (f, s) G W) (hl : s.length < 100000) (q : Int) : ∃ qb, W.cell? ⟨cb, 1, none⟩ = some (.pointer (some ⟨qb, 0, none⟩)) ∧ CallsIn Fence.wide 0 Try.prog 26 #[.pointer (some ⟨qb, 0, none⟩), .int .i64 q, .bool true] W fun e W2 => ∃ b, e = .returned (.bool b) ∧
    ∃ G2, CameI cb (f, insI q s) G2 W2 ∧ (∀ j, G2 j → G j ∨ W.heap.size ≤ j) ∧ Upd G W W2 := by
  obtain ⟨qb, t, g1, g2, g3, g4⟩ := h
  refine ⟨qb, g1.cell 1, (rackPutIB (n := 0) cmpV_int (v := true) g2 (by simp only [List.length_map]; omega)).mono ?_⟩
  rintro e W3 ⟨rfl, t3, p1, p2, p3⟩
  rw [tru_put] at p1
  refine ⟨_, rfl, fun j => j = cb ∨ j = qb ∨ t3.has j, ⟨qb, t3, g1.upd p3 g4, p1, fun j => Iff.rfl, ?_⟩, ?_, p3.mono fun j _ hj => (g3 j).2 (.inr hj)⟩
  · rintro (h | h)
    · exact g4 (.inl h)
    · rcases p2 _ h with h | h
      · exact g4 (.inr h)
      · have := g1.lt; omega
  · rintro j (h | h | h)
    · exact .inl ((g3 j).2 (.inl h))
    · exact .inl ((g3 j).2 (.inr (.inl h)))
    · rcases p2 j h with h | h
      · exact .inl ((g3 j).2 (.inr (.inr h)))
      · exact .inr h
/-- The floor is set. -/
theorem CameI.floor (h : CameI cb (f, s) G W) (f2 : Int) : W.cell? ⟨cb, 0, none⟩ = some (.int .i64 f) ∧ W.frozen? ⟨cb, 0, none⟩ = false ∧ cb < W.heap.size ∧ CameI cb (f2, s) G (W.setCell ⟨cb, 0, none⟩ (.int .i64 f2)) ∧ Upd G W (W.setCell ⟨cb, 0, none⟩ (.int .i64 f2)) := by
  obtain ⟨qb, t, g1, g2, g3, g4⟩ := h
  have hu : Upd (fun j => j = cb) W (W.setCell ⟨cb, 0, none⟩ (.int .i64 f2)) := Upd.setCell (M := fun j => j = cb) rfl _
  exact ⟨g1.cell 0, g1.frozen 0, g1.lt, ⟨qb, t, by simpa using g1.set 0 (.int .i64 f2), g2.upd hu fun j hj e => g4 (e ▸ hj), g3, g4⟩, hu.mono fun j _ hj => (g3 j).2 (.inl hj)⟩
end
/-- What Load says. -/
def LoadPost (rs : List SrcP) (W : World) (e : Ending) (W2 : World) : Prop :=
  (rightR rs ∧ ∃ sb F, e = .returned (.tuple #[.pointer (some ⟨sb, 0, none⟩), .int .i64 0]) ∧ SeenA sb (rs.map absT) F W2 ∧ (∀ j, F j → W.heap.size ≤ j) ∧ Upd (fun _ => False) W W2) ∨
  (¬ rightR rs ∧ e = .returned (.tuple #[.pointer none, .int .i64 2]) ∧ Upd (fun _ => False) W W2)
/-- What is loaded of k sources. -/
structure LdR (sb : Nat) (rs : List SrcP) (A : Option Addr) (cap k : Nat) (F : Nat → Prop) (W0 W : World) : Prop where
  a : ∃ es, SeenI sb es F W ∧ mapV (·.2) es = (rs.map absT).take k
  newF : ∀ j, F j → W0.heap.size < j
  blk : Blk W W0.heap.size #[.slice A rs.length cap] 38
  base : Upd (fun _ => False) W0 W
section
variable {rs : List SrcP} {A : Option Addr} {cap : Nat} {W : World}
set_option maxRecDepth 100000 in
set_option maxHeartbeats 16000000 in
theorem load14_c {n : Nat} (hr : ReadsT W A rs) (hl : rs.length ≤ 100) (hs : ∀ r ∈ rs, r.2.2.1.length ≤ 100) (hsz : ∀ r ∈ rs, r.1.size ≤ maxLen) : CallsIn Fence.wide n Try.prog 15 #[.agg #[.slice A rs.length cap]] W (LoadPost rs W) := by
  have hrW := Lib.hid fun V (u : Upd (fun _ => False) W V) => hr.upd u fun _ _ => id
  have uA := Upd.alloc (fun _ => False) W (.cells #[.slice A rs.length cap] 38)
  have bA := Blk.new W #[.slice A rs.length cap] 38
  have k0 := (newA_c (n := 0) (W := W.alloc (.cells #[.slice A rs.length cap] 38))).mono (R' := fun e W1 => ∃ sb, e = .returned (.pointer (some ⟨sb, 0, none⟩)) ∧ W1.cell? ⟨W.heap.size, 0, none⟩ = some (.slice A rs.length cap) ∧ ∃ F, LdR sb rs A cap 0 F W W1) (by
    rintro e W1 ⟨sb, F, rfl, ⟨es, g1, g2⟩, g3, g4⟩
    have b1 := bA.upd g4 id
    exact ⟨sb, rfl, b1.cell 0, F, ⟨es, g1, by rw [g2]; rfl⟩, fun j hj => by have := g3 j hj; rw [World.size_alloc] at this; omega, b1, uA.trans' g4⟩)
  replace k0 := Lib.hid k0
  clear hr uA bA
  refine callsIn_any (n := 0) (callsIn_of_wp Try.func15 rfl trivial ?_)
  simp only [Try.ntmps15, List.size_toArray, List.length_cons, List.length_nil, Nat.reduceAdd, Nat.reduceSub, Array.replicate_succ, Array.replicate_zero, List.push_toArray, List.append_toArray, List.nil_append, List.cons_append]
  gi_wp2_with (first | refine (⟨trivial, rfl, ?_⟩ : Fence.wide.fn _ ∧ Fence.wide.depth = none ∧ _) | (gi_at_call 7; (with_reducible refine k0.out.mono ?_); rintro e W1 ⟨sb, rfl, c0, h0⟩; (replace h0 := Lib.hid h0)) | refine (⟨trivial, ?_⟩ : Fence.wide.fn _ ∧ _))
  gi_loopw [14] (fun i wr => ∃ (k : Nat) (F : Nat → Prop), i = .int .i64 k ∧ k ≤ rs.length ∧ k ≤ 8 ∧ Hid (rowsTo rs k) ∧ LdR sb rs A cap k F W wr) (fun i _ => rs.length - (intOf i).toNat)
  case atStart =>
    obtain ⟨F, h⟩ := h0.out
    exact ⟨0, F, rfl, Nat.zero_le _, by omega, Lib.hid fun i h hi => by omega, h⟩
  case round =>
    clear h0 k0
    obtain ⟨k, F, rfl, hk, hk8, hT, hI⟩ := hrel
    by_cases hlt : k < rs.length
    · obtain ⟨g, o, hA, d0, d1, d2⟩ := (hrW.out _ hI.base).at hlt
      have hw5 : IntKind.i64.wrap ((k : Int) + 1) = (k : Int) + 1 := Go.IntWalk.i64_in _ ⟨by omega, by omega⟩
      obtain ⟨j, hj⟩ : ∃ j, k - 1 = j := ⟨_, rfl⟩
      have hjl : j < rs.length := by omega
      have hwj : 0 < k → IntKind.i64.wrap ((k : Int) - 1) = (j : Int) := fun h => by rw [Go.IntWalk.i64_in _ ⟨by omega, by omega⟩]; omega
      have hno : ¬ rowR rs k hlt → ¬ rightR rs := fun hn hp => hn (hp.1 k hlt)
      have hyes := rows_succ hT.out hlt
      obtain ⟨p, hp⟩ : ∃ p, rs[j].1 = p := ⟨_, rfl⟩
      have hpe : ∀ h : k - 1 < rs.length, (rs[k - 1]).1 = p := fun h => by simp only [hj]; exact hp
      have hpV := Lib.hid fun V (u : Upd (fun _ => False) W V) => show V.cell? ⟨g, o + j * 3, none⟩ = some (.string p) from by
        obtain ⟨g', o', e, q0, _⟩ := (hrW.out V u).at hjl
        rw [hA] at e
        cases e
        rw [hp] at q0; exact q0
      have hm1 := List.getElem_mem hlt
      have hsl := hs _ hm1
      have hnz := hsz _ hm1
      have htk : (rs.map absT).take (k + 1) = (rs.map absT).take k ++ [absT rs[k]] := by rw [List.take_succ_eq_append_getElem (by rw [abs_len]; exact hlt), abs_at rs hlt]
      have hrk : ∀ y ∈ (rs.map absT).take k, rowR rs k hlt → cmpS y.1 (absT rs[k]).1 < 0 := fun y hy hrow => by
        have hall : ∀ i (h : i < (rs.take (k + 1)).length), rowR (rs.take (k + 1)) i h := fun i h => by
          rw [List.length_take] at h
          have := hyes hrow i (by omega) (by omega)
          simpa [rowR, List.getElem_take] using this
        have hri := rightR.rise hall
        rw [List.map_take, htk] at hri
        exact (List.pairwise_append.1 hri).2.2 y hy _ (List.mem_singleton.2 rfl)
      unfold rowR at hno hyes hrk
      simp only [hpe] at hno hyes hrk
      obtain ⟨x, hx⟩ : ∃ x, rs[k] = x := ⟨_, rfl⟩
      simp only [hx] at d0 d1 d2 hno hyes hrk htk hm1 hsl hnz
      clear hx hp hpe
      obtain ⟨nm, fl, s, A5, c5⟩ := x
      simp only [absT] at d0 d1 d2 hno hyes hrk htk hsl hnz
      have hsl' : s.length ≤ 100 := hsl
      have hnV := Lib.hid fun V (u : Upd (fun _ => False) W V) => ((hrW.out V u).each _ hm1).1
      clear hm1
      subst hA
      have hub := hI.base
      have hz := hub.size
      have bN := Blk.new wr #[.string nm, .int .i64 fl, .slice A5 s.length c5] 43
      have uN := (Upd.alloc (fun _ => False) wr (.cells #[.string nm, .int .i64 fl, .slice A5 s.length c5] 43)).stepDrew
      have hold := Lib.hid fun V (u : Upd (fun _ => False) (wr.alloc (.cells #[.string nm, .int .i64 fl, .slice A5 s.length c5] 43)).drew V) => show (V.cell? ⟨wr.heap.size, 0, none⟩ = some (.string nm) ∧ V.cell? ⟨wr.heap.size, 1, none⟩ = some (.int .i64 fl) ∧ V.cell? ⟨wr.heap.size, 2, none⟩ = some (.slice A5 s.length c5)) ∧ V.cell? ⟨W.heap.size, 0, none⟩ = some (.slice (some ⟨g, o, none⟩) rs.length cap) ∧ V.cell? ⟨g, o + j * 3, none⟩ = some (.string p) from
        ⟨⟨((bN.upd (Upd.drew (fun _ => False) _) id).upd u id).cell 0, ((bN.upd (Upd.drew (fun _ => False) _) id).upd u id).cell 1, ((bN.upd (Upd.drew (fun _ => False) _) id).upd u id).cell 2⟩, ((hI.blk.upd uN id).upd u id).cell 0, hpV.out _ ((hub.trans' uN).trans' u)⟩
      have hbT := Lib.hid (hub.trans' uN)
      have kR0 := right1_c (n := 0) (s := s) (A5 := A5) (f := fl) (c5 := c5) (nm := nm) (W := (wr.alloc (.cells #[.string nm, .int .i64 fl, .slice A5 s.length c5] 43)).drew) (hnV.out _ hbT.out) (Nat.le_trans hsl' (by omega)) hnz
      have kOf := fun (hrow : srcP (nm, fl, s) ∧ ∀ _ : 0 < k, cmpS p nm < 0) V2 (u2 : Upd (fun _ => False) (wr.alloc (.cells #[.string nm, .int .i64 fl, .slice A5 s.length c5] 43)).drew V2) => show CallsIn Fence.wide 0 Try.prog 25 #[.pointer (some ⟨sb, 0, none⟩), .string nm] V2 fun e V3 => ∃ cb, e = .returned (.pointer (some ⟨cb, 0, none⟩)) ∧
          (V3.cell? ⟨wr.heap.size, 1, none⟩ = some (.int .i64 fl) ∧ V3.cell? ⟨cb, 0, none⟩ = some (.int .i64 0) ∧ V3.frozen? ⟨cb, 0, none⟩ = false ∧ cb < V3.heap.size) ∧ ∃ G, (V3.setCell ⟨cb, 0, none⟩ (.int .i64 fl)).cell? ⟨wr.heap.size, 2, none⟩ = some (.slice A5 s.length c5) ∧ CameI cb (fl, []) G (V3.setCell ⟨cb, 0, none⟩ (.int .i64 fl)) ∧ Upd G V3 (V3.setCell ⟨cb, 0, none⟩ (.int .i64 fl)) ∧
            (∀ b, G b → W.heap.size < b) ∧ Upd (fun _ => False) W V3 ∧ (∀ wr2 G', CameI cb (fl, s) G' wr2 → (∀ b, G' b → G b ∨ V3.heap.size ≤ b) → Upd G V3 wr2 → ∃ F2, LdR sb rs (some ⟨g, o, none⟩) cap (k + 1) F2 W wr2) from by
        obtain ⟨es, hS, hes⟩ := hI.a
        have uwr2 := uN.trans' u2
        have hS2 := hS.upd uwr2 fun _ _ => id
        have hgn : getL cmpS nm (mapV (·.2) es) = none := get_none (by
          cases hh : hadL cmpS nm (mapV (·.2) es) with
          | false => rfl
          | true =>
            obtain ⟨y, hy, e⟩ := (hadL_iff ordrS).1 hh
            rw [hes] at hy
            have h1 := hrk y hy hrow
            rw [e] at h1
            have := (ordrS.eq nm nm).2 rfl
            omega)
        have hel : es.length ≤ k := by
          have := congrArg List.length hes
          rw [mapV_len, List.length_take] at this
          omega
        refine (of_c (n := 0) hS2 (by omega) nm).mono ?_
        rintro e V3 ⟨cb, es', F', rfl, q1, q2, q3, q4, q5⟩
        rw [hgn] at q2
        obtain ⟨G, hc, hGF, hback⟩ := q1.focus q2
        obtain ⟨y1, y2, y3, y4, y5⟩ := hc.floor fl
        have z2 := uwr2.size
        have zA : wr.heap.size < V2.heap.size := by have := uN.size; have := u2.size; have := bN.lt; simp at *; omega
        have z3 := q5.size
        have hFl := hS.lt
        have bN3 := ((bN.upd (Upd.drew (fun _ => False) _) id).upd u2 id).upd q5 fun hh => by have := hFl _ hh; omega
        have hGb : ∀ b, G b → W.heap.size < b ∧ b ≠ wr.heap.size := fun b hb => by
          rcases q4 b (hGF b hb).1 with h | h
          · have := hI.newF b h; have := hFl b h; omega
          · omega
        have bB3 := (hI.blk.upd uwr2 id).upd q5 fun hh => by have := hI.newF _ hh; omega
        have uW3 : Upd (fun _ => False) W V3 := (hub.trans' uwr2).trans q5 fun b hb => .inr (by have := hI.newF b hb; omega)
        refine ⟨cb, rfl, ⟨bN3.cell 1, y1, y2, y3⟩, G, (bN3.upd y5 fun hh => (hGb _ hh).2 rfl).cell 2, y4, y5, fun b hb => (hGb b hb).1, uW3, fun wr2 G' m1 m2 m3 => ?_⟩
        obtain ⟨F2, r1, r2⟩ := hback wr2 (fl, s) G' m1 m2 m3
        refine ⟨F2, ⟨_, r1, ?_⟩, fun b hb => ?_, bB3.upd m3 fun hh => by have := (hGb _ hh).1; omega, uW3.trans m3 fun b hb => .inr (by have := (hGb b hb).1; omega)⟩
        · rw [mapV_put, q3, hes, putL_last ordrS (fun y hy => hrk y hy hrow), htk]
        · rcases r2 b hb with h | h
          · rcases q4 b h with h | h
            · exact hI.newF b h
            · omega
          · omega
      replace kOf := Lib.hid kOf
      clear hI bN uN hub hpV htk hrk hnz
      by_cases h8 : 8 ≤ k
      · have hkn : ¬ rightR rs := fun hp => by have := hp.2; omega
        have h8b : decide ((8 : Int) ≤ (k : Int)) = true := by simp; omega
        clear kR0 kOf
        gi_wp2
        refine wpIn_eager [(0, true), (1, true), (2, true), (3, true), (4, false), (5, true), (6, true), (7, true), (8, true), (9, true), (10, true), (11, true), (12, true), (13, true), (14, true), (15, true), (16, true), (17, true), (18, true), (19, true), (20, true), (21, true), (22, true)] (fun V => (V.cell? ⟨wr.heap.size, 0, none⟩ = some (.string nm) ∧ V.cell? ⟨wr.heap.size, 1, none⟩ = some (.int .i64 fl) ∧ V.cell? ⟨wr.heap.size, 2, none⟩ = some (.slice A5 s.length c5)) ∧ V.cell? ⟨W.heap.size, 0, none⟩ = some (.slice (some ⟨g, o, none⟩) rs.length cap) ∧ V.cell? ⟨g, o + j * 3, none⟩ = some (.string p)) (by kernel_rfl) (by kernel_rfl) (hold.out _ (Upd.refl _ _)) ?_
        repeat (first | (refine wpE_fl rfl rfl (fun _ _ => rfl) ?_; go_simp) | (refine wpE_sk rfl rfl ?_; go_simp) | (refine wpE_fl (v := ?_) rfl rfl ?_ ?_; rotate_left; (intro W' h'; (try dsimp only at h'); go_simp; exact rfl); go_simp) | (refine wpE_ef rfl ?_; go_simp; gi_wp2_with (first | refine (⟨trivial, rfl, ?_⟩ : Fence.wide.fn _ ∧ Fence.wide.depth = none ∧ _) | refine (⟨trivial, trivial, rfl, ?_⟩ : Fence.wide.fn _ ∧ Fence.wide.fn _ ∧ Fence.wide.depth = none ∧ _) | (gi_at_call 34; (with_reducible refine kR.out.mono ?_); rintro e V2 ⟨rfl, u2⟩; (skip)) | refine (⟨trivial, ?_⟩ : Fence.wide.fn _ ∧ _)); (first | refine ⟨by first | exact (hold.out _ (Upd.refl _ _)) | exact (hold.out _ u2), ?_⟩ | skip)) | (refine wpE_ef rfl ?_; go_simp; gi_wp2_with ((with_reducible refine listSkipV ?_ ?_ ?_); rfl; rfl); (first | refine ⟨by first | exact (hold.out _ (Upd.refl _ _)) | exact (hold.out _ u2), ?_⟩ | skip)))
        refine wpE_nil ?_
        gi_wp2_with (first | refine (⟨trivial, rfl, ?_⟩ : Fence.wide.fn _ ∧ Fence.wide.depth = none ∧ _) | refine (⟨trivial, ?_⟩ : Fence.wide.fn _ ∧ _))
        refine bodyPost_ret (results_tmp2 rfl _ _ _) rfl ?_
        exact .inr ⟨hkn, rfl, hbT.out⟩
      · have h8b : decide ((8 : Int) ≤ (k : Int)) = false := by simp; omega
        by_cases hR : srcP (nm, fl, s)
        · have kR := Lib.hid (kR0.mono (R' := fun e W2 => e = .returned (.bool true) ∧ Upd (fun _ => False) (wr.alloc (.cells #[.string nm, .int .i64 fl, .slice A5 s.length c5] 43)).drew W2) (by rintro e W2 ⟨h, u⟩; exact ⟨boolP h (by simp [hR]), u⟩))
          clear kR0
          by_cases hk0 : 0 < k
          · have hwj := hwj hk0
            by_cases hC : cmpS p nm < 0
            · have hbl := (cmpS_lt p nm).1 hC
              have hrow : srcP (nm, fl, s) ∧ ∀ _ : 0 < k, cmpS p nm < 0 := ⟨hR, fun _ => hC⟩
              have hsrt := Lib.hid (nums_sorted hR.2.2.2)
              have hT2 := Lib.hid (hyes hrow)
              clear hno hyes
              gi_wp2
              refine wpIn_eager [(0, true), (1, true), (2, true), (3, true), (4, false), (5, true), (6, true), (7, true), (8, true), (9, true), (10, true), (11, true), (12, true), (13, true), (14, true), (15, true), (16, true), (17, true), (18, true), (19, true), (20, true), (21, true), (22, true)] (fun V => (V.cell? ⟨wr.heap.size, 0, none⟩ = some (.string nm) ∧ V.cell? ⟨wr.heap.size, 1, none⟩ = some (.int .i64 fl) ∧ V.cell? ⟨wr.heap.size, 2, none⟩ = some (.slice A5 s.length c5)) ∧ V.cell? ⟨W.heap.size, 0, none⟩ = some (.slice (some ⟨g, o, none⟩) rs.length cap) ∧ V.cell? ⟨g, o + j * 3, none⟩ = some (.string p)) (by kernel_rfl) (by kernel_rfl) (hold.out _ (Upd.refl _ _)) ?_
              repeat (first | (refine wpE_fl rfl rfl (fun _ _ => rfl) ?_; go_simp) | (refine wpE_sk rfl rfl ?_; go_simp) | (refine wpE_fl (v := ?_) rfl rfl ?_ ?_; rotate_left; (intro W' h'; (try dsimp only at h'); go_simp; exact rfl); go_simp) | (refine wpE_ef rfl ?_; go_simp; gi_wp2_with (first | refine (⟨trivial, rfl, ?_⟩ : Fence.wide.fn _ ∧ Fence.wide.depth = none ∧ _) | refine (⟨trivial, trivial, rfl, ?_⟩ : Fence.wide.fn _ ∧ Fence.wide.fn _ ∧ Fence.wide.depth = none ∧ _) | (gi_at_call 34; (with_reducible refine kR.out.mono ?_); rintro e V2 ⟨rfl, u2⟩; (skip)) | refine (⟨trivial, ?_⟩ : Fence.wide.fn _ ∧ _)); (first | refine ⟨by first | exact (hold.out _ (Upd.refl _ _)) | exact (hold.out _ u2), ?_⟩ | skip)) | (refine wpE_ef rfl ?_; go_simp; gi_wp2_with ((with_reducible refine listSkipV ?_ ?_ ?_); rfl; rfl); (first | refine ⟨by first | exact (hold.out _ (Upd.refl _ _)) | exact (hold.out _ u2), ?_⟩ | skip)))
              refine wpE_nil ?_
              obtain ⟨⟨z0, _, _⟩, _⟩ := hold.out _ u2
              have kO := Lib.hid (kOf.out hrow _ u2)
              gi_wp2_with (first | refine (⟨trivial, rfl, ?_⟩ : Fence.wide.fn _ ∧ Fence.wide.depth = none ∧ _) | (gi_at_call 25; (with_reducible refine kO.out.mono ?_); rintro e V3 ⟨cb, rfl, ⟨x1, x2, x3, x4⟩, G, x5, hc, uG, hGn, uV3, hfin⟩; (replace hc := Lib.hid hc); (replace uG := Lib.hid uG); (replace hGn := Lib.hid hGn); (replace uV3 := Lib.hid uV3); (replace hfin := Lib.hid hfin)) | refine (⟨trivial, ?_⟩ : Fence.wide.fn _ ∧ _))
              clear kO kOf kR hold hT
              obtain ⟨V4, hV4⟩ : ∃ V4, V3.setCell ⟨cb, 0, none⟩ (.int .i64 fl) = V4 := ⟨_, rfl⟩
              rw [hV4] at x5 hc uG
              rw [hV4]
              gi_loopw [54] (fun i wr2 => ∃ (jj : Nat) (G' : Nat → Prop), i = .int .i64 jj ∧ jj ≤ s.length ∧ CameI cb (fl, s.take jj) G' wr2 ∧ (∀ b, G' b → G b ∨ V3.heap.size ≤ b) ∧ Upd G V3 wr2) (fun i _ => s.length - (intOf i).toNat)
              case atStart => exact ⟨0, G, rfl, Nat.zero_le _, hc.out, fun b hb => .inl hb, uG.out⟩
              case round =>
                obtain ⟨jj, G', rfl, hjj, hc2, hG2, hu2⟩ := hrel
                by_cases hj2 : jj < s.length
                · have hnr : Reads1 wr A5 (intsV s) := hnV.out wr (uV3.out.trans hu2 fun b hb => .inr (Nat.le_of_lt (hGn.out b hb)))
                  obtain ⟨g5, o5, rfl, n1⟩ := reads_at hnr (by rw [intsV_len]; omega)
                  have e1 := n1 jj _ (intsV_get s jj hj2)
                  have hw6 : IntKind.i64.wrap ((jj : Int) + 1) = (jj : Int) + 1 := Go.IntWalk.i64_in _ ⟨by omega, by omega⟩
                  have htk : s.take (jj + 1) = s.take jj ++ [s[jj]] := List.take_succ_eq_append_getElem hj2
                  have hlast : ∀ x ∈ s.take jj, x < s[jj] := fun x hx => by
                    obtain ⟨i, hi, rfl⟩ := List.getElem_of_mem hx
                    rw [List.length_take] at hi
                    rw [List.getElem_take]
                    exact List.pairwise_iff_getElem.1 hsrt.out _ _ _ _ (by omega)
                  have hins := insI_last hlast
                  rw [← htk] at hins
                  obtain ⟨qb, q1, kP⟩ := hc2.put (by rw [List.length_take]; omega) s[jj]
                  rw [hins] at kP
                  have hz2 := hu2.size
                  have kP := Lib.hid (kP.mono (R' := fun e W2 => ∃ b, e = .returned (.bool b) ∧ ∃ G2, CameI cb (fl, s.take (jj + 1)) G2 W2 ∧ (∀ b, G2 b → G b ∨ V3.heap.size ≤ b) ∧ Upd G V3 W2) (by
                    rintro e W2 ⟨b, rfl, G2, m1, m2, m3⟩
                    refine ⟨b, rfl, G2, m1, fun b hb => ?_, hu2.trans m3 fun b hb => hG2 b hb⟩
                    rcases m2 b hb with h | h
                    · exact hG2 b h
                    · exact .inr (by omega)))
                  clear hins hlast htk n1 hnr hc2 hG2 hu2
                  generalize s[jj] = q at *
                  gi_wp2_with (first | refine (⟨trivial, rfl, ?_⟩ : Fence.wide.fn _ ∧ Fence.wide.depth = none ∧ _) | (gi_at_call 26; (with_reducible refine kP.out.mono ?_); rintro e W5 ⟨b, rfl, fin⟩; (replace fin := Lib.hid fin)) | refine (⟨trivial, ?_⟩ : Fence.wide.fn _ ∧ _))
                  obtain ⟨G2, f1, f2, f3⟩ := fin.out
                  exact ⟨⟨jj + 1, G2, by go_num, by omega, f1, f2, f3⟩, by simp [intOf]; omega⟩
                · obtain rfl : jj = s.length := by omega
                  rw [List.take_length] at hc2
                  have hF := Lib.hid (hfin.out _ G' hc2 hG2 hu2)
                  clear hc2 hG2 hu2
                  gi_wp2_with (first | refine (⟨trivial, rfl, ?_⟩ : Fence.wide.fn _ ∧ Fence.wide.depth = none ∧ _) | refine (⟨trivial, ?_⟩ : Fence.wide.fn _ ∧ _))
                  obtain ⟨F2, hL⟩ := hF.out
                  exact ⟨⟨k + 1, F2, by go_num, by omega, by omega, hT2, hL⟩, by simp [intOf]; omega⟩
            · have hbl : Op.bytesLess p.toList nm.toList = false := by
                cases hb : Op.bytesLess p.toList nm.toList with
                | false => rfl
                | true => exact (hC ((cmpS_lt p nm).2 hb)).elim
              have hkn := hno fun hh => hC (hh.2 hk0)
              clear kOf hno hyes
              gi_wp2
              refine wpIn_eager [(0, true), (1, true), (2, true), (3, true), (4, false), (5, true), (6, true), (7, true), (8, true), (9, true), (10, true), (11, true), (12, true), (13, true), (14, true), (15, true), (16, true), (17, true), (18, true), (19, true), (20, true), (21, true), (22, true)] (fun V => (V.cell? ⟨wr.heap.size, 0, none⟩ = some (.string nm) ∧ V.cell? ⟨wr.heap.size, 1, none⟩ = some (.int .i64 fl) ∧ V.cell? ⟨wr.heap.size, 2, none⟩ = some (.slice A5 s.length c5)) ∧ V.cell? ⟨W.heap.size, 0, none⟩ = some (.slice (some ⟨g, o, none⟩) rs.length cap) ∧ V.cell? ⟨g, o + j * 3, none⟩ = some (.string p)) (by kernel_rfl) (by kernel_rfl) (hold.out _ (Upd.refl _ _)) ?_
              repeat (first | (refine wpE_fl rfl rfl (fun _ _ => rfl) ?_; go_simp) | (refine wpE_sk rfl rfl ?_; go_simp) | (refine wpE_fl (v := ?_) rfl rfl ?_ ?_; rotate_left; (intro W' h'; (try dsimp only at h'); go_simp; exact rfl); go_simp) | (refine wpE_ef rfl ?_; go_simp; gi_wp2_with (first | refine (⟨trivial, rfl, ?_⟩ : Fence.wide.fn _ ∧ Fence.wide.depth = none ∧ _) | refine (⟨trivial, trivial, rfl, ?_⟩ : Fence.wide.fn _ ∧ Fence.wide.fn _ ∧ Fence.wide.depth = none ∧ _) | (gi_at_call 34; (with_reducible refine kR.out.mono ?_); rintro e V2 ⟨rfl, u2⟩; (skip)) | refine (⟨trivial, ?_⟩ : Fence.wide.fn _ ∧ _)); (first | refine ⟨by first | exact (hold.out _ (Upd.refl _ _)) | exact (hold.out _ u2), ?_⟩ | skip)) | (refine wpE_ef rfl ?_; go_simp; gi_wp2_with ((with_reducible refine listSkipV ?_ ?_ ?_); rfl; rfl); (first | refine ⟨by first | exact (hold.out _ (Upd.refl _ _)) | exact (hold.out _ u2), ?_⟩ | skip)))
              refine wpE_nil ?_
              gi_wp2_with (first | refine (⟨trivial, rfl, ?_⟩ : Fence.wide.fn _ ∧ Fence.wide.depth = none ∧ _) | refine (⟨trivial, ?_⟩ : Fence.wide.fn _ ∧ _))
              refine bodyPost_ret (results_tmp2 rfl _ _ _) rfl ?_
              exact .inr ⟨hkn, rfl, hbT.out.trans' u2⟩
          · clear hwj
            have hrow : srcP (nm, fl, s) ∧ ∀ _ : 0 < k, cmpS p nm < 0 := ⟨hR, fun h => absurd h hk0⟩
            have hsrt := Lib.hid (nums_sorted hR.2.2.2)
            have hT2 := Lib.hid (hyes hrow)
            clear hno hyes
            gi_wp2
            refine wpIn_eager [(0, true), (1, true), (2, true), (3, true), (4, false), (5, true), (6, true), (7, true), (8, true), (9, true), (10, true), (11, true), (12, true), (13, true), (14, true), (15, true), (16, true), (17, true), (18, true), (19, true), (20, true), (21, true), (22, true)] (fun V => (V.cell? ⟨wr.heap.size, 0, none⟩ = some (.string nm) ∧ V.cell? ⟨wr.heap.size, 1, none⟩ = some (.int .i64 fl) ∧ V.cell? ⟨wr.heap.size, 2, none⟩ = some (.slice A5 s.length c5)) ∧ V.cell? ⟨W.heap.size, 0, none⟩ = some (.slice (some ⟨g, o, none⟩) rs.length cap) ∧ V.cell? ⟨g, o + j * 3, none⟩ = some (.string p)) (by kernel_rfl) (by kernel_rfl) (hold.out _ (Upd.refl _ _)) ?_
            repeat (first | (refine wpE_fl rfl rfl (fun _ _ => rfl) ?_; go_simp) | (refine wpE_sk rfl rfl ?_; go_simp) | (refine wpE_fl (v := ?_) rfl rfl ?_ ?_; rotate_left; (intro W' h'; (try dsimp only at h'); go_simp; exact rfl); go_simp) | (refine wpE_ef rfl ?_; go_simp; gi_wp2_with (first | refine (⟨trivial, rfl, ?_⟩ : Fence.wide.fn _ ∧ Fence.wide.depth = none ∧ _) | refine (⟨trivial, trivial, rfl, ?_⟩ : Fence.wide.fn _ ∧ Fence.wide.fn _ ∧ Fence.wide.depth = none ∧ _) | (gi_at_call 34; (with_reducible refine kR.out.mono ?_); rintro e V2 ⟨rfl, u2⟩; (skip)) | refine (⟨trivial, ?_⟩ : Fence.wide.fn _ ∧ _)); (first | refine ⟨by first | exact (hold.out _ (Upd.refl _ _)) | exact (hold.out _ u2), ?_⟩ | skip)) | (refine wpE_ef rfl ?_; go_simp; gi_wp2_with ((with_reducible refine listSkipV ?_ ?_ ?_); rfl; rfl); (first | refine ⟨by first | exact (hold.out _ (Upd.refl _ _)) | exact (hold.out _ u2), ?_⟩ | skip)))
            refine wpE_nil ?_
            obtain ⟨⟨z0, _, _⟩, _⟩ := hold.out _ u2
            have kO := Lib.hid (kOf.out hrow _ u2)
            gi_wp2_with (first | refine (⟨trivial, rfl, ?_⟩ : Fence.wide.fn _ ∧ Fence.wide.depth = none ∧ _) | (gi_at_call 25; (with_reducible refine kO.out.mono ?_); rintro e V3 ⟨cb, rfl, ⟨x1, x2, x3, x4⟩, G, x5, hc, uG, hGn, uV3, hfin⟩; (replace hc := Lib.hid hc); (replace uG := Lib.hid uG); (replace hGn := Lib.hid hGn); (replace uV3 := Lib.hid uV3); (replace hfin := Lib.hid hfin)) | refine (⟨trivial, ?_⟩ : Fence.wide.fn _ ∧ _))
            clear kO kOf kR hold hT
            obtain ⟨V4, hV4⟩ : ∃ V4, V3.setCell ⟨cb, 0, none⟩ (.int .i64 fl) = V4 := ⟨_, rfl⟩
            rw [hV4] at x5 hc uG
            rw [hV4]
            gi_loopw [54] (fun i wr2 => ∃ (jj : Nat) (G' : Nat → Prop), i = .int .i64 jj ∧ jj ≤ s.length ∧ CameI cb (fl, s.take jj) G' wr2 ∧ (∀ b, G' b → G b ∨ V3.heap.size ≤ b) ∧ Upd G V3 wr2) (fun i _ => s.length - (intOf i).toNat)
            case atStart => exact ⟨0, G, rfl, Nat.zero_le _, hc.out, fun b hb => .inl hb, uG.out⟩
            case round =>
              obtain ⟨jj, G', rfl, hjj, hc2, hG2, hu2⟩ := hrel
              by_cases hj2 : jj < s.length
              · have hnr : Reads1 wr A5 (intsV s) := hnV.out wr (uV3.out.trans hu2 fun b hb => .inr (Nat.le_of_lt (hGn.out b hb)))
                obtain ⟨g5, o5, rfl, n1⟩ := reads_at hnr (by rw [intsV_len]; omega)
                have e1 := n1 jj _ (intsV_get s jj hj2)
                have hw6 : IntKind.i64.wrap ((jj : Int) + 1) = (jj : Int) + 1 := Go.IntWalk.i64_in _ ⟨by omega, by omega⟩
                have htk : s.take (jj + 1) = s.take jj ++ [s[jj]] := List.take_succ_eq_append_getElem hj2
                have hlast : ∀ x ∈ s.take jj, x < s[jj] := fun x hx => by
                  obtain ⟨i, hi, rfl⟩ := List.getElem_of_mem hx
                  rw [List.length_take] at hi
                  rw [List.getElem_take]
                  exact List.pairwise_iff_getElem.1 hsrt.out _ _ _ _ (by omega)
                have hins := insI_last hlast
                rw [← htk] at hins
                obtain ⟨qb, q1, kP⟩ := hc2.put (by rw [List.length_take]; omega) s[jj]
                rw [hins] at kP
                have hz2 := hu2.size
                have kP := Lib.hid (kP.mono (R' := fun e W2 => ∃ b, e = .returned (.bool b) ∧ ∃ G2, CameI cb (fl, s.take (jj + 1)) G2 W2 ∧ (∀ b, G2 b → G b ∨ V3.heap.size ≤ b) ∧ Upd G V3 W2) (by
                  rintro e W2 ⟨b, rfl, G2, m1, m2, m3⟩
                  refine ⟨b, rfl, G2, m1, fun b hb => ?_, hu2.trans m3 fun b hb => hG2 b hb⟩
                  rcases m2 b hb with h | h
                  · exact hG2 b h
                  · exact .inr (by omega)))
                clear hins hlast htk n1 hnr hc2 hG2 hu2
                generalize s[jj] = q at *
                gi_wp2_with (first | refine (⟨trivial, rfl, ?_⟩ : Fence.wide.fn _ ∧ Fence.wide.depth = none ∧ _) | (gi_at_call 26; (with_reducible refine kP.out.mono ?_); rintro e W5 ⟨b, rfl, fin⟩; (replace fin := Lib.hid fin)) | refine (⟨trivial, ?_⟩ : Fence.wide.fn _ ∧ _))
                obtain ⟨G2, f1, f2, f3⟩ := fin.out
                exact ⟨⟨jj + 1, G2, by go_num, by omega, f1, f2, f3⟩, by simp [intOf]; omega⟩
              · obtain rfl : jj = s.length := by omega
                rw [List.take_length] at hc2
                have hF := Lib.hid (hfin.out _ G' hc2 hG2 hu2)
                clear hc2 hG2 hu2
                gi_wp2_with (first | refine (⟨trivial, rfl, ?_⟩ : Fence.wide.fn _ ∧ Fence.wide.depth = none ∧ _) | refine (⟨trivial, ?_⟩ : Fence.wide.fn _ ∧ _))
                obtain ⟨F2, hL⟩ := hF.out
                exact ⟨⟨k + 1, F2, by go_num, by omega, by omega, hT2, hL⟩, by simp [intOf]; omega⟩
        · have kR := Lib.hid (kR0.mono (R' := fun e W2 => e = .returned (.bool false) ∧ Upd (fun _ => False) (wr.alloc (.cells #[.string nm, .int .i64 fl, .slice A5 s.length c5] 43)).drew W2) (by rintro e W2 ⟨h, u⟩; exact ⟨boolP h (by simp [hR]), u⟩))
          have hkn := hno fun hh => hR hh.1
          clear kR0 kOf hno hyes
          gi_wp2
          refine wpIn_eager [(0, true), (1, true), (2, true), (3, true), (4, false), (5, true), (6, true), (7, true), (8, true), (9, true), (10, true), (11, true), (12, true), (13, true), (14, true), (15, true), (16, true), (17, true), (18, true), (19, true), (20, true), (21, true), (22, true)] (fun V => (V.cell? ⟨wr.heap.size, 0, none⟩ = some (.string nm) ∧ V.cell? ⟨wr.heap.size, 1, none⟩ = some (.int .i64 fl) ∧ V.cell? ⟨wr.heap.size, 2, none⟩ = some (.slice A5 s.length c5)) ∧ V.cell? ⟨W.heap.size, 0, none⟩ = some (.slice (some ⟨g, o, none⟩) rs.length cap) ∧ V.cell? ⟨g, o + j * 3, none⟩ = some (.string p)) (by kernel_rfl) (by kernel_rfl) (hold.out _ (Upd.refl _ _)) ?_
          repeat (first | (refine wpE_fl rfl rfl (fun _ _ => rfl) ?_; go_simp) | (refine wpE_sk rfl rfl ?_; go_simp) | (refine wpE_fl (v := ?_) rfl rfl ?_ ?_; rotate_left; (intro W' h'; (try dsimp only at h'); go_simp; exact rfl); go_simp) | (refine wpE_ef rfl ?_; go_simp; gi_wp2_with (first | refine (⟨trivial, rfl, ?_⟩ : Fence.wide.fn _ ∧ Fence.wide.depth = none ∧ _) | refine (⟨trivial, trivial, rfl, ?_⟩ : Fence.wide.fn _ ∧ Fence.wide.fn _ ∧ Fence.wide.depth = none ∧ _) | (gi_at_call 34; (with_reducible refine kR.out.mono ?_); rintro e V2 ⟨rfl, u2⟩; (skip)) | refine (⟨trivial, ?_⟩ : Fence.wide.fn _ ∧ _)); (first | refine ⟨by first | exact (hold.out _ (Upd.refl _ _)) | exact (hold.out _ u2), ?_⟩ | skip)) | (refine wpE_ef rfl ?_; go_simp; gi_wp2_with ((with_reducible refine listSkipV ?_ ?_ ?_); rfl; rfl); (first | refine ⟨by first | exact (hold.out _ (Upd.refl _ _)) | exact (hold.out _ u2), ?_⟩ | skip)))
          refine wpE_nil ?_
          gi_wp2_with (first | refine (⟨trivial, rfl, ?_⟩ : Fence.wide.fn _ ∧ Fence.wide.depth = none ∧ _) | refine (⟨trivial, ?_⟩ : Fence.wide.fn _ ∧ _))
          refine bodyPost_ret (results_tmp2 rfl _ _ _) rfl ?_
          exact .inr ⟨hkn, rfl, hbT.out.trans' u2⟩
    · obtain rfl : k = rs.length := by omega
      obtain ⟨⟨es, hS, hes⟩, hF, _, hu⟩ := hI
      rw [List.take_of_length_le (by rw [abs_len]; exact Nat.le_refl _)] at hes
      have hA : Hid (SeenA sb (rs.map absT) F wr) := Lib.hid ⟨es, hS, hes⟩
      replace hF := Lib.hid hF
      replace hu := Lib.hid hu
      clear hS hes
      gi_wp2_with (first | refine (⟨trivial, rfl, ?_⟩ : Fence.wide.fn _ ∧ Fence.wide.depth = none ∧ _) | refine (⟨trivial, ?_⟩ : Fence.wide.fn _ ∧ _))
      refine bodyPost_ret (results_tmp2 rfl _ _ _) rfl ?_
      exact .inl ⟨⟨fun i h => hT.out i h h, hk8⟩, sb, F, rfl, hA.out, fun j hj => Nat.le_of_lt (hF.out j hj), hu.out⟩
end
end Go.Proofs.Ytgleiajmdbekiaa

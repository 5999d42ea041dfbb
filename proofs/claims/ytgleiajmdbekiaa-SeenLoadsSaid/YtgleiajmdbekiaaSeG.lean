/- seen: the document's find, Can. -/
import Derived.Test.YtgleiajmdbekiaaProg
import Derived.Test.YtgleiajmdbekiaaBase
import Derived.Test.YtgleiajmdbekiaaSeF
import Derived.Test.YtgleiajmdbekiaaSkRefA
import Derived.Test.YtgleiajmdbekiaaR01
namespace Go.Proofs.Ytgleiajmdbekiaa
open Go.RowKit Go.Shelf
attribute [local go_sem] Oper.semAt_some

section
variable {rs : List SrcP} {A : Option Addr} {cap : Nat} {W w : World} {k : ByteArray}
theorem abs_len (rs : List SrcP) : (rs.map absT).length = rs.length := by simp
theorem abs_at (rs : List SrcP) {a : Nat} (h : a < rs.length) : (rs.map absT)[a]'(by rw [abs_len]; exact h) = absT rs[a] := by simp
set_option maxRecDepth 100000 in
set_option maxHeartbeats 2000000 in
theorem find14_c {n : Nat} (hr : ReadsT w A rs) (hrise : Rise cmpS (rs.map absT)) (hl : rs.length ≤ 100000) (hsz : ∀ r ∈ rs, r.1.size ≤ maxLen) :
    CallsIn Fence.wide n Try.prog 36 #[.slice A rs.length cap, .string k] w fun e w' => e = .returned (.tuple #[.int .i64 (rankL cmpS k (rs.map absT) : Nat), .bool (hadL cmpS k (rs.map absT))]) ∧ Upd (fun _ => False) w w' := by
  refine callsIn_any (n := 0) (callsIn_of_wp Try.func36 rfl trivial ?_)
  simp only [Try.ntmps36, List.size_toArray, List.length_cons, List.length_nil, Nat.reduceAdd, Nat.reduceSub, Array.replicate_succ, Array.replicate_zero, List.push_toArray, List.append_toArray, List.nil_append, List.cons_append]
  gi_wp2
  gi_loopw [6] (fun u wr => ∃ a : Nat, u = .int .i64 a ∧ a ≤ rankL cmpS k (rs.map absT) ∧ Upd (fun _ => False) w wr) (fun u _ => rs.length - (intOf u).toNat)
  case atStart => exact ⟨0, rfl, Nat.zero_le _, Upd.refl _ _⟩
  case round =>
    obtain ⟨a, rfl, ha, hu⟩ := hrel
    have hrl := rank_le (c := cmpS) k (rs.map absT)
    rw [abs_len] at hrl
    by_cases hlt : a < rs.length
    · have hra := rank_at ordrS hrise a (by rw [abs_len]; exact hlt) (k := k)
      rw [abs_at rs hlt] at hra
      have hhad := had_at ordrS hrise (k := k)
      have tx : ∀ V, CallsIn Fence.wide 0 Try.prog 35 #[.string rs[a].1, .string k] V fun e w' => e = .returned (.int .i64 (cmpS rs[a].1 k)) ∧ Upd (fun _ => False) V w' := fun V => texts_c (hsz _ (List.getElem_mem hlt))
      obtain ⟨g, o, hA, _⟩ := hr.at hlt
      have hcell : ∀ V, Upd (fun _ => False) w V → V.cell? ⟨g, o + a * 3, none⟩ = some (.string rs[a].1) := fun V h => by
        obtain ⟨g', o', e, hc, _⟩ := (hr.upd h fun _ _ => id).at hlt
        rw [hA] at e
        cases e
        exact hc
      have hax : ∀ h : rankL cmpS k (rs.map absT) < (rs.map absT).length, a = rankL cmpS k (rs.map absT) → (rs.map absT)[rankL cmpS k (rs.map absT)].1 = rs[a].1 := fun h e => by
        have := abs_at rs hlt
        simp only [e] at this ⊢
        rw [this]; rfl
      subst hA
      have c0 := hcell wr hu
      replace hcell := Lib.hid hcell
      replace hu := Lib.hid hu
      clear hr hrise hsz
      obtain ⟨x, hx⟩ : ∃ x, x = rs[a].1 := ⟨_, rfl⟩
      have hra2 : a < rankL cmpS k (rs.map absT) ↔ cmpS rs[a].1 k < 0 := hra
      by_cases hc : cmpS rs[a].1 k < 0
      · have hra' := hra2.2 hc
        rw [← hx] at hc c0
        simp only [← hx] at tx hcell
        clear hx hra hra2 hhad hax
        replace tx := Lib.hid tx
        gi_wp2_with (first | refine (⟨trivial, rfl, ?_⟩ : Fence.wide.fn _ ∧ Fence.wide.depth = none ∧ _) | (gi_at_call 35; (with_reducible refine (tx.out _).mono ?_); rintro e W2 ⟨rfl, h2⟩; (replace h2 := Lib.hid (hu.out.trans' h2))) | refine (⟨trivial, ?_⟩ : Fence.wide.fn _ ∧ _))
        exact ⟨⟨a + 1, by go_num, by omega, h2.out⟩, by simp [intOf]; omega⟩
      · have har : a = rankL cmpS k (rs.map absT) := by have h := fun h => hc (hra2.1 h); omega
        have hb : (rs[a].1.toList == k.toList) = hadL cmpS k (rs.map absT) := by
          rw [Bool.eq_iff_iff, hhad]
          simp only [beq_iff_eq]
          constructor
          · intro e
            have h1 : rankL cmpS k (rs.map absT) < (rs.map absT).length := by rw [abs_len]; omega
            exact ⟨h1, by rw [hax h1 har]; exact bytes_ext e⟩
          · rintro ⟨h1, e⟩
            rw [hax h1 har] at e
            rw [e]
        obtain ⟨bb, hbb⟩ : ∃ bb, hadL cmpS k (rs.map absT) = bb := ⟨_, rfl⟩
        rw [hbb] at hb
        rw [← hx] at hc c0 hb
        simp only [← hx] at tx hcell
        clear hx hra hra2 hhad ha hax
        replace har := Lib.hid har
        replace hbb := Lib.hid hbb
        replace tx := Lib.hid tx
        gi_wp2_with (first | refine (⟨trivial, rfl, ?_⟩ : Fence.wide.fn _ ∧ Fence.wide.depth = none ∧ _) | (gi_at_call 35; (with_reducible refine (tx.out _).mono ?_); rintro e W2 ⟨rfl, h2⟩; (replace h2 := Lib.hid (hu.out.trans' h2))) | refine (⟨trivial, ?_⟩ : Fence.wide.fn _ ∧ _))
        have c2 := hcell.out _ h2.out.stepDrew
        refine wpIn_eager [(0, true), (1, true), (2, true), (3, true), (4, true), (5, true), (6, true), (7, true), (8, true), (9, true), (10, true), (11, true), (12, true), (13, true), (14, true), (15, true)] (fun V => V.cell? ⟨g, o + a * 3, none⟩ = some (.string x)) (by kernel_rfl) (by kernel_rfl) c2 ?_
        repeat (first | (refine wpE_fl rfl rfl (fun _ _ => rfl) ?_; go_simp) | (refine wpE_sk rfl rfl ?_; go_simp) | (refine wpE_fl (v := ?_) rfl rfl ?_ ?_; rotate_left; (intro W' h'; (try dsimp only at h'); go_simp; exact rfl); go_simp) | (refine wpE_ef rfl ?_; go_simp; gi_wp2_with (first | refine (⟨trivial, rfl, ?_⟩ : Fence.wide.fn _ ∧ Fence.wide.depth = none ∧ _) | refine (⟨trivial, trivial, rfl, ?_⟩ : Fence.wide.fn _ ∧ Fence.wide.fn _ ∧ Fence.wide.depth = none ∧ _) | refine (⟨trivial, ?_⟩ : Fence.wide.fn _ ∧ _)); (first | refine ⟨by first | exact c2, ?_⟩ | skip)))
        refine wpE_nil ?_
        gi_wp2
        refine bodyPost_ret (results_tmp2 rfl _ _ _) rfl ?_
        rw [hbb.out, ← har.out]
        exact ⟨rfl, h2.out.stepDrew⟩
    · have har : rankL cmpS k (rs.map absT) = a := by omega
      have hb : hadL cmpS k (rs.map absT) = false := by
        cases hh : hadL cmpS k (rs.map absT) with
        | false => rfl
        | true => obtain ⟨h1, _⟩ := (had_at ordrS hrise).1 hh; rw [abs_len] at h1; omega
      replace hu := Lib.hid hu
      replace har := Lib.hid har
      replace hb := Lib.hid hb
      clear hr hrise hsz
      have hge : ¬ (a : Int) < rs.length := by omega
      gi_wp2_with (first | refine (⟨trivial, rfl, ?_⟩ : Fence.wide.fn _ ∧ Fence.wide.depth = none ∧ _) | refine (⟨trivial, ?_⟩ : Fence.wide.fn _ ∧ _))
      refine wpIn_eager [(0, true), (1, true), (2, true), (3, true), (4, true), (5, true), (6, true), (7, true), (8, true), (9, true), (10, true), (11, true), (12, true), (13, true), (14, true), (15, true)] (fun _ => True) (by kernel_rfl) (by kernel_rfl) trivial ?_
      repeat (first | (refine wpE_fl rfl rfl (fun _ _ => rfl) ?_; go_simp) | (refine wpE_sk rfl rfl ?_; go_simp) | (refine wpE_fl (v := ?_) rfl rfl ?_ ?_; rotate_left; (intro W' h'; (try dsimp only at h'); go_simp; exact rfl); go_simp) | (refine wpE_ef rfl ?_; go_simp; gi_wp2_with (first | refine (⟨trivial, rfl, ?_⟩ : Fence.wide.fn _ ∧ Fence.wide.depth = none ∧ _) | refine (⟨trivial, trivial, rfl, ?_⟩ : Fence.wide.fn _ ∧ Fence.wide.fn _ ∧ Fence.wide.depth = none ∧ _) | refine (⟨trivial, ?_⟩ : Fence.wide.fn _ ∧ _)); (first | refine ⟨by first | exact trivial, ?_⟩ | skip)))
      refine wpE_nil ?_
      gi_wp2
      refine bodyPost_ret (results_tmp2 rfl _ _ _) rfl ?_
      rw [hb.out, har.out]
      exact ⟨rfl, hu.out.stepDrew⟩
/-- The source of a name, where it is. -/
theorem src_at (hrise : Rise cmpS (rs.map absT)) (hh : hadL cmpS k (rs.map absT) = true) : ∃ h : rankL cmpS k (rs.map absT) < rs.length, rs[rankL cmpS k (rs.map absT)].1 = k ∧ getL cmpS k (rs.map absT) = some (absT rs[rankL cmpS k (rs.map absT)]).2 := by
  obtain ⟨h1, h2⟩ := (had_at ordrS hrise).1 hh
  obtain ⟨h3, h4⟩ := get_at ordrS hrise hh
  have h5 : rankL cmpS k (rs.map absT) < rs.length := by rwa [abs_len] at h1
  rw [abs_at rs h5] at h2 h4
  exact ⟨h5, h2, h4⟩
theorem cnt_mem (q : Int) (s : List Int) : 0 < cnt cmpI q s ↔ q ∈ s := by
  simp only [cnt, List.countP_pos_iff, decide_eq_true_eq]
  constructor
  · rintro ⟨x, hx, e⟩; rw [(ordrI.eq _ _).1 e]; exact hx
  · intro h; exact ⟨q, h, (ordrI.eq _ _).2 rfl⟩
set_option maxRecDepth 100000 in
set_option maxHeartbeats 4000000 in
theorem can14_c {n : Nat} (hr : ReadsT w A rs) (hrise : Rise cmpS (rs.map absT)) (hl : rs.length ≤ 100000) (hsz : ∀ r ∈ rs, r.1.size ≤ maxLen) (hs : ∀ r ∈ rs, r.2.2.1.length ≤ 100000) (q : Int) :
    CallsIn Fence.wide n Try.prog 30 #[.slice A rs.length cap, .string k, .int .i64 q] w fun e w' => e = .returned (.int .i64 (canS k q (rs.map absT))) ∧ Upd (fun _ => False) w w' := by
  have kF := Lib.hid (find14_c (n := 0) (cap := cap) (k := k) hr hrise hl hsz)
  have hrw := Lib.hid fun V (u : Upd (fun _ => False) w V) => hr.upd u fun _ _ => id
  cases hh : hadL cmpS k (rs.map absT) with
  | false =>
    have e0 : canS k q (rs.map absT) = if 8 ≤ rs.length then 16 else 0 := by simp only [canS, get_none hh, abs_len]
    rw [hh] at kF
    generalize rankL cmpS k (rs.map absT) = a at *
    clear hr hrise hsz hs hh hrw
    rw [e0]
    clear e0
    refine callsIn_any (n := 0) (callsIn_of_wp Try.func30 rfl trivial ?_)
    simp only [Try.ntmps30, List.size_toArray, List.length_cons, List.length_nil, Nat.reduceAdd, Nat.reduceSub, Array.replicate_succ, Array.replicate_zero, List.push_toArray, List.append_toArray, List.nil_append, List.cons_append]
    by_cases h8 : 8 ≤ rs.length
    all_goals
      gi_wp2_with (first | refine (⟨trivial, rfl, ?_⟩ : Fence.wide.fn _ ∧ Fence.wide.depth = none ∧ _) | (gi_at_call 36; (with_reducible refine kF.out.mono ?_); rintro e W2 ⟨rfl, u2⟩; (skip)) | refine (⟨trivial, ?_⟩ : Fence.wide.fn _ ∧ _))
      go_ret
      exact ⟨by simp [h8], u2⟩
  | true =>
    obtain ⟨h1, h2, h3⟩ := src_at hrise hh
    have hsl := hs _ (List.getElem_mem h1)
    have hm1 := List.getElem_mem h1
    have hat := Lib.hid fun V (u : Upd (fun _ => False) w V) => (hrw.out V u).at h1
    rw [hh] at kF
    generalize rankL cmpS k (rs.map absT) = a at *
    obtain ⟨x, hx⟩ : ∃ x, rs[a] = x := ⟨_, rfl⟩
    simp only [hx] at hat h3 hsl hm1
    clear hx h2
    obtain ⟨nm, fl, s, A5, c5⟩ := x
    simp only [absT] at hat h3 hsl hm1
    have e0 : canS k q (rs.map absT) = if q ∈ s ∨ q ≤ fl then 13 else 0 := by simp only [canS, h3]
    have hn := Lib.hid fun V (u : Upd (fun _ => False) w V) => ((hrw.out V u).each _ hm1).1
    rw [e0]
    obtain ⟨g, o, rfl, _⟩ := hat.out w (Upd.refl _ _)
    have hcell := Lib.hid fun V (u : Upd (fun _ => False) w V) => show V.cell? ⟨g, o + a * 3 + 1, none⟩ = some (.int .i64 fl) ∧ V.cell? ⟨g, o + a * 3 + 2, none⟩ = some (.slice A5 s.length c5) from by
      obtain ⟨g', o', e, _, q1, q2⟩ := hat.out V u
      cases e
      exact ⟨q1, q2⟩
    have kM := Lib.hid fun V (u : Upd (fun _ => False) w V) => many06_c (n := 0) (cap := c5) (x := q) (hn.out V u) hsl
    have hcm := cnt_mem q s
    clear hr hrise hsz hs hh hrw hat hn e0 h3 hm1 hsl
    refine callsIn_any (n := 0) (callsIn_of_wp Try.func30 rfl trivial ?_)
    simp only [Try.ntmps30, List.size_toArray, List.length_cons, List.length_nil, Nat.reduceAdd, Nat.reduceSub, Array.replicate_succ, Array.replicate_zero, List.push_toArray, List.append_toArray, List.nil_append, List.cons_append]
    by_cases hf : q ≤ fl
    · skip
      gi_wp2_with (first | refine (⟨trivial, rfl, ?_⟩ : Fence.wide.fn _ ∧ Fence.wide.depth = none ∧ _) | (gi_at_call 36; (with_reducible refine kF.out.mono ?_); rintro e W2 ⟨rfl, u2⟩; (obtain ⟨d1, d2⟩ := hcell.out _ u2)) | refine (⟨trivial, ?_⟩ : Fence.wide.fn _ ∧ _))
      go_ret
      exact ⟨by simp [hf], u2⟩
    · by_cases hq : q ∈ s
      · have h0 := hcm.2 hq
        have hif : (if q ∈ s ∨ q ≤ fl then (13 : Int) else 0) = 13 := if_pos (.inl hq)
        rw [hif]
        clear hcm hq hif
        generalize cnt cmpI q s = m at *
        gi_wp2_with (first | refine (⟨trivial, rfl, ?_⟩ : Fence.wide.fn _ ∧ Fence.wide.depth = none ∧ _) | (gi_at_call 36; (with_reducible refine kF.out.mono ?_); rintro e W2 ⟨rfl, u2⟩; (obtain ⟨d1, d2⟩ := hcell.out _ u2); (have kM2 := Lib.hid (kM.out _ u2))) | (gi_at_call 49; (with_reducible refine kM2.out.mono ?_); rintro e W3 ⟨rfl, e3⟩; (replace e3 := e3.symm); (subst e3)) | refine (⟨trivial, ?_⟩ : Fence.wide.fn _ ∧ _))
        go_ret
        exact ⟨rfl, u2⟩
      · have h0 : ¬ 0 < cnt cmpI q s := fun h => hq (hcm.1 h)
        have hif : (if q ∈ s ∨ q ≤ fl then (13 : Int) else 0) = 0 := if_neg (by rintro (h | h); exact hq h; exact hf h)
        rw [hif]
        clear hcm hq hif
        generalize cnt cmpI q s = m at *
        gi_wp2_with (first | refine (⟨trivial, rfl, ?_⟩ : Fence.wide.fn _ ∧ Fence.wide.depth = none ∧ _) | (gi_at_call 36; (with_reducible refine kF.out.mono ?_); rintro e W2 ⟨rfl, u2⟩; (obtain ⟨d1, d2⟩ := hcell.out _ u2); (have kM2 := Lib.hid (kM.out _ u2))) | (gi_at_call 49; (with_reducible refine kM2.out.mono ?_); rintro e W3 ⟨rfl, e3⟩; (replace e3 := e3.symm); (subst e3)) | refine (⟨trivial, ?_⟩ : Fence.wide.fn _ ∧ _))
        go_ret
        exact ⟨rfl, u2⟩
end
end Go.Proofs.Ytgleiajmdbekiaa

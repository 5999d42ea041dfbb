/- seen: which states are right: the document's test. -/
import Derived.Test.YtgleiajmdbekiaaProg
import Derived.Test.YtgleiajmdbekiaaBase
import Derived.Test.YtgleiajmdbekiaaSeQ
namespace Go.Proofs.Ytgleiajmdbekiaa
open Go.RowKit Go.Shelf
attribute [local go_sem] Oper.semAt_some

section
variable {rs : List SrcP} {A : Option Addr} {cap : Nat} {W : World}
set_option maxRecDepth 100000 in
set_option maxHeartbeats 32000000 in
theorem Right14_c {n : Nat} (hr : ReadsT W A rs) (hl : rs.length ≤ 100) (hs : ∀ r ∈ rs, r.2.2.1.length ≤ 100) (hsz : ∀ r ∈ rs, r.1.size ≤ maxLen) : CallsIn Fence.wide n Try.prog 16 #[.slice A rs.length cap] W fun e W2 => SaysB (rightR rs) e ∧ Upd (fun _ => False) W W2 := by
  have hrW := Lib.hid fun V (u : Upd (fun _ => False) W V) => hr.upd u fun _ _ => id
  clear hr
  refine callsIn_any (n := 0) (callsIn_of_wp Try.func16 rfl trivial ?_)
  simp only [Try.ntmps16, List.size_toArray, List.length_cons, List.length_nil, Nat.reduceAdd, Nat.reduceSub, Array.replicate_succ, Array.replicate_zero, List.push_toArray, List.append_toArray, List.nil_append, List.cons_append]
  gi_wp2
  gi_loopw [9] (fun i wr => ∃ k : Nat, i = .int .i64 k ∧ k ≤ rs.length ∧ Hid (rowsTo rs k) ∧ Upd (fun _ => False) W wr) (fun i _ => rs.length - (intOf i).toNat)
  case atStart => exact ⟨0, rfl, Nat.zero_le _, Lib.hid fun i h hi => by omega, Upd.refl _ _⟩
  case round =>
    obtain ⟨k, rfl, hk, hT, hub⟩ := hrel
    by_cases hlt : k < rs.length
    · obtain ⟨g, o, hA, d0, d1, d2⟩ := (hrW.out _ hub).at hlt
      have hw5 : IntKind.i64.wrap ((k : Int) + 1) = (k : Int) + 1 := Go.IntWalk.i64_in _ ⟨by omega, by omega⟩
      obtain ⟨j, hj⟩ : ∃ j, k - 1 = j := ⟨_, rfl⟩
      have hjl : j < rs.length := by omega
      have hwj : 0 < k → IntKind.i64.wrap ((k : Int) - 1) = (j : Int) := fun h => by rw [Go.IntWalk.i64_in _ ⟨by omega, by omega⟩]; omega
      have hno : ¬ rowR rs k hlt → (false = true ↔ rightR rs) := fun hn => ff fun hp => hn (hp.1 k hlt)
      have hyes := rows_succ hT.out hlt
      obtain ⟨p, hp⟩ : ∃ p, rs[j].1 = p := ⟨_, rfl⟩
      have hpe : ∀ h : k - 1 < rs.length, (rs[k - 1]).1 = p := fun h => by simp only [hj]; exact hp
      have hpV := Lib.hid fun V (u : Upd (fun _ => False) W V) => show V.cell? ⟨g, o + j * 3, none⟩ = some (.string p) from by
        obtain ⟨g', o', e, q0, _⟩ := (hrW.out V u).at hjl
        rw [hA] at e
        cases e
        rw [hp] at q0; exact q0
      have hzp := hsz _ (List.getElem_mem hjl)
      rw [hp] at hzp
      have hm1 := List.getElem_mem hlt
      have hsl := hs _ hm1
      have hnz := hsz _ hm1
      unfold rowR srcP at hno hyes
      simp only [hpe] at hno hyes
      obtain ⟨x, hx⟩ : ∃ x, rs[k] = x := ⟨_, rfl⟩
      simp only [hx] at d0 d1 d2 hno hyes hm1 hsl hnz
      clear hx hp hpe
      obtain ⟨nm, fl, s, A5, c5⟩ := x
      simp only [absT] at d0 d1 d2 hno hyes hsl hnz
      have hsl' : s.length ≤ 100 := hsl
      have hnV := Lib.hid fun V (u : Upd (fun _ => False) W V) => show Reads1 V A5 (intsV s) from ((hrW.out V u).each _ hm1).1
      clear hm1 hsl hT
      subst hA
      obtain ⟨sl, hsl⟩ : ∃ sl, s.length = sl := ⟨_, rfl⟩
      rw [hsl] at d2
      simp only [hsl] at hno hyes
      have hs1 : s.length ≤ sl := Nat.le_of_eq hsl
      have hs2 : sl ≤ s.length := Nat.le_of_eq hsl.symm
      clear hsl
      have hz := hub.size
      have bN := Blk.new wr #[.string nm, .int .i64 fl, .slice A5 sl c5] 47
      have uN := (Upd.alloc (fun _ => False) wr (.cells #[.string nm, .int .i64 fl, .slice A5 sl c5] 47)).stepDrew
      have hold := Lib.hid fun V (u : Upd (fun _ => False) (wr.alloc (.cells #[.string nm, .int .i64 fl, .slice A5 sl c5] 47)).drew V) => show (V.cell? ⟨wr.heap.size, 0, none⟩ = some (.string nm) ∧ V.cell? ⟨wr.heap.size, 1, none⟩ = some (.int .i64 fl) ∧ V.cell? ⟨wr.heap.size, 2, none⟩ = some (.slice A5 sl c5)) ∧ V.cell? ⟨g, o + j * 3, none⟩ = some (.string p) from
        ⟨⟨((bN.upd (Upd.drew (fun _ => False) _) id).upd u id).cell 0, ((bN.upd (Upd.drew (fun _ => False) _) id).upd u id).cell 1, ((bN.upd (Upd.drew (fun _ => False) _) id).upd u id).cell 2⟩, hpV.out _ ((hub.trans' uN).trans' u)⟩
      have hbT := Lib.hid (hub.trans' uN)
      have kW0 := refWord_c (n := 0) (s := nm) (w := (wr.alloc (.cells #[.string nm, .int .i64 fl, .slice A5 sl c5] 47)).drew) hnz
      have kT0 := fun V => texts_c (n := 0) (a := p) (b := nm) (w := V) hzp
      clear bN uN hub hpV
      by_cases hW : wordP nm
      · have kW := Lib.hid (kW0.mono (R' := fun e W2 => e = .returned (.bool true) ∧ Upd (fun _ => False) (wr.alloc (.cells #[.string nm, .int .i64 fl, .slice A5 sl c5] 47)).drew W2) (by rintro e W2 ⟨h, u⟩; exact ⟨boolP h (by simp [hW]), u⟩))
        clear kW0
        by_cases hk0 : 0 < k
        · have hwj := hwj hk0
          obtain ⟨cc, hcc⟩ : ∃ cc, cmpS p nm = cc := ⟨_, rfl⟩
          rw [hcc] at kT0
          simp only [hcc] at hno hyes
          have kT := Lib.hid kT0
          clear kT0
          by_cases hC : cc < 0
          · have ec : ((0 : Int) ≤ cc) = False := eq_false (by omega)
            by_cases hf0 : 0 ≤ fl
            · have ef0 : (fl < 0) = False := eq_false (by omega)
              by_cases hf1 : fl ≤ 1099511627776
              · have ef1 : (1099511627776 < fl) = False := eq_false (by omega)
                by_cases hn1 : 1 ≤ sl
                · have en1 : ((sl : Int) < 1) = False := eq_false (by omega)
                  by_cases hn2 : sl ≤ 32
                  · have hpar : (wordP nm ∧ (0 ≤ fl ∧ fl ≤ mxT) ∧ (1 ≤ sl ∧ sl ≤ 32)) := ⟨hW, ⟨hf0, hf1⟩, hn1, hn2⟩
                    skip
                    have en2 : ((32 : Int) < (sl : Int)) = False := eq_false (by omega)
                    have hyes2 := Lib.hid fun (hN : numsP s fl) => hyes ⟨⟨hW, ⟨hf0, hf1⟩, ⟨hn1, hn2⟩, hN⟩, fun _ => hC⟩
                    have hno2 := Lib.hid fun (hN : ¬ numsP s fl) => hno fun hh => hN hh.1.2.2.2
                    clear hno hyes hpar
                    gi_wp2
                    refine wpIn_eager [(0, true), (1, true), (2, false), (3, true), (4, true), (5, true), (6, true), (7, true), (8, true), (9, true), (10, true), (11, true), (12, true), (13, true), (14, true), (15, true), (16, false), (17, true), (18, true), (19, true), (20, true), (21, true), (22, true), (23, true), (24, true), (25, true), (26, true), (27, true), (28, true), (29, true), (30, true), (31, true), (32, true), (33, true), (34, true), (35, true), (36, true), (37, true), (38, true), (39, true), (40, true), (41, true)] (fun V => (V.cell? ⟨wr.heap.size, 0, none⟩ = some (.string nm) ∧ V.cell? ⟨wr.heap.size, 1, none⟩ = some (.int .i64 fl) ∧ V.cell? ⟨wr.heap.size, 2, none⟩ = some (.slice A5 sl c5)) ∧ V.cell? ⟨g, o + j * 3, none⟩ = some (.string p)) (by kernel_rfl) (by kernel_rfl) (hold.out _ (Upd.refl _ _)) ?_
                    repeat (first | (refine wpE_fl rfl rfl (fun _ _ => rfl) ?_; go_simp) | (refine wpE_sk rfl rfl ?_; go_simp) | (refine wpE_fl (v := ?_) rfl rfl ?_ ?_; rotate_left; (intro W' h'; (try dsimp only at h'); go_simp; exact rfl); go_simp) | (refine wpE_ef rfl ?_; go_simp; gi_wp2_with (first | refine (⟨trivial, rfl, ?_⟩ : Fence.wide.fn _ ∧ Fence.wide.depth = none ∧ _) | refine (⟨trivial, trivial, rfl, ?_⟩ : Fence.wide.fn _ ∧ Fence.wide.fn _ ∧ Fence.wide.depth = none ∧ _) | (gi_at_call 9; (with_reducible refine kW.out.mono ?_); rintro e V2 ⟨rfl, u2⟩; (skip)) | (gi_at_call 35; (with_reducible refine (kT.out _).mono ?_); rintro e V3 ⟨rfl, u3⟩; (skip)) | refine (⟨trivial, ?_⟩ : Fence.wide.fn _ ∧ _)); (first | refine ⟨by first | exact (hold.out _ (Upd.refl _ _)) | exact (hold.out _ u2) | exact (hold.out _ (u2.trans' u3)), ?_⟩ | skip)) | (refine wpE_ef rfl ?_; go_simp; gi_wp2_with ((with_reducible refine listSkipV ?_ ?_ ?_); rfl; rfl); (first | refine ⟨by first | exact (hold.out _ (Upd.refl _ _)) | exact (hold.out _ u2) | exact (hold.out _ (u2.trans' u3)), ?_⟩ | skip)))
                    refine wpE_nil ?_
                    have hU := Lib.hid (u2.trans' u3)
                    have hUW := Lib.hid (hbT.out.trans' (u2.trans' u3))
                    obtain ⟨⟨z0, z1, z2⟩, _⟩ := hold.out _ hU.out
                    clear kW kT
                    gi_wp2
                    gi_loopw [61] (fun i wr2 => ∃ jj : Nat, i = .int .i64 jj ∧ jj ≤ s.length ∧ Hid (numsTo s fl jj) ∧ Upd (fun _ => False) (wr.alloc (.cells #[.string nm, .int .i64 fl, .slice A5 sl c5] 47)).drew wr2) (fun i _ => s.length - (intOf i).toNat)
                    case atStart => exact ⟨0, rfl, Nat.zero_le _, Lib.hid fun i h hi => by omega, hU.out⟩
                    case round =>
                      obtain ⟨jj, rfl, hjj, hT3, hu2⟩ := hrel
                      obtain ⟨⟨_, y1, y2⟩, _⟩ := hold.out _ hu2
                      have hu3 := Lib.hid (hbT.out.trans' hu2)
                      replace hu2 := Lib.hid hu2
                      by_cases hj2 : jj < s.length
                      · have hj2' : jj < sl := by omega
                        obtain ⟨g5, o5, rfl, n1⟩ := reads_at (hnV.out _ hu3.out) (by rw [intsV_len]; omega)
                        have e1 := n1 jj _ (intsV_get s jj hj2)
                        have hw6 : IntKind.i64.wrap ((jj : Int) + 1) = (jj : Int) + 1 := Go.IntWalk.i64_in _ ⟨by omega, by omega⟩
                        obtain ⟨jp, hjp⟩ : ∃ jp, jj - 1 = jp := ⟨_, rfl⟩
                        have hjpl : jp < s.length := by omega
                        have e2 := n1 jp _ (intsV_get s jp hjpl)
                        have hwj2 : 0 < jj → IntKind.i64.wrap ((jj : Int) - 1) = (jp : Int) := fun h => by rw [Go.IntWalk.i64_in _ ⟨by omega, by omega⟩]; omega
                        have hno3 := fun hn : ¬ numOk s fl jj hj2 => hno2.out fun hN => hn (hN jj hj2)
                        have hyes3 := nums_succ hT3.out hj2
                        unfold numOk at hno3 hyes3
                        obtain ⟨pq, hpq⟩ : ∃ pq, s[jp] = pq := ⟨_, rfl⟩
                        have hpe2 : ∀ h : jj - 1 < s.length, s[jj - 1] = pq := fun h => by simp only [hjp]; exact hpq
                        simp only [hpe2] at hno3 hyes3
                        rw [hpq] at e2
                        clear hpq hpe2 n1 hT3
                        generalize s[jj] = q at *
                        replace hno3 := Lib.hid hno3
                        replace hyes3 := Lib.hid hyes3
                        by_cases h1 : fl < q
                        · by_cases h2 : q ≤ 1099511627776
                          · by_cases hj0 : 0 < jj
                            · have hwj2 := hwj2 hj0
                              by_cases h3 : pq < q
                              · skip
                                gi_wp2_with (first | refine (⟨trivial, rfl, ?_⟩ : Fence.wide.fn _ ∧ Fence.wide.depth = none ∧ _) | refine (⟨trivial, ?_⟩ : Fence.wide.fn _ ∧ _))
                                exact ⟨⟨jj + 1, by go_num, by omega, Lib.hid (hyes3.out ⟨h1, h2, fun _ => h3⟩), hu2.out⟩, by simp [intOf]; omega⟩
                              · skip
                                gi_wp2_with (first | refine (⟨trivial, rfl, ?_⟩ : Fence.wide.fn _ ∧ Fence.wide.depth = none ∧ _) | refine (⟨trivial, ?_⟩ : Fence.wide.fn _ ∧ _))
                                go_ret
                                exact ⟨⟨_, rfl, hno3.out fun hh => by have := hh.2.2 hj0; omega⟩, hu3.out⟩
                            · clear hwj2
                              gi_wp2_with (first | refine (⟨trivial, rfl, ?_⟩ : Fence.wide.fn _ ∧ Fence.wide.depth = none ∧ _) | refine (⟨trivial, ?_⟩ : Fence.wide.fn _ ∧ _))
                              exact ⟨⟨jj + 1, by go_num, by omega, Lib.hid (hyes3.out ⟨h1, h2, fun h => absurd h hj0⟩), hu2.out⟩, by simp [intOf]; omega⟩
                          · clear hwj2
                            gi_wp2_with (first | refine (⟨trivial, rfl, ?_⟩ : Fence.wide.fn _ ∧ Fence.wide.depth = none ∧ _) | refine (⟨trivial, ?_⟩ : Fence.wide.fn _ ∧ _))
                            go_ret
                            exact ⟨⟨_, rfl, hno3.out fun hh => by have := hh.2.1; simp only [mxT] at this; omega⟩, hu3.out⟩
                        · clear hwj2
                          gi_wp2_with (first | refine (⟨trivial, rfl, ?_⟩ : Fence.wide.fn _ ∧ Fence.wide.depth = none ∧ _) | refine (⟨trivial, ?_⟩ : Fence.wide.fn _ ∧ _))
                          go_ret
                          exact ⟨⟨_, rfl, hno3.out fun hh => by have := hh.1; omega⟩, hu3.out⟩
                      · obtain rfl : jj = s.length := by omega
                        have hT2 := Lib.hid (hyes2.out fun i h => hT3.out i h h)
                        clear hT3
                        have hj9 : ¬ (s.length : Int) < sl := by omega
                        gi_wp2_with (first | refine (⟨trivial, rfl, ?_⟩ : Fence.wide.fn _ ∧ Fence.wide.depth = none ∧ _) | refine (⟨trivial, ?_⟩ : Fence.wide.fn _ ∧ _))
                        exact ⟨⟨k + 1, by go_num, by omega, hT2, hu3.out⟩, by simp [intOf]; omega⟩
                  · have hx : 32 < sl := by omega
                    have hxi : (32 : Int) < (sl : Int) := by omega
                    have hkn := Lib.hid (hno fun hh => by have := hh.1.2.2.1.2; omega)
                    clear hno hyes
                    gi_wp2
                    refine wpIn_eager [(0, true), (1, true), (2, false), (3, true), (4, true), (5, true), (6, true), (7, true), (8, true), (9, true), (10, true), (11, true), (12, true), (13, true), (14, true), (15, true), (16, false), (17, true), (18, true), (19, true), (20, true), (21, true), (22, true), (23, true), (24, true), (25, true), (26, true), (27, true), (28, true), (29, true), (30, true), (31, true), (32, true), (33, true), (34, true), (35, true), (36, true), (37, true), (38, true), (39, true), (40, true), (41, true)] (fun V => (V.cell? ⟨wr.heap.size, 0, none⟩ = some (.string nm) ∧ V.cell? ⟨wr.heap.size, 1, none⟩ = some (.int .i64 fl) ∧ V.cell? ⟨wr.heap.size, 2, none⟩ = some (.slice A5 sl c5)) ∧ V.cell? ⟨g, o + j * 3, none⟩ = some (.string p)) (by kernel_rfl) (by kernel_rfl) (hold.out _ (Upd.refl _ _)) ?_
                    repeat (first | (refine wpE_fl rfl rfl (fun _ _ => rfl) ?_; go_simp) | (refine wpE_sk rfl rfl ?_; go_simp) | (refine wpE_fl (v := ?_) rfl rfl ?_ ?_; rotate_left; (intro W' h'; (try dsimp only at h'); go_simp; exact rfl); go_simp) | (refine wpE_ef rfl ?_; go_simp; gi_wp2_with (first | refine (⟨trivial, rfl, ?_⟩ : Fence.wide.fn _ ∧ Fence.wide.depth = none ∧ _) | refine (⟨trivial, trivial, rfl, ?_⟩ : Fence.wide.fn _ ∧ Fence.wide.fn _ ∧ Fence.wide.depth = none ∧ _) | (gi_at_call 9; (with_reducible refine kW.out.mono ?_); rintro e V2 ⟨rfl, u2⟩; (skip)) | (gi_at_call 35; (with_reducible refine (kT.out _).mono ?_); rintro e V3 ⟨rfl, u3⟩; (skip)) | refine (⟨trivial, ?_⟩ : Fence.wide.fn _ ∧ _)); (first | refine ⟨by first | exact (hold.out _ (Upd.refl _ _)) | exact (hold.out _ u2) | exact (hold.out _ (u2.trans' u3)), ?_⟩ | skip)) | (refine wpE_ef rfl ?_; go_simp; gi_wp2_with ((with_reducible refine listSkipV ?_ ?_ ?_); rfl; rfl); (first | refine ⟨by first | exact (hold.out _ (Upd.refl _ _)) | exact (hold.out _ u2) | exact (hold.out _ (u2.trans' u3)), ?_⟩ | skip)))
                    refine wpE_nil ?_
                    gi_wp2_with (first | refine (⟨trivial, rfl, ?_⟩ : Fence.wide.fn _ ∧ Fence.wide.depth = none ∧ _) | refine (⟨trivial, ?_⟩ : Fence.wide.fn _ ∧ _))
                    go_ret
                    exact ⟨⟨_, rfl, hkn.out⟩, hbT.out.trans' (u2.trans' u3)⟩
                · have hx : sl < 1 := by omega
                  have hxi : (sl : Int) < 1 := by omega
                  have hkn := Lib.hid (hno fun hh => by have := hh.1.2.2.1.1; omega)
                  clear hno hyes
                  gi_wp2
                  refine wpIn_eager [(0, true), (1, true), (2, false), (3, true), (4, true), (5, true), (6, true), (7, true), (8, true), (9, true), (10, true), (11, true), (12, true), (13, true), (14, true), (15, true), (16, false), (17, true), (18, true), (19, true), (20, true), (21, true), (22, true), (23, true), (24, true), (25, true), (26, true), (27, true), (28, true), (29, true), (30, true), (31, true), (32, true), (33, true), (34, true), (35, true), (36, true), (37, true), (38, true), (39, true), (40, true), (41, true)] (fun V => (V.cell? ⟨wr.heap.size, 0, none⟩ = some (.string nm) ∧ V.cell? ⟨wr.heap.size, 1, none⟩ = some (.int .i64 fl) ∧ V.cell? ⟨wr.heap.size, 2, none⟩ = some (.slice A5 sl c5)) ∧ V.cell? ⟨g, o + j * 3, none⟩ = some (.string p)) (by kernel_rfl) (by kernel_rfl) (hold.out _ (Upd.refl _ _)) ?_
                  repeat (first | (refine wpE_fl rfl rfl (fun _ _ => rfl) ?_; go_simp) | (refine wpE_sk rfl rfl ?_; go_simp) | (refine wpE_fl (v := ?_) rfl rfl ?_ ?_; rotate_left; (intro W' h'; (try dsimp only at h'); go_simp; exact rfl); go_simp) | (refine wpE_ef rfl ?_; go_simp; gi_wp2_with (first | refine (⟨trivial, rfl, ?_⟩ : Fence.wide.fn _ ∧ Fence.wide.depth = none ∧ _) | refine (⟨trivial, trivial, rfl, ?_⟩ : Fence.wide.fn _ ∧ Fence.wide.fn _ ∧ Fence.wide.depth = none ∧ _) | (gi_at_call 9; (with_reducible refine kW.out.mono ?_); rintro e V2 ⟨rfl, u2⟩; (skip)) | (gi_at_call 35; (with_reducible refine (kT.out _).mono ?_); rintro e V3 ⟨rfl, u3⟩; (skip)) | refine (⟨trivial, ?_⟩ : Fence.wide.fn _ ∧ _)); (first | refine ⟨by first | exact (hold.out _ (Upd.refl _ _)) | exact (hold.out _ u2) | exact (hold.out _ (u2.trans' u3)), ?_⟩ | skip)) | (refine wpE_ef rfl ?_; go_simp; gi_wp2_with ((with_reducible refine listSkipV ?_ ?_ ?_); rfl; rfl); (first | refine ⟨by first | exact (hold.out _ (Upd.refl _ _)) | exact (hold.out _ u2) | exact (hold.out _ (u2.trans' u3)), ?_⟩ | skip)))
                  refine wpE_nil ?_
                  gi_wp2_with (first | refine (⟨trivial, rfl, ?_⟩ : Fence.wide.fn _ ∧ Fence.wide.depth = none ∧ _) | refine (⟨trivial, ?_⟩ : Fence.wide.fn _ ∧ _))
                  go_ret
                  exact ⟨⟨_, rfl, hkn.out⟩, hbT.out.trans' (u2.trans' u3)⟩
              · have hx : 1099511627776 < fl := by omega
                have hkn := Lib.hid (hno fun hh => by have := hh.1.2.1.2; simp only [mxT] at this; omega)
                clear hno hyes
                gi_wp2
                refine wpIn_eager [(0, true), (1, true), (2, false), (3, true), (4, true), (5, true), (6, true), (7, true), (8, true), (9, true), (10, true), (11, true), (12, true), (13, true), (14, true), (15, true), (16, false), (17, true), (18, true), (19, true), (20, true), (21, true), (22, true), (23, true), (24, true), (25, true), (26, true), (27, true), (28, true), (29, true), (30, true), (31, true), (32, true), (33, true), (34, true), (35, true), (36, true), (37, true), (38, true), (39, true), (40, true), (41, true)] (fun V => (V.cell? ⟨wr.heap.size, 0, none⟩ = some (.string nm) ∧ V.cell? ⟨wr.heap.size, 1, none⟩ = some (.int .i64 fl) ∧ V.cell? ⟨wr.heap.size, 2, none⟩ = some (.slice A5 sl c5)) ∧ V.cell? ⟨g, o + j * 3, none⟩ = some (.string p)) (by kernel_rfl) (by kernel_rfl) (hold.out _ (Upd.refl _ _)) ?_
                repeat (first | (refine wpE_fl rfl rfl (fun _ _ => rfl) ?_; go_simp) | (refine wpE_sk rfl rfl ?_; go_simp) | (refine wpE_fl (v := ?_) rfl rfl ?_ ?_; rotate_left; (intro W' h'; (try dsimp only at h'); go_simp; exact rfl); go_simp) | (refine wpE_ef rfl ?_; go_simp; gi_wp2_with (first | refine (⟨trivial, rfl, ?_⟩ : Fence.wide.fn _ ∧ Fence.wide.depth = none ∧ _) | refine (⟨trivial, trivial, rfl, ?_⟩ : Fence.wide.fn _ ∧ Fence.wide.fn _ ∧ Fence.wide.depth = none ∧ _) | (gi_at_call 9; (with_reducible refine kW.out.mono ?_); rintro e V2 ⟨rfl, u2⟩; (skip)) | (gi_at_call 35; (with_reducible refine (kT.out _).mono ?_); rintro e V3 ⟨rfl, u3⟩; (skip)) | refine (⟨trivial, ?_⟩ : Fence.wide.fn _ ∧ _)); (first | refine ⟨by first | exact (hold.out _ (Upd.refl _ _)) | exact (hold.out _ u2) | exact (hold.out _ (u2.trans' u3)), ?_⟩ | skip)) | (refine wpE_ef rfl ?_; go_simp; gi_wp2_with ((with_reducible refine listSkipV ?_ ?_ ?_); rfl; rfl); (first | refine ⟨by first | exact (hold.out _ (Upd.refl _ _)) | exact (hold.out _ u2) | exact (hold.out _ (u2.trans' u3)), ?_⟩ | skip)))
                refine wpE_nil ?_
                gi_wp2_with (first | refine (⟨trivial, rfl, ?_⟩ : Fence.wide.fn _ ∧ Fence.wide.depth = none ∧ _) | refine (⟨trivial, ?_⟩ : Fence.wide.fn _ ∧ _))
                go_ret
                exact ⟨⟨_, rfl, hkn.out⟩, hbT.out.trans' (u2.trans' u3)⟩
            · have hx : fl < 0 := by omega
              have hkn := Lib.hid (hno fun hh => by have := hh.1.2.1.1; omega)
              clear hno hyes
              gi_wp2
              refine wpIn_eager [(0, true), (1, true), (2, false), (3, true), (4, true), (5, true), (6, true), (7, true), (8, true), (9, true), (10, true), (11, true), (12, true), (13, true), (14, true), (15, true), (16, false), (17, true), (18, true), (19, true), (20, true), (21, true), (22, true), (23, true), (24, true), (25, true), (26, true), (27, true), (28, true), (29, true), (30, true), (31, true), (32, true), (33, true), (34, true), (35, true), (36, true), (37, true), (38, true), (39, true), (40, true), (41, true)] (fun V => (V.cell? ⟨wr.heap.size, 0, none⟩ = some (.string nm) ∧ V.cell? ⟨wr.heap.size, 1, none⟩ = some (.int .i64 fl) ∧ V.cell? ⟨wr.heap.size, 2, none⟩ = some (.slice A5 sl c5)) ∧ V.cell? ⟨g, o + j * 3, none⟩ = some (.string p)) (by kernel_rfl) (by kernel_rfl) (hold.out _ (Upd.refl _ _)) ?_
              repeat (first | (refine wpE_fl rfl rfl (fun _ _ => rfl) ?_; go_simp) | (refine wpE_sk rfl rfl ?_; go_simp) | (refine wpE_fl (v := ?_) rfl rfl ?_ ?_; rotate_left; (intro W' h'; (try dsimp only at h'); go_simp; exact rfl); go_simp) | (refine wpE_ef rfl ?_; go_simp; gi_wp2_with (first | refine (⟨trivial, rfl, ?_⟩ : Fence.wide.fn _ ∧ Fence.wide.depth = none ∧ _) | refine (⟨trivial, trivial, rfl, ?_⟩ : Fence.wide.fn _ ∧ Fence.wide.fn _ ∧ Fence.wide.depth = none ∧ _) | (gi_at_call 9; (with_reducible refine kW.out.mono ?_); rintro e V2 ⟨rfl, u2⟩; (skip)) | (gi_at_call 35; (with_reducible refine (kT.out _).mono ?_); rintro e V3 ⟨rfl, u3⟩; (skip)) | refine (⟨trivial, ?_⟩ : Fence.wide.fn _ ∧ _)); (first | refine ⟨by first | exact (hold.out _ (Upd.refl _ _)) | exact (hold.out _ u2) | exact (hold.out _ (u2.trans' u3)), ?_⟩ | skip)) | (refine wpE_ef rfl ?_; go_simp; gi_wp2_with ((with_reducible refine listSkipV ?_ ?_ ?_); rfl; rfl); (first | refine ⟨by first | exact (hold.out _ (Upd.refl _ _)) | exact (hold.out _ u2) | exact (hold.out _ (u2.trans' u3)), ?_⟩ | skip)))
              refine wpE_nil ?_
              gi_wp2_with (first | refine (⟨trivial, rfl, ?_⟩ : Fence.wide.fn _ ∧ Fence.wide.depth = none ∧ _) | refine (⟨trivial, ?_⟩ : Fence.wide.fn _ ∧ _))
              go_ret
              exact ⟨⟨_, rfl, hkn.out⟩, hbT.out.trans' (u2.trans' u3)⟩
          · have hC' : 0 ≤ cc := by omega
            have hkn := Lib.hid (hno fun hh => hC (hh.2 hk0))
            clear hno hyes
            gi_wp2
            refine wpIn_eager [(0, true), (1, true), (2, false), (3, true), (4, true), (5, true), (6, true), (7, true), (8, true), (9, true), (10, true), (11, true), (12, true), (13, true), (14, true), (15, true), (16, false), (17, true), (18, true), (19, true), (20, true), (21, true), (22, true), (23, true), (24, true), (25, true), (26, true), (27, true), (28, true), (29, true), (30, true), (31, true), (32, true), (33, true), (34, true), (35, true), (36, true), (37, true), (38, true), (39, true), (40, true), (41, true)] (fun V => (V.cell? ⟨wr.heap.size, 0, none⟩ = some (.string nm) ∧ V.cell? ⟨wr.heap.size, 1, none⟩ = some (.int .i64 fl) ∧ V.cell? ⟨wr.heap.size, 2, none⟩ = some (.slice A5 sl c5)) ∧ V.cell? ⟨g, o + j * 3, none⟩ = some (.string p)) (by kernel_rfl) (by kernel_rfl) (hold.out _ (Upd.refl _ _)) ?_
            repeat (first | (refine wpE_fl rfl rfl (fun _ _ => rfl) ?_; go_simp) | (refine wpE_sk rfl rfl ?_; go_simp) | (refine wpE_fl (v := ?_) rfl rfl ?_ ?_; rotate_left; (intro W' h'; (try dsimp only at h'); go_simp; exact rfl); go_simp) | (refine wpE_ef rfl ?_; go_simp; gi_wp2_with (first | refine (⟨trivial, rfl, ?_⟩ : Fence.wide.fn _ ∧ Fence.wide.depth = none ∧ _) | refine (⟨trivial, trivial, rfl, ?_⟩ : Fence.wide.fn _ ∧ Fence.wide.fn _ ∧ Fence.wide.depth = none ∧ _) | (gi_at_call 9; (with_reducible refine kW.out.mono ?_); rintro e V2 ⟨rfl, u2⟩; (skip)) | (gi_at_call 35; (with_reducible refine (kT.out _).mono ?_); rintro e V3 ⟨rfl, u3⟩; (skip)) | refine (⟨trivial, ?_⟩ : Fence.wide.fn _ ∧ _)); (first | refine ⟨by first | exact (hold.out _ (Upd.refl _ _)) | exact (hold.out _ u2) | exact (hold.out _ (u2.trans' u3)), ?_⟩ | skip)) | (refine wpE_ef rfl ?_; go_simp; gi_wp2_with ((with_reducible refine listSkipV ?_ ?_ ?_); rfl; rfl); (first | refine ⟨by first | exact (hold.out _ (Upd.refl _ _)) | exact (hold.out _ u2) | exact (hold.out _ (u2.trans' u3)), ?_⟩ | skip)))
            refine wpE_nil ?_
            gi_wp2_with (first | refine (⟨trivial, rfl, ?_⟩ : Fence.wide.fn _ ∧ Fence.wide.depth = none ∧ _) | refine (⟨trivial, ?_⟩ : Fence.wide.fn _ ∧ _))
            go_ret
            exact ⟨⟨_, rfl, hkn.out⟩, hbT.out.trans' (u2.trans' u3)⟩
        · clear hwj
          have kT := Lib.hid kT0
          clear kT0
          by_cases hf0 : 0 ≤ fl
          · have ef0 : (fl < 0) = False := eq_false (by omega)
            by_cases hf1 : fl ≤ 1099511627776
            · have ef1 : (1099511627776 < fl) = False := eq_false (by omega)
              by_cases hn1 : 1 ≤ sl
              · have en1 : ((sl : Int) < 1) = False := eq_false (by omega)
                by_cases hn2 : sl ≤ 32
                · have hpar : (wordP nm ∧ (0 ≤ fl ∧ fl ≤ mxT) ∧ (1 ≤ sl ∧ sl ≤ 32)) := ⟨hW, ⟨hf0, hf1⟩, hn1, hn2⟩
                  skip
                  have en2 : ((32 : Int) < (sl : Int)) = False := eq_false (by omega)
                  have hyes2 := Lib.hid fun (hN : numsP s fl) => hyes ⟨⟨hW, ⟨hf0, hf1⟩, ⟨hn1, hn2⟩, hN⟩, fun h => absurd h hk0⟩
                  have hno2 := Lib.hid fun (hN : ¬ numsP s fl) => hno fun hh => hN hh.1.2.2.2
                  clear hno hyes hpar
                  gi_wp2
                  refine wpIn_eager [(0, true), (1, true), (2, false), (3, true), (4, true), (5, true), (6, true), (7, true), (8, true), (9, true), (10, true), (11, true), (12, true), (13, true), (14, true), (15, true), (16, false), (17, true), (18, true), (19, true), (20, true), (21, true), (22, true), (23, true), (24, true), (25, true), (26, true), (27, true), (28, true), (29, true), (30, true), (31, true), (32, true), (33, true), (34, true), (35, true), (36, true), (37, true), (38, true), (39, true), (40, true), (41, true)] (fun V => (V.cell? ⟨wr.heap.size, 0, none⟩ = some (.string nm) ∧ V.cell? ⟨wr.heap.size, 1, none⟩ = some (.int .i64 fl) ∧ V.cell? ⟨wr.heap.size, 2, none⟩ = some (.slice A5 sl c5)) ∧ V.cell? ⟨g, o + j * 3, none⟩ = some (.string p)) (by kernel_rfl) (by kernel_rfl) (hold.out _ (Upd.refl _ _)) ?_
                  repeat (first | (refine wpE_fl rfl rfl (fun _ _ => rfl) ?_; go_simp) | (refine wpE_sk rfl rfl ?_; go_simp) | (refine wpE_fl (v := ?_) rfl rfl ?_ ?_; rotate_left; (intro W' h'; (try dsimp only at h'); go_simp; exact rfl); go_simp) | (refine wpE_ef rfl ?_; go_simp; gi_wp2_with (first | refine (⟨trivial, rfl, ?_⟩ : Fence.wide.fn _ ∧ Fence.wide.depth = none ∧ _) | refine (⟨trivial, trivial, rfl, ?_⟩ : Fence.wide.fn _ ∧ Fence.wide.fn _ ∧ Fence.wide.depth = none ∧ _) | (gi_at_call 9; (with_reducible refine kW.out.mono ?_); rintro e V2 ⟨rfl, u2⟩; (skip)) | (gi_at_call 35; (with_reducible refine (kT.out _).mono ?_); rintro e V3 ⟨rfl, u3⟩; (skip)) | refine (⟨trivial, ?_⟩ : Fence.wide.fn _ ∧ _)); (first | refine ⟨by first | exact (hold.out _ (Upd.refl _ _)) | exact (hold.out _ u2) | exact (hold.out _ (u2.trans' u3)), ?_⟩ | skip)) | (refine wpE_ef rfl ?_; go_simp; gi_wp2_with ((with_reducible refine listSkipV ?_ ?_ ?_); rfl; rfl); (first | refine ⟨by first | exact (hold.out _ (Upd.refl _ _)) | exact (hold.out _ u2) | exact (hold.out _ (u2.trans' u3)), ?_⟩ | skip)))
                  refine wpE_nil ?_
                  have hU := Lib.hid (u2)
                  have hUW := Lib.hid (hbT.out.trans' (u2))
                  obtain ⟨⟨z0, z1, z2⟩, _⟩ := hold.out _ hU.out
                  clear kW kT
                  gi_wp2
                  gi_loopw [61] (fun i wr2 => ∃ jj : Nat, i = .int .i64 jj ∧ jj ≤ s.length ∧ Hid (numsTo s fl jj) ∧ Upd (fun _ => False) (wr.alloc (.cells #[.string nm, .int .i64 fl, .slice A5 sl c5] 47)).drew wr2) (fun i _ => s.length - (intOf i).toNat)
                  case atStart => exact ⟨0, rfl, Nat.zero_le _, Lib.hid fun i h hi => by omega, hU.out⟩
                  case round =>
                    obtain ⟨jj, rfl, hjj, hT3, hu2⟩ := hrel
                    obtain ⟨⟨_, y1, y2⟩, _⟩ := hold.out _ hu2
                    have hu3 := Lib.hid (hbT.out.trans' hu2)
                    replace hu2 := Lib.hid hu2
                    by_cases hj2 : jj < s.length
                    · have hj2' : jj < sl := by omega
                      obtain ⟨g5, o5, rfl, n1⟩ := reads_at (hnV.out _ hu3.out) (by rw [intsV_len]; omega)
                      have e1 := n1 jj _ (intsV_get s jj hj2)
                      have hw6 : IntKind.i64.wrap ((jj : Int) + 1) = (jj : Int) + 1 := Go.IntWalk.i64_in _ ⟨by omega, by omega⟩
                      obtain ⟨jp, hjp⟩ : ∃ jp, jj - 1 = jp := ⟨_, rfl⟩
                      have hjpl : jp < s.length := by omega
                      have e2 := n1 jp _ (intsV_get s jp hjpl)
                      have hwj2 : 0 < jj → IntKind.i64.wrap ((jj : Int) - 1) = (jp : Int) := fun h => by rw [Go.IntWalk.i64_in _ ⟨by omega, by omega⟩]; omega
                      have hno3 := fun hn : ¬ numOk s fl jj hj2 => hno2.out fun hN => hn (hN jj hj2)
                      have hyes3 := nums_succ hT3.out hj2
                      unfold numOk at hno3 hyes3
                      obtain ⟨pq, hpq⟩ : ∃ pq, s[jp] = pq := ⟨_, rfl⟩
                      have hpe2 : ∀ h : jj - 1 < s.length, s[jj - 1] = pq := fun h => by simp only [hjp]; exact hpq
                      simp only [hpe2] at hno3 hyes3
                      rw [hpq] at e2
                      clear hpq hpe2 n1 hT3
                      generalize s[jj] = q at *
                      replace hno3 := Lib.hid hno3
                      replace hyes3 := Lib.hid hyes3
                      by_cases h1 : fl < q
                      · by_cases h2 : q ≤ 1099511627776
                        · by_cases hj0 : 0 < jj
                          · have hwj2 := hwj2 hj0
                            by_cases h3 : pq < q
                            · skip
                              gi_wp2_with (first | refine (⟨trivial, rfl, ?_⟩ : Fence.wide.fn _ ∧ Fence.wide.depth = none ∧ _) | refine (⟨trivial, ?_⟩ : Fence.wide.fn _ ∧ _))
                              exact ⟨⟨jj + 1, by go_num, by omega, Lib.hid (hyes3.out ⟨h1, h2, fun _ => h3⟩), hu2.out⟩, by simp [intOf]; omega⟩
                            · skip
                              gi_wp2_with (first | refine (⟨trivial, rfl, ?_⟩ : Fence.wide.fn _ ∧ Fence.wide.depth = none ∧ _) | refine (⟨trivial, ?_⟩ : Fence.wide.fn _ ∧ _))
                              go_ret
                              exact ⟨⟨_, rfl, hno3.out fun hh => by have := hh.2.2 hj0; omega⟩, hu3.out⟩
                          · clear hwj2
                            gi_wp2_with (first | refine (⟨trivial, rfl, ?_⟩ : Fence.wide.fn _ ∧ Fence.wide.depth = none ∧ _) | refine (⟨trivial, ?_⟩ : Fence.wide.fn _ ∧ _))
                            exact ⟨⟨jj + 1, by go_num, by omega, Lib.hid (hyes3.out ⟨h1, h2, fun h => absurd h hj0⟩), hu2.out⟩, by simp [intOf]; omega⟩
                        · clear hwj2
                          gi_wp2_with (first | refine (⟨trivial, rfl, ?_⟩ : Fence.wide.fn _ ∧ Fence.wide.depth = none ∧ _) | refine (⟨trivial, ?_⟩ : Fence.wide.fn _ ∧ _))
                          go_ret
                          exact ⟨⟨_, rfl, hno3.out fun hh => by have := hh.2.1; simp only [mxT] at this; omega⟩, hu3.out⟩
                      · clear hwj2
                        gi_wp2_with (first | refine (⟨trivial, rfl, ?_⟩ : Fence.wide.fn _ ∧ Fence.wide.depth = none ∧ _) | refine (⟨trivial, ?_⟩ : Fence.wide.fn _ ∧ _))
                        go_ret
                        exact ⟨⟨_, rfl, hno3.out fun hh => by have := hh.1; omega⟩, hu3.out⟩
                    · obtain rfl : jj = s.length := by omega
                      have hT2 := Lib.hid (hyes2.out fun i h => hT3.out i h h)
                      clear hT3
                      have hj9 : ¬ (s.length : Int) < sl := by omega
                      gi_wp2_with (first | refine (⟨trivial, rfl, ?_⟩ : Fence.wide.fn _ ∧ Fence.wide.depth = none ∧ _) | refine (⟨trivial, ?_⟩ : Fence.wide.fn _ ∧ _))
                      exact ⟨⟨k + 1, by go_num, by omega, hT2, hu3.out⟩, by simp [intOf]; omega⟩
                · have hx : 32 < sl := by omega
                  have hxi : (32 : Int) < (sl : Int) := by omega
                  have hkn := Lib.hid (hno fun hh => by have := hh.1.2.2.1.2; omega)
                  clear hno hyes
                  gi_wp2
                  refine wpIn_eager [(0, true), (1, true), (2, false), (3, true), (4, true), (5, true), (6, true), (7, true), (8, true), (9, true), (10, true), (11, true), (12, true), (13, true), (14, true), (15, true), (16, false), (17, true), (18, true), (19, true), (20, true), (21, true), (22, true), (23, true), (24, true), (25, true), (26, true), (27, true), (28, true), (29, true), (30, true), (31, true), (32, true), (33, true), (34, true), (35, true), (36, true), (37, true), (38, true), (39, true), (40, true), (41, true)] (fun V => (V.cell? ⟨wr.heap.size, 0, none⟩ = some (.string nm) ∧ V.cell? ⟨wr.heap.size, 1, none⟩ = some (.int .i64 fl) ∧ V.cell? ⟨wr.heap.size, 2, none⟩ = some (.slice A5 sl c5)) ∧ V.cell? ⟨g, o + j * 3, none⟩ = some (.string p)) (by kernel_rfl) (by kernel_rfl) (hold.out _ (Upd.refl _ _)) ?_
                  repeat (first | (refine wpE_fl rfl rfl (fun _ _ => rfl) ?_; go_simp) | (refine wpE_sk rfl rfl ?_; go_simp) | (refine wpE_fl (v := ?_) rfl rfl ?_ ?_; rotate_left; (intro W' h'; (try dsimp only at h'); go_simp; exact rfl); go_simp) | (refine wpE_ef rfl ?_; go_simp; gi_wp2_with (first | refine (⟨trivial, rfl, ?_⟩ : Fence.wide.fn _ ∧ Fence.wide.depth = none ∧ _) | refine (⟨trivial, trivial, rfl, ?_⟩ : Fence.wide.fn _ ∧ Fence.wide.fn _ ∧ Fence.wide.depth = none ∧ _) | (gi_at_call 9; (with_reducible refine kW.out.mono ?_); rintro e V2 ⟨rfl, u2⟩; (skip)) | (gi_at_call 35; (with_reducible refine (kT.out _).mono ?_); rintro e V3 ⟨rfl, u3⟩; (skip)) | refine (⟨trivial, ?_⟩ : Fence.wide.fn _ ∧ _)); (first | refine ⟨by first | exact (hold.out _ (Upd.refl _ _)) | exact (hold.out _ u2) | exact (hold.out _ (u2.trans' u3)), ?_⟩ | skip)) | (refine wpE_ef rfl ?_; go_simp; gi_wp2_with ((with_reducible refine listSkipV ?_ ?_ ?_); rfl; rfl); (first | refine ⟨by first | exact (hold.out _ (Upd.refl _ _)) | exact (hold.out _ u2) | exact (hold.out _ (u2.trans' u3)), ?_⟩ | skip)))
                  refine wpE_nil ?_
                  gi_wp2_with (first | refine (⟨trivial, rfl, ?_⟩ : Fence.wide.fn _ ∧ Fence.wide.depth = none ∧ _) | refine (⟨trivial, ?_⟩ : Fence.wide.fn _ ∧ _))
                  go_ret
                  exact ⟨⟨_, rfl, hkn.out⟩, hbT.out.trans' (u2)⟩
              · have hx : sl < 1 := by omega
                have hxi : (sl : Int) < 1 := by omega
                have hkn := Lib.hid (hno fun hh => by have := hh.1.2.2.1.1; omega)
                clear hno hyes
                gi_wp2
                refine wpIn_eager [(0, true), (1, true), (2, false), (3, true), (4, true), (5, true), (6, true), (7, true), (8, true), (9, true), (10, true), (11, true), (12, true), (13, true), (14, true), (15, true), (16, false), (17, true), (18, true), (19, true), (20, true), (21, true), (22, true), (23, true), (24, true), (25, true), (26, true), (27, true), (28, true), (29, true), (30, true), (31, true), (32, true), (33, true), (34, true), (35, true), (36, true), (37, true), (38, true), (39, true), (40, true), (41, true)] (fun V => (V.cell? ⟨wr.heap.size, 0, none⟩ = some (.string nm) ∧ V.cell? ⟨wr.heap.size, 1, none⟩ = some (.int .i64 fl) ∧ V.cell? ⟨wr.heap.size, 2, none⟩ = some (.slice A5 sl c5)) ∧ V.cell? ⟨g, o + j * 3, none⟩ = some (.string p)) (by kernel_rfl) (by kernel_rfl) (hold.out _ (Upd.refl _ _)) ?_
                repeat (first | (refine wpE_fl rfl rfl (fun _ _ => rfl) ?_; go_simp) | (refine wpE_sk rfl rfl ?_; go_simp) | (refine wpE_fl (v := ?_) rfl rfl ?_ ?_; rotate_left; (intro W' h'; (try dsimp only at h'); go_simp; exact rfl); go_simp) | (refine wpE_ef rfl ?_; go_simp; gi_wp2_with (first | refine (⟨trivial, rfl, ?_⟩ : Fence.wide.fn _ ∧ Fence.wide.depth = none ∧ _) | refine (⟨trivial, trivial, rfl, ?_⟩ : Fence.wide.fn _ ∧ Fence.wide.fn _ ∧ Fence.wide.depth = none ∧ _) | (gi_at_call 9; (with_reducible refine kW.out.mono ?_); rintro e V2 ⟨rfl, u2⟩; (skip)) | (gi_at_call 35; (with_reducible refine (kT.out _).mono ?_); rintro e V3 ⟨rfl, u3⟩; (skip)) | refine (⟨trivial, ?_⟩ : Fence.wide.fn _ ∧ _)); (first | refine ⟨by first | exact (hold.out _ (Upd.refl _ _)) | exact (hold.out _ u2) | exact (hold.out _ (u2.trans' u3)), ?_⟩ | skip)) | (refine wpE_ef rfl ?_; go_simp; gi_wp2_with ((with_reducible refine listSkipV ?_ ?_ ?_); rfl; rfl); (first | refine ⟨by first | exact (hold.out _ (Upd.refl _ _)) | exact (hold.out _ u2) | exact (hold.out _ (u2.trans' u3)), ?_⟩ | skip)))
                refine wpE_nil ?_
                gi_wp2_with (first | refine (⟨trivial, rfl, ?_⟩ : Fence.wide.fn _ ∧ Fence.wide.depth = none ∧ _) | refine (⟨trivial, ?_⟩ : Fence.wide.fn _ ∧ _))
                go_ret
                exact ⟨⟨_, rfl, hkn.out⟩, hbT.out.trans' (u2)⟩
            · have hx : 1099511627776 < fl := by omega
              have hkn := Lib.hid (hno fun hh => by have := hh.1.2.1.2; simp only [mxT] at this; omega)
              clear hno hyes
              gi_wp2
              refine wpIn_eager [(0, true), (1, true), (2, false), (3, true), (4, true), (5, true), (6, true), (7, true), (8, true), (9, true), (10, true), (11, true), (12, true), (13, true), (14, true), (15, true), (16, false), (17, true), (18, true), (19, true), (20, true), (21, true), (22, true), (23, true), (24, true), (25, true), (26, true), (27, true), (28, true), (29, true), (30, true), (31, true), (32, true), (33, true), (34, true), (35, true), (36, true), (37, true), (38, true), (39, true), (40, true), (41, true)] (fun V => (V.cell? ⟨wr.heap.size, 0, none⟩ = some (.string nm) ∧ V.cell? ⟨wr.heap.size, 1, none⟩ = some (.int .i64 fl) ∧ V.cell? ⟨wr.heap.size, 2, none⟩ = some (.slice A5 sl c5)) ∧ V.cell? ⟨g, o + j * 3, none⟩ = some (.string p)) (by kernel_rfl) (by kernel_rfl) (hold.out _ (Upd.refl _ _)) ?_
              repeat (first | (refine wpE_fl rfl rfl (fun _ _ => rfl) ?_; go_simp) | (refine wpE_sk rfl rfl ?_; go_simp) | (refine wpE_fl (v := ?_) rfl rfl ?_ ?_; rotate_left; (intro W' h'; (try dsimp only at h'); go_simp; exact rfl); go_simp) | (refine wpE_ef rfl ?_; go_simp; gi_wp2_with (first | refine (⟨trivial, rfl, ?_⟩ : Fence.wide.fn _ ∧ Fence.wide.depth = none ∧ _) | refine (⟨trivial, trivial, rfl, ?_⟩ : Fence.wide.fn _ ∧ Fence.wide.fn _ ∧ Fence.wide.depth = none ∧ _) | (gi_at_call 9; (with_reducible refine kW.out.mono ?_); rintro e V2 ⟨rfl, u2⟩; (skip)) | (gi_at_call 35; (with_reducible refine (kT.out _).mono ?_); rintro e V3 ⟨rfl, u3⟩; (skip)) | refine (⟨trivial, ?_⟩ : Fence.wide.fn _ ∧ _)); (first | refine ⟨by first | exact (hold.out _ (Upd.refl _ _)) | exact (hold.out _ u2) | exact (hold.out _ (u2.trans' u3)), ?_⟩ | skip)) | (refine wpE_ef rfl ?_; go_simp; gi_wp2_with ((with_reducible refine listSkipV ?_ ?_ ?_); rfl; rfl); (first | refine ⟨by first | exact (hold.out _ (Upd.refl _ _)) | exact (hold.out _ u2) | exact (hold.out _ (u2.trans' u3)), ?_⟩ | skip)))
              refine wpE_nil ?_
              gi_wp2_with (first | refine (⟨trivial, rfl, ?_⟩ : Fence.wide.fn _ ∧ Fence.wide.depth = none ∧ _) | refine (⟨trivial, ?_⟩ : Fence.wide.fn _ ∧ _))
              go_ret
              exact ⟨⟨_, rfl, hkn.out⟩, hbT.out.trans' (u2)⟩
          · have hx : fl < 0 := by omega
            have hkn := Lib.hid (hno fun hh => by have := hh.1.2.1.1; omega)
            clear hno hyes
            gi_wp2
            refine wpIn_eager [(0, true), (1, true), (2, false), (3, true), (4, true), (5, true), (6, true), (7, true), (8, true), (9, true), (10, true), (11, true), (12, true), (13, true), (14, true), (15, true), (16, false), (17, true), (18, true), (19, true), (20, true), (21, true), (22, true), (23, true), (24, true), (25, true), (26, true), (27, true), (28, true), (29, true), (30, true), (31, true), (32, true), (33, true), (34, true), (35, true), (36, true), (37, true), (38, true), (39, true), (40, true), (41, true)] (fun V => (V.cell? ⟨wr.heap.size, 0, none⟩ = some (.string nm) ∧ V.cell? ⟨wr.heap.size, 1, none⟩ = some (.int .i64 fl) ∧ V.cell? ⟨wr.heap.size, 2, none⟩ = some (.slice A5 sl c5)) ∧ V.cell? ⟨g, o + j * 3, none⟩ = some (.string p)) (by kernel_rfl) (by kernel_rfl) (hold.out _ (Upd.refl _ _)) ?_
            repeat (first | (refine wpE_fl rfl rfl (fun _ _ => rfl) ?_; go_simp) | (refine wpE_sk rfl rfl ?_; go_simp) | (refine wpE_fl (v := ?_) rfl rfl ?_ ?_; rotate_left; (intro W' h'; (try dsimp only at h'); go_simp; exact rfl); go_simp) | (refine wpE_ef rfl ?_; go_simp; gi_wp2_with (first | refine (⟨trivial, rfl, ?_⟩ : Fence.wide.fn _ ∧ Fence.wide.depth = none ∧ _) | refine (⟨trivial, trivial, rfl, ?_⟩ : Fence.wide.fn _ ∧ Fence.wide.fn _ ∧ Fence.wide.depth = none ∧ _) | (gi_at_call 9; (with_reducible refine kW.out.mono ?_); rintro e V2 ⟨rfl, u2⟩; (skip)) | (gi_at_call 35; (with_reducible refine (kT.out _).mono ?_); rintro e V3 ⟨rfl, u3⟩; (skip)) | refine (⟨trivial, ?_⟩ : Fence.wide.fn _ ∧ _)); (first | refine ⟨by first | exact (hold.out _ (Upd.refl _ _)) | exact (hold.out _ u2) | exact (hold.out _ (u2.trans' u3)), ?_⟩ | skip)) | (refine wpE_ef rfl ?_; go_simp; gi_wp2_with ((with_reducible refine listSkipV ?_ ?_ ?_); rfl; rfl); (first | refine ⟨by first | exact (hold.out _ (Upd.refl _ _)) | exact (hold.out _ u2) | exact (hold.out _ (u2.trans' u3)), ?_⟩ | skip)))
            refine wpE_nil ?_
            gi_wp2_with (first | refine (⟨trivial, rfl, ?_⟩ : Fence.wide.fn _ ∧ Fence.wide.depth = none ∧ _) | refine (⟨trivial, ?_⟩ : Fence.wide.fn _ ∧ _))
            go_ret
            exact ⟨⟨_, rfl, hkn.out⟩, hbT.out.trans' (u2)⟩
      · have kW := Lib.hid (kW0.mono (R' := fun e W2 => e = .returned (.bool false) ∧ Upd (fun _ => False) (wr.alloc (.cells #[.string nm, .int .i64 fl, .slice A5 sl c5] 47)).drew W2) (by rintro e W2 ⟨h, u⟩; exact ⟨boolP h (by simp [hW]), u⟩))
        clear kW0
        have kT := Lib.hid kT0
        clear kT0
        have hkn := Lib.hid (hno fun hh => hW hh.1.1)
        clear hno hyes
        gi_wp2
        refine wpIn_eager [(0, true), (1, true), (2, false), (3, true), (4, true), (5, true), (6, true), (7, true), (8, true), (9, true), (10, true), (11, true), (12, true), (13, true), (14, true), (15, true), (16, false), (17, true), (18, true), (19, true), (20, true), (21, true), (22, true), (23, true), (24, true), (25, true), (26, true), (27, true), (28, true), (29, true), (30, true), (31, true), (32, true), (33, true), (34, true), (35, true), (36, true), (37, true), (38, true), (39, true), (40, true), (41, true)] (fun V => (V.cell? ⟨wr.heap.size, 0, none⟩ = some (.string nm) ∧ V.cell? ⟨wr.heap.size, 1, none⟩ = some (.int .i64 fl) ∧ V.cell? ⟨wr.heap.size, 2, none⟩ = some (.slice A5 sl c5)) ∧ V.cell? ⟨g, o + j * 3, none⟩ = some (.string p)) (by kernel_rfl) (by kernel_rfl) (hold.out _ (Upd.refl _ _)) ?_
        repeat (first | (refine wpE_fl rfl rfl (fun _ _ => rfl) ?_; go_simp) | (refine wpE_sk rfl rfl ?_; go_simp) | (refine wpE_fl (v := ?_) rfl rfl ?_ ?_; rotate_left; (intro W' h'; (try dsimp only at h'); go_simp; exact rfl); go_simp) | (refine wpE_ef rfl ?_; go_simp; gi_wp2_with (first | refine (⟨trivial, rfl, ?_⟩ : Fence.wide.fn _ ∧ Fence.wide.depth = none ∧ _) | refine (⟨trivial, trivial, rfl, ?_⟩ : Fence.wide.fn _ ∧ Fence.wide.fn _ ∧ Fence.wide.depth = none ∧ _) | (gi_at_call 9; (with_reducible refine kW.out.mono ?_); rintro e V2 ⟨rfl, u2⟩; (skip)) | (gi_at_call 35; (with_reducible refine (kT.out _).mono ?_); rintro e V3 ⟨rfl, u3⟩; (skip)) | refine (⟨trivial, ?_⟩ : Fence.wide.fn _ ∧ _)); (first | refine ⟨by first | exact (hold.out _ (Upd.refl _ _)) | exact (hold.out _ u2) | exact (hold.out _ (u2.trans' u3)), ?_⟩ | skip)) | (refine wpE_ef rfl ?_; go_simp; gi_wp2_with ((with_reducible refine listSkipV ?_ ?_ ?_); rfl; rfl); (first | refine ⟨by first | exact (hold.out _ (Upd.refl _ _)) | exact (hold.out _ u2) | exact (hold.out _ (u2.trans' u3)), ?_⟩ | skip)))
        refine wpE_nil ?_
        gi_wp2_with (first | refine (⟨trivial, rfl, ?_⟩ : Fence.wide.fn _ ∧ Fence.wide.depth = none ∧ _) | refine (⟨trivial, ?_⟩ : Fence.wide.fn _ ∧ _))
        go_ret
        exact ⟨⟨_, rfl, hkn.out⟩, hbT.out.trans' (u2)⟩
    · obtain rfl : k = rs.length := by omega
      have hall : ∀ i (h : i < rs.length), rowR rs i h := fun i h => hT.out i h h
      replace hub := Lib.hid hub
      clear hT
      by_cases h8 : rs.length ≤ 8
      · skip
        gi_wp2_with (first | refine (⟨trivial, rfl, ?_⟩ : Fence.wide.fn _ ∧ Fence.wide.depth = none ∧ _) | refine (⟨trivial, ?_⟩ : Fence.wide.fn _ ∧ _))
        go_ret
        exact ⟨⟨_, rfl, ⟨fun _ => ⟨hall, h8⟩, fun _ => by simp; omega⟩⟩, hub.out⟩
      · skip
        gi_wp2_with (first | refine (⟨trivial, rfl, ?_⟩ : Fence.wide.fn _ ∧ Fence.wide.depth = none ∧ _) | refine (⟨trivial, ?_⟩ : Fence.wide.fn _ ∧ _))
        go_ret
        exact ⟨⟨_, rfl, ⟨fun h => by simp at h; omega, fun h => absurd h.2 h8⟩⟩, hub.out⟩
end
end Go.Proofs.Ytgleiajmdbekiaa

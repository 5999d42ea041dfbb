/- RackHigh: however many rising, or falling, keys are put, and however many of them dropped, the tree isn't too high. -/
import Derived.Test.YtaenkjeaadmgeaaProg
import Derived.Test.YtaenkjeaadmgeaaBase
import Derived.Test.YtaenkjeaadmgeaaRkH
namespace Go.Proofs.Ytaenkjeaadmgeaa
open Go.RowKit Go.Shelf
attribute [local go_sem] Oper.semAt_some

set_option maxRecDepth 100000 in
set_option maxHeartbeats 2000000 in
theorem rackHigh_law {n : Nat} {w : World} {m ev : Nat} {fall : Bool} (hm : m < 256) (hev : ev < 256) :
    CallsIn Fence.wide n Try.prog 4 #[.int .u8 m, .bool fall, .int .u8 ev] w fun e w' => e = .returned (.bool true) ∧ Upd (fun _ => False) w w' := by
  refine callsIn_any (n := 0) (callsIn_of_wp Try.func4 rfl trivial ?_)
  simp only [Try.ntmps4, List.size_toArray, List.length_cons, List.length_nil, Nat.reduceAdd, Nat.reduceSub, Array.replicate_succ, Array.replicate_zero, List.push_toArray, List.append_toArray, List.nil_append, List.cons_append]
  have hm0 : IntKind.i64.wrap (m : Int) = (m : Int) := Go.IntWalk.i64_in _ ⟨by omega, by omega⟩
  obtain ⟨st, hst⟩ : ∃ st, st = 2 + ev % 7 := ⟨_, rfl⟩
  obtain ⟨er, her⟩ : ∃ er, er = ev % 7 := ⟨_, rfl⟩
  have he1 : (ev : Int).tmod 7 = (er : Int) := by rw [Int.tmod_eq_emod_of_nonneg (by omega)]; omega
  have he2 : (ev : Int) % 7 = (er : Int) := by omega
  have he3 : IntKind.u8.wrap (er : Int) = (er : Int) := by simp [IntKind.wrap, IntKind.bits, IntKind.signed]; omega
  have he4 : IntKind.i64.wrap (er : Int) = (er : Int) := Go.IntWalk.i64_in _ ⟨by omega, by omega⟩
  have he5 : IntKind.i64.wrap (2 + (er : Int)) = (st : Int) := (Go.IntWalk.i64_in _ ⟨by omega, by omega⟩).trans (by omega)
  have hs2 : 2 ≤ st ∧ st ≤ 8 := by omega
  clear hst her
  gi_wp2_with (first | refine (⟨trivial, rfl, ?_⟩ : Fence.wide.fn _ ∧ Fence.wide.depth = none ∧ _) | (gi_at_call 15; refine (rackNewII (c := cmpI)).mono ?_; rintro e W1 ⟨rfl, ra, ua⟩; (replace ra := Lib.hid ra); (replace ua := Lib.hid ua)) | (gi_at_call 9; refine awake05.mono ?_; rintro e W2 ⟨rfl, uw⟩; (replace uw := Lib.hid uw)))
  have h0 : Hi fall w (fun j => j < 0) 0 W2 := ⟨.nil, [], ra.out.upd uw.out fun _ _ => id, fun _ h => h.elim, rfl, by omega, fun x => by simp [hadL], ua.out.trans' uw.out⟩
  clear ra ua uw
  gi_loopw [24] (fun i wr => ∃ k : Nat, i = .int .i64 k ∧ k ≤ m ∧ Hi fall w (fun j => j < k) k wr) (fun i _ => m - (intOf i).toNat)
  case atStart => exact ⟨0, rfl, Nat.zero_le _, h0⟩
  case round =>
    clear h0
    obtain ⟨k, rfl, hk, h⟩ := hrel
    by_cases hlt : k < m
    · have k1 := Lib.hid ((h.put (k := k) (v := k) (Nat.lt_irrefl k) (by omega)).mono (R' := fun e W2 => (∃ b, e = .returned (.bool b)) ∧ Hi fall w (fun j => j < k + 1) (k + 1) W2) (fun e W2 h => ⟨h.1, h.2.congr fun j => by omega⟩))
      clear h
      have hw5 : IntKind.i64.wrap ((k : Int) + 1) = (k : Int) + 1 := Go.IntWalk.i64_in _ ⟨by omega, by omega⟩
      have hw6 : IntKind.i64.wrap (-(k : Int)) = -(k : Int) := Go.IntWalk.i64_in _ ⟨by omega, by omega⟩
      cases fall
      all_goals
        simp only [hiKey, Bool.false_eq_true, if_false, if_true] at k1
        gi_wp2_with (first | refine (⟨trivial, rfl, ?_⟩ : Fence.wide.fn _ ∧ Fence.wide.depth = none ∧ _) | (gi_at_call 17; refine k1.out.mono ?_; rintro e W2 ⟨⟨b, rfl⟩, h2⟩; (replace h2 := Lib.hid h2)))
        exact ⟨⟨k + 1, by go_num, by omega, h2.out⟩, by simp [intOf]; omega⟩
    · obtain rfl : k = m := by omega
      clear hlt
      have hb : Hi fall w (fun j => j < k ∧ ¬ (j < st * 0 ∧ st ∣ j)) k wr := h.congr fun j => by omega
      clear h
      gi_wp2
      gi_loopw [10, 12] (fun u i wr => ∃ c q : Nat, u = .int .i64 q ∧ i = .int .i64 (st * c : Nat) ∧ st * c ≤ k + st ∧ Hi fall w (fun j => j < k ∧ ¬ (j < st * c ∧ st ∣ j)) q wr) (fun _ i _ => k + st - (intOf i).toNat)
      case atStart => exact ⟨0, k, rfl, by simp, by omega, hb⟩
      case round =>
        clear hb
        obtain ⟨c, q, rfl, rfl, hc, h⟩ := hrel
        have hq := h.le
        obtain ⟨i, hi⟩ : ∃ i, i = st * c := ⟨_, rfl⟩
        by_cases hlt : i < k
        · have hstep : st * (c + 1) = i + st := by rw [hi, Nat.mul_add, Nat.mul_one]
          have hp : i < k ∧ ¬ (i < st * c ∧ st ∣ i) := ⟨hlt, fun h => by omega⟩
          have k1 : CallsIn Fence.wide 0 Try.prog 18 #[.pointer (some ⟨w.heap.size, 0, none⟩), .int .i64 (hiKey fall i)] wr fun e W2 => e = .returned (.bool true) ∧ CallsIn Fence.wide 0 Try.prog 18 #[.pointer (some ⟨w.heap.size, 0, none⟩), .int .i64 (hiKey fall i)] W2 fun e W3 => e = .returned (.bool false) ∧
              (∃ q2 : Nat, (q : Int) - 1 = q2 ∧ q2 ≤ 255 ∧ Hi fall w (fun j => j < k ∧ ¬ (j < st * (c + 1) ∧ st ∣ j)) q2 W3 ∧ ∃ hh : Nat, hh ≤ 255 ∧ 2 * hh ≤ 3 * digN (q2 + 1) + 2 ∧ CallsIn Fence.wide 0 Try.prog 19 #[.pointer (some ⟨w.heap.size, 0, none⟩)] W3 fun e W4 => e = .returned (.int .i64 hh) ∧ W4 = W3) := by
            refine (h.drop (k := i)).mono ?_
            rintro e W2 ⟨b, rfl, hb, g1, g2⟩
            obtain rfl : b = true := hb.2 hp
            refine ⟨rfl, ?_⟩
            refine (g1.drop (k := i)).mono ?_
            rintro e W3 ⟨b, rfl, hb, g4, _⟩
            have hb' : b = false := by
              cases b with
              | false => rfl
              | true => exact absurd rfl (hb.1 rfl).2
            subst hb'
            have g5 : Hi fall w (fun j => j < k ∧ ¬ (j < st * (c + 1) ∧ st ∣ j)) (q - 1) W3 := by
              refine g4.congr fun j => ?_
              rw [hstep, ← hi]
              constructor
              · rintro ⟨⟨⟨h1, h2⟩, h3⟩, _⟩
                refine ⟨h1, fun ⟨h4, d, hd⟩ => h2 ⟨?_, d, hd⟩⟩
                by_cases hdc : d ≤ c
                · rcases Nat.lt_or_ge d c with hx | hx
                  · have := Nat.mul_lt_mul_of_pos_left (k := st) hx (by omega)
                    rw [← hi, ← hd] at this
                    exact this
                  · exfalso; apply h3; rw [hd, hi, show d = c by omega]
                · have := Nat.mul_le_mul_left st (show c + 1 ≤ d by omega)
                  rw [hstep, ← hd] at this
                  omega
              · rintro ⟨h1, h2⟩
                have hji : j ≠ i := by
                  rintro rfl
                  exact h2 ⟨by omega, c, hi⟩
                exact ⟨⟨⟨h1, fun ⟨h3, h4⟩ => h2 ⟨by omega, h4⟩⟩, hji⟩, hji⟩
            obtain ⟨hh, h1, h2, h3⟩ := g5.height
            have := g2 rfl
            exact ⟨rfl, q - 1, by omega, by omega, g5, hh, h1, h2, h3⟩
          replace k1 := Lib.hid k1
          clear h hp
          rw [← hi]
          have hw5 : IntKind.i64.wrap ((i : Int) + (st : Int)) = ((st * (c + 1) : Nat) : Int) := by rw [hstep]; exact (Go.IntWalk.i64_in _ ⟨by omega, by omega⟩).trans (by omega)
          have hw6 : IntKind.i64.wrap (-(i : Int)) = -(i : Int) := Go.IntWalk.i64_in _ ⟨by omega, by omega⟩
          have hc2 : st * (c + 1) ≤ k + st := by omega
          have hlt2 : (i : Int) < k := by omega
          obtain ⟨i2, hi2⟩ : ∃ i2, i2 = st * (c + 1) := ⟨_, rfl⟩
          have hmeas : k + st - i2 < k + st - i := by omega
          rw [← hi2] at hw5 hc2
          clear hstep hi hc hlt
          have hwq : ∀ q2 : Nat, q2 ≤ 255 → (q : Int) - 1 = q2 → IntKind.i64.wrap ((q : Int) - 1) = (q2 : Int) ∧ IntKind.i64.wrap ((q2 : Int) + 1) = (q2 : Int) + 1 := fun q2 h e => ⟨(Go.IntWalk.i64_in _ ⟨by omega, by omega⟩).trans e, Go.IntWalk.i64_in _ ⟨by omega, by omega⟩⟩
          have hwh : ∀ hh d : Nat, hh ≤ 255 → d ≤ 256 → 2 * hh ≤ 3 * d + 2 → IntKind.i64.wrap (2 * (hh : Int)) = 2 * (hh : Int) ∧ IntKind.i64.wrap (3 * (d : Int)) = 3 * (d : Int) ∧ IntKind.i64.wrap (3 * (d : Int) + 2) = 3 * (d : Int) + 2 ∧ ¬ (3 * (d : Int) + 2 < 2 * (hh : Int)) := fun hh d h1 h2 h3 =>
            ⟨Go.IntWalk.i64_in _ ⟨by omega, by omega⟩, Go.IntWalk.i64_in _ ⟨by omega, by omega⟩, Go.IntWalk.i64_in _ ⟨by omega, by omega⟩, by omega⟩
          replace hwq := Lib.hid hwq
          replace hwh := Lib.hid hwh
          replace hi2 := Lib.hid hi2
          cases fall
          all_goals
            simp only [hiKey, Bool.false_eq_true, if_false, if_true] at k1
            gi_wp2_with (first | refine (⟨trivial, rfl, ?_⟩ : Fence.wide.fn _ ∧ Fence.wide.depth = none ∧ _) | (gi_at_call 18; (with_reducible refine k1.out.mono ?_); rintro e W2 ⟨rfl, k2⟩; (replace k2 := Lib.hid k2)) |
              (gi_at_call 18; (with_reducible refine k2.out.mono ?_); rintro e W3 ⟨rfl, q2, hq2, hq3, g5, hh, hh1, hh2, k3⟩; obtain ⟨v1, v2⟩ := hwq.out q2 hq3 hq2; obtain ⟨v3, v4, v5, v6⟩ := hwh.out hh (digN (q2 + 1)) hh1 (by have := digN_le (q2 + 1); omega) hh2; have k4 := digits_c (n := 0) (m := q2 + 1) (w := W3) (by omega); (push_cast at k4); (replace k3 := Lib.hid k3); (replace k4 := Lib.hid k4); (replace g5 := Lib.hid g5); clear hq2 hq3 hh1 hh2) |
              (gi_at_call 19; (with_reducible refine k3.out.mono ?_); rintro e W4 ⟨rfl, rfl⟩) |
              (gi_at_call 20; (with_reducible refine k4.out.mono ?_); rintro e W5 ⟨rfl, rfl⟩))
            exact ⟨⟨c + 1, q2, by go_num, by rw [hi2.out], by rw [← hi2.out]; exact hc2, g5.out⟩, by simp [intOf]; omega⟩
        · have hall : Hi fall w (fun j => j < k ∧ ¬ (j < st * c ∧ st ∣ j)) q wr := h
          have k1 := Lib.hid h.len
          clear h hall
          have hlt2 : ¬ (i : Int) < k := by omega
          rw [← hi]
          clear hi hc hlt
          gi_wp2_with (first | refine (⟨trivial, rfl, ?_⟩ : Fence.wide.fn _ ∧ Fence.wide.depth = none ∧ _) | (gi_at_call 21; (with_reducible refine k1.out.mono ?_); rintro e W2 ⟨rfl, h2⟩; (replace h2 := Lib.hid h2)))
          go_ret
          exact ⟨by simp, h2.out⟩
end Go.Proofs.Ytaenkjeaadmgeaa

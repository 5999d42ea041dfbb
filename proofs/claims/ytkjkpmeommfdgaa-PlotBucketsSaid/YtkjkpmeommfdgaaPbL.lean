/- PlotBuckets answers true, whatever its input. -/
import Derived.Test.YtkjkpmeommfdgaaProg
import Derived.Test.YtkjkpmeommfdgaaBase
import Derived.Test.YtkjkpmeommfdgaaWvI
import Derived.Test.YtkjkpmeommfdgaaWvL
import Derived.Test.YtkjkpmeommfdgaaWvH
import Derived.Test.YtkjkpmeommfdgaaWvE
import Derived.Test.YtkjkpmeommfdgaaPbA
import Derived.Test.YtkjkpmeommfdgaaPbC
namespace Go.Proofs.Ytkjkpmeommfdgaa
open Go.RowKit Go.Shelf
attribute [local go_sem] Oper.semAt_some

theorem bump_sum : ∀ {out : List Int} {i : Nat}, i < out.length → (bump out i).sum = out.sum + 1
  | [], _, h => by simp at h
  | x :: out, 0, _ => by simp [bump]; omega
  | x :: out, i + 1, h => by
    have ih := bump_sum (out := out) (i := i) (by simpa using h)
    have e : bump (x :: out) (i + 1) = x :: bump out i := by simp [bump]
    rw [e, List.sum_cons, List.sum_cons, ih]
    omega
theorem bk_sum (bs : List Int) : ∀ (l : List Int) (out : List Int), out.length = bs.length + 1 → (l.foldl (fun out x => bump out (posOf bs x)) out).sum = out.sum + l.length
  | [], out, _ => by simp
  | x :: l, out, h => by
    rw [List.foldl_cons, bk_sum bs l _ (by rw [bump_len]; exact h), bump_sum (by have := posOf_le bs x; omega)]
    simp; omega
theorem bkOf_sum (bs l : List Int) : (bkOf bs l).sum = l.length := by
  rw [bkOf, bk_sum bs l _ (by simp)]
  simp
theorem sum_take {k : Nat} : ∀ {out : List Int} (_ : Within k out) (j : Nat), 0 ≤ (out.take j).sum ∧ (out.take j).sum ≤ (j : Int) * k
  | [], _, j => by
    simp
    exact Int.mul_nonneg (by omega) (by omega)
  | x :: out, _, 0 => by simp
  | x :: out, h, j + 1 => by
    have h0 := h 0 (by simp)
    simp at h0
    have ih := sum_take (out := out) (fun i hi => by have := h (i + 1) (by simpa using hi); simpa using this) j
    rw [List.take_succ_cons, List.sum_cons]
    have e : ((j + 1 : Nat) : Int) * k = (j : Int) * k + k := by rw [Int.natCast_succ, Int.add_mul, Int.one_mul]
    rw [e]
    omega

set_option maxRecDepth 100000 in
set_option maxHeartbeats 2000000 in
open Classical in
theorem plotBuckets_c {n : Nat} {A B : Option Addr} {cap cap2 : Nat} {xs ys : List Int} {w : World} (hr : Reads1 w A (xs.map (Value.int .i64))) (hr2 : Reads1 w B (ys.map (Value.int .i64))) :
    CallsIn Fence.wide n Try.prog 9 #[.slice A xs.length cap, .slice B ys.length cap2] w fun e w' => e = .returned (.bool true) ∧ Below w.heap.size w w' := by
  refine callsIn_any (n := 0) (callsIn_of_wp Try.func9 rfl trivial ?_)
  simp only [Try.ntmps9, List.size_toArray, List.length_cons, List.length_nil, Nat.reduceAdd, Nat.reduceSub, Array.replicate_succ, Array.replicate_zero, List.push_toArray, List.append_toArray, List.nil_append, List.cons_append]
  have hM : (1000 : Nat) ≤ maxLen := by decide
  have hu0 := Upd.refl (fun _ => False) w
  by_cases hf : xs.length ≤ 80 ∧ ys.length ≤ 100
  · obtain ⟨hf1, hf2⟩ := hf
    by_cases hg : Rises xs ∧ xs.length ≤ 50
    · have hd : decide (Rises xs ∧ xs.length ≤ 50) = true := decide_eq_true hg
      replace hg := Lib.hid hg
      gi_wp2_with (first | refine (⟨trivial, rfl, ?_⟩ : Fence.wide.fn _ ∧ Fence.wide.depth = none ∧ _) | (gi_at_call 48; refine awake30_c.mono ?_; rintro e w1 ⟨rfl, hu⟩; (replace hr := hr.agree' (hu.agree fun k hk => ⟨hr.lt' k hk, id⟩)); (replace hr2 := hr2.agree' (hu.agree fun k hk => ⟨hr2.lt' k hk, id⟩)); (replace hu0 := hu0.trans' hu); clear hu) | (gi_at_call 24; refine values_u.mono ?_; rintro e w1 ⟨bv, rfl, hbv, hu⟩; (replace hr := hr.agree' (hu.agree fun k hk => ⟨hr.lt' k hk, id⟩)); (replace hr2 := hr2.agree' (hu.agree fun k hk => ⟨hr2.lt' k hk, id⟩)); (replace hu0 := hu0.trans' hu); clear hu) | (gi_at_call 49; refine (bucketsGood_c hr (by omega) hg.out (by omega) (values_seq hbv hr2 (by omega))).mono ?_; rintro e w1 ⟨g, rfl, hgb, _, hu⟩; (replace hr := hr.agree' (hu.agree fun k hk => ⟨hr.lt' k hk, id⟩)); (replace hr2 := hr2.agree' (hu.agree fun k hk => ⟨hr2.lt' k hk, id⟩)); (replace hu0 := hu0.trans' hu); clear hu hbv) | (gi_at_call 50; refine (rightRef_c hr (by omega)).mono ?_; rintro e w1 ⟨rfl, hu⟩; (rw [hd]); (replace hr := hr.agree' (hu.agree fun k hk => ⟨hr.lt' k hk, id⟩)); (replace hr2 := hr2.agree' (hu.agree fun k hk => ⟨hr2.lt' k hk, id⟩)); (replace hgb := hgb.upd hu id); (replace hu0 := hu0.trans' hu); clear hu))
      have hlen := bkOf_len xs ys
      have hsum := bkOf_sum xs ys
      have hwi : Within ys.length (bkOf xs ys) := by
        have := bk_within xs ys _ 0 (bk0_within (xs.length + 1))
        rwa [Nat.zero_add] at this
      generalize hout : bkOf xs ys = out at *
      replace hr := Lib.hid hr
      replace hr2 := Lib.hid hr2
      replace hout := Lib.hid hout
      gi_loopw [7, 42] (fun s i wr => ∃ j : Nat, j ≤ xs.length + 1 ∧ i = .int .i64 j ∧ s = .int .i64 (out.take j).sum ∧ wr = w1) (fun _ i _ => xs.length + 1 - (intOf i).toNat)
      case atStart => exact ⟨0, Nat.zero_le _, rfl, rfl, rfl⟩
      case round =>
        obtain ⟨j, hj, rfl, rfl, rfl⟩ := hrel
        by_cases hlt : j < xs.length + 1
        · have hj2 : j < out.length := by omega
          have c1 : wr.cell? ⟨g, j, none⟩ = some (.int .i64 out[j]) := by rw [hgb.cell]; simp [hj2]
          have hts : (out.take (j + 1)).sum = (out.take j).sum + out[j] := by rw [List.take_succ_eq_append_getElem hj2, List.sum_append, List.sum_cons, List.sum_nil, Int.add_zero]
          obtain ⟨b1, b2⟩ := sum_take hwi j
          have b3 := hwi j hj2
          have b4 : (j : Int) * (ys.length : Int) ≤ 100 * 100 := Int.mul_le_mul (by omega) (by omega) (by omega) (by omega)
          generalize (out.take j).sum = S at *
          clear hwi hsum
          gi_wp2
          exact ⟨⟨j + 1, by omega, by go_num, by rw [hts], trivial⟩, by simp [intOf]; omega⟩
        · have hj2 : out.take j = out := List.take_of_length_le (by omega)
          rw [hj2, hsum]
          clear hwi hj2 hsum
          gi_wp2_with (first | refine (⟨trivial, rfl, ?_⟩ : Fence.wide.fn _ ∧ Fence.wide.depth = none ∧ _) | (gi_at_call 51; refine (bucketsRef_c hr.out hr2.out (by omega) (by omega)).mono ?_; rintro e w2 ⟨g2, rfl, hg2, _, hu⟩; (replace hgb := hgb.upd hu id); (replace hu0 := hu0.trans' hu); clear hu) | (gi_at_call 37; refine (equal_c (xs := out) (ys := bkOf xs ys) hgb.reads hg2.reads (by omega) (by rw [hout.out]; omega) (by omega)).mono ?_; rintro e w2 ⟨rfl, hu⟩; (rw [decide_eq_true hout.out.symm]); (replace hu0 := hu0.trans' hu); clear hu))
          exact bodyPost_ret (results_tmp rfl _ _ _) rfl ⟨rfl, hu0.below (Nat.le_refl _) (fun _ h => h.elim)⟩
    · have hd : decide (Rises xs ∧ xs.length ≤ 50) = false := decide_eq_false hg
      replace hg := Lib.hid hg
      gi_wp2_with (first | refine (⟨trivial, rfl, ?_⟩ : Fence.wide.fn _ ∧ Fence.wide.depth = none ∧ _) | (gi_at_call 48; refine awake30_c.mono ?_; rintro e w1 ⟨rfl, hu⟩; (replace hr := hr.agree' (hu.agree fun k hk => ⟨hr.lt' k hk, id⟩)); (replace hu0 := hu0.trans' hu); clear hu) | (gi_at_call 24; refine values_u.mono ?_; rintro e w1 ⟨bv, rfl, hbv, hu⟩; (replace hr := hr.agree' (hu.agree fun k hk => ⟨hr.lt' k hk, id⟩)); (replace hu0 := hu0.trans' hu); clear hu hbv) | (gi_at_call 49; refine (bucketsBad_c hr (by omega) hg.out).mono ?_; rintro e w1 ⟨rfl, hu⟩; (replace hr := hr.agree' (hu.agree fun k hk => ⟨hr.lt' k hk, id⟩)); (replace hu0 := hu0.trans' hu); clear hu) | (gi_at_call 50; refine (rightRef_c hr (by omega)).mono ?_; rintro e w1 ⟨rfl, hu⟩; (rw [hd]); (replace hu0 := hu0.trans' hu); clear hu))
      exact bodyPost_ret (results_tmp rfl _ _ _) rfl ⟨rfl, hu0.below (Nat.le_refl _) (fun _ h => h.elim)⟩
  · by_cases hf1 : xs.length ≤ 80
    · have hf2 : ¬ ys.length ≤ 100 := fun h => hf ⟨hf1, h⟩
      clear hf
      gi_wp2_with (first | refine (⟨trivial, rfl, ?_⟩ : Fence.wide.fn _ ∧ Fence.wide.depth = none ∧ _) | (gi_at_call 48; refine awake30_c.mono ?_; rintro e w1 ⟨rfl, hu⟩; (replace hu0 := hu0.trans' hu); clear hu))
      exact bodyPost_ret (results_tmp rfl _ _ _) rfl ⟨rfl, hu0.below (Nat.le_refl _) (fun _ h => h.elim)⟩
    · clear hf
      gi_wp2_with (first | refine (⟨trivial, rfl, ?_⟩ : Fence.wide.fn _ ∧ Fence.wide.depth = none ∧ _) | (gi_at_call 48; refine awake30_c.mono ?_; rintro e w1 ⟨rfl, hu⟩; (replace hu0 := hu0.trans' hu); clear hu) | refine (⟨trivial, ?_⟩ : Fence.wide.fn _ ∧ _))
      exact bodyPost_ret (results_tmp rfl _ _ _) rfl ⟨rfl, hu0.below (Nat.le_refl _) (fun _ h => h.elim)⟩
end Go.Proofs.Ytkjkpmeommfdgaa

/- The document's Bar. -/
import Derived.Test.YtkjkpmeommfdgaaProg
import Derived.Test.YtkjkpmeommfdgaaBase
import Derived.Test.YtkjkpmeommfdgaaPmB
set_option linter.unusedSimpArgs false
set_option linter.unusedVariables false
namespace Go.Proofs.Ytkjkpmeommfdgaa
open Go.RowKit Go.Shelf
attribute [local go_sem] Oper.semAt_some

theorem hash_cat (c : Nat) : hashB c ++ ⟨#[35]⟩ = hashB (c + 1) := by
  unfold hashB
  rw [List.replicate_succ']
  apply ByteArray.ext
  apply Array.toList_inj.1
  simp
theorem hash_size (c : Nat) : (hashB c).size = c := by simp [hashB, ByteArray.size]
set_option maxHeartbeats 2000000 in
theorem refBar_c {n : Nat} {k most width : Nat} {W : World} (hk : k ≤ most) (hm : most ≤ 1125899906842624) (hw1 : 1 ≤ width) (hw2 : width ≤ 200) :
    CallsIn Fence.wide n Try.prog 59 #[.int .i64 k, .int .i64 most, .int .i64 width] W fun e W2 => e = .returned (.string (hashB (barN k most width))) ∧ Upd (fun _ => False) W W2 := by
  by_cases h0 : k = 0
  · subst h0
    refine callsIn_any (n := 0) (callsIn_of_wp Try.func59 rfl trivial ?_)
    simp only [Try.ntmps59, List.size_toArray, List.length_cons, List.length_nil, Nat.reduceAdd, Nat.reduceSub, Array.replicate_succ, Array.replicate_zero, List.push_toArray, List.append_toArray, List.nil_append, List.cons_append]
    gi_wp2_with (first | refine (⟨trivial, rfl, ?_⟩ : Fence.wide.fn _ ∧ Fence.wide.depth = none ∧ _) | refine (⟨trivial, ?_⟩ : Fence.wide.fn _ ∧ _))
    gi_loopw [7, 8] (fun s i wr => s = .string ⟨#[]⟩ ∧ i = .int .i64 1 ∧ Upd (fun _ => False) W wr) (fun _ _ _ => 0)
    case atStart => exact ⟨rfl, rfl, Upd.refl _ _⟩
    case round =>
      obtain ⟨rfl, rfl, hu⟩ := hrel
      by_cases h1 : (1 : Int) ≤ width
      · skip
        gi_wp2_with (first | refine (⟨trivial, rfl, ?_⟩ : Fence.wide.fn _ ∧ Fence.wide.depth = none ∧ _) | refine (⟨trivial, ?_⟩ : Fence.wide.fn _ ∧ _))
        go_ret
        exact ⟨by simp [barN, hashB], hu⟩
      · omega
  · obtain ⟨p, hp⟩ : ∃ p, k * width = p := ⟨_, rfl⟩
    obtain ⟨d, hd⟩ : ∃ d, p / most = d := ⟨_, rfl⟩
    have hm0 : 0 < most := by omega
    have hk0 : (0 : Int) < k := by omega
    have hdiv : ∀ i : Nat, i * most ≤ p ↔ i ≤ d := fun i => by rw [← hd]; exact (Nat.le_div_iff_mul_le hm0).symm
    have hbn : barN k most width = max 1 d := by unfold barN; rw [if_neg h0, hp, hd]
    have hp2 : p ≤ 225179981368524800 := by
      rw [← hp]
      calc k * width ≤ 1125899906842624 * 200 := Nat.mul_le_mul (by omega) hw2
        _ = 225179981368524800 := by decide
    have hb2 := barN_le hk hw1
    have q1 : IntKind.i64.wrap ((k : Int) * width) = (p : Int) := by
      rw [← hp, Int.natCast_mul]
      exact Go.IntWalk.i64_in _ ⟨by rw [← Int.natCast_mul, hp]; omega, by rw [← Int.natCast_mul, hp]; omega⟩
    rw [hbn] at hb2 ⊢
    obtain ⟨B, hB⟩ : ∃ B, max 1 d = B := ⟨_, rfl⟩
    rw [hB] at hb2 ⊢
    have hmul : ∀ i : Nat, i ≤ 201 → ∃ q : Nat, IntKind.i64.wrap ((i : Int) * most) = (q : Int) ∧ (q ≤ p ↔ i ≤ d) := fun i hi => by
      have hq : i * most ≤ 226305881275367424 := by
        calc i * most ≤ 201 * 1125899906842624 := Nat.mul_le_mul hi hm
          _ = 226305881275367424 := by decide
      refine ⟨i * most, ?_, hdiv i⟩
      rw [Int.natCast_mul]
      exact Go.IntWalk.i64_in _ ⟨by rw [← Int.natCast_mul]; omega, by rw [← Int.natCast_mul]; omega⟩
    replace hmul := Lib.hid hmul
    replace hB := Lib.hid hB
    clear hp hd hbn hdiv h0
    refine callsIn_any (n := 0) (callsIn_of_wp Try.func59 rfl trivial ?_)
    simp only [Try.ntmps59, List.size_toArray, List.length_cons, List.length_nil, Nat.reduceAdd, Nat.reduceSub, Array.replicate_succ, Array.replicate_zero, List.push_toArray, List.append_toArray, List.nil_append, List.cons_append]
    gi_wp2_with (first | refine (⟨trivial, rfl, ?_⟩ : Fence.wide.fn _ ∧ Fence.wide.depth = none ∧ _) | refine (⟨trivial, ?_⟩ : Fence.wide.fn _ ∧ _))
    gi_loopw [7, 8] (fun s i wr => ∃ j : Nat, i = .int .i64 j ∧ Hid (1 ≤ j ∧ j ≤ width + 1) ∧ s = .string (hashB (min (j - 1) B)) ∧ Upd (fun _ => False) W wr) (fun _ i _ => width + 1 - (intOf i).toNat)
    case atStart => exact ⟨1, rfl, Lib.hid ⟨by omega, by omega⟩, by simp [hashB], Upd.refl _ _⟩
    case round =>
      obtain ⟨j, rfl, hj, rfl, hu⟩ := hrel
      obtain ⟨hj1, hj2⟩ := hj.out
      by_cases hjw : (j : Int) ≤ width
      · have hw5 : IntKind.i64.wrap ((j : Int) + 1) = (j : Int) + 1 := Go.IntWalk.i64_in _ ⟨by omega, by omega⟩
        obtain ⟨q, hq1, hq2⟩ := hmul.out j (by omega)
        have hcat := hash_cat (min (j - 1) B)
        obtain ⟨c, hc⟩ : ∃ c, min (j - 1) B = c := ⟨_, rfl⟩
        rw [hc] at hcat ⊢
        have hz : (9223372036854775807 < (hashB c).size + 1) = False := eq_false (by rw [hash_size]; omega)
        have fin : ∀ c', c' = min j B → (∃ j' : Nat, Value.int .i64 ((j : Int) + 1) = .int .i64 j' ∧ Hid (1 ≤ j' ∧ j' ≤ width + 1) ∧ Value.string (hashB c') = .string (hashB (min (j' - 1) B)) ∧ Upd (fun _ => False) W wr) ∧ width + 1 - (intOf (.int .i64 ((j : Int) + 1))).toNat < width + 1 - (intOf (.int .i64 (j : Int))).toNat := fun c' hc' =>
          ⟨⟨j + 1, by go_num, Lib.hid ⟨by omega, by omega⟩, by rw [hc']; simp, hu⟩, by show width + 1 - ((j : Int) + 1).toNat < width + 1 - (j : Int).toNat; omega⟩
        replace fin := Lib.hid fin
        have hBB := hB.out
        by_cases e1 : j = 1
        · have t1 : ((j : Int) == 1) = true := beq_iff_eq.2 (by omega)
          have hnx : c + 1 = min j B := by omega
          replace hnx := Lib.hid hnx
          replace hc := Lib.hid hc
          replace e1 := Lib.hid e1
          replace hBB := Lib.hid hBB
          clear hq1 hq2 hj1 hj2
          gi_wp2_with (first | refine (⟨trivial, rfl, ?_⟩ : Fence.wide.fn _ ∧ Fence.wide.depth = none ∧ _) | refine (⟨trivial, ?_⟩ : Fence.wide.fn _ ∧ _))
          exact fin.out _ hnx.out
        · have t1 : ((j : Int) == 1) = false := beq_eq_false_iff_ne.2 (by omega)
          by_cases e2 : j ≤ d
          · have hqp : (q : Int) ≤ p := by have := hq2.2 e2; omega
            have hnx : c + 1 = min j B := by omega
            replace hnx := Lib.hid hnx
            replace hc := Lib.hid hc
            replace e2 := Lib.hid e2
            replace hBB := Lib.hid hBB
            clear hq2 hj1 hj2
            gi_wp2_with (first | refine (⟨trivial, rfl, ?_⟩ : Fence.wide.fn _ ∧ Fence.wide.depth = none ∧ _) | refine (⟨trivial, ?_⟩ : Fence.wide.fn _ ∧ _))
            exact fin.out _ hnx.out
          · have hqp : ((q : Int) ≤ p) = False := eq_false (by have := fun h => e2 (hq2.1 h); omega)
            have hnx : c = min j B := by omega
            replace hnx := Lib.hid hnx
            replace hc := Lib.hid hc
            replace e2 := Lib.hid e2
            replace hBB := Lib.hid hBB
            clear hq2 hj1 hj2
            gi_wp2_with (first | refine (⟨trivial, rfl, ?_⟩ : Fence.wide.fn _ ∧ Fence.wide.depth = none ∧ _) | refine (⟨trivial, ?_⟩ : Fence.wide.fn _ ∧ _))
            exact fin.out _ hnx.out
      · have hend : min (j - 1) B = B := by omega
        rw [hend]
        replace hend := Lib.hid hend
        gi_wp2_with (first | refine (⟨trivial, rfl, ?_⟩ : Fence.wide.fn _ ∧ Fence.wide.depth = none ∧ _) | refine (⟨trivial, ?_⟩ : Fence.wide.fn _ ∧ _))
        go_ret
        exact ⟨rfl, hu⟩
end Go.Proofs.Ytkjkpmeommfdgaa

/- The makers of weave's iterators; what the laws on them use besides: few, number, Evens, Ahead. -/
import Derived.Test.YtkjkpmeommfdgaaProg
import Derived.Test.YtkjkpmeommfdgaaBase
import Derived.Test.YtkjkpmeommfdgaaWvI
set_option linter.unusedSimpArgs false
set_option linter.unusedVariables false
namespace Go.Proofs.Ytkjkpmeommfdgaa
open Go.RowKit Go.Shelf
attribute [local go_sem] Oper.semAt_some

theorem infoI : (Try.prog.info? 3).map (fun i => (i.zero, i.size, i.bytes)) = some (some (.int .i64 0), 1, 8) := by kernel_rfl
theorem zInt : (Value.int .i64 0).cells.size = 1 := rfl
theorem le_8 : 8 ≤ 1024 := by omega

theorem few_c {n : Nat} {A : Option Addr} {len cap : Nat} {w : World} (hl : len ≤ maxLen) :
    CallsIn Fence.wide n Try.prog 15 #[.slice A len cap] w fun e w' => e = .returned (.bool (decide (len ≤ 60))) ∧ w' = w := by
  unfold maxLen at hl
  refine callsIn_any (n := 0) (callsIn_of_wp Try.func15 rfl trivial ?_)
  simp only [Try.ntmps15, List.size_toArray, List.length_cons, List.length_nil, Nat.reduceAdd, Nat.reduceSub, Array.replicate_succ, Array.replicate_zero, List.push_toArray, List.append_toArray, List.nil_append, List.cons_append]
  gi_wp2
  go_ret
  refine ⟨congrArg (fun b => Ending.returned (Value.bool b)) ?_, rfl⟩
  by_cases h : len ≤ 60 <;> simp [h] <;> omega

theorem number_c {n : Nat} {b : Int} {w : World} (h0 : 0 ≤ b) (h1 : b < 256) :
    CallsIn Fence.wide n Try.prog 16 #[.int .u8 b] w fun e w' => e = .returned (.int .i64 (1 + b % 5)) ∧ w' = w := by
  refine callsIn_any (n := 0) (callsIn_of_wp Try.func16 rfl trivial ?_)
  simp only [Try.ntmps16, List.size_toArray, List.length_cons, List.length_nil, Nat.reduceAdd, Nat.reduceSub, Array.replicate_succ, Array.replicate_zero, List.push_toArray, List.append_toArray, List.nil_append, List.cons_append]
  gi_wp2
  go_ret
  exact ⟨rfl, rfl⟩

theorem keep_c {bk : Nat} {k x : Int} {w : World} (hb : Blk w bk #[.int .i64 k] 3) (h1 : 1 ≤ k) (h2 : k ≤ 5) :
    CallV Try.prog (.func (.func 17) #[] #[.pointer (some ⟨bk, 0, none⟩)]) #[.int .i64 x] w fun v w' => v = .bool (x.tmod k == 0) ∧ w' = w := by
  refine CallV.of_calls (n := 0) (enters_of Try.func17 (by kernel_rfl) rfl) ?_
  have c := hb.cell0
  refine callsIn_of_wp Try.func17 rfl trivial ?_
  simp only [Try.ntmps17, List.size_toArray, List.length_cons, List.length_nil, Nat.reduceAdd, Nat.reduceSub, Array.replicate_succ, Array.replicate_zero, List.push_toArray, List.append_toArray, List.nil_append, List.cons_append]
  gi_wp2
  go_ret
  exact ⟨_, rfl, rfl, rfl⟩

theorem values_c {n : Nat} {A : Option Addr} {len cap : Nat} {w : World} :
    CallsIn Fence.wide n Try.prog 24 #[.slice A len cap] w fun e w' => e = .returned (.func (.func 76) #[] #[.pointer (some ⟨w.heap.size, 0, none⟩)]) ∧ w' = w.alloc (.cells #[.slice A len cap] 22) := by
  refine callsIn_any (n := 0) (callsIn_of_wp Try.func24 rfl trivial ?_)
  simp only [Try.ntmps24, List.size_toArray, List.length_cons, List.length_nil, Nat.reduceAdd, Nat.reduceSub, Array.replicate_succ, Array.replicate_zero, List.push_toArray, List.append_toArray, List.nil_append, List.cons_append]
  gi_wp2
  go_ret
  exact ⟨rfl, rfl⟩

theorem filter_c {n : Nat} {f1 f2 : Fn} {a1 c1 a2 c2 : Array Value} {w : World} :
    CallsIn Fence.wide n Try.prog 19 #[.func f1 a1 c1, .func f2 a2 c2] w fun e w' => e = .returned (.func (.func 73) #[] #[.pointer (some ⟨w.heap.size, 0, none⟩), .pointer (some ⟨w.heap.size + 1, 0, none⟩)]) ∧
      w' = (w.alloc (.cells #[.func f1 a1 c1] 32)).alloc (.cells #[.func f2 a2 c2] 26) := by
  refine callsIn_any (n := 0) (callsIn_of_wp Try.func19 rfl trivial ?_)
  simp only [Try.ntmps19, List.size_toArray, List.length_cons, List.length_nil, Nat.reduceAdd, Nat.reduceSub, Array.replicate_succ, Array.replicate_zero, List.push_toArray, List.append_toArray, List.nil_append, List.cons_append]
  gi_wp2
  go_ret
  exact ⟨rfl, rfl⟩

theorem count_c {n : Nat} {bc : Nat} {w : World} :
    CallsIn Fence.wide n Try.prog 20 #[.pointer (some ⟨bc, 0, none⟩)] w fun e w' => e = .returned (.func (.func 74) #[] #[.pointer (some ⟨w.heap.size, 0, none⟩)]) ∧
      w' = w.alloc (.cells #[.pointer (some ⟨bc, 0, none⟩)] 27) := by
  refine callsIn_any (n := 0) (callsIn_of_wp Try.func20 rfl trivial ?_)
  simp only [Try.ntmps20, List.size_toArray, List.length_cons, List.length_nil, Nat.reduceAdd, Nat.reduceSub, Array.replicate_succ, Array.replicate_zero, List.push_toArray, List.append_toArray, List.nil_append, List.cons_append]
  gi_wp2
  go_ret
  exact ⟨rfl, rfl⟩

set_option maxRecDepth 100000 in
set_option maxHeartbeats 1000000 in
theorem evens_c {n : Nat} {A : Option Addr} {cap : Nat} {xs : List Int} {k : Int} {w : World} (hr : Reads1 w A (xs.map (Value.int .i64))) (hl : xs.length ≤ 1000) (h1 : 1 ≤ k) (h2 : k ≤ 5) :
    CallsIn Fence.wide n Try.prog 21 #[.slice A xs.length cap, .int .i64 k] w fun e w' => ∃ v, e = .returned v ∧
      w'.ownsRow w.heap.size 3 1 v (xs.filter fun x => x.tmod k == 0).length ((xs.filter fun x => x.tmod k == 0).map (Value.int .i64)) ∧ Below w.heap.size w w' := by
  have hrd := fun (wr : World) (hB : Below w.heap.size w wr) (i : Nat) (h : i < xs.length) => (hr.agree' (w' := wr) (fun k hk => hB.block k (by simpa using hr.lt' k hk))) i (.int .i64 xs[i]) (by simp [h])
  replace hrd := Lib.hid hrd
  clear hr
  refine callsIn_any (n := 0) (callsIn_of_wp Try.func21 rfl trivial ?_)
  simp only [Try.ntmps21, List.size_toArray, List.length_cons, List.length_nil, Nat.reduceAdd, Nat.reduceSub, Array.replicate_succ, Array.replicate_zero, List.push_toArray, List.append_toArray, List.nil_append, List.cons_append]
  gi_wp2
  gi_loopw [5, 9] (fun v i wr => ∃ j : Nat, j ≤ xs.length ∧ i = .int .i64 j ∧ wr.ownsRow w.heap.size 3 1 v ((xs.take j).filter fun x => x.tmod k == 0).length (((xs.take j).filter fun x => x.tmod k == 0).map (Value.int .i64)) ∧ Below w.heap.size w wr) (fun _ i _ => xs.length - (intOf i).toNat)
  case atStart => exact ⟨0, Nat.zero_le _, rfl, World.ownsRow_nil _ _ _ _, Below.refl _ _⟩
  case round =>
    obtain ⟨j, hj, rfl, hown, hB⟩ := hrel
    by_cases hlt : j < xs.length
    · obtain ⟨ad, rfl, hc⟩ := hrd.out wr hB j hlt
      have hts := List.take_succ_eq_append_getElem hlt
      replace hts := Lib.hid hts
      cases hb : (xs[j].tmod k == 0) with
      | true =>
        have hk : ((xs.take j).filter fun x => x.tmod k == 0).length < 1073741824 := Nat.lt_of_le_of_lt (List.length_filter_le _ _) (by simp; omega)
        replace hk := Lib.hid hk
        gi_wp2_with ((with_reducible refine app1 Try.underlying22 infoI zInt le_8 hown hB.size hk.out ?_ ?_ ?_ ?_); rfl; rfl; rfl; intro g cap' w' hown' hu' _ _)
        refine ⟨⟨j + 1, by omega, by go_num, ?_, below_upd hB hu' (own_base hown) hB.size⟩, by simp [intOf]; omega⟩
        rw [hts.out, List.filter_append, List.length_append, List.map_append]
        simpa [List.filter_cons, hb] using hown'
      | false =>
        gi_wp2
        refine ⟨⟨j + 1, by omega, by go_num, ?_, hB⟩, by simp [intOf]; omega⟩
        rw [hts.out, List.filter_append, List.length_append, List.map_append]
        simpa [List.filter_cons, hb] using hown
    · gi_wp2
      refine bodyPost_ret (results_tmp rfl _ _ _) rfl ⟨_, rfl, ?_, hB⟩
      rw [List.take_of_length_le (by omega)] at hown
      exact hown

theorem takeWhile_next {p : Int → Bool} {xs : List Int} {j : Nat} (h : j < xs.length) (ha : xs.takeWhile p = xs.take j ++ (xs.drop j).takeWhile p) :
    (p xs[j] = true → xs.takeWhile p = xs.take (j + 1) ++ (xs.drop (j + 1)).takeWhile p) ∧ (p xs[j] = false → (xs.takeWhile p).length = j) := by
  rw [List.drop_eq_getElem_cons h] at ha
  refine ⟨fun hp => ?_, fun hp => ?_⟩
  · rw [ha, List.takeWhile_cons_of_pos hp, List.take_succ_eq_append_getElem h, List.append_assoc]; rfl
  · rw [ha, List.takeWhile_cons_of_neg (by simp [hp])]; simp; omega

set_option maxRecDepth 100000 in
set_option maxHeartbeats 1000000 in
theorem ahead_c {n : Nat} {A : Option Addr} {cap : Nat} {xs : List Int} {k : Int} {w : World} (hr : Reads1 w A (xs.map (Value.int .i64))) (hl : xs.length ≤ 1000) (hc : xs.length ≤ cap) (h1 : 1 ≤ k) (h2 : k ≤ 5) :
    CallsIn Fence.wide n Try.prog 23 #[.slice A xs.length cap, .int .i64 k] w fun e w' => e = .returned (.slice A (xs.takeWhile fun x => x.tmod k == 0).length cap) ∧ w' = w := by
  have hrd := fun (i : Nat) (h : i < xs.length) => hr i (.int .i64 xs[i]) (by simp [h])
  replace hrd := Lib.hid hrd
  clear hr
  refine callsIn_any (n := 0) (callsIn_of_wp Try.func23 rfl trivial ?_)
  simp only [Try.ntmps23, List.size_toArray, List.length_cons, List.length_nil, Nat.reduceAdd, Nat.reduceSub, Array.replicate_succ, Array.replicate_zero, List.push_toArray, List.append_toArray, List.nil_append, List.cons_append]
  gi_wp2
  gi_loop [8] (fun i => ∃ j : Nat, j ≤ xs.length ∧ i = .int .i64 j ∧ Hid (xs.takeWhile (fun x => x.tmod k == 0) = xs.take j ++ (xs.drop j).takeWhile (fun x => x.tmod k == 0))) (fun i => xs.length - (intOf i).toNat)
  case atStart => exact ⟨0, Nat.zero_le _, rfl, Lib.hid (by simp)⟩
  case round =>
    obtain ⟨j, hj, rfl, hta⟩ := hrel
    by_cases hlt : j < xs.length
    · obtain ⟨ad, rfl, hcell⟩ := hrd.out j hlt
      have hn := takeWhile_next hlt hta.out
      replace hn := Lib.hid hn
      cases hb : (xs[j].tmod k == 0) with
      | true =>
        have hb' : (xs[j].tmod k != 0) = false := by simpa using hb
        gi_wp2
        exact ⟨⟨j + 1, by omega, by go_num, Lib.hid (hn.out.1 hb)⟩, by simp [intOf]; omega⟩
      | false =>
        have hb' : (xs[j].tmod k != 0) = true := by simpa using hb
        gi_wp2
        exact bodyPost_ret (results_tmp rfl _ _ _) rfl ⟨by rw [hn.out.2 hb]; rfl, rfl⟩
    · gi_wp2
      have : j = xs.length := by omega
      subst this
      refine bodyPost_ret (results_tmp rfl _ _ _) rfl ⟨?_, rfl⟩
      have h := hta.out
      rw [List.take_of_length_le (Nat.le_refl _), List.drop_of_length_le (Nat.le_refl _)] at h
      rw [h]; simp
end Go.Proofs.Ytkjkpmeommfdgaa

/- The document's Word answers. -/
import Derived.Test.YtgleiajmdbekiaaProg
import Derived.Test.YtgleiajmdbekiaaBase
namespace Go.Proofs.Ytgleiajmdbekiaa
open Go.RowKit Go.Shelf
attribute [local go_sem] Oper.semAt_some

def AnyB (e : Ending) : Prop := ∃ b, e = .returned (.bool b)
def AnyC (e : Ending) : Prop := ∃ a b d, e = .returned (.tuple #[.string a, .string b, .bool d])
set_option maxRecDepth 100000 in
set_option maxHeartbeats 2000000 in
theorem nameA_c {n : Nat} {s : ByteArray} {w : World} (hs : s.size ≤ maxLen) : CallsIn Fence.wide n Try.prog 24 #[.string s] w fun e w' => AnyB e ∧ w' = w := by
  unfold maxLen at hs
  refine callsIn_any (n := 0) (callsIn_of_wp Try.func24 rfl trivial ?_)
  simp only [Try.ntmps24, List.size_toArray, List.length_cons, List.length_nil, Nat.reduceAdd, Nat.reduceSub, Array.replicate_succ, Array.replicate_zero, List.push_toArray, List.append_toArray, List.nil_append, List.cons_append]
  gi_wp2
  gi_loopw [3] (fun u wr => ∃ k : Nat, u = .int .i64 k ∧ k ≤ s.size ∧ wr = w) (fun u _ => s.size - (intOf u).toNat)
  case atStart => exact ⟨0, rfl, Nat.zero_le _, rfl⟩
  case round =>
    obtain ⟨k, rfl, hk, hw⟩ := hrel
    (replace hw := hw.symm); subst hw
    by_cases hlt : k < s.size
    · obtain ⟨c, hc⟩ : ∃ c : Int, (s[k].toNat : Int) = c := ⟨_, rfl⟩
      have hw1 : IntKind.i64.wrap ((k : Int) + 1) = (k : Int) + 1 := Go.IntWalk.i64_in _ ⟨by omega, by omega⟩
      obtain ⟨b3, hb3⟩ : ∃ b, ((k : Int) == 0) = b := ⟨_, rfl⟩
      obtain ⟨b6, hb6⟩ : ∃ b, (c != 95) = b := ⟨_, rfl⟩
      obtain ⟨b7, hb7⟩ : ∃ b, (c != 46) = b := ⟨_, rfl⟩
      by_cases h1 : 97 ≤ c <;> by_cases h2 : c ≤ 122 <;> by_cases h4 : c < 48 <;> by_cases h5 : 57 < c <;> first | (exfalso; omega) | skip
      all_goals
        cases b3 <;> cases b6 <;> cases b7
      all_goals
        gi_wp2
        first | (go_ret; exact ⟨⟨_, rfl⟩, rfl⟩) | exact ⟨⟨k + 1, by go_num, by omega, trivial⟩, by simp [intOf]; omega⟩
    · obtain rfl : k = s.size := by omega
      gi_wp2
      all_goals
        go_ret
        exact ⟨⟨_, rfl⟩, rfl⟩
set_option maxRecDepth 100000 in
set_option maxHeartbeats 2000000 in
theorem cutA_c {n : Nat} {s : ByteArray} {c : Int} {w : World} (hs : s.size ≤ maxLen) : CallsIn Fence.wide n Try.prog 23 #[.string s, .int .u8 c] w fun e w' => AnyC e ∧ Upd (fun _ => False) w w' := by
  unfold maxLen at hs
  refine callsIn_any (n := 0) (callsIn_of_wp Try.func23 rfl trivial ?_)
  simp only [Try.ntmps23, List.size_toArray, List.length_cons, List.length_nil, Nat.reduceAdd, Nat.reduceSub, Array.replicate_succ, Array.replicate_zero, List.push_toArray, List.append_toArray, List.nil_append, List.cons_append]
  gi_wp2
  gi_loopw [7] (fun u wr => ∃ k : Nat, u = .int .i64 k ∧ k ≤ s.size ∧ wr = w) (fun u _ => s.size - (intOf u).toNat)
  case atStart => exact ⟨0, rfl, Nat.zero_le _, rfl⟩
  case round =>
    obtain ⟨k, rfl, hk, hw⟩ := hrel
    (replace hw := hw.symm); subst hw
    by_cases hlt : k < s.size
    · have hw1 : IntKind.i64.wrap ((k : Int) + 1) = (k : Int) + 1 := Go.IntWalk.i64_in _ ⟨by omega, by omega⟩
      by_cases he : (s[k].toNat : Int) = c
      · gi_wp2
        have hp0 : (0 : Int) ≤ (k : Int) + 1 := by omega
        have hp1 : (k : Int) + 1 ≤ s.size := by omega
        have hp2 : ((k : Int) + 1).toNat = k + 1 := by omega
        refine wpIn_eager [(0, true), (1, true), (2, true), (3, true), (4, true), (5, true), (6, true), (7, true), (8, true), (9, true)] (fun _ => True) (by kernel_rfl) (by kernel_rfl) trivial ?_
        repeat (first | (refine wpE_fl rfl rfl (fun _ _ => rfl) ?_; go_simp) | (refine wpE_sk rfl rfl ?_; go_simp) | (refine wpE_fl (v := ?_) rfl rfl ?_ ?_; rotate_left; (intro W' h'; (try dsimp only at h'); go_simp; exact rfl); go_simp) | (refine wpE_ef rfl ?_; go_simp; gi_wp2_with (first | refine (⟨trivial, rfl, ?_⟩ : Fence.wide.fn _ ∧ Fence.wide.depth = none ∧ _) | refine (⟨trivial, trivial, rfl, ?_⟩ : Fence.wide.fn _ ∧ Fence.wide.fn _ ∧ Fence.wide.depth = none ∧ _) | refine (⟨trivial, ?_⟩ : Fence.wide.fn _ ∧ _)); (first | refine ⟨by first | exact trivial, ?_⟩ | skip)))
        refine wpE_nil ?_
        gi_wp2
        refine bodyPost_ret (results_tmp3 rfl _ _ _) rfl ⟨⟨_, _, _, rfl⟩, Upd.drew _ _⟩
      · gi_wp2
        exact ⟨⟨k + 1, by go_num, by omega, trivial⟩, by simp [intOf]; omega⟩
    · obtain rfl : k = s.size := by omega
      gi_wp2
      refine bodyPost_ret (results_tmp3 rfl _ _ _) rfl ⟨⟨_, _, _, rfl⟩, Upd.refl _ _⟩
end Go.Proofs.Ytgleiajmdbekiaa

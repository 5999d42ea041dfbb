/- First, Behind; the makers of Take and Skip. -/
import Derived.Test.YtkjkpmeommfdgaaProg
import Derived.Test.YtkjkpmeommfdgaaBase
import Derived.Test.YtkjkpmeommfdgaaWvI
import Derived.Test.YtkjkpmeommfdgaaWvH
import Derived.Test.YtkjkpmeommfdgaaWvS2
import Derived.Test.YtkjkpmeommfdgaaWvSH
import Derived.Test.YtkjkpmeommfdgaaWvT
namespace Go.Proofs.Ytkjkpmeommfdgaa
open Go.RowKit Go.Shelf
attribute [local go_sem] Oper.semAt_some if_max if_min

theorem take_u {n : Nat} {f1 : Fn} {a1 c1 : Array Value} {k : Int} {w : World} : CallsIn Fence.wide n Try.prog 46 #[.func f1 a1 c1, .int .i64 k] w fun e w' =>
    ∃ bs bn, e = .returned (.func (.func 85) #[] #[.pointer (some ⟨bn, 0, none⟩), .pointer (some ⟨bs, 0, none⟩)]) ∧ Blk w' bs #[.func f1 a1 c1] 32 ∧ Blk w' bn #[.int .i64 k] 3 ∧ Upd (fun _ => False) w w' := by
  refine callsIn_any (n := 0) (callsIn_of_wp Try.func46 rfl trivial ?_)
  simp only [Try.ntmps46, List.size_toArray, List.length_cons, List.length_nil, Nat.reduceAdd, Nat.reduceSub, Array.replicate_succ, Array.replicate_zero, List.push_toArray, List.append_toArray, List.nil_append, List.cons_append]
  gi_wp2
  go_ret
  exact ⟨_, _, rfl, Blk.alloc (Blk.new' rfl) _, Blk.new' (by simp), (Upd.alloc _ _ _).stepAlloc _⟩
theorem skip_u {n : Nat} {f1 : Fn} {a1 c1 : Array Value} {k : Int} {w : World} : CallsIn Fence.wide n Try.prog 47 #[.func f1 a1 c1, .int .i64 k] w fun e w' =>
    ∃ bs bn, e = .returned (.func (.func 86) #[] #[.pointer (some ⟨bs, 0, none⟩), .pointer (some ⟨bn, 0, none⟩)]) ∧ Blk w' bs #[.func f1 a1 c1] 32 ∧ Blk w' bn #[.int .i64 k] 3 ∧ Upd (fun _ => False) w w' := by
  refine callsIn_any (n := 0) (callsIn_of_wp Try.func47 rfl trivial ?_)
  simp only [Try.ntmps47, List.size_toArray, List.length_cons, List.length_nil, Nat.reduceAdd, Nat.reduceSub, Array.replicate_succ, Array.replicate_zero, List.push_toArray, List.append_toArray, List.nil_append, List.cons_append]
  gi_wp2
  go_ret
  exact ⟨_, _, rfl, Blk.alloc (Blk.new' rfl) _, Blk.new' (by simp), (Upd.alloc _ _ _).stepAlloc _⟩

/-- How many First has. -/
theorem first_c {n : Nat} {A : Option Addr} {cap len : Nat} {k : Int} {w : World} (hc : len ≤ cap) :
    CallsIn Fence.wide n Try.prog 44 #[.slice A len cap, .int .i64 k] w fun e w' => e = .returned (.slice A (max 0 (min (len : Int) k)).toNat cap) ∧ w' = w := by
  refine callsIn_any (n := 0) (callsIn_of_wp Try.func44 rfl trivial ?_)
  simp only [Try.ntmps44, List.size_toArray, List.length_cons, List.length_nil, Nat.reduceAdd, Nat.reduceSub, Array.replicate_succ, Array.replicate_zero, List.push_toArray, List.append_toArray, List.nil_append, List.cons_append]
  gi_wp2
  exact bodyPost_ret (results_tmp rfl _ _ _) rfl ⟨rfl, rfl⟩
theorem behind_c {n : Nat} {A : Option Addr} {cap len : Nat} {k : Int} {w : World} (hc : len ≤ cap) (hcap : cap ≤ maxLen) :
    CallsIn Fence.wide n Try.prog 45 #[.slice A len cap, .int .i64 k] w fun e w' => ∃ A2, e = .returned (.slice A2 (len - (max 0 (min (len : Int) k)).toNat) (cap - (max 0 (min (len : Int) k)).toNat)) ∧ w' = w ∧
      ((max 0 (min (len : Int) k)).toNat < len → A2 = A.map fun a => a.add (max 0 (min (len : Int) k)).toNat) := by
  unfold maxLen at hcap
  refine callsIn_any (n := 0) (callsIn_of_wp Try.func45 rfl trivial ?_)
  simp only [Try.ntmps45, List.size_toArray, List.length_cons, List.length_nil, Nat.reduceAdd, Nat.reduceSub, Array.replicate_succ, Array.replicate_zero, List.push_toArray, List.append_toArray, List.nil_append, List.cons_append]
  gi_wp2
  · exact bodyPost_ret (results_tmp rfl _ _ _) rfl ⟨A, rfl, rfl, fun h => by omega⟩
  · exact bodyPost_ret (results_tmp rfl _ _ _) rfl ⟨_, rfl, rfl, fun _ => rfl⟩

theorem addr_add_add (a : Addr) (i j : Nat) : (a.add i).add j = a.add (i + j) := by
  unfold Addr.add
  split <;> simp_all <;> (try split) <;> simp_all <;> omega

/-- What Behind gives reads what is behind. -/
theorem behind_u {n : Nat} {A : Option Addr} {cap : Nat} {k : Int} {xs : List Int} {w : World} (hr : Reads1 w A (xs.map (Value.int .i64))) (hc : xs.length ≤ cap) (hcap : cap ≤ maxLen) :
    CallsIn Fence.wide n Try.prog 45 #[.slice A xs.length cap, .int .i64 k] w fun e w' => ∃ A2 cap2, e = .returned (.slice A2 (xs.drop k.toNat).length cap2) ∧ w' = w ∧
      Reads1 w A2 ((xs.drop k.toNat).map (Value.int .i64)) ∧ ∀ j, blkOf' A2 (xs.drop k.toNat).length j → blkOf' A xs.length j := by
  refine (behind_c hc hcap).mono ?_
  rintro e w' ⟨A2, rfl, rfl, hA⟩
  have e1 : xs.length - (max 0 (min (xs.length : Int) k)).toNat = (xs.drop k.toNat).length := by rw [List.length_drop]; omega
  refine ⟨A2, _, by rw [e1], rfl, ?_, ?_⟩
  · intro i v hv
    rw [List.map_drop, List.getElem?_drop] at hv
    obtain ⟨ad, rfl, hcell⟩ := hr _ v hv
    have hi := (List.getElem?_eq_some_iff.1 hv).1
    simp at hi
    have hk : (max 0 (min (xs.length : Int) k)).toNat = k.toNat := by omega
    rw [hk] at hA
    refine ⟨ad.add k.toNat, hA (by omega), ?_⟩
    rw [addr_add_add]; exact hcell
  · rintro j ⟨h0, ad, h1, h2⟩
    rw [List.length_drop] at h0
    have hk : (max 0 (min (xs.length : Int) k)).toNat = k.toNat := by omega
    rw [hk] at hA
    have h3 := hA (by omega)
    rw [h1] at h3
    cases A with
    | none => simp at h3
    | some a =>
      obtain rfl := Option.some.inj h3
      exact ⟨by omega, a, rfl, by rw [h2, block_of_add]⟩
end Go.Proofs.Ytkjkpmeommfdgaa

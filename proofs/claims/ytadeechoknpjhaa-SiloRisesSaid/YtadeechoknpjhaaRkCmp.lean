/- cmp.Compare over ints and strings. -/
import Derived.Test.YtadeechoknpjhaaProg
import Derived.Test.YtadeechoknpjhaaBase
import Derived.Test.YtadeechoknpjhaaTr
import Derived.Laws.Cover1
set_option linter.unusedSimpArgs false
set_option linter.unusedVariables false
namespace Go.Proofs.Ytadeechoknpjhaa
open Go.RowKit Go.Shelf
attribute [local go_sem] Oper.semAt_some

def cmpI (a b : Int) : Int := if a < b then -1 else if b < a then 1 else 0
theorem ordrI : Ordr cmpI := by
  refine ⟨fun a b => ?_, fun a b => ?_, fun a b d => ?_⟩ <;> simp only [cmpI] <;> (repeat' split) <;> omega
theorem cmpI_lt (a b : Int) : cmpI a b < 0 ↔ a < b := by simp only [cmpI]; (repeat' split) <;> omega

theorem bl_irrefl : ∀ x : List UInt8, Op.bytesLess x x = false
  | [] => rfl
  | a :: x => by simp [Op.bytesLess, bl_irrefl x]
theorem bl_trans : ∀ x y z : List UInt8, Op.bytesLess x y = true → Op.bytesLess y z = true → Op.bytesLess x z = true
  | _, [], _, h, _ => by simp [Op.bytesLess] at h
  | [], _ :: _, [], _, h => by simp [Op.bytesLess] at h
  | [], _ :: _, _ :: _, _, _ => rfl
  | _ :: _, _ :: _, [], _, h => by simp [Op.bytesLess] at h
  | a :: x, b :: y, d :: z, h1, h2 => by
    simp only [Op.bytesLess, Bool.or_eq_true, Bool.and_eq_true, decide_eq_true_eq, beq_iff_eq, UInt8.lt_iff_toNat_lt] at h1 h2 ⊢
    rcases h1 with h1 | ⟨rfl, h1⟩
    · rcases h2 with h2 | ⟨rfl, h2⟩
      · exact .inl (by omega)
      · exact .inl h1
    · rcases h2 with h2 | ⟨rfl, h2⟩
      · exact .inl h2
      · exact .inr ⟨rfl, bl_trans x y z h1 h2⟩
theorem bl_conn : ∀ x y : List UInt8, Op.bytesLess x y = false → Op.bytesLess y x = false → x = y
  | [], [], _, _ => rfl
  | _ :: _, [], _, h => by simp [Op.bytesLess] at h
  | [], _ :: _, h, _ => by simp [Op.bytesLess] at h
  | a :: x, b :: y, h1, h2 => by
    have hn : ∀ p : Bool, p = false ↔ ¬ p = true := by decide
    rw [hn] at h1 h2
    simp only [Op.bytesLess, Bool.or_eq_true, Bool.and_eq_true, decide_eq_true_eq, beq_iff_eq, UInt8.lt_iff_toNat_lt, not_or, not_and] at h1 h2
    have e : a = b := UInt8.toNat_inj.1 (by omega)
    subst e
    rw [bl_conn x y ((hn _).2 (h1.2 rfl)) ((hn _).2 (h2.2 rfl))]
theorem bytes_ext {a b : ByteArray} (h : a.toList = b.toList) : a = b := by
  rw [ByteArray.toList_eq, ByteArray.toList_eq] at h
  cases a; cases b
  exact congrArg ByteArray.mk (Array.toList_inj.1 h)

def cmpS (a b : ByteArray) : Int := if Op.bytesLess a.toList b.toList then -1 else if Op.bytesLess b.toList a.toList then 1 else 0
theorem cmpS_lt (a b : ByteArray) : cmpS a b < 0 ↔ Op.bytesLess a.toList b.toList = true := by
  simp only [cmpS]; (repeat' split) <;> simp_all
theorem ordrS : Ordr cmpS := by
  refine ⟨fun a b => ?_, fun a b => ?_, fun a b d => ?_⟩
  · constructor
    · intro h
      simp only [cmpS] at h
      split at h
      · omega
      · split at h
        · omega
        · exact bytes_ext (bl_conn _ _ (by simp_all) (by simp_all))
    · rintro rfl
      simp [cmpS, bl_irrefl]
  · rw [cmpS_lt]
    have asy : Op.bytesLess a.toList b.toList = true → Op.bytesLess b.toList a.toList = false := fun h => by
      cases h2 : Op.bytesLess b.toList a.toList with
      | false => rfl
      | true => have := bl_trans _ _ _ h h2; rw [bl_irrefl] at this; cases this
    constructor
    · intro h
      simp [cmpS, asy h, h]
    · intro h
      simp only [cmpS] at h
      split at h
      · omega
      · split at h
        · assumption
        · omega
  · rw [cmpS_lt, cmpS_lt, cmpS_lt]
    exact bl_trans _ _ _

theorem nanI_c {n : Nat} {x : Int} {w : World} : CallsIn Fence.wide n Try.prog 54 #[.int .i64 x] w fun e w' => e = .returned (.bool false) ∧ w' = w := by
  refine callsIn_any (n := 0) (callsIn_of_wp Try.func54 rfl trivial ?_)
  simp only [Try.ntmps54, List.size_toArray, List.length_cons, List.length_nil, Nat.reduceAdd, Nat.reduceSub, Array.replicate_succ, Array.replicate_zero, List.push_toArray, List.append_toArray, List.nil_append, List.cons_append]
  gi_wp2
  go_ret
  exact ⟨by simp, rfl⟩
set_option maxHeartbeats 1000000 in
theorem cmpV_int : CmpV Try.prog (fun k : Int => Value.int .i64 k) cmpI (.func 41) #[] #[] := by
  refine ⟨ordrI, fun a b W => ?_⟩
  refine CallV.of_calls (n := 0) (enters_of Try.func41 (by kernel_rfl) rfl) ?_
  refine callsIn_of_wp Try.func41 rfl trivial ?_
  simp only [Try.ntmps41, List.size_toArray, List.length_cons, List.length_nil, Nat.reduceAdd, Nat.reduceSub, Array.replicate_succ, Array.replicate_zero, List.push_toArray, List.append_toArray, List.nil_append, List.cons_append]
  gi_wp2_with (first | refine (⟨trivial, rfl, ?_⟩ : Fence.wide.fn _ ∧ Fence.wide.depth = none ∧ _) | (gi_at_call 54; refine nanI_c.mono ?_; rintro e w' ⟨rfl, rfl⟩))
  all_goals go_ret
  all_goals refine ⟨_, rfl, ?_, Upd.refl _ _⟩
  · have h : a < b := by assumption
    simp [cmpI, h]
  · have h : b < a := by assumption
    simp [cmpI, h, show ¬ a < b by omega]
  · have h : ¬ a < b := by omega
    have h2 : ¬ b < a := by omega
    simp [cmpI, h, h2]
theorem nanS_c2 {n : Nat} {x : ByteArray} {w : World} : CallsIn Fence.wide n Try.prog 53 #[.string x] w fun e w' => e = .returned (.bool false) ∧ w' = w := by
  refine callsIn_any (n := 0) (callsIn_of_wp Try.func53 rfl trivial ?_)
  simp only [Try.ntmps53, List.size_toArray, List.length_cons, List.length_nil, Nat.reduceAdd, Nat.reduceSub, Array.replicate_succ, Array.replicate_zero, List.push_toArray, List.append_toArray, List.nil_append, List.cons_append]
  gi_wp2
  go_ret
  exact ⟨by simp, rfl⟩
set_option maxHeartbeats 1000000 in
theorem cmpV_string : CmpV Try.prog (fun k : ByteArray => Value.string k) cmpS (.func 40) #[] #[] := by
  refine ⟨ordrS, fun a b W => ?_⟩
  refine CallV.of_calls (n := 0) (enters_of Try.func40 (by kernel_rfl) rfl) ?_
  refine callsIn_of_wp Try.func40 rfl trivial ?_
  simp only [Try.ntmps40, List.size_toArray, List.length_cons, List.length_nil, Nat.reduceAdd, Nat.reduceSub, Array.replicate_succ, Array.replicate_zero, List.push_toArray, List.append_toArray, List.nil_append, List.cons_append]
  cases h1 : Op.bytesLess a.toList b.toList with
  | true =>
    gi_wp2_with (first | refine (⟨trivial, rfl, ?_⟩ : Fence.wide.fn _ ∧ Fence.wide.depth = none ∧ _) | (gi_at_call 53; refine nanS_c2.mono ?_; rintro e w' ⟨rfl, rfl⟩))
    go_ret
    exact ⟨_, rfl, by simp [cmpS, h1], Upd.refl _ _⟩
  | false =>
    cases h3 : Op.bytesLess b.toList a.toList with
    | true =>
      have h2 : (a.toList == b.toList) = false := by
        rw [beq_eq_false_iff_ne]
        intro e
        rw [e, bl_irrefl] at h3
        cases h3
      gi_wp2_with (first | refine (⟨trivial, rfl, ?_⟩ : Fence.wide.fn _ ∧ Fence.wide.depth = none ∧ _) | (gi_at_call 53; refine nanS_c2.mono ?_; rintro e w' ⟨rfl, rfl⟩))
      all_goals go_ret
      all_goals first | exact ⟨_, rfl, by simp [cmpS, h1, h3], Upd.refl _ _⟩ | (exfalso; simp_all)
    | false =>
      have h2 : (a.toList == b.toList) = true := by rw [bl_conn _ _ h1 h3]; simp
      gi_wp2_with (first | refine (⟨trivial, rfl, ?_⟩ : Fence.wide.fn _ ∧ Fence.wide.depth = none ∧ _) | (gi_at_call 53; refine nanS_c2.mono ?_; rintro e w' ⟨rfl, rfl⟩))
      all_goals go_ret
      all_goals first | exact ⟨_, rfl, by simp [cmpS, h1, h3], Upd.refl _ _⟩ | (exfalso; simp_all)
end Go.Proofs.Ytadeechoknpjhaa

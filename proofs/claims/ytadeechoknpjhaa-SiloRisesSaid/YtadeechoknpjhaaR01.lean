/- The document's comparisons: Ints, Texts. -/
import Derived.Test.YtadeechoknpjhaaProg
import Derived.Test.YtadeechoknpjhaaBase
import Derived.Test.YtadeechoknpjhaaRkCmp
set_option linter.unusedSimpArgs false
set_option linter.unusedVariables false
namespace Go.Proofs.Ytadeechoknpjhaa
open Go.RowKit Go.Shelf
attribute [local go_sem] Oper.semAt_some

theorem ints_c {n : Nat} {a b : Int} {w : World} : CallsIn Fence.wide n Try.prog 50 #[.int .i64 a, .int .i64 b] w fun e w' => e = .returned (.int .i64 (cmpI a b)) ∧ w' = w := by
  refine callsIn_any (n := 0) (callsIn_of_wp Try.func50 rfl trivial ?_)
  simp only [Try.ntmps50, List.size_toArray, List.length_cons, List.length_nil, Nat.reduceAdd, Nat.reduceSub, Array.replicate_succ, Array.replicate_zero, List.push_toArray, List.append_toArray, List.nil_append, List.cons_append]
  rcases Int.lt_trichotomy a b with h | h | h
  · gi_wp2
    go_ret
    exact ⟨by simp [cmpI, h], rfl⟩
  · have h1 : ¬ a < b := by omega
    have h2 : ¬ b < a := by omega
    gi_wp2
    go_ret
    exact ⟨by simp [cmpI], rfl⟩
  · have h1 : ¬ a < b := by omega
    gi_wp2
    go_ret
    exact ⟨by simp [cmpI, h, h1], rfl⟩

theorem bl_drop : ∀ (k : Nat) (x y : List UInt8), k ≤ x.length → k ≤ y.length → x.take k = y.take k → Op.bytesLess x y = Op.bytesLess (x.drop k) (y.drop k)
  | 0, x, y, _, _, _ => by simp
  | k + 1, [], _, h, _, _ => by simp at h
  | k + 1, _, [], _, h, _ => by simp at h
  | k + 1, a :: x, b :: y, h1, h2, h => by
    simp only [List.take_succ_cons, List.cons.injEq] at h
    obtain ⟨rfl, h⟩ := h
    simp only [List.drop_succ_cons]
    rw [← bl_drop k x y (by simpa using h1) (by simpa using h2) h]
    simp [Op.bytesLess]
theorem cmpS_at {a b : ByteArray} {k : Nat} (h1 : k < a.size) (h2 : k < b.size) (h : a.toList.take k = b.toList.take k) (hne : a[k] ≠ b[k]) : cmpS a b = cmpI a[k].toNat b[k].toNat := by
  have l1 : a.toList.length = a.size := by rw [ByteArray.toList_eq]; simp
  have l2 : b.toList.length = b.size := by rw [ByteArray.toList_eq]; simp
  have g1 : a.toList[k]'(by omega) = a[k] := by simp only [ByteArray.toList_eq]; rfl
  have g2 : b.toList[k]'(by omega) = b[k] := by simp only [ByteArray.toList_eq]; rfl
  have hn : a[k].toNat ≠ b[k].toNat := fun e => hne (UInt8.toNat_inj.1 e)
  unfold cmpS cmpI
  rw [bl_drop k a.toList b.toList (by omega) (by omega) h, bl_drop k b.toList a.toList (by omega) (by omega) h.symm, List.drop_eq_getElem_cons (by omega), List.drop_eq_getElem_cons (l := b.toList) (by omega), g1, g2]
  simp only [Op.bytesLess, Bool.or_eq_true, Bool.and_eq_true, decide_eq_true_eq, beq_iff_eq, UInt8.lt_iff_toNat_lt, hne, Ne.symm hne, false_and, or_false]
  simp only [Int.ofNat_lt]
theorem cmpS_end {a b : ByteArray} {k : Nat} (h1 : k ≤ a.size) (h2 : k ≤ b.size) (h : a.toList.take k = b.toList.take k) (hk : ¬ k < a.size ∨ ¬ k < b.size) : cmpS a b = cmpI a.size b.size := by
  have l1 : a.toList.length = a.size := by rw [ByteArray.toList_eq]; simp
  have l2 : b.toList.length = b.size := by rw [ByteArray.toList_eq]; simp
  unfold cmpS cmpI
  rw [bl_drop k a.toList b.toList (by omega) (by omega) h, bl_drop k b.toList a.toList (by omega) (by omega) h.symm]
  have hx : (a.toList.drop k).length = a.size - k := by simp [l1]
  have hy : (b.toList.drop k).length = b.size - k := by simp [l2]
  generalize a.toList.drop k = x at *
  generalize b.toList.drop k = y at *
  cases x with
  | nil =>
    cases y with
    | nil => simp at hx hy; simp [Op.bytesLess, show ¬ (a.size : Int) < b.size by omega, show ¬ (b.size : Int) < a.size by omega]
    | cons u y => simp at hx hy; simp [Op.bytesLess, show (a.size : Int) < b.size by omega]
  | cons u x =>
    cases y with
    | nil => simp at hx hy; simp [Op.bytesLess, show ¬ (a.size : Int) < b.size by omega, show (b.size : Int) < a.size by omega]
    | cons v y => simp at hx hy; omega

set_option maxRecDepth 100000 in
set_option maxHeartbeats 1000000 in
theorem texts_c {n : Nat} {a b : ByteArray} {w : World} (ha : a.size ≤ maxLen) : CallsIn Fence.wide n Try.prog 49 #[.string a, .string b] w fun e w' => e = .returned (.int .i64 (cmpS a b)) ∧ Upd (fun _ => False) w w' := by
  unfold maxLen at ha
  refine callsIn_any (n := 0) (callsIn_of_wp Try.func49 rfl trivial ?_)
  simp only [Try.ntmps49, List.size_toArray, List.length_cons, List.length_nil, Nat.reduceAdd, Nat.reduceSub, Array.replicate_succ, Array.replicate_zero, List.push_toArray, List.append_toArray, List.nil_append, List.cons_append]
  gi_wp2
  gi_loopw [5] (fun u wr => ∃ k : Nat, u = .int .i64 k ∧ k ≤ a.size ∧ k ≤ b.size ∧ a.toList.take k = b.toList.take k ∧ Upd (fun _ => False) w wr) (fun u _ => a.size - (intOf u).toNat)
  case atStart => exact ⟨0, rfl, Nat.zero_le _, Nat.zero_le _, by simp, Upd.refl _ _⟩
  case round =>
    obtain ⟨k, rfl, h1, h2, h, hu⟩ := hrel
    replace h := Lib.hid h
    replace hu := Lib.hid hu
    by_cases hka : k < a.size
    · by_cases hkb : k < b.size
      · gi_wp2
        have hnext : a[k] = b[k] → a.toList.take (k + 1) = b.toList.take (k + 1) := fun e => by
          have l1 : a.toList.length = a.size := by rw [ByteArray.toList_eq]; simp
          have l2 : b.toList.length = b.size := by rw [ByteArray.toList_eq]; simp
          have g1 : a.toList[k]'(by omega) = a[k] := by simp only [ByteArray.toList_eq]; rfl
          have g2 : b.toList[k]'(by omega) = b[k] := by simp only [ByteArray.toList_eq]; rfl
          rw [List.take_succ_eq_append_getElem (by omega), List.take_succ_eq_append_getElem (by omega), h.out, g1, g2, e]
        have hdiff := cmpS_at hka hkb h.out
        replace hu := Lib.hid hu.out.stepDrew
        by_cases he : a[k] = b[k]
        · have hb0 : ((a[k].toNat : Int) != b[k].toNat) = false := by rw [he]; simp
          have hnext := Lib.hid (hnext he)
          clear hdiff he
          refine wpIn_eager [(0, true), (1, true), (2, true), (3, true), (4, true), (5, true), (6, true)] (fun _ => True) (by kernel_rfl) (by kernel_rfl) trivial ?_
          repeat (first | (refine wpE_fl rfl rfl (fun _ _ => rfl) ?_; go_simp) | (refine wpE_sk rfl rfl ?_; go_simp) | (refine wpE_fl (v := ?_) rfl rfl ?_ ?_; rotate_left; (intro W' h'; (try dsimp only at h'); go_simp; exact rfl); go_simp) | (refine wpE_ef rfl ?_; go_simp; gi_wp2_with (first | refine (⟨trivial, rfl, ?_⟩ : Fence.wide.fn _ ∧ Fence.wide.depth = none ∧ _) | refine (⟨trivial, trivial, rfl, ?_⟩ : Fence.wide.fn _ ∧ Fence.wide.fn _ ∧ Fence.wide.depth = none ∧ _) | refine (⟨trivial, ?_⟩ : Fence.wide.fn _ ∧ _)); (first | refine ⟨by first | exact trivial, ?_⟩ | skip)))
          refine wpE_nil ?_
          gi_wp2
          exact ⟨⟨k + 1, by go_num, by omega, by omega, hnext.out, hu.out⟩, by simp [intOf]; omega⟩
        · have hb0 : ((a[k].toNat : Int) != b[k].toNat) = true := by
            have : (a[k].toNat : Int) ≠ b[k].toNat := fun e => he (UInt8.toNat_inj.1 (by omega))
            simp [this]
          have hdiff := Lib.hid (hdiff he)
          clear hnext he
          have hx : a[k].toNat < 256 ∧ b[k].toNat < 256 := ⟨a[k].toNat_lt, b[k].toNat_lt⟩
          have hw1 : IntKind.i64.wrap (a[k].toNat : Int) = (a[k].toNat : Int) := Go.IntWalk.i64_in _ ⟨by omega, by omega⟩
          have hw2 : IntKind.i64.wrap (b[k].toNat : Int) = (b[k].toNat : Int) := Go.IntWalk.i64_in _ ⟨by omega, by omega⟩
          refine wpIn_eager [(0, true), (1, true), (2, true), (3, true), (4, true), (5, true), (6, true)] (fun _ => True) (by kernel_rfl) (by kernel_rfl) trivial ?_
          repeat (first | (refine wpE_fl rfl rfl (fun _ _ => rfl) ?_; go_simp) | (refine wpE_sk rfl rfl ?_; go_simp) | (refine wpE_fl (v := ?_) rfl rfl ?_ ?_; rotate_left; (intro W' h'; (try dsimp only at h'); go_simp; exact rfl); go_simp) | (refine wpE_ef rfl ?_; go_simp; gi_wp2_with (first | refine (⟨trivial, rfl, ?_⟩ : Fence.wide.fn _ ∧ Fence.wide.depth = none ∧ _) | refine (⟨trivial, trivial, rfl, ?_⟩ : Fence.wide.fn _ ∧ Fence.wide.fn _ ∧ Fence.wide.depth = none ∧ _) | refine (⟨trivial, ?_⟩ : Fence.wide.fn _ ∧ _)); (first | refine ⟨by first | exact trivial, ?_⟩ | skip)))
          refine wpE_nil ?_
          gi_wp2
          refine wpIn_eager [(0, true), (1, true), (2, true), (3, true), (4, true), (5, true), (6, true), (7, true), (8, false), (9, true)] (fun _ => True) (by kernel_rfl) (by kernel_rfl) trivial ?_
          repeat (first | (refine wpE_fl rfl rfl (fun _ _ => rfl) ?_; go_simp) | (refine wpE_sk rfl rfl ?_; go_simp) | (refine wpE_fl (v := ?_) rfl rfl ?_ ?_; rotate_left; (intro W' h'; (try dsimp only at h'); go_simp; exact rfl); go_simp) | (refine wpE_ef rfl ?_; go_simp; gi_wp2_with (first | refine (⟨trivial, rfl, ?_⟩ : Fence.wide.fn _ ∧ Fence.wide.depth = none ∧ _) | refine (⟨trivial, trivial, rfl, ?_⟩ : Fence.wide.fn _ ∧ Fence.wide.fn _ ∧ Fence.wide.depth = none ∧ _) | (gi_at_call 50; (with_reducible refine ints_c.mono ?_); rintro e W2 ⟨rfl, e2⟩; (subst e2)) | refine (⟨trivial, ?_⟩ : Fence.wide.fn _ ∧ _)); (first | refine ⟨by first | exact trivial, ?_⟩ | skip)))
          refine wpE_nil ?_
          gi_wp2
          go_ret
          exact ⟨congrArg (fun x => Ending.returned (Value.int .i64 x)) hdiff.out.symm, hu.out.stepDrew⟩
      · have hkb2 : ¬ (k : Int) < b.size := by omega
        have e := Lib.hid (cmpS_end h1 h2 h.out (.inr hkb))
        gi_wp2_with (first | refine (⟨trivial, rfl, ?_⟩ : Fence.wide.fn _ ∧ Fence.wide.depth = none ∧ _) | (gi_at_call 50; (with_reducible refine ints_c.mono ?_); rintro e W2 ⟨rfl, rfl⟩) | refine (⟨trivial, ?_⟩ : Fence.wide.fn _ ∧ _))
        go_ret
        exact ⟨congrArg (fun x => Ending.returned (Value.int .i64 x)) e.out.symm, hu.out⟩
    · have hka2 : ¬ (k : Int) < a.size := by omega
      have e := Lib.hid (cmpS_end h1 h2 h.out (.inl hka))
      gi_wp2_with (first | refine (⟨trivial, rfl, ?_⟩ : Fence.wide.fn _ ∧ Fence.wide.depth = none ∧ _) | (gi_at_call 50; (with_reducible refine ints_c.mono ?_); rintro e W2 ⟨rfl, rfl⟩) | refine (⟨trivial, ?_⟩ : Fence.wide.fn _ ∧ _))
      go_ret
      exact ⟨congrArg (fun x => Ending.returned (Value.int .i64 x)) e.out.symm, hu.out⟩
end Go.Proofs.Ytadeechoknpjhaa

/- goes over Take of a counted list, of a plain one, and over Skip. -/
import Derived.Test.YtkjkpmeommfdgaaBase
import Derived.Test.YtkjkpmeommfdgaaWvI
import Derived.Test.YtkjkpmeommfdgaaWvG
import Derived.Test.YtkjkpmeommfdgaaWvL
import Derived.Test.YtkjkpmeommfdgaaWvH
import Derived.Test.YtkjkpmeommfdgaaWvT
import Derived.Test.YtkjkpmeommfdgaaWvT2
namespace Go.Proofs.Ytkjkpmeommfdgaa
open Go.RowKit Go.Shelf
attribute [local go_sem] Oper.semAt_some

theorem take_cnt (m : Int) : ∀ (xs : List Int) (n0 c : Nat) (n : Int), 1 ≤ n → (c : Int) < max m 1 →
    ((goOwn (goStep m) (finT trTake (n0 + xs.length) n (cntFrom n0 xs)) c (evsT trTake n (cntFrom n0 xs)) : Nat) : Int) = n0 + min (min n xs.length) (max m 1 - c)
  | [], n0, c, n, hn, hc => by simp [goOwn, finT, evsT, cntFrom]; omega
  | x :: xs, n0, c, n, hn, hc => by
    have ih := take_cnt m xs (n0 + 1)
    have e : n0 + (x :: xs).length = n0 + 1 + xs.length := by simp; omega
    rw [e]
    by_cases h1 : n - 1 = 0
    · have hn1 : n = 1 := by omega
      subst hn1
      by_cases hb : (c : Int) + 1 < m
      · simp [cntFrom, finT, evsT, goOwn, hb]; omega
      · simp [cntFrom, finT, evsT, goOwn, hb]; omega
    · have ht : decide (n - 1 ≠ 0) = true := decide_eq_true h1
      simp only [cntFrom, finT, evsT, ht, if_true, Option.toList, List.map_cons, List.map_nil, List.cons_append, List.nil_append, goOwn, List.length_cons]
      by_cases hb : (c : Int) + 1 < m
      · rw [if_pos (by simpa using hb), ih (c + 1) (n - 1) (by omega) (by omega)]
        omega
      · rw [if_neg (by simpa using hb)]
        omega

theorem tgoes {n : Nat} {w : World} {ba bp bs bn : Nat} {A : Option Addr} {cap cap2 : Nat} {xs : List Int} {k m : Int} (hba : Blk w ba #[.slice A xs.length cap, .int .i64 0] 29) (hbp : Blk w bp #[.pointer (some ⟨ba, 0, none⟩)] 27)
    (hbs : Blk w bs #[.func (.func 74) #[] #[.pointer (some ⟨bp, 0, none⟩)]] 32) (hbn : Blk w bn #[.int .i64 k] 3)
    (hk : k ≤ 9223372036854775807) (hr : Reads1 w A (xs.map (Value.int .i64))) (hl : xs.length ≤ 900) (hA : ¬ blkOf' A xs.length ba) (hm0 : 0 ≤ m) (hm1 : m ≤ 1000) :
    CallsIn Fence.wide n Try.prog 18 #[.func (.func 85) #[] #[.pointer (some ⟨bn, 0, none⟩), .pointer (some ⟨bs, 0, none⟩)], .slice A (max 0 (min (xs.length : Int) k)).toNat cap2, .int .i64 m] w
      fun e w' => e = .returned (.bool true) ∧ Blk w' ba #[.slice A xs.length cap, .int .i64 (min (max 0 (min (xs.length : Int) k)) (max m 1))] 29 ∧ Upd (fun k => k = ba) w w' := by
  have hM : (1000 : Nat) ≤ maxLen := by decide
  have hseq := count_seq hbp hba hr (by omega) (Blk.ne hba hbp (by decide)) hA
  have hf := take_seq (n := k) hseq hbs hbn (fun e => (Blk.ne hbs hba (by decide)) e) (fun e => (Blk.ne hbn hba (by decide)) e) hk
  have hpre : xs.take k.toNat <+: xs := List.take_prefix _ _
  have hlen : (xs.take k.toNat).length = (max 0 (min (xs.length : Int) k)).toNat := by rw [List.length_take]; omega
  rw [← hlen]
  refine (goes_c hf hba (by rw [takeEvs_snd, cntEvs_snd]) (hr.prefix_of (hpre.map _)) (fun j hj e => hA ?_) (by have := hpre.length_le; omega) hm0 hm1).mono ?_
  · subst e; exact ⟨by have := hpre.length_le; have := hj.1; omega, hj.2⟩
  rintro e w' ⟨rfl, ho, hu⟩
  refine ⟨rfl, ?_, hu⟩
  by_cases h1 : k < 1
  · have e1 : takeEvs k (cntEvs xs) = [] := by simp [takeEvs, h1]
    have e2 : takeFin k 0 xs.length (cntEvs xs) = 0 := by simp [takeFin, h1]
    rw [e1, e2] at ho
    have e3 : min (max 0 (min (xs.length : Int) k)) (max m 1) = 0 := by omega
    rw [e3]
    simpa [goOwn] using ho
  · have e1 : takeEvs k (cntEvs xs) = evsT trTake k (cntEvs xs) := by simp [takeEvs, h1]
    have e2 : takeFin k 0 xs.length (cntEvs xs) = finT trTake xs.length k (cntEvs xs) := by simp [takeFin, h1]
    rw [e1, e2] at ho
    have := take_cnt m xs 0 0 k (by omega) (by omega)
    have e3 : min (max 0 (min (xs.length : Int) k)) (max m 1) = ((0 : Nat) : Int) + min (min k xs.length) (max m 1 - (0 : Nat)) := by omega
    rw [e3, ← this]
    simpa using ho

theorem vtgoes {n : Nat} {w : World} {bv bs bn : Nat} {A : Option Addr} {cap cap2 : Nat} {xs : List Int} {k m : Int} (hbv : Blk w bv #[.slice A xs.length cap] 22)
    (hbs : Blk w bs #[.func (.func 76) #[] #[.pointer (some ⟨bv, 0, none⟩)]] 32) (hbn : Blk w bn #[.int .i64 k] 3)
    (hk : k ≤ 9223372036854775807) (hr : Reads1 w A (xs.map (Value.int .i64))) (hl : xs.length ≤ 900) (hm0 : 0 ≤ m) (hm1 : m ≤ 1000) :
    CallsIn Fence.wide n Try.prog 18 #[.func (.func 85) #[] #[.pointer (some ⟨bn, 0, none⟩), .pointer (some ⟨bs, 0, none⟩)], .slice A (max 0 (min (xs.length : Int) k)).toNat cap2, .int .i64 m] w
      fun e w' => e = .returned (.bool true) ∧ Upd (fun _ => False) w w' := by
  have hM : (1000 : Nat) ≤ maxLen := by decide
  have hseq := values_seq hbv hr (by omega)
  have hf := take_seq (n := k) hseq hbs hbn id id hk
  have hpre : xs.take k.toNat <+: xs := List.take_prefix _ _
  have hlen : (xs.take k.toNat).length = (max 0 (min (xs.length : Int) k)).toNat := by rw [List.length_take]; omega
  rw [← hlen]
  refine (goes_c hf trivial (by rw [takeEvs_snd]; simp [Function.comp_def]) (hr.prefix_of (hpre.map _)) (fun _ _ => id) (by have := hpre.length_le; omega) hm0 hm1).mono ?_
  rintro e w' ⟨rfl, _, hu⟩
  exact ⟨rfl, hu⟩

theorem vkgoes {n : Nat} {w : World} {bv bs bn : Nat} {A A2 : Option Addr} {cap cap2 : Nat} {xs : List Int} {k m : Int} (hbv : Blk w bv #[.slice A xs.length cap] 22)
    (hbs : Blk w bs #[.func (.func 76) #[] #[.pointer (some ⟨bv, 0, none⟩)]] 32) (hbn : Blk w bn #[.int .i64 k] 3)
    (hr : Reads1 w A (xs.map (Value.int .i64))) (hl : xs.length ≤ 900) (hr2 : Reads1 w A2 ((xs.drop k.toNat).map (Value.int .i64))) (hm0 : 0 ≤ m) (hm1 : m ≤ 1000) :
    CallsIn Fence.wide n Try.prog 18 #[.func (.func 86) #[] #[.pointer (some ⟨bs, 0, none⟩), .pointer (some ⟨bn, 0, none⟩)], .slice A2 (xs.length - k.toNat) cap2, .int .i64 m] w
      fun e w' => e = .returned (.bool true) ∧ Upd (fun _ => False) w w' := by
  have hM : (1000 : Nat) ≤ maxLen := by decide
  have hseq := values_seq hbv hr (by omega)
  have hf := skip_seq (n := k) hseq hbs hbn id id (by simp; omega)
  rw [← List.length_drop]
  refine (goes_c hf trivial (by rw [evsT_snd, evsT_snd, outs_skip]; simp [Function.comp_def]) hr2 (fun _ _ => id) (by rw [List.length_drop]; omega) hm0 hm1).mono ?_
  rintro e w' ⟨rfl, _, hu⟩
  exact ⟨rfl, hu⟩
end Go.Proofs.Ytkjkpmeommfdgaa

/- goes over Scan of a counted list, and of a plain one. -/
import Derived.Test.YtkjkpmeommfdgaaBase
import Derived.Test.YtkjkpmeommfdgaaWvI
import Derived.Test.YtkjkpmeommfdgaaWvG
import Derived.Test.YtkjkpmeommfdgaaWvL
import Derived.Test.YtkjkpmeommfdgaaWvH
import Derived.Test.YtkjkpmeommfdgaaWvS
import Derived.Test.YtkjkpmeommfdgaaWvS2
namespace Go.Proofs.Ytkjkpmeommfdgaa
open Go.RowKit Go.Shelf
attribute [local go_sem] Oper.semAt_some

theorem sums_u {n : Nat} {A : Option Addr} {cap : Nat} {xs : List Int} {k : Int} {w : World} (hr : Reads1 w A (xs.map (Value.int .i64))) (hl : xs.length ≤ 1000) :
    CallsIn Fence.wide n Try.prog 26 #[.slice A xs.length cap, .int .i64 k] w fun e w' =>
      ∃ A2 cap2, e = .returned (.slice A2 (xs.length + 1) cap2) ∧ Reads1 w' A2 ((sumsOf xorI k xs).map (Value.int .i64)) ∧ (∀ j, blkOf' A2 (sumsOf xorI k xs).length j → w.heap.size ≤ j) ∧ Upd (fun _ => False) w w' := by
  refine (sums_c hr hl).mono ?_
  rintro e w' ⟨v, rfl, ho, hB⟩
  have hls : (sumsOf xorI k xs).length = xs.length + 1 := by simp [outs_scan_len]
  obtain ⟨A2, c, rfl, h3, h4⟩ := Reads1.of_own ho (by simp)
  exact ⟨A2, c, by rw [hls], h3, fun j hj => h4 j (by simpa using hj), Upd.fresh hB⟩

theorem sgoes {n : Nat} {w : World} {ba bp bs bf bk : Nat} {A A2 : Option Addr} {cap cap2 : Nat} {xs : List Int} {k m : Int} (hba : Blk w ba #[.slice A xs.length cap, .int .i64 0] 29) (hbp : Blk w bp #[.pointer (some ⟨ba, 0, none⟩)] 27)
    (hbs : Blk w bs #[.func (.func 74) #[] #[.pointer (some ⟨bp, 0, none⟩)]] 32) (hbf : Blk w bf #[.int .i64 k] 3) (hbk : Blk w bk #[.func (.func 25) #[] #[]] 38)
    (hr : Reads1 w A (xs.map (Value.int .i64))) (hl : xs.length ≤ 900) (hA : ¬ blkOf' A xs.length ba) (hr2 : Reads1 w A2 ((sumsOf xorI k xs).map (Value.int .i64))) (hA2 : ∀ k', blkOf' A2 (sumsOf xorI k xs).length k' → k' ≠ ba) (hm0 : 0 ≤ m) (hm1 : m ≤ 1000) :
    CallsIn Fence.wide n Try.prog 18 #[.func (.func 77) #[] #[.pointer (some ⟨bf, 0, none⟩), .pointer (some ⟨bs, 0, none⟩), .pointer (some ⟨bk, 0, none⟩)], .slice A2 (xs.length + 1) cap2, .int .i64 m] w
      fun e w' => e = .returned (.bool true) ∧ Blk w' ba #[.slice A xs.length cap, .int .i64 (min ((xs.length : Int) + 1) (max m 1) - 1)] 29 ∧ Upd (fun k => k = ba) w w' := by
  have hM : (1000 : Nat) ≤ maxLen := by decide
  have hls : (sumsOf xorI k xs).length = xs.length + 1 := by simp [outs_scan_len]
  have hseq := count_seq hbp hba hr (by omega) (Blk.ne hba hbp (by decide)) hA
  have hf := scan_seq (f := xorI) hseq hbs hbf hbk (fun x y W => xor_c) (fun e => (Blk.ne hbs hba (by decide)) e) (fun e => (Blk.ne hbf hba (by decide)) e) (fun e => (Blk.ne hbk hba (by decide)) e)
  rw [← hls]
  refine (goes_c hf hba (by rw [List.map_cons, evsT_snd, cntEvs_snd]) hr2 hA2 (by omega) hm0 hm1).mono ?_
  rintro e w' ⟨rfl, ho, hu⟩
  refine ⟨rfl, ?_, hu⟩
  have := scan_cnt xorI m k xs
  rw [hls] at this
  rw [this] at ho
  simpa using ho

theorem vsgoes {n : Nat} {w : World} {bv bs bf bk : Nat} {A A2 : Option Addr} {cap cap2 : Nat} {xs : List Int} {k m : Int} (hbv : Blk w bv #[.slice A xs.length cap] 22)
    (hbs : Blk w bs #[.func (.func 76) #[] #[.pointer (some ⟨bv, 0, none⟩)]] 32) (hbf : Blk w bf #[.int .i64 k] 3) (hbk : Blk w bk #[.func (.func 25) #[] #[]] 38)
    (hr : Reads1 w A (xs.map (Value.int .i64))) (hl : xs.length ≤ 900) (hr2 : Reads1 w A2 ((sumsOf xorI k xs).map (Value.int .i64))) (hm0 : 0 ≤ m) (hm1 : m ≤ 1000) :
    CallsIn Fence.wide n Try.prog 18 #[.func (.func 77) #[] #[.pointer (some ⟨bf, 0, none⟩), .pointer (some ⟨bs, 0, none⟩), .pointer (some ⟨bk, 0, none⟩)], .slice A2 (xs.length + 1) cap2, .int .i64 m] w
      fun e w' => e = .returned (.bool true) ∧ Upd (fun _ => False) w w' := by
  have hM : (1000 : Nat) ≤ maxLen := by decide
  have hls : (sumsOf xorI k xs).length = xs.length + 1 := by simp [outs_scan_len]
  have hseq := values_seq hbv hr (by omega)
  have hf := scan_seq (f := xorI) hseq hbs hbf hbk (fun x y W => xor_c) id id id
  rw [← hls]
  refine (goes_c hf trivial (by rw [List.map_cons, evsT_snd]; simp [Function.comp_def]) hr2 (fun _ _ => id) (by omega) hm0 hm1).mono ?_
  rintro e w' ⟨rfl, _, hu⟩
  exact ⟨rfl, hu⟩

theorem vfold {n : Nat} {w : World} {bv : Nat} {A : Option Addr} {cap : Nat} {xs : List Int} {k : Int} (hbv : Blk w bv #[.slice A xs.length cap] 22) (hr : Reads1 w A (xs.map (Value.int .i64))) (hl : xs.length ≤ 900) :
    CallsIn Fence.wide n Try.prog 28 #[.func (.func 76) #[] #[.pointer (some ⟨bv, 0, none⟩)], .int .i64 k, .func (.func 25) #[] #[]] w
      fun e w' => e = .returned (.int .i64 (xs.foldl xorI k)) ∧ Upd (fun _ => False) w w' := by
  have hM : (1000 : Nat) ≤ maxLen := by decide
  exact fold_c (values_seq hbv hr (by omega)) trivial (by simp [Function.comp_def]) (fun x y W => xor_c)

theorem sums_last (f : Int → Int → Int) : ∀ (xs : List Int) (k : Int), (sumsOf f k xs)[xs.length]? = some (xs.foldl f k)
  | [], k => rfl
  | x :: xs, k => by simpa [sumsOf, outs] using sums_last f xs (f k x)

theorem Reads1.at {w : World} {ad : Addr} {xs : List Value} {i : Nat} {v : Value} (h : Reads1 w (some ad) xs) (hv : xs[i]? = some v) : w.cell? (ad.add i) = some v := by
  obtain ⟨_, e, h⟩ := h i v hv
  obtain rfl := Option.some.inj e
  exact h

theorem if_max (a b : Int) : (if a < b then b else a) = max a b := by split <;> omega
theorem if_min (a b : Int) : (if a < b then a else b) = min a b := by split <;> omega
end Go.Proofs.Ytkjkpmeommfdgaa

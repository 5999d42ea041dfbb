/- goes over Filter and While of a counted list. -/
import Derived.Test.YtkjkpmeommfdgaaBase
import Derived.Test.YtkjkpmeommfdgaaWvI
import Derived.Test.YtkjkpmeommfdgaaWvF
import Derived.Test.YtkjkpmeommfdgaaWvG
import Derived.Test.YtkjkpmeommfdgaaWvL
import Derived.Test.YtkjkpmeommfdgaaWvP
set_option linter.unusedSimpArgs false
set_option linter.unusedVariables false
namespace Go.Proofs.Ytkjkpmeommfdgaa
open Go.RowKit Go.Shelf
attribute [local go_sem] Oper.semAt_some

theorem while_c {n : Nat} {f1 f2 : Fn} {a1 c1 a2 c2 : Array Value} {w : World} :
    CallsIn Fence.wide n Try.prog 22 #[.func f1 a1 c1, .func f2 a2 c2] w fun e w' => e = .returned (.func (.func 75) #[] #[.pointer (some ⟨w.heap.size, 0, none⟩), .pointer (some ⟨w.heap.size + 1, 0, none⟩)]) ∧
      w' = (w.alloc (.cells #[.func f1 a1 c1] 32)).alloc (.cells #[.func f2 a2 c2] 26) := by
  refine callsIn_any (n := 0) (callsIn_of_wp Try.func22 rfl trivial ?_)
  simp only [Try.ntmps22, List.size_toArray, List.length_cons, List.length_nil, Nat.reduceAdd, Nat.reduceSub, Array.replicate_succ, Array.replicate_zero, List.push_toArray, List.append_toArray, List.nil_append, List.cons_append]
  gi_wp2
  go_ret
  exact ⟨rfl, rfl⟩

theorem Blk.ne {w : World} {a b : Nat} {ca cb : Array Value} {ta tb : TypeId} (ha : Blk w a ca ta) (hb : Blk w b cb tb) (h : ta ≠ tb) : a ≠ b := by
  rintro rfl
  have := ha.symm.trans hb
  simp at this
  exact h this.2
theorem Reads1.prefix_of {w : World} {A : Option Addr} {xs ys : List Value} (h : Reads1 w A ys) (hp : xs <+: ys) : Reads1 w A xs := fun i v hv => by
  obtain ⟨zs, rfl⟩ := hp
  refine h i v ?_
  rw [List.getElem?_append_left (List.getElem?_eq_some_iff.1 hv).1]
  exact hv

abbrev modz (k : Int) : Int → Bool := fun x => x.tmod k == 0

theorem fgoes {n : Nat} {w : World} {ba bp bs bq bk : Nat} {A A2 : Option Addr} {cap cap2 : Nat} {xs : List Int} {k m : Int} (hba : Blk w ba #[.slice A xs.length cap, .int .i64 0] 29) (hbp : Blk w bp #[.pointer (some ⟨ba, 0, none⟩)] 27)
    (hbs : Blk w bs #[.func (.func 74) #[] #[.pointer (some ⟨bp, 0, none⟩)]] 32) (hbq : Blk w bq #[.func (.func 17) #[] #[.pointer (some ⟨bk, 0, none⟩)]] 26) (hbk : Blk w bk #[.int .i64 k] 3)
    (h1 : 1 ≤ k) (h2 : k ≤ 5) (hr : Reads1 w A (xs.map (Value.int .i64))) (hl : xs.length ≤ 1000) (hA : ¬ blkOf' A xs.length ba) (hr2 : Reads1 w A2 ((xs.filter (modz k)).map (Value.int .i64))) (hA2 : ∀ k', blkOf' A2 (xs.filter (modz k)).length k' → k' ≠ ba) (hm0 : 0 ≤ m) (hm1 : m ≤ 1000) :
    CallsIn Fence.wide n Try.prog 18 #[.func (.func 73) #[] #[.pointer (some ⟨bs, 0, none⟩), .pointer (some ⟨bq, 0, none⟩)], .slice A2 (xs.filter (modz k)).length cap2, .int .i64 m] w
      fun e w' => e = .returned (.bool true) ∧ (∃ c : Nat, c ≤ xs.length ∧ Blk w' ba #[.slice A xs.length cap, .int .i64 c] 29) ∧ Upd (fun k => k = ba) w w' := by
  have hM : (1000 : Nat) ≤ maxLen := by decide
  have hseq := count_seq hbp hba hr (by omega) (Blk.ne hba hbp (by decide)) hA
  have hf := filter_seq (p := modz k) (Dk := fun j => j = bk) hseq hbs hbq (fun x W ha => keep_c (hbk.agree ha rfl) h1 h2) (fun e => (Blk.ne hbs hba (by decide)) e) (fun e => (Blk.ne hbq hba (by decide)) e)
    (by rintro j rfl; exact ⟨hbk.lt, fun e => (Blk.ne hbk hba (by decide)) e⟩)
  refine (goes_c hf hba (by rw [evsT_snd, cntEvs_snd, outs_filter]) hr2 hA2 (by have := List.length_filter_le (modz k) xs; omega) hm0 hm1).mono ?_
  rintro e w' ⟨rfl, ho, hu⟩
  refine ⟨rfl, ⟨_, ?_, ho⟩, hu⟩
  have := filter_cnt (modz k) m xs 0 0
  simpa using this

theorem wgoes {n : Nat} {w : World} {ba bp bs bq bk : Nat} {A : Option Addr} {cap cap2 : Nat} {xs : List Int} {k m : Int} (hba : Blk w ba #[.slice A xs.length cap, .int .i64 0] 29) (hbp : Blk w bp #[.pointer (some ⟨ba, 0, none⟩)] 27)
    (hbs : Blk w bs #[.func (.func 74) #[] #[.pointer (some ⟨bp, 0, none⟩)]] 32) (hbq : Blk w bq #[.func (.func 17) #[] #[.pointer (some ⟨bk, 0, none⟩)]] 26) (hbk : Blk w bk #[.int .i64 k] 3)
    (h1 : 1 ≤ k) (h2 : k ≤ 5) (hr : Reads1 w A (xs.map (Value.int .i64))) (hl : xs.length ≤ 1000) (hA : ¬ blkOf' A xs.length ba) (hm0 : 0 ≤ m) (hm1 : m ≤ 1000) :
    CallsIn Fence.wide n Try.prog 18 #[.func (.func 75) #[] #[.pointer (some ⟨bs, 0, none⟩), .pointer (some ⟨bq, 0, none⟩)], .slice A (xs.takeWhile (modz k)).length cap2, .int .i64 m] w
      fun e w' => e = .returned (.bool true) ∧ (∃ c : Nat, (c : Int) = min (min (xs.length : Int) ((xs.takeWhile (modz k)).length + 1)) (max m 1) ∧ Blk w' ba #[.slice A xs.length cap, .int .i64 c] 29) ∧ Upd (fun k => k = ba) w w' := by
  have hM : (1000 : Nat) ≤ maxLen := by decide
  have hseq := count_seq hbp hba hr (by omega) (Blk.ne hba hbp (by decide)) hA
  have hf := while_seq (p := modz k) (Dk := fun j => j = bk) hseq hbs hbq (fun x W ha => keep_c (hbk.agree ha rfl) h1 h2) (fun e => (Blk.ne hbs hba (by decide)) e) (fun e => (Blk.ne hbq hba (by decide)) e)
    (by rintro j rfl; exact ⟨hbk.lt, fun e => (Blk.ne hbk hba (by decide)) e⟩)
  have hpre : xs.takeWhile (modz k) <+: xs := List.takeWhile_prefix _
  refine (goes_c hf hba (by rw [evsT_snd, cntEvs_snd, outs_while]) (hr.prefix_of (hpre.map _)) (fun j hj e => hA ?_) (by have := hpre.length_le; omega) hm0 hm1).mono ?_
  · subst e; exact ⟨by have := hpre.length_le; have := hj.1; omega, hj.2⟩
  rintro e w' ⟨rfl, ho, hu⟩
  refine ⟨rfl, ⟨_, ?_, ho⟩, hu⟩
  have := while_cnt (modz k) m xs 0 0 (by omega)
  simpa using this

theorem vgoes {n : Nat} {w : World} {bv bs bq bk : Nat} {A A2 : Option Addr} {cap cap2 : Nat} {xs : List Int} {k m : Int} (hbv : Blk w bv #[.slice A xs.length cap] 22)
    (hbs : Blk w bs #[.func (.func 76) #[] #[.pointer (some ⟨bv, 0, none⟩)]] 32) (hbq : Blk w bq #[.func (.func 17) #[] #[.pointer (some ⟨bk, 0, none⟩)]] 26) (hbk : Blk w bk #[.int .i64 k] 3)
    (h1 : 1 ≤ k) (h2 : k ≤ 5) (hr : Reads1 w A (xs.map (Value.int .i64))) (hl : xs.length ≤ 1000) (hr2 : Reads1 w A2 ((xs.filter (modz k)).map (Value.int .i64))) (hm0 : 0 ≤ m) (hm1 : m ≤ 1000) :
    CallsIn Fence.wide n Try.prog 18 #[.func (.func 73) #[] #[.pointer (some ⟨bs, 0, none⟩), .pointer (some ⟨bq, 0, none⟩)], .slice A2 (xs.filter (modz k)).length cap2, .int .i64 m] w
      fun e w' => e = .returned (.bool true) ∧ Upd (fun _ => False) w w' := by
  have hM : (1000 : Nat) ≤ maxLen := by decide
  have hseq := values_seq hbv hr (by omega)
  have hf := filter_seq (p := modz k) (Dk := fun j => j = bk) hseq hbs hbq (fun x W ha => keep_c (hbk.agree ha rfl) h1 h2) id id (by rintro j rfl; exact ⟨hbk.lt, id⟩)
  refine (goes_c hf trivial (by rw [evsT_snd, outs_filter]; simp [Function.comp_def]) hr2 (fun _ _ => id) (by have := List.length_filter_le (modz k) xs; omega) hm0 hm1).mono ?_
  rintro e w' ⟨rfl, _, hu⟩
  exact ⟨rfl, hu⟩

theorem min3_run {a b c : Int} {t : Array TypeId} {u : TypeId} {P : Program} {W : World} : (Builtin.min_ t u #[.int .i64 a, .int .i64 b, .int .i64 c]).run P W = .ok (.int .i64 (min (min a b) c)) W := by
  have h2 : ∀ x y : Int, Builtin.min2 (.int .i64 x) (.int .i64 y) = pure (.int .i64 (min x y)) := fun x y => by
    show pure _ = _
    congr 2
    split <;> omega
  unfold Builtin.min_
  simp only [List.foldlM, h2, pure_bind]
  rfl
/-! ### The makers, said of blocks -/
theorem Upd.fresh {w w' : World} (h : Below w.heap.size w w') : Upd (fun _ => False) w w' := (Upd.of_below h).mono fun k hk h' => by omega
theorem count_u {n : Nat} {bc : Nat} {w : World} : CallsIn Fence.wide n Try.prog 20 #[.pointer (some ⟨bc, 0, none⟩)] w fun e w' =>
    ∃ bp, e = .returned (.func (.func 74) #[] #[.pointer (some ⟨bp, 0, none⟩)]) ∧ Blk w' bp #[.pointer (some ⟨bc, 0, none⟩)] 27 ∧ Upd (fun _ => False) w w' := by
  refine count_c.mono ?_
  rintro e w' ⟨rfl, rfl⟩
  exact ⟨_, rfl, Blk.new _ _ _, Upd.alloc _ _ _⟩
theorem values_u {n : Nat} {A : Option Addr} {len cap : Nat} {w : World} : CallsIn Fence.wide n Try.prog 24 #[.slice A len cap] w fun e w' =>
    ∃ bv, e = .returned (.func (.func 76) #[] #[.pointer (some ⟨bv, 0, none⟩)]) ∧ Blk w' bv #[.slice A len cap] 22 ∧ Upd (fun _ => False) w w' := by
  refine values_c.mono ?_
  rintro e w' ⟨rfl, rfl⟩
  exact ⟨_, rfl, Blk.new _ _ _, Upd.alloc _ _ _⟩
theorem filter_u {n : Nat} {f1 f2 : Fn} {a1 c1 a2 c2 : Array Value} {w : World} : CallsIn Fence.wide n Try.prog 19 #[.func f1 a1 c1, .func f2 a2 c2] w fun e w' =>
    ∃ bs bq, e = .returned (.func (.func 73) #[] #[.pointer (some ⟨bs, 0, none⟩), .pointer (some ⟨bq, 0, none⟩)]) ∧ Blk w' bs #[.func f1 a1 c1] 32 ∧ Blk w' bq #[.func f2 a2 c2] 26 ∧ Upd (fun _ => False) w w' := by
  refine filter_c.mono ?_
  rintro e w' ⟨rfl, rfl⟩
  exact ⟨_, _, rfl, Blk.alloc (Blk.new _ _ _) _, Blk.new' (by simp), (Upd.alloc _ _ _).stepAlloc _⟩
theorem while_u {n : Nat} {f1 f2 : Fn} {a1 c1 a2 c2 : Array Value} {w : World} : CallsIn Fence.wide n Try.prog 22 #[.func f1 a1 c1, .func f2 a2 c2] w fun e w' =>
    ∃ bs bq, e = .returned (.func (.func 75) #[] #[.pointer (some ⟨bs, 0, none⟩), .pointer (some ⟨bq, 0, none⟩)]) ∧ Blk w' bs #[.func f1 a1 c1] 32 ∧ Blk w' bq #[.func f2 a2 c2] 26 ∧ Upd (fun _ => False) w w' := by
  refine while_c.mono ?_
  rintro e w' ⟨rfl, rfl⟩
  exact ⟨_, _, rfl, Blk.alloc (Blk.new _ _ _) _, Blk.new' (by simp), (Upd.alloc _ _ _).stepAlloc _⟩
theorem evens_u {n : Nat} {A : Option Addr} {cap : Nat} {xs : List Int} {k : Int} {w : World} (hr : Reads1 w A (xs.map (Value.int .i64))) (hl : xs.length ≤ 1000) (h1 : 1 ≤ k) (h2 : k ≤ 5) :
    CallsIn Fence.wide n Try.prog 21 #[.slice A xs.length cap, .int .i64 k] w fun e w' =>
      ∃ A2 cap2, e = .returned (.slice A2 (xs.filter (modz k)).length cap2) ∧ Reads1 w' A2 ((xs.filter (modz k)).map (Value.int .i64)) ∧ (∀ j, blkOf' A2 (xs.filter (modz k)).length j → w.heap.size ≤ j) ∧ Upd (fun _ => False) w w' := by
  refine (evens_c hr hl h1 h2).mono ?_
  rintro e w' ⟨v, rfl, ho, hB⟩
  obtain ⟨A2, c, rfl, h3, h4⟩ := Reads1.of_own ho (by simp)
  exact ⟨A2, c, rfl, h3, fun j hj => h4 j (by simpa using hj), Upd.fresh hB⟩
end Go.Proofs.Ytkjkpmeommfdgaa

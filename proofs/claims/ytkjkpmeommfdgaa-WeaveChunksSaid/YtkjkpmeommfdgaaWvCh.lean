/- WeaveChunks' parts. -/
import Derived.Test.YtkjkpmeommfdgaaProg
import Derived.Test.YtkjkpmeommfdgaaBase
import Derived.Test.YtkjkpmeommfdgaaApp
import Derived.Test.YtkjkpmeommfdgaaWvI
import Derived.Test.YtkjkpmeommfdgaaWvL
import Derived.Test.YtkjkpmeommfdgaaWvC
import Derived.Test.YtkjkpmeommfdgaaWvA
import Derived.Test.YtkjkpmeommfdgaaWvH
import Derived.Test.YtkjkpmeommfdgaaWvGr
import Derived.Test.YtkjkpmeommfdgaaWvLs
import Derived.Test.YtkjkpmeommfdgaaWvCr
namespace Go.Proofs.Ytkjkpmeommfdgaa
open Go.RowKit Go.Shelf
attribute [local go_sem] Oper.semAt_some

theorem chunks_u {n : Nat} {f1 : Fn} {a1 c1 : Array Value} {k : Int} {w : World} : CallsIn Fence.wide n Try.prog 33 #[.func f1 a1 c1, .int .i64 k] w fun e w' =>
    ∃ bs bn, e = .returned (.func (.func 80) #[] #[.pointer (some ⟨bn, 0, none⟩), .pointer (some ⟨bs, 0, none⟩)]) ∧ Blk w' bs #[.func f1 a1 c1] 32 ∧ Blk w' bn #[.int .i64 k] 3 ∧ w.heap.size ≤ bs ∧ w.heap.size ≤ bn ∧ Upd (fun _ => False) w w' := by
  refine chunks_c.mono ?_
  rintro e w' ⟨rfl, rfl⟩
  exact ⟨_, _, rfl, Blk.alloc (Blk.new' rfl) _, Blk.new' (by simp), Nat.le_refl _, by omega, (Upd.alloc _ _ _).stepAlloc _⟩
theorem groups_u {n : Nat} {f1 f2 : Fn} {a1 c1 a2 c2 : Array Value} {w : World} : CallsIn Fence.wide n Try.prog 35 #[.func f1 a1 c1, .func f2 a2 c2] w fun e w' =>
    ∃ bs bk, e = .returned (.func (.func 81) #[] #[.pointer (some ⟨bs, 0, none⟩), .pointer (some ⟨bk, 0, none⟩)]) ∧ Blk w' bs #[.func f1 a1 c1] 32 ∧ Blk w' bk #[.func f2 a2 c2] 50 ∧ Upd (fun _ => False) w w' := by
  refine callsIn_any (n := 0) (callsIn_of_wp Try.func35 rfl trivial ?_)
  simp only [Try.ntmps35, List.size_toArray, List.length_cons, List.length_nil, Nat.reduceAdd, Nat.reduceSub, Array.replicate_succ, Array.replicate_zero, List.push_toArray, List.append_toArray, List.nil_append, List.cons_append]
  gi_wp2
  go_ret
  exact ⟨_, _, rfl, Blk.alloc (Blk.new' rfl) _, Blk.new' (by simp), (Upd.alloc _ _ _).stepAlloc _⟩

set_option maxRecDepth 100000 in
set_option maxHeartbeats 1000000 in
theorem same_v {x y k : Int} {bk : Nat} {w : World} (hk : Blk w bk #[.int .i64 k] 3) (h1 : 1 ≤ k) (h2 : k ≤ 5) :
    CallV Try.prog (.func (.func 31) #[] #[.pointer (some ⟨bk, 0, none⟩)]) #[.int .i64 x, .int .i64 y] w fun v w' => v = .bool (sameMod k x y) ∧ Upd (fun _ => False) w w' := by
  refine CallV.of_calls (n := 0) (enters_of Try.func31 (by kernel_rfl) rfl) ?_
  refine callsIn_of_wp Try.func31 rfl trivial ?_
  simp only [Try.ntmps31, List.size_toArray, List.length_cons, List.length_nil, Nat.reduceAdd, Nat.reduceSub, Array.replicate_succ, Array.replicate_zero, List.push_toArray, List.append_toArray, List.nil_append, List.cons_append]
  have hu := Upd.drew (fun _ => False) w
  have c1 := (hk.upd hu id).cell0
  have hk0 : ¬ k = 0 := by omega
  gi_wp2
  refine wpIn_still (by kernel_rfl) (by kernel_rfl) ?_
  generalize w.drew = V at *
  repeat still_step
  refine wpStill_nil ?_
  gi_wp2
  go_ret
  exact ⟨_, rfl, rfl, hu⟩

theorem chunk_size {n : Int} : ∀ (xs l : List Int), (outs (trChunk n) l xs ++ restOf (trSt (trChunk n) l xs).1).length ≤ xs.length + 1 ∧ ∀ c ∈ outs (trChunk n) l xs ++ restOf (trSt (trChunk n) l xs).1, c ≠ [] ∧ c.length ≤ l.length + xs.length
  | [], l => by
    simp only [outs, trSt, restOf, List.nil_append]
    by_cases h : l = [] <;> simp [h]
  | x :: xs, l => by
    have ih1 := chunk_size (n := n) xs (l ++ [x])
    have ih2 := chunk_size (n := n) xs []
    by_cases hb : ((l ++ [x]).length : Int) < n
    · have e : trChunk n l x = (l ++ [x], none, true) := if_pos hb
      simp only [outs, trSt, e, if_true, Option.toList, List.nil_append, List.length_cons]
      refine ⟨by omega, fun c hc => ?_⟩
      have := ih1.2 c hc
      simp at this
      exact ⟨this.1, by omega⟩
    · have e : trChunk n l x = ([], some (l ++ [x]), true) := if_neg hb
      simp only [outs, trSt, e, if_true, Option.toList, List.cons_append, List.nil_append, List.length_cons]
      refine ⟨by omega, fun c hc => ?_⟩
      rcases List.mem_cons.1 hc with rfl | hc
      · exact ⟨by simp, by simp⟩
      · have := ih2.2 c hc
        simp at this
        exact ⟨this.1, by omega⟩
theorem chunksOf_size (n : Int) (xs : List Int) : (chunksOf n xs).length ≤ xs.length + 1 ∧ ∀ c ∈ chunksOf n xs, c ≠ [] ∧ c.length ≤ xs.length := by
  unfold chunksOf
  split
  · simp
  · have := chunk_size (n := n) xs []
    simpa using this
theorem group_size (same : Int → Int → Bool) : ∀ (xs l : List Int), (outs (trGroup same) l xs ++ restOf (trSt (trGroup same) l xs).1).length ≤ xs.length + 1 ∧ ∀ c ∈ outs (trGroup same) l xs ++ restOf (trSt (trGroup same) l xs).1, c ≠ [] ∧ c.length ≤ l.length + xs.length
  | [], l => by
    simp only [outs, trSt, restOf, List.nil_append]
    by_cases h : l = [] <;> simp [h]
  | x :: xs, l => by
    have ih1 := group_size same xs (l ++ [x])
    have ih2 := group_size same xs [x]
    cases hl : l.getLast? with
    | none =>
      have : l = [] := by simpa using hl
      subst this
      have e : trGroup same [] x = ([x], none, true) := rfl
      simp only [outs, trSt, e, if_true, Option.toList, List.nil_append, List.length_cons]
      refine ⟨by omega, fun c hc => ?_⟩
      have := ih2.2 c hc
      simp at this
      exact ⟨this.1, by simp; omega⟩
    | some z =>
      cases hs : same z x with
      | true =>
        have e : trGroup same l x = (l ++ [x], none, true) := by simp [trGroup, hl, hs]
        simp only [outs, trSt, e, if_true, Option.toList, List.nil_append, List.length_cons]
        refine ⟨by omega, fun c hc => ?_⟩
        have := ih1.2 c hc
        simp at this
        exact ⟨this.1, by omega⟩
      | false =>
        have e : trGroup same l x = ([x], some l, true) := by simp [trGroup, hl, hs]
        simp only [outs, trSt, e, if_true, Option.toList, List.cons_append, List.nil_append, List.length_cons]
        refine ⟨by omega, fun c hc => ?_⟩
        rcases List.mem_cons.1 hc with rfl | hc
        · exact ⟨by rintro rfl; simp at hl, by omega⟩
        · have := ih2.2 c hc
          simp at this
          exact ⟨this.1, by omega⟩
theorem groupsOf_size (same : Int → Int → Bool) (xs : List Int) : (groupsOf same xs).length ≤ xs.length + 1 ∧ ∀ c ∈ groupsOf same xs, c ≠ [] ∧ c.length ≤ xs.length := by
  have := group_size same xs []
  simpa [groupsOf] using this

/-- lists over Chunks of a plain list. -/
theorem clists {n : Nat} {w : World} {bv bs bn : Nat} {A A2 : Option Addr} {cap c2 len : Nat} {xs : List Int} {k m : Int} {Dm : Nat → Prop} (hbv : Blk w bv #[.slice A xs.length cap] 22)
    (hbs : Blk w bs #[.func (.func 76) #[] #[.pointer (some ⟨bv, 0, none⟩)]] 32) (hbn : Blk w bn #[.int .i64 k] 3) (hr : Reads1 w A (xs.map (Value.int .i64))) (hl : xs.length ≤ 60)
    (hr2 : Reads2 Dm w A2 (chunksOf k xs)) (hD : ∀ j, Dm j → j < w.heap.size) (hlen : len = (chunksOf k xs).length) (hm0 : 0 ≤ m) (hm1 : m ≤ 1000) :
    CallsIn Fence.wide n Try.prog 32 #[.func (.func 80) #[] #[.pointer (some ⟨bn, 0, none⟩), .pointer (some ⟨bs, 0, none⟩)], .slice A2 len c2, .int .i64 m] w
      fun e w' => e = .returned (.bool true) ∧ Upd (fun _ => False) w w' := by
  have hM : (1000 : Nat) ≤ maxLen := by decide
  have hseq := values_seq hbv hr (by omega)
  have hs := chunks_seq hseq hbs hbn id id (by simp; omega)
  have hz := chunksOf_size k xs
  refine (lists_c hs trivial (by rw [chunkEvs_snd]; simp [Function.comp_def]) (fun l h => ⟨(hz.2 l h).1, by have := (hz.2 l h).2; omega⟩) hr2 (fun j hj => ⟨hD j hj, id⟩) (by omega) hlen hm0 hm1).mono ?_
  rintro e w' ⟨rfl, _, hu⟩
  exact ⟨rfl, hu⟩
/-- lists over Groups of a plain list. -/
theorem glists {n : Nat} {w : World} {bv bs bf bk : Nat} {A A2 : Option Addr} {cap c2 len : Nat} {xs : List Int} {k m : Int} {Dm : Nat → Prop} (hbv : Blk w bv #[.slice A xs.length cap] 22)
    (hbs : Blk w bs #[.func (.func 76) #[] #[.pointer (some ⟨bv, 0, none⟩)]] 32) (hbf : Blk w bf #[.func (.func 31) #[] #[.pointer (some ⟨bk, 0, none⟩)]] 50) (hbk : Blk w bk #[.int .i64 k] 3)
    (h1 : 1 ≤ k) (h2 : k ≤ 5) (hr : Reads1 w A (xs.map (Value.int .i64))) (hl : xs.length ≤ 60)
    (hr2 : Reads2 Dm w A2 (groupsOf (sameMod k) xs)) (hD : ∀ j, Dm j → j < w.heap.size) (hlen : len = (groupsOf (sameMod k) xs).length) (hm0 : 0 ≤ m) (hm1 : m ≤ 1000) :
    CallsIn Fence.wide n Try.prog 32 #[.func (.func 81) #[] #[.pointer (some ⟨bs, 0, none⟩), .pointer (some ⟨bf, 0, none⟩)], .slice A2 len c2, .int .i64 m] w
      fun e w' => e = .returned (.bool true) ∧ Upd (fun _ => False) w w' := by
  have hM : (1000 : Nat) ≤ maxLen := by decide
  have hseq := values_seq hbv hr (by omega)
  have hs := groups_seq (same := sameMod k) (Dk := fun j => j = bk) hseq hbs hbf id id (fun x y W ha => same_v (hbk.agree ha rfl) h1 h2) (by rintro j rfl; exact ⟨hbk.lt, id⟩) (by simp; omega)
  have hz := groupsOf_size (sameMod k) xs
  refine (lists_c hs trivial (by rw [groupEvs_snd]; simp [Function.comp_def]) (fun l h => ⟨(hz.2 l h).1, by have := (hz.2 l h).2; omega⟩) hr2 (fun j hj => ⟨hD j hj, id⟩) (by omega) hlen hm0 hm1).mono ?_
  rintro e w' ⟨rfl, _, hu⟩
  exact ⟨rfl, hu⟩

theorem evs_first (N : Nat) : ∀ (xs l : List Int) (n0 : Nat), l.length < N → N ≤ l.length + xs.length → ∃ c rest, evsT (trChunk N) l (cntFrom n0 xs) = (n0 + (N - l.length), c) :: rest
  | [], l, n0, h1, h2 => by simp at h2; omega
  | x :: xs, l, n0, h1, h2 => by
    by_cases hb : ((l ++ [x]).length : Int) < N
    · have e : trChunk N l x = (l ++ [x], none, true) := if_pos hb
      have hb' : l.length + 1 < N := by simp at hb; omega
      obtain ⟨c, rest, h⟩ := evs_first N xs (l ++ [x]) (n0 + 1) (by simp; omega) (by simp at h2 ⊢; omega)
      refine ⟨c, rest, ?_⟩
      simp only [cntFrom, evsT, e, Option.toList, List.map_nil, List.nil_append, if_true]
      rw [h]
      simp only [List.length_append, List.length_cons, List.length_nil, List.cons.injEq, Prod.mk.injEq, and_true]
      omega
    · have e : trChunk N l x = ([], some (l ++ [x]), true) := if_neg hb
      have hb' : N = l.length + 1 := by simp at hb; omega
      refine ⟨l ++ [x], evsT (trChunk N) [] (cntFrom (n0 + 1) xs), ?_⟩
      simp only [cntFrom, evsT, e, Option.toList, List.map_cons, List.map_nil, List.cons_append, List.nil_append, if_true]
      rw [hb']
      simp
/-- lists over Chunks of a counted list, of one chunk: no more is asked for than it has. -/
theorem klists {n : Nat} {w : World} {ba bp bs bn : Nat} {A A2 : Option Addr} {cap c2 len : Nat} {xs : List Int} {k : Int} {Dm : Nat → Prop} (hba : Blk w ba #[.slice A xs.length cap, .int .i64 0] 29) (hbp : Blk w bp #[.pointer (some ⟨ba, 0, none⟩)] 27)
    (hbs : Blk w bs #[.func (.func 74) #[] #[.pointer (some ⟨bp, 0, none⟩)]] 32) (hbn : Blk w bn #[.int .i64 k] 3) (hr : Reads1 w A (xs.map (Value.int .i64))) (hl : xs.length ≤ 60) (hA : ¬ blkOf' A xs.length ba)
    (hk : 1 ≤ k ∧ k ≤ xs.length) (hr2 : Reads2 Dm w A2 (chunksOf k xs)) (hD : ∀ j, Dm j → j < w.heap.size ∧ ¬ j = ba) (hlen : len = (chunksOf k xs).length) :
    CallsIn Fence.wide n Try.prog 32 #[.func (.func 80) #[] #[.pointer (some ⟨bn, 0, none⟩), .pointer (some ⟨bs, 0, none⟩)], .slice A2 len c2, .int .i64 1] w
      fun e w' => e = .returned (.bool true) ∧ Blk w' ba #[.slice A xs.length cap, .int .i64 k] 29 ∧ Upd (fun k => k = ba) w w' := by
  have hM : (1000 : Nat) ≤ maxLen := by decide
  have hseq := count_seq hbp hba hr (by omega) (Blk.ne hba hbp (by decide)) hA
  have hs := chunks_seq hseq hbs hbn (fun e => (Blk.ne hbs hba (by decide)) e) (fun e => (Blk.ne hbn hba (by decide)) e) (by rw [cntEvs_len]; omega)
  have hz := chunksOf_size k xs
  refine (lists_c hs (m := 1) (by simpa using hba) (by rw [chunkEvs_snd, cntEvs_snd]) (fun l h => ⟨(hz.2 l h).1, by have := (hz.2 l h).2; omega⟩) hr2 hD (by omega) hlen (by omega) (by omega)).mono ?_
  rintro e w' ⟨rfl, ho, hu⟩
  refine ⟨rfl, ?_, hu⟩
  obtain ⟨N, rfl⟩ : ∃ N : Nat, k = N := ⟨k.toNat, by omega⟩
  obtain ⟨c, rest, h⟩ := evs_first N xs [] 0 (by simp; omega) (by simp; omega)
  have e1 : chunkEvs N xs.length (cntEvs xs) = (N, c) :: (rest ++ (restOf (trSt (trChunk N) [] ((cntEvs xs).map (·.2))).1).map fun l => (xs.length, l)) := by
    rw [chunkEvs, if_neg (by omega)]
    show evsT (trChunk N) [] (cntFrom 0 xs) ++ _ = _
    rw [h]
    simp
  rw [e1] at ho
  simpa [goOwn] using ho
end Go.Proofs.Ytkjkpmeommfdgaa

/- plot.Buckets. -/
import Derived.Test.YtkjkpmeommfdgaaProg
import Derived.Test.YtkjkpmeommfdgaaBase
import Derived.Test.YtkjkpmeommfdgaaRangeAt
import Derived.Test.YtkjkpmeommfdgaaWvI
import Derived.Test.YtkjkpmeommfdgaaWvL
import Derived.Test.YtkjkpmeommfdgaaPbS
import Derived.Test.YtkjkpmeommfdgaaPbR
set_option linter.unusedSimpArgs false
set_option linter.unusedVariables false
namespace Go.Proofs.Ytkjkpmeommfdgaa
open Go.RowKit Go.Shelf
attribute [local go_sem] Oper.semAt_some

theorem made0 (n : Nat) : madeCells (Value.int .i64 0).cells n = ((List.replicate n (0 : Int)).map (Value.int .i64)).toArray := by
  apply Array.ext
  · simp [madeCells]
  · intro i h1 h2
    simp [madeCells, Value.cells, Nat.mod_one]
theorem make_run (n : Nat) (hn : n ≤ 1000) (W : World) : (Instr.makeSlice 22 (.int .i64 ((n : Int) + 1)) (.int .i64 ((n : Int) + 1))).run Try.prog W =
    .ok (.slice (some ⟨W.heap.size, 0, none⟩) (n + 1) (n + 1)) (W.alloc (.cells ((List.replicate (n + 1) (0 : Int)).map (Value.int .i64)).toArray 3)) := by
  obtain ⟨i, hi, hz, hs, hb⟩ := info_parts infoI
  have h := run_make (P := Try.prog) W 22 3 i (.int .i64 0) Try.underlying22 hi hz .i64 .i64 ((n : Int) + 1) ((n : Int) + 1) (by omega) (by omega) (by rw [hb]; omega) (by omega)
  rw [hs, Nat.mul_one, show ((n : Int) + 1).toNat = n + 1 by omega, made0] at h
  exact h

/-- A number's bucket. -/
def posOf (bs : List Int) (x : Int) : Nat := (bs.takeWhile fun y => decide (y < x)).length
theorem posOf_le (bs : List Int) (x : Int) : posOf bs x ≤ bs.length := (List.takeWhile_prefix _).length_le
def bump (out : List Int) (i : Nat) : List Int := out.set i (out.getD i 0 + 1)
/-- How many are in each. -/
def bkOf (bs l : List Int) : List Int := l.foldl (fun out x => bump out (posOf bs x)) (List.replicate (bs.length + 1) 0)
theorem bump_len (out : List Int) (i : Nat) : (bump out i).length = out.length := by simp [bump]
theorem bk_len (bs : List Int) : ∀ (l : List Int) (out : List Int), (l.foldl (fun out x => bump out (posOf bs x)) out).length = out.length
  | [], out => rfl
  | x :: l, out => by rw [List.foldl_cons, bk_len bs l, bump_len]
theorem bkOf_len (bs l : List Int) : (bkOf bs l).length = bs.length + 1 := by rw [bkOf, bk_len]; simp
/-- Each between 0 and k. -/
def Within (k : Nat) (out : List Int) : Prop := ∀ i (h : i < out.length), 0 ≤ out[i] ∧ out[i] ≤ k
theorem Within.bump {k : Nat} {out : List Int} (h : Within k out) (i : Nat) : Within (k + 1) (bump out i) := by
  intro j hj
  rw [bump_len] at hj
  simp only [Proofs.Ytkjkpmeommfdgaa.bump, List.getElem_set]
  by_cases e : i = j
  · subst e
    have := h i hj
    rw [if_pos rfl]
    simp [List.getD_eq_getElem?_getD, hj]
    omega
  · rw [if_neg e]
    have := h j hj
    omega
theorem bk_within (bs : List Int) : ∀ (l : List Int) (out : List Int) (k : Nat), Within k out → Within (k + l.length) (l.foldl (fun out x => bump out (posOf bs x)) out)
  | [], out, k, h => h
  | x :: l, out, k, h => by
    have := bk_within bs l _ _ (h.bump (posOf bs x))
    rw [List.foldl_cons, List.length_cons, show k + (l.length + 1) = k + 1 + l.length by omega]
    exact this
theorem bk0_within (n : Nat) : Within 0 (List.replicate n 0) := by
  intro i h
  simp

theorem bump_arr {out : List Int} {i : Nat} (h : i < out.length) : ((out.map (Value.int .i64)).toArray).setIfInBounds i (.int .i64 (out[i] + 1)) = ((bump out i).map (Value.int .i64)).toArray := by
  simp [bump, h]
abbrev bkStep (bs : List Int) : List Int → Int → List Int × Option Code := fun out x => (bump out (posOf bs x), none)
theorem bkStep_go (bs : List Int) : ∀ (l : List Int) (out : List Int), goR (bkStep bs) out l = (l.foldl (fun out x => bump out (posOf bs x)) out, none)
  | [], out => rfl
  | x :: l, out => by simp only [goR, List.foldl_cons]; exact bkStep_go bs l _

set_option maxRecDepth 100000 in
set_option maxHeartbeats 1000000 in
open Classical in
theorem bucketsBad_c {n : Nat} {A : Option Addr} {cap : Nat} {xs : List Int} {fi : FuncId} {fc : Array Value} {w : World} (hr : Reads1 w A (xs.map (Value.int .i64))) (hl : xs.length ≤ 900) (hb : ¬ (Rises xs ∧ xs.length ≤ 50)) :
    CallsIn Fence.wide n Try.prog 49 #[.slice A xs.length cap, .func (.func fi) #[] fc] w fun e w' => e = .returned (.tuple #[.slice none 0 0, .int .i64 2]) ∧ Upd (fun _ => False) w w' := by
  refine callsIn_any (n := 0) (callsIn_of_wp_marks Try.func49 rfl trivial ?_)
  simp only [Try.ntmps49, List.size_toArray, List.length_cons, List.length_nil, Nat.reduceAdd, Nat.reduceSub, Array.replicate_succ, Array.replicate_zero, List.push_toArray, List.append_toArray, List.nil_append, List.cons_append]
  have hu := Upd.alloc (fun _ => False) w (.cells #[.slice A xs.length cap] 22)
  replace hr := hr.agree' (hu.agree fun k hk => ⟨hr.lt' k hk, id⟩)
  have hd : decide (Rises xs ∧ xs.length ≤ 50) = false := decide_eq_false hb
  gi_wp2_with (first | refine (⟨trivial, rfl, ?_⟩ : Fence.wide.fn _ ∧ Fence.wide.depth = none ∧ _) | (gi_at_call 87; refine (right_c hr hl).mono ?_; rintro e W2 ⟨rfl, hu2⟩; (rw [hd]); (replace hu := hu.trans' hu2); clear hu2 hr))
  refine ⟨_, results_tmp2 rfl _ _ _, ?_⟩
  exact ⟨rfl, hu⟩

set_option maxRecDepth 100000 in
set_option maxHeartbeats 1000000 in
open Classical in
theorem bucketsGood_c {n : Nat} {A : Option Addr} {cap : Nat} {xs l : List Int} {fi : FuncId} {fc : Array Value} {D : Nat → Prop} {w : World} (hr : Reads1 w A (xs.map (Value.int .i64))) (hl : xs.length ≤ 900) (hb : Rises xs ∧ xs.length ≤ 50) (hll : l.length ≤ 1000)
    (hseq : SeqO Try.prog (.func (.func fi) #[] fc) encI (l.map fun x => ((), x)) () () (fun _ _ => True) (fun _ => False) D w) :
    CallsIn Fence.wide n Try.prog 49 #[.slice A xs.length cap, .func (.func fi) #[] fc] w fun e w' => ∃ g, e = .returned (.tuple #[.slice (some ⟨g, 0, none⟩) (xs.length + 1) (xs.length + 1), .int .i64 0]) ∧
      Blk w' g ((bkOf xs l).map (Value.int .i64)).toArray 3 ∧ w.heap.size ≤ g ∧ Upd (fun _ => False) w w' := by
  have hA : ∀ k, blkOf' A xs.length k → k < w.heap.size := fun k hk => hr.lt' k (by simpa using hk)
  refine callsIn_any (n := 0) (callsIn_of_wp_marks Try.func49 rfl trivial ?_)
  simp only [Try.ntmps49, List.size_toArray, List.length_cons, List.length_nil, Nat.reduceAdd, Nat.reduceSub, Array.replicate_succ, Array.replicate_zero, List.push_toArray, List.append_toArray, List.nil_append, List.cons_append]
  have hu := Upd.alloc (fun _ => False) w (.cells #[.slice A xs.length cap] 22)
  have hbx : Blk (w.alloc (.cells #[.slice A xs.length cap] 22)) w.heap.size #[.slice A xs.length cap] 22 := Blk.new _ _ _
  replace hr := hr.agree' (hu.agree fun k hk => ⟨hr.lt' k hk, id⟩)
  have hd : decide (Rises xs ∧ xs.length ≤ 50) = true := decide_eq_true hb
  replace hseq := Lib.hid hseq
  have hmk := make_run xs.length (by omega)
  gi_wp2_with (first | refine (⟨trivial, rfl, ?_⟩ : Fence.wide.fn _ ∧ Fence.wide.depth = none ∧ _) | (gi_at_call 87; refine (right_c hr hl).mono ?_; rintro e W2 ⟨rfl, hu2⟩; (rw [hd]); (replace hr := hr.agree' (hu2.agree fun k hk => ⟨hr.lt' k hk, id⟩)); (replace hbx := hbx.upd hu2 id); (replace hu := hu.trans' hu2); (have c0 := hbx.cell0); clear hu2))
  rename_i KK hK
  have hWX := hu
  obtain ⟨WX, hX⟩ : ∃ WX, WX = (W2.alloc (.cells ((List.replicate (xs.length + 1) (0 : Int)).map (Value.int .i64)).toArray 3)).alloc (.cells #[.slice (some ⟨W2.heap.size, 0, none⟩) (xs.length + 1) (xs.length + 1)] 22) := ⟨_, rfl⟩
  have hX' : WX = (W2.alloc (.cells (Array.replicate (xs.length + 1) (.int .i64 0)) 3)).alloc (.cells #[.slice (some ⟨W2.heap.size, 0, none⟩) (xs.length + 1) (xs.length + 1)] 22) := by rw [hX]; simp
  rw [← hX']
  have hg : Blk WX W2.heap.size ((List.replicate (xs.length + 1) (0 : Int)).map (Value.int .i64)).toArray 3 := by rw [hX]; exact Blk.alloc (Blk.new' rfl) _
  have hbo : Blk WX (W2.heap.size + 1) #[.slice (some ⟨W2.heap.size, 0, none⟩) (xs.length + 1) (xs.length + 1)] 22 := by rw [hX]; exact Blk.new' (by simp)
  have hu2 : Upd (fun _ => False) W2 WX := by rw [hX]; exact (Upd.alloc _ _ _).stepAlloc _
  clear hX hX' hmk hWX c0
  replace hr := hr.agree' (hu2.agree fun k hk => ⟨hr.lt' k hk, id⟩)
  have hzb := hbx.lt
  replace hbx := hbx.upd hu2 id
  replace hu := hu.trans' hu2
  have hz2 : w.heap.size ≤ W2.heap.size := by omega
  have hz3 : w.heap.size ≠ W2.heap.size := by omega
  have hz4 : w.heap.size ≠ W2.heap.size + 1 := by omega
  clear hu2
  generalize W2.heap.size = g at *
  have hL : (l.map fun x => ((), x)).map (·.2) = l := by simp [Function.comp_def]
  refine wpIn_range_at hseq.out rfl hu.size (hu.agree fun k hk => ⟨(hseq.out.dlt k hk).1, id⟩) trivial (fun _ => rfl) (bkStep xs) (fun out S' W' => Blk W' g (out.map (Value.int .i64)).toArray 3 ∧ Blk W' (g + 1) #[.slice (some ⟨g, 0, none⟩) (xs.length + 1) (xs.length + 1)] 22 ∧ out.length = xs.length + 1 ∧ S' g ∧ S' (g + 1)) (List.replicate (xs.length + 1) 0) (fun k => k = g ∨ k = g + 1) ?hS ?hstab ⟨hg, hbo, by simp, .inl rfl, .inr rfl⟩ ?hround ?hend
  case hS =>
    rintro k (rfl | rfl)
    · exact ⟨hg.lt, fun h => by have := (hseq.out.dlt _ h).1; omega, id⟩
    · exact ⟨hbo.lt, fun h => by have := (hseq.out.dlt _ h).1; omega, id⟩
  case hstab => exact fun s' S' Wa Wb h hA _ => ⟨h.1.agree hA h.2.2.2.1, h.2.1.agree hA h.2.2.2.2, h.2.2⟩
  case hround =>
    intro lp pre x suf s1 S1 W1 hlp he hgo hI hsz hu1 hS1
    obtain ⟨i1, i2, i3, i4, i5⟩ := hI
    rw [hL] at he
    have hpre : pre.length ≤ 1000 := by have := congrArg List.length he; simp at this; omega
    rw [bkStep_go] at hgo
    have hwi : Within pre.length s1 := by
      have := bk_within xs pre _ 0 (bk0_within (xs.length + 1))
      rw [Nat.zero_add] at this
      rwa [(Prod.mk.inj hgo).1] at this
    have hr1 := hr.agree' (hu1.agree fun k hk => ⟨hr.lt' k hk, by have := hA k (by simpa using hk); rintro ((h | h) | h); omega; omega; exact h⟩)
    have hb1 := hbx.upd hu1 (by rintro ((h | h) | h); exact hz3 h; exact hz4 h; exact h)
    have hwl := hbx.lt
    have hp := posOf_le xs x
    have hps : posOf xs x < s1.length := by omega
    have hwx := hwi _ hps
    clear hseq hL hK KK he hgo hg hbo hr hbx hu hwi hd
    gi_wp2
    refine ⟨Upd.refl _ _, ?_⟩
    intro Wb hub hbs hrec
    replace i1 := i1.upd hub (hS1 _ i4).2.1
    replace i2 := i2.upd hub (hS1 _ i5).2.1
    have hr2 := hr1.agree' (hub.agree fun k hk => ⟨hr1.lt' k hk, by have := hA k (by simpa using hk); omega⟩)
    replace hb1 := hb1.upd hub (by omega)
    clear hub hrec hr1
    have c1 := hb1.cell0
    gi_wp2_with (first | refine (⟨trivial, rfl, ?_⟩ : Fence.wide.fn _ ∧ Fence.wide.depth = none ∧ _) | (gi_at_call 88; refine (bsearch_c hr2 (by omega) hb.1).mono ?_; rintro e W3 ⟨b, rfl, hu⟩; (replace i1 := i1.upd hu id); (replace i2 := i2.upd hu id); have d1 := i2.cell0; have d2 : W3.cell? ⟨g, posOf xs x, none⟩ = some (.int .i64 s1[posOf xs x]) := (by rw [i1.cell]; simp [hps]); have d3 := i1.frozen (posOf xs x); have d4 := i1.lt; (rw [show (xs.takeWhile fun y => decide (y < x)).length = posOf xs x from rfl]); (replace hu := Lib.hid hu)))
    have hz := hu.out.size
    refine ⟨rfl, S1, ⟨?_, i2.other (by simp) _, by rw [bump_len]; exact i3, i4, i5⟩, (hu.out.mono fun _ _ h => h.elim).stepSet (.inl (.inl i4)) _, fun k hk => ⟨by have := (hS1 k hk).1; simp; omega, .inl (.inl hk)⟩⟩
    have := i1.set (posOf xs x) (.int .i64 (s1[posOf xs x] + 1))
    rwa [bump_arr hps] at this
  case hend =>
    intro S' W' hI hOw hu1 hsz hS' hdef
    rw [hL, bkStep_go] at hI
    rw [hL, bkStep_go]
    obtain ⟨i1, i2, i3, i4, i5⟩ := hI
    have d1 := i2.cell0
    have hzg := hg.lt
    have huw : Upd (fun _ => False) w W' := hu.trans (M' := fun k => (k = g ∨ k = g + 1) ∨ False) hu1 (fun k hk => .inr (by rcases hk with (h | h) | h; omega; omega; exact h.elim))
    dsimp only
    refine hK _ _ ?_
    clear hseq hL hK KK hbo hr hbx hOw hu1 hg
    replace huw := Lib.hid huw
    replace i1 := Lib.hid i1
    gi_wp2
    refine ⟨by simp, .inl ⟨_, _, rfl, run_takeDeferred hdef, ⟨_, results_tmp2 rfl _ _ _, ?_⟩⟩⟩
    exact ⟨g, rfl, i1.out.upd (Upd.putObj (M := fun k => k = WX.heap.size) rfl _) (by omega), hz2, huw.out.stepPut (.inr hu.size) _⟩
end Go.Proofs.Ytkjkpmeommfdgaa

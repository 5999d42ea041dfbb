/- Scan's maker, Fold, and the document's Sums; plain laws of what has been asked for. -/
import Derived.Test.YtkjkpmeommfdgaaProg
import Derived.Test.YtkjkpmeommfdgaaBase
import Derived.Test.YtkjkpmeommfdgaaWvI
import Derived.Test.YtkjkpmeommfdgaaWvG
import Derived.Test.YtkjkpmeommfdgaaWvL
import Derived.Test.YtkjkpmeommfdgaaWvH
import Derived.Test.YtkjkpmeommfdgaaWvS
set_option linter.unusedSimpArgs false
set_option linter.unusedVariables false
namespace Go.Proofs.Ytkjkpmeommfdgaa
open Go.RowKit Go.Shelf
attribute [local go_sem] Oper.semAt_some

/-- Where a fold that counts stops. -/
theorem goOwn_goStep {ω : Type} (m : Int) (fin : ω) : ∀ (evs : List (ω × Int)) (c : Nat), (c : Int) < max m 1 → goOwn (goStep m) fin c evs = (evs[(max m 1 - c - 1).toNat]?.map (·.1)).getD fin
  | [], c, _ => by simp [goOwn]
  | e :: evs, c, h => by
    by_cases hb : (c : Int) + 1 < m
    · have ih := goOwn_goStep m fin evs (c + 1) (by omega)
      simp only [goOwn, if_pos (decide_eq_true hb)]
      rw [ih]
      have : (max m 1 - (c : Int) - 1).toNat = (max m 1 - ((c + 1 : Nat) : Int) - 1).toNat + 1 := by omega
      rw [this, List.getElem?_cons_succ]
    · have : (max m 1 - (c : Int) - 1).toNat = 0 := by omega
      simp [goOwn, hb, this]

theorem evsT_all_fst {ω τ : Type} (tr : τ → Int → τ × Option Int × Bool) (h : ∀ t x, ∃ z, (tr t x).2 = (some z, true)) : ∀ (evs : List (ω × Int)) (t : τ) (fin : ω), (evsT tr t evs).map (·.1) = evs.map (·.1) ∧ finT tr fin t evs = fin
  | [], t, fin => ⟨rfl, rfl⟩
  | e :: evs, t, fin => by
    obtain ⟨z, hz⟩ := h t e.2
    have ih := evsT_all_fst tr h evs (tr t e.2).1 fin
    simp [evsT, finT, hz, ih]

theorem cntEvs_fst (xs : List Int) (i : Nat) : ((cntEvs xs)[i]?.map (·.1)).getD xs.length = min (i + 1) xs.length := by
  by_cases h : i < xs.length
  · rw [cntFrom_get xs 0 i h]; simp; omega
  · rw [List.getElem?_eq_none (by rw [cntEvs_len]; omega)]; simp; omega

/-- What there is so far. -/
abbrev sumsOf (f : Int → Int → Int) (first : Int) (xs : List Int) : List Int := first :: outs (trScan f) first xs
theorem outs_scan_len (f : Int → Int → Int) : ∀ (xs : List Int) (so : Int), (outs (trScan f) so xs).length = xs.length
  | [], _ => rfl
  | x :: xs, so => by simp [outs, outs_scan_len f xs]
theorem outs_scan_snoc (f : Int → Int → Int) : ∀ (xs : List Int) (so x : Int), outs (trScan f) so (xs ++ [x]) = outs (trScan f) so xs ++ [f (xs.foldl f so) x]
  | [], so, x => by simp [outs]
  | y :: xs, so, x => by simp [outs, outs_scan_snoc f xs]

theorem scan_cnt (f : Int → Int → Int) (m first : Int) (xs : List Int) : ((goOwn (goStep m) (finT (trScan f) xs.length first (cntEvs xs)) 0 ((0, first) :: evsT (trScan f) first (cntEvs xs)) : Nat) : Int) = min ((sumsOf f first xs).length : Int) (max m 1) - 1 := by
  obtain ⟨h1, h2⟩ := evsT_all_fst (trScan f) (fun t x => ⟨_, rfl⟩) (cntEvs xs) first xs.length
  rw [h2, goOwn_goStep _ _ _ _ (by omega)]
  have hl : (sumsOf f first xs).length = xs.length + 1 := by simp [outs_scan_len]
  rw [hl]
  cases hq : (max m 1 - ((0 : Nat) : Int) - 1).toNat with
  | zero => simp; omega
  | succ q =>
    rw [List.getElem?_cons_succ, ← List.getElem?_map, h1, List.getElem?_map, cntEvs_fst]
    omega

theorem scan_u {n : Nat} {f1 f2 : Fn} {a1 c1 a2 c2 : Array Value} {k : Int} {w : World} : CallsIn Fence.wide n Try.prog 27 #[.func f1 a1 c1, .int .i64 k, .func f2 a2 c2] w fun e w' =>
    ∃ bs bf bk, e = .returned (.func (.func 77) #[] #[.pointer (some ⟨bf, 0, none⟩), .pointer (some ⟨bs, 0, none⟩), .pointer (some ⟨bk, 0, none⟩)]) ∧ Blk w' bs #[.func f1 a1 c1] 32 ∧ Blk w' bf #[.int .i64 k] 3 ∧ Blk w' bk #[.func f2 a2 c2] 38 ∧ w.heap.size ≤ bs ∧ w.heap.size ≤ bf ∧ w.heap.size ≤ bk ∧ Upd (fun _ => False) w w' := by
  refine callsIn_any (n := 0) (callsIn_of_wp Try.func27 rfl trivial ?_)
  simp only [Try.ntmps27, List.size_toArray, List.length_cons, List.length_nil, Nat.reduceAdd, Nat.reduceSub, Array.replicate_succ, Array.replicate_zero, List.push_toArray, List.append_toArray, List.nil_append, List.cons_append]
  gi_wp2
  go_ret
  exact ⟨_, _, _, rfl, Blk.alloc (Blk.alloc (Blk.new' rfl) _) _, Blk.alloc (Blk.new' (by simp)) _, Blk.new' (by simp), by omega, by omega, by omega, ((Upd.alloc _ _ _).stepAlloc _).stepAlloc _⟩

set_option maxRecDepth 100000 in
set_option maxHeartbeats 1000000 in
theorem sums_c {n : Nat} {A : Option Addr} {cap : Nat} {xs : List Int} {k : Int} {w : World} (hr : Reads1 w A (xs.map (Value.int .i64))) (hl : xs.length ≤ 1000) :
    CallsIn Fence.wide n Try.prog 26 #[.slice A xs.length cap, .int .i64 k] w fun e w' => ∃ v, e = .returned v ∧
      w'.ownsRow w.heap.size 3 1 v (sumsOf xorI k xs).length ((sumsOf xorI k xs).map (Value.int .i64)) ∧ Below w.heap.size w w' := by
  have hrd := fun (wr : World) (hB : Below w.heap.size w wr) (i : Nat) (h : i < xs.length) => (hr.agree' (w' := wr) (fun k hk => hB.block k (by simpa using hr.lt' k hk))) i (.int .i64 xs[i]) (by simp [h])
  replace hrd := Lib.hid hrd
  clear hr
  refine callsIn_any (n := 0) (callsIn_of_wp Try.func26 rfl trivial ?_)
  simp only [Try.ntmps26, List.size_toArray, List.length_cons, List.length_nil, Nat.reduceAdd, Nat.reduceSub, Array.replicate_succ, Array.replicate_zero, List.push_toArray, List.append_toArray, List.nil_append, List.cons_append]
  gi_wp2
  gi_loopw [1, 5, 11] (fun so v i wr => ∃ j : Nat, j ≤ xs.length ∧ i = .int .i64 j ∧ so = .int .i64 ((xs.take j).foldl xorI k) ∧ wr.ownsRow w.heap.size 3 1 v (sumsOf xorI k (xs.take j)).length ((sumsOf xorI k (xs.take j)).map (Value.int .i64)) ∧ Below w.heap.size w wr) (fun _ _ i _ => xs.length - (intOf i).toNat)
  case atStart => exact ⟨0, Nat.zero_le _, rfl, rfl, World.ownsRow_lit _ _ _ (Nat.le_refl _) (by decide) rfl, (Below.refl _ _).alloc (Nat.le_refl _) _⟩
  case round =>
    obtain ⟨j, hj, rfl, rfl, hown, hB⟩ := hrel
    by_cases hlt : j < xs.length
    · obtain ⟨ad, rfl, hc⟩ := hrd.out wr hB j hlt
      have hts := List.take_succ_eq_append_getElem hlt
      replace hts := Lib.hid hts
      have hk : (sumsOf xorI k (xs.take j)).length < 1073741824 := by rw [List.length_cons, outs_scan_len]; simp; omega
      replace hk := Lib.hid hk
      gi_wp2_with ((with_reducible refine app1 Try.underlying22 infoI zInt le_8 hown hB.size hk.out ?_ ?_ ?_ ?_); rfl; rfl; rfl; intro g cap' w' hown' hu' _ _)
      have hts2 := hts.out
      refine ⟨⟨j + 1, by omega, by go_num, ?_, ?_, below_upd hB hu' (own_base hown) hB.size⟩, by simp [intOf]; omega⟩
      · rw [hts2, List.foldl_append]; rfl
      · rw [hts2, sumsOf, outs_scan_snoc]
        simpa using hown'
    · gi_wp2
      refine bodyPost_ret (results_tmp rfl _ _ _) rfl ⟨_, rfl, ?_, hB⟩
      rw [List.take_of_length_le (by omega)] at hown
      exact hown

set_option maxRecDepth 100000 in
set_option maxHeartbeats 1000000 in
theorem fold_c {n : Nat} {ω : Type} {fi : FuncId} {fc : Array Value} {fk : Fn} {ak ck : Array Value} {evs : List (ω × Int)} {init fin : ω} {Own : ω → World → Prop} {E D : Nat → Prop} {w : World} {f : Int → Int → Int} {first : Int} {xs : List Int}
    (hseq : SeqO Try.prog (.func (.func fi) #[] fc) encI evs init fin Own E D w) (hown : Own init w) (hxs : evs.map (·.2) = xs)
    (hk : ∀ x y W, CallV Try.prog (.func fk ak ck) #[.int .i64 x, .int .i64 y] W fun v W' => v = .int .i64 (f x y) ∧ W' = W) :
    CallsIn Fence.wide n Try.prog 28 #[.func (.func fi) #[] fc, .int .i64 first, .func fk ak ck] w fun e w' => e = .returned (.int .i64 (xs.foldl f first)) ∧ Upd E w w' := by
  refine callsIn_any (n := 0) (callsIn_of_wp_marks Try.func28 rfl trivial ?_)
  simp only [Try.ntmps28, List.size_toArray, List.length_cons, List.length_nil, Nat.reduceAdd, Nat.reduceSub, Array.replicate_succ, Array.replicate_zero, List.push_toArray, List.append_toArray, List.nil_append, List.cons_append]
  replace hseq := Lib.hid hseq
  replace hk := Lib.hid hk
  gi_wp2_with (first | refine (⟨trivial, rfl, ?_⟩ : Fence.wide.fn _ ∧ Fence.wide.depth = none ∧ _) | (gi_at_call 27; refine scan_u.mono ?_; rintro e W2 ⟨bs, bf, bk, rfl, hbs, hbf, hbk, z1, z2, z3, hu⟩))
  rename_i KK hKK
  have hu0 : Upd (fun _ => False) w W2 := (Upd.alloc (fun _ => False) w (.cells #[.int .i64 first] 3)).trans' hu
  have hb7 : Blk W2 w.heap.size #[.int .i64 first] 3 := (Blk.new' rfl : Blk (w.alloc (.cells #[.int .i64 first] 3)) _ _ _).upd hu id
  have hzz : w.heap.size + 1 ≤ W2.heap.size := by have := hu.size; simpa using this
  have y1 : w.heap.size + 1 ≤ bs := by simpa using z1
  have y2 : w.heap.size + 1 ≤ bf := by simpa using z2
  have y3 : w.heap.size + 1 ≤ bk := by simpa using z3
  clear z1 z2 z3
  have hE := hseq.out.elt
  have hl0 := hseq.out.later (w' := W2) hu0.size (hu0.agree fun k hk => ⟨(hseq.out.dlt k hk).1, id⟩)
  have hs := scan_seq (f := f) hl0 hbs hbf hbk hk.out (fun h => by have := hE _ h; omega) (fun h => by have := hE _ h; omega) (fun h => by have := hE _ h; omega)
  have hgo : ∀ (l : List Int) (s : Int), goR (fun (_ : Int) (x : Int) => (x, (none : Option Code))) s l = (l.foldl (fun _ x => x) s, none) := by
    intro l
    induction l with
    | nil => intro s; rfl
    | cons x l ih => intro s; simp only [goR, List.foldl_cons]; exact ih x
  have hval : ∀ (l : List Int) (so : Int), (outs (trScan f) so l).foldl (fun _ x => x) so = l.foldl f so := by
    intro l
    induction l with
    | nil => intro so; rfl
    | cons x l ih => intro so; simp only [outs, Option.toList, if_true, List.cons_append, List.nil_append, List.foldl_cons]; exact ih _
  refine wpIn_range_out hs rfl (Nat.le_refl _) (Agree.refl _ _) (hseq.out.stable _ _ _ hown (hu0.agree fun k hk => ⟨hE k hk, id⟩)) (fun _ => rfl) (fun _ x => (x, none)) (fun s' S' W' => Blk W' w.heap.size #[.int .i64 s'] 3 ∧ S' w.heap.size) first (fun k => k = w.heap.size) ?hS ?hstab ⟨hb7, rfl⟩ ?hround ?hend
  case hS =>
    rintro k rfl
    refine ⟨by omega, ?_, fun h => by have := hE _ h; omega⟩
    rintro (h | rfl | rfl | rfl)
    · have := (hseq.out.dlt _ h).1; omega
    · omega
    · omega
    · omega
  case hstab => exact fun s' S' Wa Wb h hA _ => ⟨h.1.agree hA h.2, h.2⟩
  case hround =>
    intro l pre x suf s1 S1 W1 hl he _ hI hsz hu1 hS1
    obtain ⟨i1, i2⟩ := hI
    clear hs hgo hval hl0 hseq hk hKK KK hown hbs hbf hbk
    gi_wp2
    refine ⟨Upd.refl _ _, ?_⟩
    intro Wb hub hbs hrec
    have hb := i1.upd hub (by omega)
    have d1 := hb.cell0
    have d2 := hb.lt
    have d3 := hb.frozen 0
    gi_wp2
    exact ⟨rfl, S1, ⟨by simpa using hb.set 0 (.int .i64 x), i2⟩, Upd.setCell (.inl i2) _, fun k hk => ⟨by simpa [hbs] using (hS1 k hk).1, .inl (.inl hk)⟩⟩
  case hend =>
    intro S' W' hI hOw hu1 hsz hS' hdef
    rw [hgo] at hI ⊢
    obtain ⟨i1, i2⟩ := hI
    have e1 : (((init, first) :: evsT (trScan f) first evs).map (·.2)).foldl (fun _ x => x) first = xs.foldl f first := by
      rw [List.map_cons, evsT_snd, hxs, List.foldl_cons]
      exact hval xs first
    rw [e1] at i1
    refine hKK _ _ ?_
    have d1 := i1.cell0
    clear hs hgo hval hl0 hseq hk hKK KK hown hbs hbf hbk hOw
    gi_wp2
    refine ⟨by simp, .inl ⟨_, _, rfl, run_takeDeferred hdef, ⟨_, results_tmp rfl _ _ _, ?_⟩⟩⟩
    refine ⟨rfl, ((hu0.mono fun _ _ h => h.elim).trans hu1 (fun k hk => ?_)).stepPut (.inr hu0.size) _⟩
    rcases hk with rfl | h
    · exact .inr (Nat.le_refl _)
    · exact .inl h
end Go.Proofs.Ytkjkpmeommfdgaa

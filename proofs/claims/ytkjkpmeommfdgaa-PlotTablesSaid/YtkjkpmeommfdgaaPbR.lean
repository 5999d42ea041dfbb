/- plot.right: whether numbers are bounds. -/
import Derived.Test.YtkjkpmeommfdgaaProg
import Derived.Test.YtkjkpmeommfdgaaBase
import Derived.Test.YtkjkpmeommfdgaaRangeAt
import Derived.Test.YtkjkpmeommfdgaaWvI
import Derived.Test.YtkjkpmeommfdgaaWvH
import Derived.Test.YtkjkpmeommfdgaaWvQ
import Derived.Test.YtkjkpmeommfdgaaWvQ2
import Derived.Test.YtkjkpmeommfdgaaPbS
set_option linter.unusedSimpArgs false
set_option linter.unusedVariables false
namespace Go.Proofs.Ytkjkpmeommfdgaa
open Go.RowKit Go.Shelf
attribute [local go_sem] Oper.semAt_some

theorem results_cell1 {P : Program} {fn : Func} {p : Tmp} {ty : TypeId} {tmps : Array Value} {W : World} {g : Nat} {v : Value} (h : fn.results = #[.cell p ty]) (hp : tmps.getD p undef = .pointer (some ⟨g, 0, none⟩)) (hu : P.underlying ty = some .bool)
    (hc : W.cell? ⟨g, 0, none⟩ = some v) : (results fn tmps).run P W = .ok v W := by
  have hp' : tmps[p]?.getD undef = .pointer (some ⟨g, 0, none⟩) := by simpa using hp
  simp [results, h, hp', asAddr, loadVar, isAgg, run_underlying hu, hc, Result.andThen]

theorem rising_c {n : Nat} {x y : Int} {w : World} : CallsIn Fence.wide n Try.prog 112 #[.agg #[.int .i64 x, .int .i64 y]] w fun e w' => e = .returned (.bool (decide (x < y))) ∧ Upd (fun _ => False) w w' := by
  refine callsIn_any (n := 0) (callsIn_of_wp Try.func112 rfl trivial ?_)
  simp only [Try.ntmps112, List.size_toArray, List.length_cons, List.length_nil, Nat.reduceAdd, Nat.reduceSub, Array.replicate_succ, Array.replicate_zero, List.push_toArray, List.append_toArray, List.nil_append, List.cons_append]
  gi_wp2
  go_ret
  exact ⟨rfl, Upd.alloc _ _ _⟩

abbrev riseStep : Unit → Int × Int → Unit × Option Code := fun _ p => ((), if p.1 < p.2 then none else some .ret)
theorem riseStep_go : ∀ (l : List (Int × Int)), (goR riseStep () l).2 = if (∀ p ∈ l, p.1 < p.2) then none else some .ret
  | [] => by simp [goR]
  | p :: l => by
    simp only [goR, List.mem_cons, forall_eq_or_imp]
    by_cases h : p.1 < p.2
    · simp only [h, if_true, true_and]; exact riseStep_go l
    · simp [h]
theorem rises_pairs {xs : List Int} : Rises xs ↔ ∀ p ∈ xs.zip (xs.drop 1), p.1 < p.2 := by
  constructor
  · intro h p hp
    obtain ⟨i, hi, rfl⟩ := List.getElem_of_mem hp
    simp at hi
    simp only [List.getElem_zip, List.getElem_drop]
    exact h _ _ _ _ (by omega)
  · intro h
    have key : ∀ d i (hi : i < xs.length) (hj : i + d + 1 < xs.length), xs[i] < xs[i + d + 1] := by
      intro d
      induction d with
      | zero =>
        intro i hi hj
        have := h (xs[i], xs[i + 1]) (List.mem_of_getElem? (i := i) (by rw [List.getElem?_zip_eq_some]; simp))
        simpa using this
      | succ d ih =>
        intro i hi hj
        have h1 := ih i hi (by omega)
        have := h (xs[i + d + 1], xs[i + d + 1 + 1]) (List.mem_of_getElem? (i := i + d + 1) (by rw [List.getElem?_zip_eq_some]; simp [Nat.add_comm]))
        simp only at this
        exact Int.lt_trans h1 this
    intro i j hi hj hij
    have := key (j - i - 1) i hi (by omega)
    simpa [show i + (j - i - 1) + 1 = j by omega] using this

set_option maxRecDepth 100000 in
set_option maxHeartbeats 1000000 in
open Classical in
theorem right_c {n : Nat} {A : Option Addr} {cap : Nat} {xs : List Int} {w : World} (hr : Reads1 w A (xs.map (Value.int .i64))) (hl : xs.length ≤ 900) :
    CallsIn Fence.wide n Try.prog 87 #[.slice A xs.length cap] w fun e w' => e = .returned (.bool (decide (Rises xs ∧ xs.length ≤ 50))) ∧ Upd (fun _ => False) w w' := by
  have hM : (1000 : Nat) ≤ maxLen := by decide
  have hA : ∀ k, blkOf' A xs.length k → k < w.heap.size := fun k hk => hr.lt' k (by simpa using hk)
  refine callsIn_any (n := 0) (callsIn_of_wp_marks Try.func87 rfl trivial ?_)
  simp only [Try.ntmps87, List.size_toArray, List.length_cons, List.length_nil, Nat.reduceAdd, Nat.reduceSub, Array.replicate_succ, Array.replicate_zero, List.push_toArray, List.append_toArray, List.nil_append, List.cons_append]
  replace hr := hr.agree' ((Upd.alloc (fun _ => False) w (.cells #[.bool false] 4)).agree fun k hk => ⟨hr.lt' k hk, id⟩)
  have hres : Blk (w.alloc (.cells #[.bool false] 4)) w.heap.size #[.bool false] 4 := Blk.new _ _ _
  have hu0 := Upd.alloc (fun _ => False) w (.cells #[.bool false] 4)
  gi_wp2_with (first | refine (⟨trivial, rfl, ?_⟩ : Fence.wide.fn _ ∧ Fence.wide.depth = none ∧ _) | (gi_at_call 24; refine values_u.mono ?_; rintro e W2 ⟨bv, rfl, hbv, hu⟩; (replace hr := hr.agree' (hu.agree fun k hk => ⟨hr.lt' k hk, id⟩)); (replace hres := hres.upd hu id); (replace hu0 := hu0.trans' hu); clear hu) | (gi_at_call 29; refine pairs_u.mono ?_; rintro e W2 ⟨bs, rfl, hbs, hu⟩; (replace hr := hr.agree' (hu.agree fun k hk => ⟨hr.lt' k hk, id⟩)); (replace hres := hres.upd hu id); (replace hbv := hbv.upd hu id); (replace hu0 := hu0.trans' hu); clear hu))
  rename_i KK _
  have hseq := values_seq hbv hr (by omega)
  have hs := pairs_seq hseq hbs id (by simp; omega)
  have hL : (evsT trPair (0, 0) (evsT trNum 0 (xs.map fun x => ((), x)))).map (·.2) = xs.zip (xs.drop 1) := by
    rw [evsT_snd, evsT_snd, ← pairsOf_eq]; simp [Function.comp_def]
  have hzv := Blk.ne hres hbv (by decide)
  have hzs := Blk.ne hres hbs (by decide)
  refine wpIn_range_at hs rfl (Nat.le_refl _) (Agree.refl _ _) trivial (fun _ => rfl) riseStep (fun _ S' W' => Blk W' w.heap.size #[.bool false] 4 ∧ S' w.heap.size) () (fun k => k = w.heap.size) ?hS ?hstab ⟨hres, rfl⟩ ?hround ?hend
  case hS =>
    rintro k rfl
    refine ⟨hres.lt, ?_, id⟩
    rintro ((h | h) | h)
    · exact hzv h
    · have := hA _ h; omega
    · exact hzs h
  case hstab => exact fun s' S' Wa Wb h hA _ => ⟨h.1.agree hA h.2, h.2⟩
  case hround =>
    intro l pre x suf s1 S1 W1 hl he _ hI hsz hu1 hS1
    obtain ⟨i1, i2⟩ := hI
    clear hs hL hseq KK hbv hbs hr
    gi_wp2
    have hui := Upd.alloc (fun _ => False) W1 (.cells #[.int .i64 x.1, .int .i64 x.2] 46)
    refine ⟨hui, ?_⟩
    intro Wb hub hbs hrec
    have hzl := (hS1 _ i2).1
    have hp : Blk Wb W1.heap.size #[.int .i64 x.1, .int .i64 x.2] 46 := (Blk.new _ _ _).upd hub (by omega)
    replace i1 := (i1.upd hui id).upd hub (hS1 _ i2).2.1
    have hbs1 : Wb.heap.size = W1.heap.size + 1 := by rw [hbs]; simp
    clear hub hrec hbs hui he
    have d1 := hp.cell 0
    have d2 := hp.cell 1
    have d3 := hp.lt
    have f1 := hp.frozen 0
    gi_wp2_with (first | refine (⟨trivial, rfl, ?_⟩ : Fence.wide.fn _ ∧ Fence.wide.depth = none ∧ _) | (gi_at_call 112; refine rising_c.mono ?_; rintro e W3 ⟨rfl, hu⟩; have r1 := i1.upd hu id; have r2 := r1.cell0; have r3 := r1.lt; have r4 := r1.frozen 0; have hz3 := hu.size; (replace hu := Lib.hid hu); (replace r1 := Lib.hid r1)))
    · have hx : ¬ x.1 < x.2 := by simpa using (by assumption : (!decide (x.1 < x.2)) = true)
      exact ⟨by simp [hx], S1, ⟨by simpa using r1.out.set 0 (.bool false), i2⟩, (hu.out.mono fun _ _ h => h.elim).stepSet (.inl (.inl i2)) _, fun k hk => ⟨by have := (hS1 k hk).1; simp; omega, .inl (.inl hk)⟩⟩
    · have hx : x.1 < x.2 := by simpa using (by assumption : (!decide (x.1 < x.2)) = false)
      exact ⟨by simp [hx], S1, ⟨r1.out, i2⟩, hu.out.mono fun _ _ h => h.elim, fun k hk => ⟨by have := (hS1 k hk).1; omega, .inl (.inl hk)⟩⟩
  case hend =>
    intro S' W' hI hOw hu1 hsz hS' hdef
    rw [hL, riseStep_go]
    obtain ⟨i1, i2⟩ := hI
    have d1 := i1.cell0
    have d2 := i1.lt
    have d3 := i1.frozen 0
    have hz0 := hu0.size
    have hzr := hres.lt
    have huw : ∀ v, Upd (fun _ => False) w (W'.setCell ⟨w.heap.size, 0, none⟩ v) := fun v => ((hu0.trans (M' := fun k => k = w.heap.size ∨ False) hu1 (fun k hk => .inr (by rcases hk with rfl | h; exact Nat.le_refl _; exact h.elim)))).stepSet (.inr (Nat.le_refl _)) v
    have huw0 : Upd (fun _ => False) w W' := hu0.trans (M' := fun k => k = w.heap.size ∨ False) hu1 (fun k hk => .inr (by rcases hk with rfl | h; exact Nat.le_refl _; exact h.elim))
    have hne : w.heap.size ≠ W2.heap.size := by omega
    have hdef2 : ∀ v, (W'.setCell ⟨w.heap.size, 0, none⟩ v).heap[W2.heap.size]? = some (.deferred (some [])) := fun v => (Below.heap_setCell W' _ v _ (fun e => hne e.symm)).trans hdef
    by_cases hri : Rises xs
    · rw [if_pos (rises_pairs.1 hri)]
      dsimp only
      refine KK _ _ ?_
      clear hs hL hseq KK hOw hu1
      replace huw := Lib.hid huw
      replace hdef2 := Lib.hid hdef2
      gi_wp2
      have b1 : Blk ((W'.setCell ⟨w.heap.size, 0, none⟩ (.bool (decide ((xs.length : Int) ≤ 50)))).putObj W2.heap.size (.deferred none)) w.heap.size #[.bool (decide ((xs.length : Int) ≤ 50))] 4 :=
        (show Blk (W'.setCell ⟨w.heap.size, 0, none⟩ (.bool (decide ((xs.length : Int) ≤ 50)))) w.heap.size #[.bool (decide ((xs.length : Int) ≤ 50))] 4 by simpa using i1.set 0 (.bool (decide ((xs.length : Int) ≤ 50)))).upd (Upd.putObj (M := fun k => k = W2.heap.size) rfl _) hne
      refine ⟨by simp, .inl ⟨_, _, rfl, run_takeDeferred (hdef2.out _), ⟨_, results_cell1 rfl rfl Try.underlying4 b1.cell0, ?_⟩⟩⟩
      exact ⟨congrArg (fun b => Ending.returned (Value.bool b)) (decide_eq_decide.2 ⟨fun h => ⟨hri, by omega⟩, fun h => by have := h.2; omega⟩), (huw.out _).stepPut (.inr hz0) _⟩
    · rw [if_neg (fun h => hri (rises_pairs.2 h))]
      dsimp only
      gi_wp2
      have b1 : Blk (W'.putObj W2.heap.size (.deferred none)) w.heap.size #[.bool false] 4 := i1.upd (Upd.putObj (M := fun k => k = W2.heap.size) rfl _) hne
      refine ⟨by simp, .inl ⟨_, _, rfl, run_takeDeferred hdef, ⟨_, results_cell1 rfl rfl Try.underlying4 b1.cell0, ?_⟩⟩⟩
      exact ⟨by simp [hri], huw0.stepPut (.inr hz0) _⟩
end Go.Proofs.Ytkjkpmeommfdgaa

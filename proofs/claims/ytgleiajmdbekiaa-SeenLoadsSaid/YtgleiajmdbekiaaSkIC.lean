/- slices.Collect of a sequence of ints. -/
import Derived.Test.YtgleiajmdbekiaaProg
import Derived.Test.YtgleiajmdbekiaaBase
import Derived.Test.YtgleiajmdbekiaaAppS
import Derived.Test.YtgleiajmdbekiaaRkCmp
namespace Go.Proofs.Ytgleiajmdbekiaa
open Go.RowKit Go.Shelf
attribute [local go_sem] Oper.semAt_some
abbrev enc1I (x : Int) : Array Value := #[.int .i64 x]
theorem infoElI : (Try.prog.info? 3).map (fun i => (i.zero, i.size, i.bytes)) = some (some (.int .i64 0), 1, 8) := by kernel_rfl
theorem oneI (l : List Int) : ∀ u ∈ l.map (fun x => Value.int .i64 x), u.oneCell' = true := by
  intro u hu
  obtain ⟨x, _, rfl⟩ := List.mem_map.1 hu
  rfl
/-- What is gathered so far. -/
def ColI (b2 base : Nat) (s : List Int) (v : Value) (W : World) : Prop := Blk W b2 #[v] 41 ∧ W.ownsRow base 3 1 v s.length (s.map fun x => Value.int .i64 x) ∧ v.ownBlock ≠ some b2

set_option maxRecDepth 100000 in
set_option maxHeartbeats 1000000 in
theorem appendSeqI {n : Nat} {fi : FuncId} {fc : Array Value} {l : List Int} {D : Nat → Prop} {w : World} (hseq : SeqO Try.prog (.func (.func fi) #[] fc) enc1I (l.map fun x => ((), x)) () () (fun _ _ => True) (fun _ => False) D w) (hl : l.length ≤ 100000) :
    CallsIn Fence.wide n Try.prog 54 #[.slice none 0 0, .func (.func fi) #[] fc] w fun e w' => ∃ A cap, e = .returned (.slice A l.length cap) ∧ l.length ≤ cap ∧ Reads1 w' A (l.map fun x => Value.int .i64 x) ∧ (∀ j, blkOf A j → w.heap.size ≤ j) ∧ Upd (fun _ => False) w w' := by
  refine callsIn_any (n := 0) (callsIn_of_wp_marks Try.func54 rfl trivial ?_)
  simp only [Try.ntmps54, List.size_toArray, List.length_cons, List.length_nil, Nat.reduceAdd, Nat.reduceSub, Array.replicate_succ, Array.replicate_zero, List.push_toArray, List.append_toArray, List.nil_append, List.cons_append]
  replace hseq := Lib.hid hseq
  gi_wp2_with (first | refine (⟨trivial, rfl, ?_⟩ : Fence.wide.fn _ ∧ Fence.wide.depth = none ∧ _) | refine (⟨trivial, ?_⟩ : Fence.wide.fn _ ∧ _))
  rename_i KK hKK
  have hb0 : Blk (w.alloc (.cells #[.slice none 0 0] 41)) w.heap.size #[.slice none 0 0] 41 := Blk.new _ _ _
  have hu0 : Upd (fun _ => False) w (w.alloc (.cells #[.slice none 0 0] 41)) := Upd.alloc _ _ _
  have hsz0 : (w.alloc (.cells #[.slice none 0 0] 41)).heap.size = w.heap.size + 1 := by simp
  have ho0 : (w.alloc (.cells #[.slice none 0 0] 41)).ownsRow w.heap.size 3 1 (.slice none 0 0) 0 [] := World.ownsRow_nil _ _ _ 1
  generalize (w.alloc (.cells #[.slice none 0 0] 41)) = W0 at *
  have hs := hseq.out.later (w' := W0) hu0.size (hu0.agree fun k hk => ⟨(hseq.out.dlt k hk).1, id⟩)
  have ee : (l.map fun x => ((), x)).map (·.2) = l := by simp [Function.comp_def]
  have hgo : ∀ (m s : List Int), goR (fun (s : List Int) (x : Int) => (s ++ [x], (none : Option Code))) s m = (s ++ m, none) := by
    intro m
    induction m with
    | nil => intro s; simp [goR]
    | cons x m ih => intro s; simp only [goR]; rw [ih]; simp
  have hDlt : ∀ k, D k → k < w.heap.size := fun k hk => (hseq.out.dlt k hk).1
  refine wpIn_range_out hs rfl (Nat.le_refl _) (Agree.refl _ _) trivial (fun _ => rfl) (fun s x => (s ++ [x], none)) (fun s' S' W' => ∃ v, ColI w.heap.size w.heap.size s' v W' ∧ ∀ j, (j = w.heap.size ∨ v.ownBlock = some j) → S' j) [] (fun k => k = w.heap.size) ?hS ?hstab ⟨.slice none 0 0, ⟨hb0, ho0, by simp [Value.ownBlock]⟩, fun j hj => hj.elim id (fun h => by simp [Value.ownBlock] at h)⟩ ?hround ?hend
  case hS =>
    rintro k rfl
    exact ⟨by omega, fun h => by have := hDlt _ h; omega, id⟩
  case hstab =>
    rintro s' S' Wa Wb ⟨v, ⟨g1, g2, g3⟩, g4⟩ hA _
    exact ⟨v, ⟨g1.agree hA (g4 _ (.inl rfl)), own_agree g2 (hA.mono fun j hj => g4 j (.inr hj)), g3⟩, g4⟩
  case hround =>
    rintro lb pre x suf s1 S1 W1 hlb he hgo1 ⟨v, ⟨i1, i2, i5⟩, i3⟩ hsz hu1 hS1
    have hs1 : s1.length ≤ 100000 := by
      rw [hgo] at hgo1
      have e1 := (Prod.mk.inj hgo1).1
      simp only [List.nil_append] at e1
      have e2 := congrArg List.length he
      rw [ee] at e2
      simp at e2
      rw [← e1]; omega
    clear hs hgo hgo1 hseq hKK KK hDlt he ee
    obtain ⟨A3, cap3, rfl⟩ := own_shape i2
    gi_wp2
    refine ⟨Upd.refl _ _, ?_⟩
    intro Wb hub hbs hrec
    have hSl : ∀ j, S1 j → j ≠ lb := fun j hj => (hS1 j hj).2.1
    have hb := i1.upd hub (hSl _ (i3 _ (.inl rfl)))
    have ho := own_agree i2 (hub.agree fun j hj => ⟨(hS1 j (i3 j (.inr hj))).1, hSl j (i3 j (.inr hj))⟩)
    have d1 := hb.cell0
    have hz0 := hu0.size
    have fin : ∀ g' cap' w', w'.ownsRow w.heap.size 3 1 (.slice (some ⟨g', 0, none⟩) (s1.length + 1) cap') (s1.length + 1) ((s1.map fun x => Value.int .i64 x) ++ [Value.int .i64 x]) → Upd (fun j => (Value.slice A3 s1.length cap3).ownBlock = some j) Wb w' → ((Value.slice A3 s1.length cap3).ownBlock = some g' ∨ Wb.heap.size ≤ g') → g' < w'.heap.size →
        w'.cell? ⟨w.heap.size, 0, none⟩ = some (.slice A3 s1.length cap3) ∧ w'.frozen? ⟨w.heap.size, 0, none⟩ = false ∧ w.heap.size < w'.heap.size ∧
        Held (fun (s' : List Int) (S' : Nat → Prop) W' => ∃ v, ColI w.heap.size w.heap.size s' v W' ∧ ∀ j, (j = w.heap.size ∨ v.ownBlock = some j) → S' j) (s1 ++ [x]) (fun k => S1 k ∨ W1.heap.size ≤ k) Wb (w'.setCell ⟨w.heap.size, 0, none⟩ (.slice (some ⟨g', 0, none⟩) (s1.length + 1) cap')) := by
      intro g' cap' w' h1 h2 h3 h4
      have hb1 := hb.upd h2 i5
      have hgb : g' ≠ w.heap.size := by
        rintro rfl
        rcases h3 with h | h
        · exact i5 h
        · have := hb.lt; omega
      have hz2 := h2.size
      have hzb := hub.size
      refine ⟨hb1.cell0, hb1.frozen 0, hb1.lt, fun j => j = w.heap.size ∨ j = g', ⟨_, ⟨by simpa using hb1.set 0 (.slice (some ⟨g', 0, none⟩) (s1.length + 1) cap'), ?_, by simpa [Value.ownBlock] using hgb⟩, ?_⟩, ?_, ?_⟩
      · rw [List.map_append, List.length_append]
        exact own_agree h1 (fun j hj => Below.heap_setCell _ _ _ _ (fun e => hgb (by simp [Value.ownBlock] at hj; rw [hj]; exact e)))
      · rintro j (h | h)
        · exact .inl h
        · simp [Value.ownBlock] at h; exact .inr h.symm
      · exact (h2.mono fun j _ hj => .inl (i3 j (.inr hj))).stepSet (.inl (.inl (i3 _ (.inl rfl)))) _
      · rintro j (rfl | rfl)
        · exact ⟨by have := hb1.lt; simpa using this, .inl (.inl (i3 _ (.inl rfl)))⟩
        · exact ⟨by simpa using h4, h3.elim (fun h => .inl (.inl (i3 _ (.inr h)))) (fun h => .inr h)⟩
    replace fin := Lib.hid fin
    have hwb : w.heap.size ≤ Wb.heap.size := by omega
    replace hbs := Lib.hid hbs
    clear hb hub hrec hu1 hS1 i1 i2 i3 i5 hSl hu0
    gi_wp2_with (first | refine (⟨trivial, rfl, ?_⟩ : Fence.wide.fn _ ∧ Fence.wide.depth = none ∧ _) | ((with_reducible refine app1 Try.underlying41 infoElI rfl (by omega) ho ?_ ?_ ?_ ?_ ?_ ?_); exact hwb; omega; rfl; rfl; rfl; intro g' cap' w' h1 h2 h3 h4; obtain ⟨k1, k2, k3, k4⟩ := fin.out g' cap' w' h1 h2 h3 h4; (replace k4 := Lib.hid k4); clear h1 h2 h3 h4) | refine (⟨trivial, ?_⟩ : Fence.wide.fn _ ∧ _))
    exact ⟨rfl, k4.out⟩
  case hend =>
    rintro S' W' ⟨v, ⟨i1, i2, i5⟩, i3⟩ hOw hu1 hsz hS' hdef
    rw [hgo, ee, List.nil_append] at i2
    rw [hgo]
    refine hKK _ _ ?_
    obtain ⟨A5, cap5, rfl, hn5, hr5, _, hb5⟩ := own_readsS i2
    have hge := own_ge i2
    have d1 := i1.cell0
    have hz0 := hu0.size
    replace hsz0 := Lib.hid hsz0
    clear hs hgo hseq hKK KK hDlt hOw i2
    gi_wp2
    refine ⟨by simp, .inl ⟨_, _, rfl, run_takeDeferred hdef, ⟨_, results_tmp rfl _ _ _, ?_⟩⟩⟩
    refine ⟨A5, cap5, rfl, hn5, hr5.agree' (fun k hk => World.putObj_heap_other ?_), fun j hj => hge j (hb5 j hj), ((hu0.mono fun _ _ h => h.elim).trans hu1 (fun k hk => ?_)).stepPut (.inr hu0.size) _⟩
    · have := (hS' k (i3 k (.inr (hb5 k hk.2)))).2.1
      exact this
    · rcases hk with rfl | h
      · exact .inr (Nat.le_refl _)
      · exact h.elim
theorem collectI {n : Nat} {fi : FuncId} {fc : Array Value} {l : List Int} {D : Nat → Prop} {w : World} (hseq : SeqO Try.prog (.func (.func fi) #[] fc) enc1I (l.map fun x => ((), x)) () () (fun _ _ => True) (fun _ => False) D w) (hl : l.length ≤ 100000) :
    CallsIn Fence.wide n Try.prog 33 #[.func (.func fi) #[] fc] w fun e w' => ∃ A cap, e = .returned (.slice A l.length cap) ∧ l.length ≤ cap ∧ Reads1 w' A (l.map fun x => Value.int .i64 x) ∧ (∀ j, blkOf A j → w.heap.size ≤ j) ∧ Upd (fun _ => False) w w' := by
  have k1 := Lib.hid (appendSeqI (n := 0) hseq hl)
  clear hseq
  refine callsIn_any (n := 0) (callsIn_of_wp Try.func33 rfl trivial ?_)
  simp only [Try.ntmps33, List.size_toArray, List.length_cons, List.length_nil, Nat.reduceAdd, Nat.reduceSub, Array.replicate_succ, Array.replicate_zero, List.push_toArray, List.append_toArray, List.nil_append, List.cons_append]
  gi_wp2_with (first | refine (⟨trivial, rfl, ?_⟩ : Fence.wide.fn _ ∧ Fence.wide.depth = none ∧ _) | (gi_at_call 54; (with_reducible refine k1.out.mono ?_); rintro e W2 ⟨A, cap, rfl, fin⟩; (replace fin := Lib.hid fin)) | refine (⟨trivial, ?_⟩ : Fence.wide.fn _ ∧ _))
  go_ret
  exact ⟨A, cap, rfl, fin.out⟩
end Go.Proofs.Ytgleiajmdbekiaa

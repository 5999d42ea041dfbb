/- Slices of slices of texts: slices.Values, slices.Collect. -/
import Derived.Test.YtkjkpmeommfdgaaProg
import Derived.Test.YtkjkpmeommfdgaaBase
import Derived.Test.YtkjkpmeommfdgaaAppS
import Derived.Test.YtkjkpmeommfdgaaRangeAt
set_option linter.unusedSimpArgs false
set_option linter.unusedVariables false
namespace Go.Proofs.Ytkjkpmeommfdgaa
open Go.RowKit Go.Shelf
attribute [local go_sem] Oper.semAt_some

/-- A row: where its texts lie, what they are. -/
structure SRow where
  a : Option Addr
  cap : Nat
  l : List ByteArray
abbrev sV (r : SRow) : Value := .slice r.a r.l.length r.cap
structure R2 (W : World) (A : Option Addr) (rows : List SRow) : Prop where
  out : Reads1 W A (rows.map sV)
  each : ∀ r ∈ rows, Reads1 W r.a (r.l.map Value.string)
theorem R2.upd {W V : World} {A : Option Addr} {rows : List SRow} (h : R2 W A rows) (u : Upd (fun _ => False) W V) : R2 V A rows :=
  ⟨h.out.agree' (u.agree fun j hj => ⟨h.out.lt' j hj, id⟩), fun r hr => (h.each r hr).agree' (u.agree fun j hj => ⟨(h.each r hr).lt' j hj, id⟩)⟩
abbrev encR : SRow → Array Value := fun r => #[sV r]
theorem rowsV_c {n : Nat} {A : Option Addr} {len cap : Nat} {w : World} :
    CallsIn Fence.wide n Try.prog 56 #[.slice A len cap] w fun e w' => e = .returned (.func (.func 96) #[] #[.pointer (some ⟨w.heap.size, 0, none⟩)]) ∧ w' = w.alloc (.cells #[.slice A len cap] 74) := by
  refine callsIn_any (n := 0) (callsIn_of_wp Try.func56 rfl trivial ?_)
  simp only [Try.ntmps56, List.size_toArray, List.length_cons, List.length_nil, Nat.reduceAdd, Nat.reduceSub, Array.replicate_succ, Array.replicate_zero, List.push_toArray, List.append_toArray, List.nil_append, List.cons_append]
  gi_wp2_with (first | refine (⟨trivial, rfl, ?_⟩ : Fence.wide.fn _ ∧ Fence.wide.depth = none ∧ _) | refine (⟨trivial, ?_⟩ : Fence.wide.fn _ ∧ _))
  go_ret
  exact ⟨rfl, rfl⟩
set_option maxRecDepth 100000 in
set_option maxHeartbeats 1000000 in
theorem rows_seq {w : World} {bs : Nat} {A : Option Addr} {cap : Nat} {xs : List SRow} (hbs : Blk w bs #[.slice A xs.length cap] 74) (hr : Reads1 w A (xs.map sV)) (hl : xs.length ≤ 100000) :
    SeqO Try.prog (.func (.func 96) #[] #[.pointer (some ⟨bs, 0, none⟩)]) encR (xs.map fun x => ((), x)) () () (fun _ _ => True) (fun _ => False) (fun k => k = bs ∨ blkOf' A xs.length k) w where
  fn := ⟨_, _, rfl⟩
  dlt := by rintro k (rfl | h); exact ⟨hbs.lt, id⟩; exact ⟨by simpa using hr.lt' k (by simpa using h), id⟩
  elt := fun _ h => h.elim
  stable := fun _ _ _ _ _ => trivial
  run := by
    intro σ step Rep y s S W hx _
    refine CallV.of_calls (n := 0) (enters_of Try.func96 (by kernel_rfl) rfl) ?_
    obtain ⟨yf, ya, yc, rfl⟩ := hx.shape
    have c1 := (hbs.agree hx.agree (.inl rfl)).cell0
    have hL : (xs.map fun x => ((), x)).map (·.2) = xs := by simp [Function.comp_def]
    rw [hL] at hx ⊢
    refine callsIn_of_wp Try.func96 rfl trivial ?_
    simp only [Try.ntmps96, List.size_toArray, List.length_cons, List.length_nil, Nat.reduceAdd, Nat.reduceSub, Array.replicate_succ, Array.replicate_zero, List.push_toArray, List.append_toArray, List.nil_append, List.cons_append]
    gi_wp2
    gi_loopw [7] (fun i wr => ∃ k : Nat, k ≤ xs.length ∧ i = .int .i64 k ∧ LeafRel step Rep s S (fun _ => False) W xs k wr) (fun i _ => xs.length - (intOf i).toNat)
    case atStart => exact ⟨0, Nat.zero_le _, rfl, LeafRel.start hx⟩
    case round =>
      obtain ⟨k, hk, rfl, hrel⟩ := hrel
      by_cases hlt : k < xs.length
      · obtain ⟨ad, rfl, hc⟩ := (hr.agree' (by simpa using (hrel.agree hx (by rintro k (rfl | h); exact ⟨hbs.lt, id⟩; exact ⟨by simpa using hr.lt' k (by simpa using h), id⟩)).mono (fun _ h => .inr h))) k (sV xs[k]) (by simp [hlt])
        have hcall := Lib.hid (hrel.call hx hlt)
        clear hx hr hbs c1
        gi_wp2_with ((with_reducible refine listV1 hcall.out ?_ ?_ ?_); rfl; rfl; rintro v W2 ⟨b, rfl, hu2, h1, h2⟩; (replace h1 := Lib.hid h1); (replace h2 := Lib.hid h2))
        · exact bodyPost_ret (results_none rfl _ _ _) rfl ⟨_, rfl, h2.out (nb1 (by assumption))⟩
        · exact ⟨⟨k + 1, by omega, by go_num, h1.out (nb0 (by assumption))⟩, by simp [intOf]; omega⟩
      · gi_wp2
        go_end0
        exact ⟨_, rfl, hrel.done (by omega) _⟩
/-- What is gathered so far. -/
def ColR (b2 base : Nat) (s : List SRow) (v : Value) (W : World) : Prop := Blk W b2 #[v] 74 ∧ W.ownsRow base 75 1 v s.length (s.map sV) ∧ v.ownBlock ≠ some b2
theorem infoR : (Try.prog.info? 75).map (fun i => (i.zero, i.size, i.bytes)) = some (some (.slice none 0 0), 1, 24) := by kernel_rfl
theorem zR : (Value.slice none 0 0).cells.size = 1 := rfl
set_option maxRecDepth 100000 in
set_option maxHeartbeats 1000000 in
theorem appendSeqR {n : Nat} {fi : FuncId} {fc : Array Value} {l : List SRow} {D : Nat → Prop} {w : World} (hseq : SeqO Try.prog (.func (.func fi) #[] fc) encR (l.map fun x => ((), x)) () () (fun _ _ => True) (fun _ => False) D w) (hl : l.length ≤ 100000) :
    CallsIn Fence.wide n Try.prog 115 #[.slice none 0 0, .func (.func fi) #[] fc] w fun e w' => ∃ A cap, e = .returned (.slice A l.length cap) ∧ l.length ≤ cap ∧ Reads1 w' A (l.map sV) ∧ (∀ j, blkOf A j → w.heap.size ≤ j) ∧ Upd (fun _ => False) w w' := by
  refine callsIn_any (n := 0) (callsIn_of_wp_marks Try.func115 rfl trivial ?_)
  simp only [Try.ntmps115, List.size_toArray, List.length_cons, List.length_nil, Nat.reduceAdd, Nat.reduceSub, Array.replicate_succ, Array.replicate_zero, List.push_toArray, List.append_toArray, List.nil_append, List.cons_append]
  replace hseq := Lib.hid hseq
  gi_wp2_with (first | refine (⟨trivial, rfl, ?_⟩ : Fence.wide.fn _ ∧ Fence.wide.depth = none ∧ _) | refine (⟨trivial, ?_⟩ : Fence.wide.fn _ ∧ _))
  rename_i KK hKK
  have hb0 : Blk (w.alloc (.cells #[.slice none 0 0] 74)) w.heap.size #[.slice none 0 0] 74 := Blk.new _ _ _
  have hu0 : Upd (fun _ => False) w (w.alloc (.cells #[.slice none 0 0] 74)) := Upd.alloc _ _ _
  have hsz0 : (w.alloc (.cells #[.slice none 0 0] 74)).heap.size = w.heap.size + 1 := by simp
  have ho0 : (w.alloc (.cells #[.slice none 0 0] 74)).ownsRow w.heap.size 75 1 (.slice none 0 0) 0 [] := World.ownsRow_nil _ _ _ 1
  generalize (w.alloc (.cells #[.slice none 0 0] 74)) = W0 at *
  have hs := hseq.out.later (w' := W0) hu0.size (hu0.agree fun k hk => ⟨(hseq.out.dlt k hk).1, id⟩)
  have ee : (l.map fun x => ((), x)).map (·.2) = l := by simp [Function.comp_def]
  have hgo : ∀ (m s : List SRow), goR (fun (s : List SRow) (x : SRow) => (s ++ [x], (none : Option Code))) s m = (s ++ m, none) := by
    intro m
    induction m with
    | nil => intro s; simp [goR]
    | cons x m ih => intro s; simp only [goR]; rw [ih]; simp
  have hDlt : ∀ k, D k → k < w.heap.size := fun k hk => (hseq.out.dlt k hk).1
  refine wpIn_range_at hs rfl (Nat.le_refl _) (Agree.refl _ _) trivial (fun _ => rfl) (fun s x => (s ++ [x], none)) (fun s' S' W' => ∃ v, ColR w.heap.size w.heap.size s' v W' ∧ ∀ j, (j = w.heap.size ∨ v.ownBlock = some j) → S' j) [] (fun k => k = w.heap.size) ?hS ?hstab ⟨.slice none 0 0, ⟨hb0, ho0, by simp [Value.ownBlock]⟩, fun j hj => hj.elim id (fun h => by simp [Value.ownBlock] at h)⟩ ?hround ?hend
  case hS =>
    rintro k rfl
    exact ⟨by omega, fun h => by have := hDlt _ h; omega, id⟩
  case hstab =>
    rintro s' S' Wa Wb ⟨v, ⟨g1, g2, g3⟩, g4⟩ hA _
    exact ⟨v, ⟨g1.agree hA (g4 _ (.inl rfl)), own_agree g2 (hA.mono fun j hj => g4 j (.inr hj)), g3⟩, g4⟩
  case hround =>
    rintro lb pre x suf s1 S1 W1 hlb he hgo1 ⟨v, ⟨i1, i2, i5⟩, i3⟩ hsz hu1 hS1
    have hs1 : s1.length ≤ 100000 := by
      rw [hgo] at hgo1
      have e1 := (Prod.mk.inj hgo1).1
      simp only [List.nil_append] at e1
      have e2 := congrArg List.length he
      rw [ee] at e2
      simp at e2
      rw [← e1]; omega
    clear hs hgo hgo1 hseq hKK KK hDlt he ee
    obtain ⟨A3, cap3, rfl⟩ := own_shape i2
    gi_wp2
    refine ⟨Upd.refl _ _, ?_⟩
    intro Wb hub hbs hrec
    have hSl : ∀ j, S1 j → j ≠ lb := fun j hj => (hS1 j hj).2.1
    have hzq := hub.size
    have hb := i1.upd hub (hSl _ (i3 _ (.inl rfl)))
    have ho := own_agree i2 (hub.agree fun j hj => ⟨(hS1 j (i3 j (.inr hj))).1, hSl j (i3 j (.inr hj))⟩)
    have d1 := hb.cell0
    have hz0 := hu0.size
    have fin : ∀ g' cap' w', w'.ownsRow w.heap.size 75 1 (.slice (some ⟨g', 0, none⟩) (s1.length + 1) cap') (s1.length + 1) (s1.map sV ++ [sV x]) → Upd (fun j => (Value.slice A3 s1.length cap3).ownBlock = some j) Wb w' → ((Value.slice A3 s1.length cap3).ownBlock = some g' ∨ Wb.heap.size ≤ g') → g' < w'.heap.size →
        w'.cell? ⟨w.heap.size, 0, none⟩ = some (.slice A3 s1.length cap3) ∧ w'.frozen? ⟨w.heap.size, 0, none⟩ = false ∧ w.heap.size < w'.heap.size ∧
        Held (fun (s' : List SRow) (S' : Nat → Prop) W' => ∃ v, ColR w.heap.size w.heap.size s' v W' ∧ ∀ j, (j = w.heap.size ∨ v.ownBlock = some j) → S' j) (s1 ++ [x]) (fun k => S1 k ∨ W1.heap.size ≤ k) Wb (w'.setCell ⟨w.heap.size, 0, none⟩ (.slice (some ⟨g', 0, none⟩) (s1.length + 1) cap')) := by
      intro g' cap' w' h1 h2 h3 h4
      have hb1 := hb.upd h2 i5
      have hgb : g' ≠ w.heap.size := by
        rintro rfl
        rcases h3 with h | h
        · exact i5 h
        · have := hb.lt; omega
      have hz2 := h2.size
      have hzb := hub.size
      refine ⟨hb1.cell0, hb1.frozen 0, hb1.lt, fun j => j = w.heap.size ∨ j = g', ⟨_, ⟨by simpa using hb1.set 0 (.slice (some ⟨g', 0, none⟩) (s1.length + 1) cap'), ?_, by simpa [Value.ownBlock] using hgb⟩, ?_⟩, ?_, ?_⟩
      · rw [List.map_append, List.length_append, List.map_singleton]
        exact own_agree h1 (fun j hj => Below.heap_setCell _ _ _ _ (fun e => hgb (by simp [Value.ownBlock] at hj; rw [hj]; exact e)))
      · rintro j (h | h)
        · exact .inl h
        · simp [Value.ownBlock] at h; exact .inr h.symm
      · exact (h2.mono fun j _ hj => .inl (i3 j (.inr hj))).stepSet (.inl (.inl (i3 _ (.inl rfl)))) _
      · rintro j (rfl | rfl)
        · exact ⟨by have := hb1.lt; simpa using this, .inl (.inl (i3 _ (.inl rfl)))⟩
        · exact ⟨by simpa using h4, h3.elim (fun h => .inl (.inl (i3 _ (.inr h)))) (fun h => .inr (by omega))⟩
    replace fin := Lib.hid fin
    have hwb : w.heap.size ≤ Wb.heap.size := by omega
    replace hbs := Lib.hid hbs
    clear hb hub hrec hu1 hS1 i1 i2 i3 i5 hSl hu0
    gi_wp2_with (first | refine (⟨trivial, rfl, ?_⟩ : Fence.wide.fn _ ∧ Fence.wide.depth = none ∧ _) | ((with_reducible refine app1 (u := sV x) Try.underlying74 infoR zR (by omega) ho ?_ ?_ ?_ ?_ ?_ ?_); exact hwb; omega; rfl; rfl; rfl; intro g' cap' w' h1 h2 h3 h4; obtain ⟨k1, k2, k3, k4⟩ := fin.out g' cap' w' h1 h2 h3 h4; (replace k4 := Lib.hid k4); clear h1 h2 h3 h4) | refine (⟨trivial, ?_⟩ : Fence.wide.fn _ ∧ _))
    exact ⟨rfl, k4.out⟩
  case hend =>
    rintro S' W' ⟨v, ⟨i1, i2, i5⟩, i3⟩ hOw hu1 hsz hS' hdef
    rw [hgo, ee, List.nil_append] at i2
    rw [hgo]
    refine hKK _ _ ?_
    obtain ⟨A5, cap5, rfl, hn5, hr5, _, hb5⟩ := own_readsS i2
    have hge := own_ge i2
    have d1 := i1.cell0
    have hz0 := hu0.size
    replace hsz0 := Lib.hid hsz0
    clear hs hgo hseq hKK KK hDlt hOw i2
    gi_wp2
    refine ⟨by simp, .inl ⟨_, _, rfl, run_takeDeferred hdef, ⟨_, results_tmp rfl _ _ _, ?_⟩⟩⟩
    refine ⟨A5, cap5, rfl, hn5, hr5.agree' (fun k hk => World.putObj_heap_other ?_), fun j hj => hge j (hb5 j hj), ((hu0.mono fun _ _ h => h.elim).trans hu1 (fun k hk => ?_)).stepPut (.inr hu0.size) _⟩
    · have := (hS' k (i3 k (.inr (hb5 k hk.2)))).2.1
      exact this
    · rcases hk with rfl | h
      · exact .inr (Nat.le_refl _)
      · exact h.elim
theorem collectR {n : Nat} {fi : FuncId} {fc : Array Value} {l : List SRow} {D : Nat → Prop} {w : World} (hseq : SeqO Try.prog (.func (.func fi) #[] fc) encR (l.map fun x => ((), x)) () () (fun _ _ => True) (fun _ => False) D w) (hl : l.length ≤ 100000) :
    CallsIn Fence.wide n Try.prog 91 #[.func (.func fi) #[] fc] w fun e w' => ∃ A cap, e = .returned (.slice A l.length cap) ∧ l.length ≤ cap ∧ Reads1 w' A (l.map sV) ∧ (∀ j, blkOf A j → w.heap.size ≤ j) ∧ Upd (fun _ => False) w w' := by
  have k1 := Lib.hid (appendSeqR (n := 0) hseq hl)
  clear hseq
  refine callsIn_any (n := 0) (callsIn_of_wp Try.func91 rfl trivial ?_)
  simp only [Try.ntmps91, List.size_toArray, List.length_cons, List.length_nil, Nat.reduceAdd, Nat.reduceSub, Array.replicate_succ, Array.replicate_zero, List.push_toArray, List.append_toArray, List.nil_append, List.cons_append]
  gi_wp2_with (first | refine (⟨trivial, rfl, ?_⟩ : Fence.wide.fn _ ∧ Fence.wide.depth = none ∧ _) | (gi_at_call 115; (with_reducible refine k1.out.mono ?_); rintro e W2 ⟨A, cap, rfl, fin⟩; (replace fin := Lib.hid fin)) | refine (⟨trivial, ?_⟩ : Fence.wide.fn _ ∧ _))
  go_ret
  exact ⟨A, cap, rfl, fin.out⟩
end Go.Proofs.Ytkjkpmeommfdgaa

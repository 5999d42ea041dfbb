/- Join over ints: one sequence after the other. -/
import Derived.Test.YtkjkpmeommfdgaaProg
import Derived.Test.YtkjkpmeommfdgaaBase
import Derived.Test.YtkjkpmeommfdgaaWvI
namespace Go.Proofs.Ytkjkpmeommfdgaa
open Go.RowKit Go.Shelf
attribute [local go_sem] Oper.semAt_some

abbrev markOf (d : Nat) : Deferred := { target := .collected d, args := #[] }
/-- A function that leaves with marks only: each shut in turn. -/
theorem leave_marks {P : Program} {fn : Func} {R : Value → World → Prop} {tmps : Array Value} (hfn : fn.results = #[]) : ∀ (ds : List Nat) (W : World), ds.Nodup → (∀ d ∈ ds, W.heap[d]? = some (.deferred (some []))) →
    R (.tuple #[]) (ds.foldl (fun V d => V.putObj d (.deferred none)) W) → LeavesInM Fence.wide 0 P fn tmps (Ret R) (ds.map markOf) .returning W
  | [], _, _, _, h => ⟨_, results_none hfn _ _ _, ⟨_, rfl, h⟩⟩
  | d :: ds, W, hn, hd, h => by
    have hn' := List.nodup_cons.1 hn
    refine ⟨by simp, .inl ⟨_, _, rfl, run_takeDeferred (hd d (List.mem_cons_self ..)), leave_marks hfn ds _ hn'.2 (fun d' h' => ?_) h⟩⟩
    rw [World.putObj_heap_other (by rintro rfl; exact hn'.1 h')]
    exact hd d' (List.mem_cons_of_mem _ h')

theorem marks_upd {M : Nat → Prop} {W0 : World} : ∀ (ds : List Nat) (W : World), Upd M W0 W → (∀ d ∈ ds, W0.heap.size ≤ d) → Upd M W0 (ds.foldl (fun V d => V.putObj d (.deferred none)) W)
  | [], _, h, _ => h
  | d :: ds, _, h, hd => marks_upd ds _ (h.stepPut (.inr (hd d (List.mem_cons_self ..))) _) (fun d' h' => hd d' (List.mem_cons_of_mem _ h'))
theorem marks_agree {D : Nat → Prop} : ∀ (ds : List Nat) (W : World), (∀ d ∈ ds, ¬ D d) → Agree D W (ds.foldl (fun V d => V.putObj d (.deferred none)) W)
  | [], _, _ => Agree.refl _ _
  | d :: ds, W, hd => Agree.trans (fun k hk => World.putObj_heap_other (by rintro rfl; exact hd _ (List.mem_cons_self ..) hk)) (marks_agree ds _ (fun d' h' => hd d' (List.mem_cons_of_mem _ h')))
theorem marks_size : ∀ (ds : List Nat) (W : World), (ds.foldl (fun V d => V.putObj d (.deferred none)) W).heap.size = W.heap.size
  | [], _ => rfl
  | d :: ds, W => (marks_size ds _).trans (by simp)

abbrev trId : Unit → Int → Unit × Option Int × Bool := fun _ x => ((), some x, true)
theorem outs_id : ∀ (l : List Int), outs trId () l = l
  | [] => rfl
  | x :: l => by simp [outs, outs_id l]
theorem trSt_id : ∀ (l : List Int), trSt trId () l = ((), true)
  | [] => rfl
  | x :: l => by simp [trSt, trSt_id l]

theorem flat_take {ss : List (Value × List Int)} {j : Nat} (hlt : j < ss.length) : (ss.take (j + 1)).flatMap (·.2) = (ss.take j).flatMap (·.2) ++ ss[j].2 := by
  rw [List.take_succ_eq_append_getElem hlt, List.flatMap_append, List.flatMap_singleton]
theorem flat_split {ss : List (Value × List Int)} {j : Nat} (hlt : j < ss.length) : ss.flatMap (·.2) = (ss.take j).flatMap (·.2) ++ (ss[j].2 ++ (ss.drop (j + 1)).flatMap (·.2)) := by
  have h : (ss.take (j + 1) ++ ss.drop (j + 1)).flatMap (·.2) = ss.flatMap (·.2) := by rw [List.take_append_drop]
  rw [← h, List.flatMap_append, flat_take hlt, List.append_assoc]
/-- Ahead of the j-th sequence: what yield has been given, its box, the marks of the loops behind. -/
structure JRel {σ : Type} (step : σ → Int → σ × Bool) (Rep : σ → (Nat → Prop) → World → Prop) (s : σ) (S : Nat → Prop) (W : World) (y : Value) (pre : List Int) (ds : List Nat) (s1 : σ) (S1 : Nat → Prop) (wr : World) : Prop where
  go : goF step s pre = (s1, true)
  rep : Rep s1 S1 wr
  upd : Upd S W wr
  own : ∀ k, S1 k → k < wr.heap.size ∧ (S k ∨ W.heap.size ≤ k) ∧ k ≠ W.heap.size ∧ k ∉ ds
  box : Blk wr W.heap.size #[y] 26
  nd : ds.Nodup
  mark : ∀ d ∈ ds, W.heap.size < d ∧ wr.heap[d]? = some (.deferred (some []))

/-- The function leaves, each loop's mark shut. -/
theorem leave_join {P : Program} {fn : Func} {σ : Type} {Rep : σ → (Nat → Prop) → World → Prop} {s1 : σ} {S S1 E : Nat → Prop} {W wr : World} {ds : List Nat} {tmps : Array Value} (hfn : fn.results = #[])
    (hstab : ∀ s S W1 W2, Rep s S W1 → Agree S W1 W2 → W1.heap.size ≤ W2.heap.size → Rep s S W2)
    (hrep : Rep s1 S1 wr) (hu : Upd S W wr) (hown : ∀ k, S1 k → k < wr.heap.size ∧ (S k ∨ W.heap.size ≤ k) ∧ k ∉ ds) (nd : ds.Nodup) (mark : ∀ d ∈ ds, W.heap.size < d ∧ wr.heap[d]? = some (.deferred (some []))) :
    LeavesInM Fence.wide 0 P fn tmps (Ret (RunEnd Rep s1 (fun _ => True) S E W)) (ds.map markOf) .returning wr := by
  refine leave_marks hfn ds wr nd (fun d hd => (mark d hd).2) ⟨S1, hstab _ _ _ _ hrep (marks_agree ds wr fun d hd h => (hown d h).2.2 hd) (by rw [marks_size]; exact Nat.le_refl _), trivial, ?_, fun k hk => ⟨by rw [marks_size]; exact (hown k hk).1, (hown k hk).2.1⟩⟩
  exact (marks_upd ds wr hu (fun d hd => Nat.le_of_lt (mark d hd).1)).mono (fun _ _ h => .inl h)

set_option maxRecDepth 100000 in
set_option maxHeartbeats 1000000 in
theorem join_seq {ss : List (Value × List Int)} {bl : Nat} {A : Option Addr} {cap : Nat} {D : Nat → Prop} {w : World}
    (hbl : Blk w bl #[.slice A ss.length cap] 99) (hr : Reads1 w A (ss.map (·.1))) (hl : ss.length ≤ 1000) (hD : ∀ k, D k → k < w.heap.size)
    (hseq : ∀ p ∈ ss, SeqO Try.prog p.1 encI (p.2.map fun x => ((), x)) () () (fun _ _ => True) (fun _ => False) D w) :
    SeqO Try.prog (.func (.func 84) #[] #[.pointer (some ⟨bl, 0, none⟩)]) encI ((ss.flatMap (·.2)).map fun x => ((), x)) () () (fun _ _ => True) (fun _ => False) (fun k => D k ∨ k = bl ∨ blkOf' A ss.length k) w where
  fn := ⟨_, _, rfl⟩
  dlt := by rintro k (h | rfl | h); exact ⟨hD k h, id⟩; exact ⟨hbl.lt, id⟩; exact ⟨by simpa using hr.lt' k (by simpa using h), id⟩
  elt := fun _ h => h.elim
  stable := fun _ _ _ _ _ => trivial
  run := by
    intro σ step Rep y s S W hx _
    refine CallV.of_calls (n := 0) (enters_of Try.func84 (by kernel_rfl) rfl) ?_
    obtain ⟨yf, ya, yc, rfl⟩ := hx.shape
    have hL : ((ss.flatMap (·.2)).map fun x => ((), x)).map (·.2) = ss.flatMap (·.2) := by simp [Function.comp_def]
    rw [hL] at hx ⊢
    have c1 := (hbl.agree hx.agree (.inr (.inl rfl))).cell0
    have l1 := (hbl.agree hx.agree (.inr (.inl rfl))).lt
    refine callsIn_of_wp_marks Try.func84 rfl trivial ?_
    simp only [Try.ntmps84, List.size_toArray, List.length_cons, List.length_nil, Nat.reduceAdd, Nat.reduceSub, Array.replicate_succ, Array.replicate_zero, List.push_toArray, List.append_toArray, List.nil_append, List.cons_append]
    gi_wp2
    rename_i KK hKK
    refine wpIn_loop (fun a wr => ∃ (j : Nat) (v4 v9 v10 v11 v12 v18 : Value) (ds : List Nat) (s1 : σ) (S1 : Nat → Prop), j ≤ ss.length ∧
        a = { tmps := #[.func yf ya yc, .pointer (some ⟨bl, 0, none⟩), .pointer (some ⟨W.heap.size, 0, none⟩), undef, v4, undef, .slice A ss.length cap, .int .i64 ss.length, .int .i64 j, v9, v10, v11, v12, undef, undef, undef, undef, undef, v18], defers := ds.map markOf } ∧
        JRel step Rep s S W (.func yf ya yc) ((ss.take j).flatMap (·.2)) ds s1 S1 wr) (fun a _ => ss.length - (intOf (a.tmps.getD 8 undef)).toNat) ?start ?round
    case start =>
      refine ⟨0, undef, undef, undef, undef, undef, undef, [], s, S, Nat.zero_le _, rfl, by simp [goF], ?_, (Upd.alloc _ _ _).mono (fun _ _ h => h), ?_, Blk.new _ _ _, List.nodup_nil, by simp⟩
      · exact hx.stab _ _ _ _ hx.rep ((Upd.alloc (fun _ => False) _ _).agree fun k hk => ⟨(hx.own k hk).1, id⟩) (by simp)
      · intro k hk
        have := (hx.own k hk).1
        exact ⟨by simp; omega, .inl hk, by omega, by simp⟩
    case round =>
      rintro a wr ⟨j, v4, v9, v10, v11, v12, v18, ds, s1, S1, hj, rfl, hrel⟩
      by_cases hlt : j < ss.length
      · have hp := hseq ss[j] (List.getElem_mem hlt)
        have hagr : Agree (fun k => D k ∨ k = bl ∨ blkOf' A ss.length k) w wr := hx.agree.trans (hrel.upd.agree fun k hk => ⟨by
          have := hx.size
          rcases hk with h | rfl | h
          · have := hD k h; omega
          · exact l1
          · have := hr.lt' k (by simpa using h); omega, fun h => (hx.own k h).2.1 hk⟩)
        obtain ⟨ad, rfl, hc⟩ := (hr.agree' (hagr.mono fun k hk => .inr (.inr (by simpa using hk)))) j ss[j].1 (by simp [hlt])
        obtain ⟨fk, fc, hfv⟩ := hp.fn
        rw [hfv] at hc
        have hsplit : ss.flatMap (·.2) = (ss.take j).flatMap (·.2) ++ (ss[j].2 ++ (ss.drop (j + 1)).flatMap (·.2)) := flat_split hlt
        have htake : (ss.take (j + 1)).flatMap (·.2) = (ss.take j).flatMap (·.2) ++ ss[j].2 := flat_take hlt
        have hev : (ss[j].2.map fun x => ((), x)).map (·.2) = ss[j].2 := by simp [Function.comp_def]
        have hzw := hrel.upd.size
        have hzx := hx.size
        replace hp := Lib.hid hp
        replace hsplit := Lib.hid hsplit
        replace htake := Lib.hid htake
        replace hrel := Lib.hid hrel
        replace hx := Lib.hid hx
        replace hseq := Lib.hid hseq
        replace hagr := Lib.hid hagr
        gi_wp2
        have hD' : ∀ k, (D k ∨ k = bl ∨ blkOf' (some ad) ss.length k) → k < w.heap.size ∧ ¬ False := by rintro k (h | rfl | h); exact ⟨hD k h, id⟩; exact ⟨hbl.lt, id⟩; exact ⟨by simpa using hr.lt' k (by simpa using h), id⟩
        refine wpIn_transX (hfv ▸ hp.out) (hagr.out.mono fun k hk => .inl hk) (by omega) (fun _ h => h.elim) hx.out trivial hrel.out.rep hrel.out.go (D' := fun k => D k ∨ k = bl ∨ blkOf' (some ad) ss.length k) hD'
          (hrel.out.upd.mono fun _ _ h => .inl h) rfl (fun _ => rfl) trId (fun _ W' => Blk W' W.heap.size #[.func yf ya yc] 26) (fun k => k = W.heap.size) () hrel.out.box (by have := hrel.out.box.lt; rintro k rfl; exact ⟨Nat.le_refl _, this⟩)
          (fun t W1 W2 h hA => h.agree hA rfl) ((ss.drop (j + 1)).flatMap (·.2)) ?hDn ?hSS (by rw [hev, outs_id]; exact hsplit.out) ?a1 ?assign ?body ?hend
        case hDn =>
          intro k hk
          have := hD k hk
          refine ⟨fun h => ?_, fun h => by omega⟩
          rcases (hrel.out.own k h).2.1 with q | q
          · exact (hx.out.own k q).2.1 (.inl hk)
          · omega
        case hSS => exact fun k hk => ⟨(hrel.out.own k hk).1, (hrel.out.own k hk).2.1, (hrel.out.own k hk).2.2.1⟩
        case a1 => exact fun x => { tmps := #[.func yf ya yc, .pointer (some ⟨bl, 0, none⟩), .pointer (some ⟨W.heap.size, 0, none⟩), undef, .func (.func fk) #[] fc, .int .i64 x, .slice (some ad) ss.length cap, .int .i64 ss.length, .int .i64 j, .bool true, .pointer (some (ad.add j)), .func (.func fk) #[] fc, .func (.func fk) #[] fc, .int .i64 x, undef, undef, undef, undef, v18], defers := [] }
        case assign =>
          clear c1 l1 hx hseq hp hrel hagr hbl hr hsplit htake hD'
          intro l x W K hK
          gi_wp2
          exact hK
        case body =>
          intro l pre x suf s1 t1 W1 Rdy _ _ _ _ _ hpv _ hAK hy
          have hz := hy.call x rfl _ (Upd.refl _ _)
          have cy := hpv.cell0
          clear c1 l1 hx hseq hp hrel hagr hbl hr hsplit htake hD' hy hAK
          replace hz := Lib.hid hz
          gi_wp2_with ((with_reducible refine listV1 hz.out ?_ ?_ ?_); rfl; rfl; rintro v W3 ⟨rfl, hr, hu⟩)
          · exact tBody_ret (t' := ()) (z := x) (c := true) rfl (nb1 (by assumption)) hr (Upd.refl _ _)
          · exact tBody_next (t' := ()) (z := x) rfl (nb0 (by assumption)) (hpv.upd hu (by simp)) hr (Upd.refl _ _)
        case hend =>
          intro S' W' hR _ hu hsz hAK hS' hdef
          rw [hev, outs_id] at hR ⊢
          rw [trSt_id]
          have hu' : Upd S W W' := hrel.out.upd.trans hu (fun k hk => by
            rcases hk with h | h | h
            · exact (hrel.out.own k h).2.1
            · exact h.elim
            · exact .inr (by omega))
          have hmk : ∀ d ∈ ds, W.heap.size < d ∧ W'.heap[d]? = some (.deferred (some [])) := fun d hd => by
            obtain ⟨q1, q2⟩ := hrel.out.mark d hd
            refine ⟨q1, (hu.block d (Array.getElem?_eq_some_iff.1 q2).1 ?_).trans q2⟩
            rintro (h | h | h)
            · exact (hrel.out.own d h).2.2.2 hd
            · exact h
            · omega
          have hmk' : ∀ d ∈ wr.heap.size :: ds, W.heap.size < d ∧ W'.heap[d]? = some (.deferred (some [])) := by
            intro d hd
            rcases List.mem_cons.1 hd with rfl | h
            · exact ⟨by have := hrel.out.box.lt; omega, hdef⟩
            · exact hmk d h
          have hnd : (wr.heap.size :: ds).Nodup := List.nodup_cons.2 ⟨fun h => by have := (Array.getElem?_eq_some_iff.1 (hrel.out.mark _ h).2).1; omega, hrel.out.nd⟩
          have hown : ∀ k, S' k → k < W'.heap.size ∧ (S k ∨ W.heap.size ≤ k) ∧ k ≠ W.heap.size ∧ k ∉ wr.heap.size :: ds := fun k hk => by
            obtain ⟨q1, q2, q3, q4⟩ := hS' k hk
            refine ⟨q1, ?_, q3, fun h => ?_⟩
            · exact q4.elim (fun h => (hrel.out.own k h).2.1) (fun h => .inr (by omega))
            · rcases List.mem_cons.1 h with h | h
              · exact q2 h
              · rcases q4 with q | q
                · exact (hrel.out.own k q).2.2.2 h
                · have := (Array.getElem?_eq_some_iff.1 (hrel.out.mark _ h).2).1; omega
          refine ⟨fun hg _ hpv => ?_, fun hg => ?_⟩
          · have hJ : JRel step Rep s S W (.func yf ya yc) ((ss.take (j + 1)).flatMap (·.2)) (wr.heap.size :: ds) (goF step s1 ss[j].2).1 S' W' :=
              ⟨by rw [htake.out, goF_append, hrel.out.go, if_pos rfl]; exact Prod.ext rfl hg, hR, hu', hown, hpv, hnd, hmk'⟩
            replace hJ := Lib.hid hJ
            clear c1 l1 hx hseq hp hrel hagr hbl hr hsplit htake hD' hR hu hu' hmk hmk' hnd hown hpv hS' hAK hg hdef
            gi_wp2
            exact ⟨⟨j + 1, by omega, _, _, _, _, _, _, wr.heap.size :: ds, ⟨⟨rfl, by simp, rfl, rfl, rfl, rfl, rfl⟩, rfl⟩, _, _, hJ.out⟩, by simp [intOf]; omega⟩
          · have hgo : (goF step s (ss.flatMap (·.2))).1 = (goF step s1 ss[j].2).1 := by
              have h2 : (goF step s1 ss[j].2).2 = false := by simpa using hg
              rw [hsplit.out, goF_append, hrel.out.go, if_pos rfl, goF_append, if_neg (by simp [h2])]
            exact leave_join (ds := wr.heap.size :: ds) rfl hx.out.stab (hgo.symm ▸ hR) hu' (fun k hk => ⟨(hown k hk).1, (hown k hk).2.1, (hown k hk).2.2.2⟩) hnd hmk'
      · gi_wp2
        have hgo : (goF step s (ss.flatMap (·.2))).1 = s1 := by
          have := hrel.go
          rw [List.take_of_length_le (by omega)] at this
          rw [this]
        exact leave_join rfl hx.stab (hgo.symm ▸ hrel.rep) hrel.upd (fun k hk => ⟨(hrel.own k hk).1, (hrel.own k hk).2.1, (hrel.own k hk).2.2.2⟩) hrel.nd hrel.mark
end Go.Proofs.Ytkjkpmeommfdgaa

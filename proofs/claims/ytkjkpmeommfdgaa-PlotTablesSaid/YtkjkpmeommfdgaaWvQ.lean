/- Pairs over ints: each with its next one. -/
import Derived.Test.YtkjkpmeommfdgaaProg
import Derived.Test.YtkjkpmeommfdgaaBase
import Derived.Test.YtkjkpmeommfdgaaWvI
import Derived.Test.YtkjkpmeommfdgaaWvN
set_option linter.unusedSimpArgs false
set_option linter.unusedVariables false
namespace Go.Proofs.Ytkjkpmeommfdgaa
open Go.RowKit Go.Shelf
attribute [local go_sem] Oper.semAt_some

abbrev encQ : Int × Int → Array Value := fun p => #[.agg #[.int .i64 p.1, .int .i64 p.2]]
abbrev trPair : Int × Int → Int × Int → (Int × Int) × Option (Int × Int) × Bool := fun p x => ((p.2, x.2), if 0 < x.1 then some (p.2, x.2) else none, true)
theorem finT_pair {ω : Type} (fin : ω) : ∀ (l : List (ω × (Int × Int))) (p : Int × Int), finT trPair fin p l = fin
  | [], p => rfl
  | x :: l, p => by simp only [finT, if_true]; exact finT_pair fin l _

theorem number_u {n : Nat} {f1 : Fn} {a1 c1 : Array Value} {w : World} : CallsIn Fence.wide n Try.prog 40 #[.func f1 a1 c1] w fun e w' =>
    ∃ bs, e = .returned (.func (.func 83) #[] #[.pointer (some ⟨bs, 0, none⟩)]) ∧ Blk w' bs #[.func f1 a1 c1] 32 ∧ w.heap.size ≤ bs ∧ Upd (fun _ => False) w w' := by
  refine callsIn_any (n := 0) (callsIn_of_wp Try.func40 rfl trivial ?_)
  simp only [Try.ntmps40, List.size_toArray, List.length_cons, List.length_nil, Nat.reduceAdd, Nat.reduceSub, Array.replicate_succ, Array.replicate_zero, List.push_toArray, List.append_toArray, List.nil_append, List.cons_append]
  gi_wp2
  go_ret
  exact ⟨_, rfl, Blk.new _ _ _, Nat.le_refl _, Upd.alloc _ _ _⟩

set_option maxRecDepth 100000 in
set_option maxHeartbeats 1000000 in
theorem pairs_seq {ω : Type} {fv : Value} {evs : List (ω × Int)} {init fin : ω} {Own : ω → World → Prop} {E D : Nat → Prop} {w : World} {bs : Nat}
    (hseq : SeqO Try.prog fv encI evs init fin Own E D w) (hbs : Blk w bs #[fv] 32) (hsE : ¬ E bs) (hlen : evs.length ≤ 1000) :
    SeqO Try.prog (.func (.func 78) #[] #[.pointer (some ⟨bs, 0, none⟩)]) encQ
      (evsT trPair (0, 0) (evsT trNum 0 evs)) init fin Own E (fun k => D k ∨ k = bs) w where
  fn := ⟨_, _, rfl⟩
  dlt := by rintro k (h | rfl); exact hseq.dlt k h; exact ⟨hbs.lt, hsE⟩
  elt := hseq.elt
  stable := hseq.stable
  run := by
    intro σ step Rep y s S W hx h4
    refine CallV.of_calls (n := 0) (enters_of Try.func78 (by kernel_rfl) rfl) ?_
    obtain ⟨yf, ya, yc, rfl⟩ := hx.shape
    obtain ⟨fk', fc', rfl⟩ := hseq.fn
    have c1 := (hbs.agree hx.agree (.inr rfl)).cell0
    have l1 := (hbs.agree hx.agree (.inr rfl)).lt
    have hD' : ∀ k, (D k ∨ k = bs) → k < w.heap.size ∧ ¬ E k := by rintro k (h | rfl); exact hseq.dlt k h; exact ⟨hbs.lt, hsE⟩
    rw [← finT_pair fin (evsT trNum 0 evs) (0, 0)]
    replace hx := Lib.hid hx
    replace hseq := Lib.hid hseq
    replace h4 := Lib.hid h4
    replace hD' := Lib.hid hD'
    refine callsIn_of_wp_marks Try.func78 rfl trivial ?_
    simp only [Try.ntmps78, List.size_toArray, List.length_cons, List.length_nil, Nat.reduceAdd, Nat.reduceSub, Array.replicate_succ, Array.replicate_zero, List.push_toArray, List.append_toArray, List.nil_append, List.cons_append]
    gi_wp2_with (first | refine (⟨trivial, rfl, ?_⟩ : Fence.wide.fn _ ∧ Fence.wide.depth = none ∧ _) | (gi_at_call 40; refine number_u.mono ?_; rintro e W2 ⟨bn, rfl, hbn, hzn, hu⟩))
    have hsz0 : W.heap.size + 2 ≤ bn := by simpa using hzn
    have hua : Upd (fun _ => False) W ((W.alloc (.cells #[.func yf ya yc] 47)).alloc (.cells #[.int .i64 0, .int .i64 0] 46)) := (Upd.alloc _ _ _).stepAlloc _
    have hu0 : Upd (fun _ => False) W W2 := hua.trans' hu
    have b1 : Blk W2 W.heap.size #[.func yf ya yc] 47 := (Blk.alloc (Blk.new' rfl) _ : Blk ((W.alloc (.cells #[.func yf ya yc] 47)).alloc (.cells #[.int .i64 0, .int .i64 0] 46)) _ _ _).upd hu id
    have b2 : Blk W2 (W.heap.size + 1) #[.int .i64 0, .int .i64 0] 46 := (Blk.new' (by simp) : Blk ((W.alloc (.cells #[.func yf ya yc] 47)).alloc (.cells #[.int .i64 0, .int .i64 0] 46)) _ _ _).upd hu id
    have hwW := hx.out.size
    have hElt := hseq.out.elt
    have hEW : ∀ k, E k → k < W.heap.size := fun k hk => by have := hElt k hk; omega
    have hl0 := hseq.out.later (w' := W2) (Nat.le_trans hwW hu0.size) ((hx.out.agree.mono fun k hk => .inl hk).trans (hu0.agree fun k hk => ⟨by have := (hseq.out.dlt k hk).1; omega, id⟩))
    have hn := number_seq hl0 hbn (fun h => by have := hElt _ h; omega) hlen
    refine trans_fnX (fn := Try.f78) (fun _ _ h => h) hn (Agree.refl _ _) (Nat.le_refl _) hElt hx.out (hseq.out.stable _ _ _ h4.out (hu0.agree fun k hk => ⟨hEW k hk, id⟩)) (hx.out.stab _ _ _ _ hx.out.rep (hu0.agree fun k hk => ⟨(hx.out.own k hk).1, id⟩) hu0.size) (pre0 := []) rfl (D' := fun k => D k ∨ k = bs) hD'.out
      (hu0.mono fun _ _ h => h.elim) rfl (fun _ => rfl) rfl rfl (fun _ _ h => ⟨h, h⟩) trPair (fun p W' => Blk W' W.heap.size #[.func yf ya yc] 47 ∧ Blk W' (W.heap.size + 1) #[.int .i64 p.1, .int .i64 p.2] 46) (fun k => k = W.heap.size ∨ k = W.heap.size + 1) (0, 0)
      ⟨b1, b2⟩ (by have := b1.lt; have := b2.lt; rintro k (rfl | rfl) <;> omega) (fun t W1 W2 h hA => ⟨h.1.agree hA (.inl rfl), h.2.agree hA (.inr rfl)⟩) ?hDn ?hSS (evsT_snd _ _ _) rfl rfl ?a1 ?assign ?body
    case hDn =>
      rintro k (hk | rfl)
      · have := (hseq.out.dlt k hk).1
        exact ⟨fun h => (hx.out.own k h).2.1 (.inl hk), by rintro (rfl | rfl) <;> omega⟩
      · exact ⟨fun h => by have := (hx.out.own _ h).1; omega, by rintro (rfl | rfl) <;> omega⟩
    case hSS =>
      intro k hk
      have := (hx.out.own k hk).1
      exact ⟨Nat.lt_of_lt_of_le this hu0.size, .inl hk, by rintro (rfl | rfl) <;> omega⟩
    case a1 => exact fun x => { tmps := #[.func yf ya yc, .pointer (some ⟨bs, 0, none⟩), .pointer (some ⟨W.heap.size, 0, none⟩), .pointer (some ⟨W.heap.size + 1, 0, none⟩), .int .i64 x.1, .int .i64 x.2, .func (.func fk') #[] fc', .func (.func 83) #[] #[.pointer (some ⟨bn, 0, none⟩)], .int .i64 x.1, .int .i64 x.2, undef, undef, undef, undef, undef, undef, undef, undef, undef, undef, undef, undef], defers := [] }
    case assign =>
      clear c1 l1 hx hseq h4 hbs hD' hn hl0 hu hua hu0 b1 b2 hEW hElt hbn hzn
      intro l x W K hK
      gi_wp2
      exact hK
    case body =>
      intro l pre x suf s1 t1 W1 Rdy _ _ _ he htr hpv _ hAK hy
      obtain ⟨p1, p2⟩ := hpv
      have cy := p1.cell0
      have cs := p2.cell 0
      have cs1 := p2.cell 1
      have cl := p2.lt
      have cf := p2.frozen 0
      have cf1 := p2.frozen 1
      clear c1 l1 hx hseq h4 hbs hD' hn hl0 hu hua hu0 b1 b2 hEW hElt hbn hzn he htr hAK hlen
      have q1 : Blk ((W1.setCell ⟨W.heap.size + 1, 0, none⟩ (.int .i64 t1.2)).setCell ⟨W.heap.size + 1, 1, none⟩ (.int .i64 x.2)) W.heap.size #[.func yf ya yc] 47 := (p1.other (by simp) _).other (by simp) _
      have q2 : Blk ((W1.setCell ⟨W.heap.size + 1, 0, none⟩ (.int .i64 t1.2)).setCell ⟨W.heap.size + 1, 1, none⟩ (.int .i64 x.2)) (W.heap.size + 1) #[.int .i64 t1.2, .int .i64 x.2] 46 := (p2.set 0 _).set 1 _
      have hu1 : Upd (fun k => k = W.heap.size ∨ k = W.heap.size + 1) W1 ((W1.setCell ⟨W.heap.size + 1, 0, none⟩ (.int .i64 t1.2)).setCell ⟨W.heap.size + 1, 1, none⟩ (.int .i64 x.2)) := (Upd.setCell (.inr rfl) _).stepSet (.inl (.inr rfl)) _
      replace hu1 := Lib.hid hu1
      replace q1 := Lib.hid q1
      replace q2 := Lib.hid q2
      by_cases hb : 0 < x.1
      · have ht : trPair t1 x = ((t1.2, x.2), some (t1.2, x.2), true) := by simp [hb]
        have hz := hy.call (t1.2, x.2) (by rw [ht]) _ hu1.out
        clear hy
        replace hz := Lib.hid hz
        gi_wp2_with ((with_reducible refine listV1g hz.out ?_ ?_ ?_ ?_); rfl; rfl; rfl; rintro v W3 ⟨rfl, hr, hu⟩)
        · exact tBody_ret ht (nb1 (by assumption)) hr (Upd.refl _ _)
        · exact tBody_next ht (nb0 (by assumption)) ⟨q1.out.upd hu (by simp), q2.out.upd hu (by simp)⟩ hr (Upd.refl _ _)
      · have ht : trPair t1 x = ((t1.2, x.2), none, true) := by simp [hb]
        clear hy
        gi_wp2_with ((with_reducible refine listSkipV ?_ ?_ ?_); rfl; rfl)
        exact tBody_skip ht ⟨q1.out, q2.out⟩ hu1.out
end Go.Proofs.Ytkjkpmeommfdgaa

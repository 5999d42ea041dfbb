/- Take and Skip over ints. -/
import Derived.Test.YtkjkpmeommfdgaaProg
import Derived.Test.YtkjkpmeommfdgaaBase
import Derived.Test.YtkjkpmeommfdgaaWvI
import Derived.Test.YtkjkpmeommfdgaaWvN
import Derived.Test.YtkjkpmeommfdgaaWvQ
namespace Go.Proofs.Ytkjkpmeommfdgaa
open Go.RowKit Go.Shelf
attribute [local go_sem] Oper.semAt_some

abbrev trTake : Int → Int → Int × Option Int × Bool := fun left x => (left - 1, some x, decide (left - 1 ≠ 0))
theorem trTake_in : ∀ (l : List Int) (n t : Int), 1 ≤ n → trSt trTake n l = (t, true) → 1 ≤ t ∧ t ≤ n
  | [], n, t, h, e => by simp [trSt] at e; omega
  | x :: l, n, t, h, e => by
    simp only [trSt] at e
    by_cases hb : n - 1 = 0
    · simp [hb] at e
    · simp only [decide_eq_true (show n - 1 ≠ 0 from hb), if_true] at e
      have := trTake_in l (n - 1) t (by omega) e
      omega
theorem outs_take : ∀ (l : List Int) (n : Int), 1 ≤ n → outs trTake n l = l.take n.toNat
  | [], n, h => by simp [outs]
  | x :: l, n, h => by
    obtain ⟨k, rfl⟩ : ∃ k : Nat, n = k + 1 := ⟨(n - 1).toNat, by omega⟩
    simp only [outs]
    by_cases hb : (k : Int) = 0
    · obtain rfl : k = 0 := by omega
      simp
    · have := outs_take l k (by omega)
      have hb' : ¬ k = 0 := by omega
      simp [hb', this]

def takeEvs {ω : Type} (n : Int) (evs : List (ω × Int)) : List (ω × Int) := if n < 1 then [] else evsT trTake n evs
def takeFin {ω : Type} (n : Int) (init fin : ω) (evs : List (ω × Int)) : ω := if n < 1 then init else finT trTake fin n evs
theorem takeEvs_snd {ω : Type} (n : Int) (evs : List (ω × Int)) : (takeEvs n evs).map (·.2) = (evs.map (·.2)).take n.toNat := by
  unfold takeEvs
  split
  · rw [show n.toNat = 0 by omega]; simp
  · rw [evsT_snd, outs_take _ _ (by omega)]

set_option maxRecDepth 100000 in
set_option maxHeartbeats 1000000 in
theorem take_seq {ω : Type} {fv : Value} {evs : List (ω × Int)} {init fin : ω} {Own : ω → World → Prop} {E D : Nat → Prop} {w : World} {n : Int} {bs bn : Nat}
    (hseq : SeqO Try.prog fv encI evs init fin Own E D w) (hbs : Blk w bs #[fv] 32) (hbn : Blk w bn #[.int .i64 n] 3) (hsE : ¬ E bs) (hnE : ¬ E bn) (hn : n ≤ 9223372036854775807) :
    SeqO Try.prog (.func (.func 85) #[] #[.pointer (some ⟨bn, 0, none⟩), .pointer (some ⟨bs, 0, none⟩)]) encI
      (takeEvs n evs) init (takeFin n init fin evs) Own E (fun k => D k ∨ k = bs ∨ k = bn) w where
  fn := ⟨_, _, rfl⟩
  dlt := by rintro k (h | rfl | rfl); exact hseq.dlt k h; exact ⟨hbs.lt, hsE⟩; exact ⟨hbn.lt, hnE⟩
  elt := hseq.elt
  stable := hseq.stable
  run := by
    intro σ step Rep y s S W hx h4
    refine CallV.of_calls (n := 0) (enters_of Try.func85 (by kernel_rfl) rfl) ?_
    obtain ⟨yf, ya, yc, rfl⟩ := hx.shape
    obtain ⟨fk', fc', rfl⟩ := hseq.fn
    have c1 := (hbs.agree hx.agree (.inr (.inl rfl))).cell0
    have l1 := (hbs.agree hx.agree (.inr (.inl rfl))).lt
    have c2 := (hbn.agree hx.agree (.inr (.inr rfl))).cell0
    have l2 := (hbn.agree hx.agree (.inr (.inr rfl))).lt
    by_cases hn1 : n < 1
    · have e1 : takeEvs n evs = [] := by simp [takeEvs, hn1]
      have e2 : takeFin n init fin evs = init := by simp [takeFin, hn1]
      rw [e1, e2]
      have hend : RunEnd Rep (goF step s ([] : List Int)).1 (Own init) S E W (.tuple #[]) ((W.alloc (.cells #[.func yf ya yc] 26)).alloc (.cells #[.int .i64 n] 3)) := by
        have hu : Upd (fun _ => False) W ((W.alloc (.cells #[.func yf ya yc] 26)).alloc (.cells #[.int .i64 n] 3)) := (Upd.alloc _ _ _).stepAlloc _
        exact ⟨S, hx.stab _ _ _ _ hx.rep (hu.agree (fun k hk => ⟨(hx.own k hk).1, id⟩)) hu.size, hseq.stable _ _ _ h4 (hu.agree (fun k hk => ⟨by have := hseq.elt k hk; have := hx.size; omega, id⟩)), hu.mono (fun _ _ h => h.elim), fun k hk => ⟨by have := (hx.own k hk).1; simp; omega, .inl hk⟩⟩
      replace hend := Lib.hid hend
      clear hx hseq h4 hbs hbn
      refine callsIn_of_wp Try.func85 rfl trivial ?_
      simp only [Try.ntmps85, List.size_toArray, List.length_cons, List.length_nil, Nat.reduceAdd, Nat.reduceSub, Array.replicate_succ, Array.replicate_zero, List.push_toArray, List.append_toArray, List.nil_append, List.cons_append]
      gi_wp2
      exact bodyPost_ret (results_none rfl _ _ _) rfl ⟨_, rfl, hend.out⟩
    have e1 : takeEvs n evs = evsT trTake n evs := by simp [takeEvs, hn1]
    have e2 : takeFin n init fin evs = finT trTake fin n evs := by simp [takeFin, hn1]
    rw [e1, e2]
    rw [e1] at hx
    refine callsIn_of_wp_marks Try.func85 rfl trivial ?_
    simp only [Try.ntmps85, List.size_toArray, List.length_cons, List.length_nil, Nat.reduceAdd, Nat.reduceSub, Array.replicate_succ, Array.replicate_zero, List.push_toArray, List.append_toArray, List.nil_append, List.cons_append]
    gi_wp2
    refine trans_fn hseq hx h4 (D' := fun k => D k ∨ k = bs ∨ k = bn) (fun _ h => .inl h) (by rintro k (h | rfl | rfl); exact hseq.dlt k h; exact ⟨hbs.lt, hsE⟩; exact ⟨hbn.lt, hnE⟩)
      ((Upd.alloc _ _ _).stepAlloc _) rfl (fun _ => rfl) rfl rfl (fun _ _ h => ⟨h, h⟩) trTake (fun t W' => Blk W' W.heap.size #[.func yf ya yc] 26 ∧ Blk W' (W.heap.size + 1) #[.int .i64 t] 3) (fun k => k = W.heap.size ∨ k = W.heap.size + 1) n
      ⟨Blk.alloc (Blk.new' rfl) _, Blk.new' (by simp)⟩ (by rintro k (rfl | rfl) <;> simp <;> omega)
      (fun t W1 W2 h hA => ⟨h.1.agree hA (.inl rfl), h.2.agree hA (.inr rfl)⟩) (evsT_snd _ _ _) rfl rfl ?a1 ?assign ?body
    case a1 => exact fun x => { tmps := #[.func yf ya yc, .pointer (some ⟨bn, 0, none⟩), .pointer (some ⟨bs, 0, none⟩), .pointer (some ⟨W.heap.size, 0, none⟩), .pointer (some ⟨W.heap.size + 1, 0, none⟩), .int .i64 x, .int .i64 n, .int .i64 n, .bool false, .func (.func fk') #[] fc', .int .i64 x, undef, undef, undef, undef, undef, undef, undef, undef, undef, undef], defers := [] }
    case assign =>
      clear c1 l1 c2 l2 hx hseq h4 hbs hbn
      intro l x W K hK
      gi_wp2
      exact hK
    case body =>
      intro l pre x suf s1 t1 W1 Rdy _ _ _ he htr hpv _ hAK hy
      obtain ⟨ht1, ht2⟩ := trTake_in pre n t1 (by omega) htr
      obtain ⟨u, rfl⟩ : ∃ u, t1 = u + 1 := ⟨t1 - 1, by omega⟩
      have hu9 : 0 ≤ u ∧ u + 1 ≤ 9223372036854775807 := by omega
      obtain ⟨p1, p2⟩ := hpv
      have cy := p1.cell0
      have cs := p2.cell0
      have ls := p2.lt
      have fs := p2.frozen 0
      have q1 := p1.other (p := ⟨W.heap.size + 1, 0, none⟩) (by simp) (.int .i64 u)
      have q2 : Blk (W1.setCell ⟨W.heap.size + 1, 0, none⟩ (.int .i64 u)) (W.heap.size + 1) #[.int .i64 u] 3 := p2.set 0 _
      have hu1 : Upd (fun k => k = W.heap.size ∨ k = W.heap.size + 1) W1 (W1.setCell ⟨W.heap.size + 1, 0, none⟩ (.int .i64 u)) := Upd.setCell (.inr rfl) _
      have hz := hy.call x rfl _ hu1
      have cy2 := q1.cell0
      clear c1 l1 c2 l2 hx hseq h4 hbs hbn hy p1 p2 he htr hAK hu1
      replace hz := Lib.hid hz
      replace q1 := Lib.hid q1
      replace q2 := Lib.hid q2
      by_cases hl : u = 0
      · subst hl
        simp only [Int.zero_add] at cs
        have ht : trTake (0 + 1) x = (0, some x, false) := by simp
        gi_wp2_with ((with_reducible refine listV1 hz.out ?_ ?_ ?_); rfl; rfl; rintro v W3 ⟨rfl, hr, hu⟩; (have c4 := (q2.out.upd hu (by simp)).cell0))
        all_goals exact tBody_last ht hr (Upd.refl _ _)
      · have ht : trTake (u + 1) x = (u, some x, true) := by simp [hl]
        gi_wp2_with ((with_reducible refine listV1 hz.out ?_ ?_ ?_); rfl; rfl; rintro v W3 ⟨rfl, hr, hu⟩; (have c4 := (q2.out.upd hu (by simp)).cell0))
        · exact tBody_next ht (by assumption) ⟨q1.out.upd hu (by simp), q2.out.upd hu (by simp)⟩ hr (Upd.refl _ _)
        · exact tBody_ret ht (by simpa using (by assumption : ¬ (step s1 x).2 = true)) hr (Upd.refl _ _)

abbrev trSkip (n : Int) : Unit → Int × Int → Unit × Option Int × Bool := fun _ x => ((), if n ≤ x.1 then some x.2 else none, true)
theorem finT_skip {ω : Type} (n : Int) (fin : ω) : ∀ (l : List (ω × (Int × Int))) (u : Unit), finT (trSkip n) fin u l = fin
  | [], _ => rfl
  | x :: l, u => by simp only [finT, if_true]; exact finT_skip n fin l _
theorem outs_skip : ∀ (l : List Int) (n : Int) (i : Nat), outs (trSkip n) () (outs trNum i l) = l.drop (n - i).toNat
  | [], n, i => by simp [outs]
  | x :: l, n, i => by
    have ih := outs_skip l n (i + 1)
    by_cases hb : n ≤ (i : Int)
    · have h0 : (n - (i : Int)).toNat = 0 := by omega
      have h1 : (n - ((i + 1 : Nat) : Int)).toNat = 0 := by omega
      rw [h1] at ih
      rw [h0]
      simp [outs, hb, ih]
    · have h1 : (n - (i : Int)).toNat = (n - ((i + 1 : Nat) : Int)).toNat + 1 := by omega
      rw [h1, List.drop_succ_cons, ← ih]
      simp [outs, hb]

set_option maxRecDepth 100000 in
set_option maxHeartbeats 1000000 in
theorem skip_seq {ω : Type} {fv : Value} {evs : List (ω × Int)} {init fin : ω} {Own : ω → World → Prop} {E D : Nat → Prop} {w : World} {n : Int} {bs bk : Nat}
    (hseq : SeqO Try.prog fv encI evs init fin Own E D w) (hbs : Blk w bs #[fv] 32) (hbk : Blk w bk #[.int .i64 n] 3) (hsE : ¬ E bs) (hkE : ¬ E bk) (hlen : evs.length ≤ 1000) :
    SeqO Try.prog (.func (.func 86) #[] #[.pointer (some ⟨bs, 0, none⟩), .pointer (some ⟨bk, 0, none⟩)]) encI
      (evsT (trSkip n) () (evsT trNum 0 evs)) init fin Own E (fun k => D k ∨ k = bs ∨ k = bk) w where
  fn := ⟨_, _, rfl⟩
  dlt := by rintro k (h | rfl | rfl); exact hseq.dlt k h; exact ⟨hbs.lt, hsE⟩; exact ⟨hbk.lt, hkE⟩
  elt := hseq.elt
  stable := hseq.stable
  run := by
    intro σ step Rep y s S W hx h4
    refine CallV.of_calls (n := 0) (enters_of Try.func86 (by kernel_rfl) rfl) ?_
    obtain ⟨yf, ya, yc, rfl⟩ := hx.shape
    obtain ⟨fk', fc', rfl⟩ := hseq.fn
    have c1 := (hbs.agree hx.agree (.inr (.inl rfl))).cell0
    have l1 := (hbs.agree hx.agree (.inr (.inl rfl))).lt
    have hD' : ∀ k, (D k ∨ k = bs ∨ k = bk) → k < w.heap.size ∧ ¬ E k := by rintro k (h | rfl | rfl); exact hseq.dlt k h; exact ⟨hbs.lt, hsE⟩; exact ⟨hbk.lt, hkE⟩
    rw [← finT_skip n fin (evsT trNum 0 evs) ()]
    replace hx := Lib.hid hx
    replace hseq := Lib.hid hseq
    replace h4 := Lib.hid h4
    replace hD' := Lib.hid hD'
    refine callsIn_of_wp_marks Try.func86 rfl trivial ?_
    simp only [Try.ntmps86, List.size_toArray, List.length_cons, List.length_nil, Nat.reduceAdd, Nat.reduceSub, Array.replicate_succ, Array.replicate_zero, List.push_toArray, List.append_toArray, List.nil_append, List.cons_append]
    gi_wp2_with (first | refine (⟨trivial, rfl, ?_⟩ : Fence.wide.fn _ ∧ Fence.wide.depth = none ∧ _) | (gi_at_call 40; refine number_u.mono ?_; rintro e W2 ⟨bn, rfl, hbn, hzn, hu⟩))
    have hsz0 : W.heap.size + 1 ≤ bn := by simpa using hzn
    have hua : Upd (fun _ => False) W (W.alloc (.cells #[.func yf ya yc] 26)) := Upd.alloc _ _ _
    have hu0 : Upd (fun _ => False) W W2 := hua.trans' hu
    have b1 : Blk W2 W.heap.size #[.func yf ya yc] 26 := (Blk.new' rfl : Blk (W.alloc (.cells #[.func yf ya yc] 26)) _ _ _).upd hu id
    have hwW := hx.out.size
    have hElt := hseq.out.elt
    have hEW : ∀ k, E k → k < W.heap.size := fun k hk => by have := hElt k hk; omega
    have hl0 := hseq.out.later (w' := W2) (Nat.le_trans hwW hu0.size) ((hx.out.agree.mono fun k hk => .inl hk).trans (hu0.agree fun k hk => ⟨by have := (hseq.out.dlt k hk).1; omega, id⟩))
    have hn := number_seq hl0 hbn (fun h => by have := hElt _ h; omega) hlen
    refine trans_fnX (fn := Try.f86) (fun _ _ h => h) hn (Agree.refl _ _) (Nat.le_refl _) hElt hx.out (hseq.out.stable _ _ _ h4.out (hu0.agree fun k hk => ⟨hEW k hk, id⟩)) (hx.out.stab _ _ _ _ hx.out.rep (hu0.agree fun k hk => ⟨(hx.out.own k hk).1, id⟩) hu0.size) (pre0 := []) rfl (D' := fun k => D k ∨ k = bs ∨ k = bk) hD'.out
      (hu0.mono fun _ _ h => h.elim) rfl (fun _ => rfl) rfl rfl (fun _ _ h => ⟨h, h⟩) (trSkip n) (fun _ W' => Blk W' W.heap.size #[.func yf ya yc] 26) (fun k => k = W.heap.size) ()
      b1 (by have := b1.lt; rintro k rfl; omega) (fun t W1 W2 h hA => h.agree hA rfl) ?hDn ?hSS (evsT_snd _ _ _) rfl rfl ?a1 ?assign ?body
    case hDn =>
      rintro k (hk | rfl)
      · have := (hseq.out.dlt k hk).1
        exact ⟨fun h => (hx.out.own k h).2.1 (.inl hk), by rintro rfl; omega⟩
      · exact ⟨fun h => by have := (hx.out.own _ h).1; omega, by rintro rfl; omega⟩
    case hSS =>
      intro k hk
      have := (hx.out.own k hk).1
      exact ⟨Nat.lt_of_lt_of_le this hu0.size, .inl hk, by rintro rfl; omega⟩
    case a1 => exact fun x => { tmps := #[.func yf ya yc, .pointer (some ⟨bs, 0, none⟩), .pointer (some ⟨bk, 0, none⟩), .pointer (some ⟨W.heap.size, 0, none⟩), .int .i64 x.1, .int .i64 x.2, .func (.func fk') #[] fc', .func (.func 83) #[] #[.pointer (some ⟨bn, 0, none⟩)], .int .i64 x.1, .int .i64 x.2, undef, undef, undef, undef, undef, undef, undef, undef, undef], defers := [] }
    case assign =>
      clear c1 l1 hx hseq h4 hbs hD' hn hl0 hu hua hu0 b1 hEW hElt hbn hzn
      intro l x W K hK
      gi_wp2
      exact hK
    case body =>
      intro l pre x suf s1 t1 W1 Rdy _ _ _ he htr hpv _ hAK hy
      have cy := hpv.cell0
      have ck := (hbk.agree hAK (.inr (.inr rfl))).cell0
      clear c1 l1 hx hseq h4 hbs hD' hn hl0 hu hua hu0 b1 hEW hElt hbn hzn he htr hAK hlen
      replace hy := Lib.hid hy
      by_cases hb : n ≤ x.1
      · have ht : trSkip n t1 x = ((), some x.2, true) := by simp [hb]
        have hz := hy.out.call x.2 (by rw [ht]) _ (Upd.refl _ _)
        clear hy
        replace hz := Lib.hid hz
        gi_wp2_with ((with_reducible refine listV1g hz.out ?_ ?_ ?_ ?_); rfl; rfl; rfl; rintro v W3 ⟨rfl, hr, hu⟩)
        · exact tBody_ret ht (nb1 (by assumption)) hr (Upd.refl _ _)
        · exact tBody_next ht (nb0 (by assumption)) (hpv.upd hu (by simp)) hr (Upd.refl _ _)
      · have ht : trSkip n t1 x = ((), none, true) := by simp [hb]
        clear hy
        gi_wp2_with ((with_reducible refine listSkipV ?_ ?_ ?_); rfl; rfl)
        exact tBody_skip ht hpv (Upd.refl _ _)
end Go.Proofs.Ytkjkpmeommfdgaa

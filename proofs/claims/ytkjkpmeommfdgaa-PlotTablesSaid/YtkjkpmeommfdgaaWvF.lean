/- weave's iterators made of an iterator, over ints: each is the fold that it is. -/
import Derived.Test.YtkjkpmeommfdgaaProg
import Derived.Test.YtkjkpmeommfdgaaBase
import Derived.Test.YtkjkpmeommfdgaaWvI
set_option linter.unusedSimpArgs false
set_option linter.unusedVariables false
namespace Go.Proofs.Ytkjkpmeommfdgaa
open Go.RowKit Go.Shelf
attribute [local go_sem] Oper.semAt_some

/-- 'if p x then x' -/
abbrev trFilter (p : Int → Bool) : Unit → Int → Unit × Option Int × Bool := fun _ x => ((), if p x then some x else none, true)
/-- 'while p x: x' -/
abbrev trWhile (p : Int → Bool) : Unit → Int → Unit × Option Int × Bool := fun _ x => ((), if p x then some x else none, p x)

set_option maxRecDepth 100000 in
set_option maxHeartbeats 1000000 in
/-- Filter: the walk of the closure's body. -/
theorem filter_seq {ω : Type} {fv : Value} {fk : Fn} {ak ck : Array Value} {evs : List (ω × Int)} {init fin : ω} {Own : ω → World → Prop} {E D : Nat → Prop} {w : World} {p : Int → Bool} {bs bk : Nat} {Dk : Nat → Prop}
    (hseq : SeqO Try.prog fv encI evs init fin Own E D w) (hbs : Blk w bs #[fv] 32) (hbk : Blk w bk #[.func fk ak ck] 26)
    (hk : ∀ x W, Agree Dk w W → CallV Try.prog (.func fk ak ck) #[.int .i64 x] W fun v W' => v = .bool (p x) ∧ W' = W)
    (hsE : ¬ E bs) (hkE : ¬ E bk) (hDk : ∀ k, Dk k → k < w.heap.size ∧ ¬ E k) :
    SeqO Try.prog (.func (.func 73) #[] #[.pointer (some ⟨bs, 0, none⟩), .pointer (some ⟨bk, 0, none⟩)]) encI
      (evsT (trFilter p) () evs) init (finT (trFilter p) fin () evs) Own E (fun k => D k ∨ k = bs ∨ k = bk ∨ Dk k) w where
  fn := ⟨_, _, rfl⟩
  dlt := by rintro k (h | rfl | rfl | h); exact hseq.dlt k h; exact ⟨hbs.lt, hsE⟩; exact ⟨hbk.lt, hkE⟩; exact hDk k h
  elt := hseq.elt
  stable := hseq.stable
  run := by
    intro σ step Rep y s S W hx h4
    refine CallV.of_calls (n := 0) (enters_of Try.func73 (by kernel_rfl) rfl) ?_
    obtain ⟨yf, ya, yc, rfl⟩ := hx.shape
    obtain ⟨fk', fc', rfl⟩ := hseq.fn
    replace hk := Lib.hid hk
    have c1 := (hbs.agree hx.agree (.inr (.inl rfl))).cell0
    have l1 := (hbs.agree hx.agree (.inr (.inl rfl))).lt
    refine callsIn_of_wp_marks Try.func73 rfl trivial ?_
    simp only [Try.ntmps73, List.size_toArray, List.length_cons, List.length_nil, Nat.reduceAdd, Nat.reduceSub, Array.replicate_succ, Array.replicate_zero, List.push_toArray, List.append_toArray, List.nil_append, List.cons_append]
    gi_wp2
    refine trans_fn hseq hx h4 (D' := fun k => D k ∨ k = bs ∨ k = bk ∨ Dk k) (fun _ h => .inl h) (by rintro k (h | rfl | rfl | h); exact hseq.dlt k h; exact ⟨hbs.lt, hsE⟩; exact ⟨hbk.lt, hkE⟩; exact hDk k h)
      (Upd.alloc _ _ _) rfl (fun _ => rfl) rfl rfl (fun _ _ h => ⟨h, h⟩) (trFilter p) (fun _ W' => Blk W' W.heap.size #[.func yf ya yc] 26) (fun k => k = W.heap.size) () (Blk.new _ _ _) (by rintro k rfl; simp)
      (fun t W1 W2 h hA => h.agree hA rfl) (evsT_snd _ _ _) rfl rfl ?a1 ?assign ?body
    case a1 => exact fun x => { tmps := #[.func yf ya yc, .pointer (some ⟨bs, 0, none⟩), .pointer (some ⟨bk, 0, none⟩), .pointer (some ⟨W.heap.size, 0, none⟩), .int .i64 x, .func (.func fk') #[] fc', .int .i64 x, undef, undef, undef, undef, undef, undef, undef, undef, undef], defers := [] }
    case assign =>
      clear hk c1 l1 hx hseq h4 hbs hbk
      intro l x W K hK
      gi_wp2
      exact hK
    case body =>
      intro l pre x suf s1 t1 W1 Rdy _ _ _ _ _ hpv _ hAK hy
      have cy := hpv.cell0
      have ck := (hbk.agree hAK (.inr (.inr (.inl rfl)))).cell0
      have hk1 := hk.out x W1 (hAK.mono fun k h => .inr (.inr (.inr h)))
      replace hk1 := Lib.hid hk1
      clear c1 l1 hx hseq h4 hbs hbk hk hDk
      cases hb : p x with
      | false =>
        gi_wp2_with (first | ((with_reducible refine listV1 hk1.out ?_ ?_ ?_); rfl; rfl; rintro v w' ⟨rfl, rfl⟩; rw [hb]) | ((with_reducible refine listSkipV ?_ ?_ ?_); rfl; rfl))
        exact tBody_skip (t' := ()) (by simp [hb]) hpv (Upd.refl _ _)
      | true =>
        have hz := hy.call x (by simp [hb]) W1 (Upd.refl _ _)
        clear hy
        replace hz := Lib.hid hz
        gi_wp2_with (first | ((with_reducible refine listV1 hk1.out ?_ ?_ ?_); rfl; rfl; rintro v w' ⟨rfl, rfl⟩; rw [hb]) | ((with_reducible refine listV1g hz.out ?_ ?_ ?_ ?_); rfl; rfl; rfl; rintro v W3 ⟨rfl, hr, hu⟩))
        · exact tBody_ret (t' := ()) (z := x) (c := true) (by simp [hb]) (nb1 (by assumption)) hr (Upd.refl _ _)
        · exact tBody_next (t' := ()) (z := x) (by simp [hb]) (nb0 (by assumption)) (hpv.upd hu (by simp)) hr (Upd.refl _ _)

set_option maxRecDepth 100000 in
set_option maxHeartbeats 1000000 in
/-- While. -/
theorem while_seq {ω : Type} {fv : Value} {fk : Fn} {ak ck : Array Value} {evs : List (ω × Int)} {init fin : ω} {Own : ω → World → Prop} {E D : Nat → Prop} {w : World} {p : Int → Bool} {bs bk : Nat} {Dk : Nat → Prop}
    (hseq : SeqO Try.prog fv encI evs init fin Own E D w) (hbs : Blk w bs #[fv] 32) (hbk : Blk w bk #[.func fk ak ck] 26)
    (hk : ∀ x W, Agree Dk w W → CallV Try.prog (.func fk ak ck) #[.int .i64 x] W fun v W' => v = .bool (p x) ∧ W' = W)
    (hsE : ¬ E bs) (hkE : ¬ E bk) (hDk : ∀ k, Dk k → k < w.heap.size ∧ ¬ E k) :
    SeqO Try.prog (.func (.func 75) #[] #[.pointer (some ⟨bs, 0, none⟩), .pointer (some ⟨bk, 0, none⟩)]) encI
      (evsT (trWhile p) () evs) init (finT (trWhile p) fin () evs) Own E (fun k => D k ∨ k = bs ∨ k = bk ∨ Dk k) w where
  fn := ⟨_, _, rfl⟩
  dlt := by rintro k (h | rfl | rfl | h); exact hseq.dlt k h; exact ⟨hbs.lt, hsE⟩; exact ⟨hbk.lt, hkE⟩; exact hDk k h
  elt := hseq.elt
  stable := hseq.stable
  run := by
    intro σ step Rep y s S W hx h4
    refine CallV.of_calls (n := 0) (enters_of Try.func75 (by kernel_rfl) rfl) ?_
    obtain ⟨yf, ya, yc, rfl⟩ := hx.shape
    obtain ⟨fk', fc', rfl⟩ := hseq.fn
    replace hk := Lib.hid hk
    have c1 := (hbs.agree hx.agree (.inr (.inl rfl))).cell0
    have l1 := (hbs.agree hx.agree (.inr (.inl rfl))).lt
    refine callsIn_of_wp_marks Try.func75 rfl trivial ?_
    simp only [Try.ntmps75, List.size_toArray, List.length_cons, List.length_nil, Nat.reduceAdd, Nat.reduceSub, Array.replicate_succ, Array.replicate_zero, List.push_toArray, List.append_toArray, List.nil_append, List.cons_append]
    gi_wp2
    refine trans_fn hseq hx h4 (D' := fun k => D k ∨ k = bs ∨ k = bk ∨ Dk k) (fun _ h => .inl h) (by rintro k (h | rfl | rfl | h); exact hseq.dlt k h; exact ⟨hbs.lt, hsE⟩; exact ⟨hbk.lt, hkE⟩; exact hDk k h)
      (Upd.alloc _ _ _) rfl (fun _ => rfl) rfl rfl (fun _ _ h => ⟨h, h⟩) (trWhile p) (fun _ W' => Blk W' W.heap.size #[.func yf ya yc] 26) (fun k => k = W.heap.size) () (Blk.new _ _ _) (by rintro k rfl; simp)
      (fun t W1 W2 h hA => h.agree hA rfl) (evsT_snd _ _ _) rfl rfl ?a1 ?assign ?body
    case a1 => exact fun x => { tmps := #[.func yf ya yc, .pointer (some ⟨bs, 0, none⟩), .pointer (some ⟨bk, 0, none⟩), .pointer (some ⟨W.heap.size, 0, none⟩), .int .i64 x, .func (.func fk') #[] fc', .int .i64 x, undef, undef, undef, undef, undef, undef, undef, undef, undef, undef], defers := [] }
    case assign =>
      clear hk c1 l1 hx hseq h4 hbs hbk
      intro l x W K hK
      gi_wp2
      exact hK
    case body =>
      intro l pre x suf s1 t1 W1 Rdy _ _ _ _ _ hpv _ hAK hy
      have cy := hpv.cell0
      have ck := (hbk.agree hAK (.inr (.inr (.inl rfl)))).cell0
      have hk1 := hk.out x W1 (hAK.mono fun k h => .inr (.inr (.inr h)))
      replace hk1 := Lib.hid hk1
      clear c1 l1 hx hseq h4 hbs hbk hk hDk
      cases hb : p x with
      | false =>
        gi_wp2_with (first | ((with_reducible refine listV1 hk1.out ?_ ?_ ?_); rfl; rfl; rintro v w' ⟨rfl, rfl⟩; rw [hb]) | ((with_reducible refine listSkipV ?_ ?_ ?_); rfl; rfl))
        exact tBody_stop (t' := ()) (by simp [hb]) (Upd.refl _ _)
      | true =>
        have hz := hy.call x (by simp [hb]) W1 (Upd.refl _ _)
        clear hy
        replace hz := Lib.hid hz
        gi_wp2_with (first | ((with_reducible refine listV1 hk1.out ?_ ?_ ?_); rfl; rfl; rintro v w' ⟨rfl, rfl⟩; rw [hb]) | ((with_reducible refine listV1g hz.out ?_ ?_ ?_ ?_); rfl; rfl; rfl; rintro v W3 ⟨rfl, hr, hu⟩))
        · exact tBody_ret (t' := ()) (z := x) (c := true) (by simp [hb]) (nb1 (by assumption)) hr (Upd.refl _ _)
        · exact tBody_next (t' := ()) (z := x) (by simp [hb]) (nb0 (by assumption)) (hpv.upd hu (by simp)) hr (Upd.refl _ _)
end Go.Proofs.Ytkjkpmeommfdgaa

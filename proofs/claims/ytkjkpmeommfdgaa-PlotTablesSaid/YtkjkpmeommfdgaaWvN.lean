/- Number over ints: each with its place. -/
import Derived.Test.YtkjkpmeommfdgaaProg
import Derived.Test.YtkjkpmeommfdgaaBase
import Derived.Test.YtkjkpmeommfdgaaWvI
set_option linter.unusedSimpArgs false
set_option linter.unusedVariables false
namespace Go.Proofs.Ytkjkpmeommfdgaa
open Go.RowKit Go.Shelf
attribute [local go_sem] Oper.semAt_some

abbrev encP : Int × Int → Array Value := fun p => #[.int .i64 p.1, .int .i64 p.2]
abbrev trNum : Nat → Int → Nat × Option (Int × Int) × Bool := fun i x => (i + 1, some ((i : Int), x), true)
theorem trSt_num : ∀ (l : List Int) (i : Nat), trSt trNum i l = (i + l.length, true)
  | [], i => rfl
  | x :: l, i => by simp only [trSt, if_true]; rw [trSt_num l (i + 1)]; simp; omega
theorem finT_num {ω : Type} (fin : ω) : ∀ (l : List (ω × Int)) (i : Nat), finT trNum fin i l = fin
  | [], i => rfl
  | x :: l, i => by simp only [finT, if_true]; exact finT_num fin l (i + 1)

set_option maxRecDepth 100000 in
set_option maxHeartbeats 1000000 in
theorem number_seq {ω : Type} {fv : Value} {evs : List (ω × Int)} {init fin : ω} {Own : ω → World → Prop} {E D : Nat → Prop} {w : World} {bs : Nat}
    (hseq : SeqO Try.prog fv encI evs init fin Own E D w) (hbs : Blk w bs #[fv] 32) (hsE : ¬ E bs) (hlen : evs.length ≤ 1000) :
    SeqO Try.prog (.func (.func 83) #[] #[.pointer (some ⟨bs, 0, none⟩)]) encP
      (evsT trNum 0 evs) init fin Own E (fun k => D k ∨ k = bs) w where
  fn := ⟨_, _, rfl⟩
  dlt := by rintro k (h | rfl); exact hseq.dlt k h; exact ⟨hbs.lt, hsE⟩
  elt := hseq.elt
  stable := hseq.stable
  run := by
    intro σ step Rep y s S W hx h4
    refine CallV.of_calls (n := 0) (enters_of Try.func83 (by kernel_rfl) rfl) ?_
    obtain ⟨yf, ya, yc, rfl⟩ := hx.shape
    obtain ⟨fk', fc', rfl⟩ := hseq.fn
    have c1 := (hbs.agree hx.agree (.inr rfl)).cell0
    have l1 := (hbs.agree hx.agree (.inr rfl)).lt
    rw [← finT_num fin evs 0]
    refine callsIn_of_wp_marks Try.func83 rfl trivial ?_
    simp only [Try.ntmps83, List.size_toArray, List.length_cons, List.length_nil, Nat.reduceAdd, Nat.reduceSub, Array.replicate_succ, Array.replicate_zero, List.push_toArray, List.append_toArray, List.nil_append, List.cons_append]
    gi_wp2
    refine trans_fn hseq hx h4 (D' := fun k => D k ∨ k = bs) (fun _ h => .inl h) (by rintro k (h | rfl); exact hseq.dlt k h; exact ⟨hbs.lt, hsE⟩)
      ((Upd.alloc _ _ _).stepAlloc _) rfl (fun _ => rfl) rfl rfl (fun _ _ h => ⟨h, h⟩) trNum (fun i W' => Blk W' W.heap.size #[.func yf ya yc] 50 ∧ Blk W' (W.heap.size + 1) #[.int .i64 (i : Nat)] 3) (fun k => k = W.heap.size ∨ k = W.heap.size + 1) 0
      ⟨Blk.alloc (Blk.new' rfl) _, Blk.new' (by simp)⟩ (by rintro k (rfl | rfl) <;> simp <;> omega)
      (fun t W1 W2 h hA => ⟨h.1.agree hA (.inl rfl), h.2.agree hA (.inr rfl)⟩) (evsT_snd _ _ _) rfl rfl ?a1 ?assign ?body
    case a1 => exact fun x => { tmps := #[.func yf ya yc, .pointer (some ⟨bs, 0, none⟩), .pointer (some ⟨W.heap.size, 0, none⟩), .pointer (some ⟨W.heap.size + 1, 0, none⟩), .int .i64 x, .func (.func fk') #[] fc', .int .i64 x, undef, undef, undef, undef, undef, undef, undef], defers := [] }
    case assign =>
      clear c1 l1 hx hseq h4 hbs
      intro l x W K hK
      gi_wp2
      exact hK
    case body =>
      intro l pre x suf s1 t1 W1 Rdy _ _ _ he htr hpv _ hAK hy
      have ht : t1 < 1000 := by
        rw [trSt_num] at htr
        have h1 := (Prod.mk.inj htr).1
        have h2 := congrArg List.length he
        simp at h1 h2; omega
      obtain ⟨p1, p2⟩ := hpv
      have cy := p1.cell0
      have cs := p2.cell0
      have hz := hy.call ((t1 : Int), x) rfl W1 (Upd.refl _ _)
      clear c1 l1 hx hseq h4 hbs hy he htr hAK hlen
      replace hz := Lib.hid hz
      gi_wp2_with ((with_reducible refine listV2 hz.out ?_ ?_ ?_ ?_); rfl; rfl; rfl; rintro v W3 ⟨rfl, hr, hu⟩; (have q1 := p1.upd hu (by simp)); (have q2 := p2.upd hu (by simp)); (have cs2 := q2.cell0); (have cl2 := q2.lt); (have cf2 := q2.frozen 0); (replace q1 := Lib.hid q1); (replace q2 := Lib.hid q2))
      · exact tBody_ret (t' := t1 + 1) (z := ((t1 : Int), x)) (c := true) rfl (nb1 (by assumption)) hr (Upd.refl _ _)
      · refine tBody_next (t' := t1 + 1) (z := ((t1 : Int), x)) rfl (nb0 (by assumption)) ⟨q1.out.other (by simp) _, by simpa using q2.out.set 0 (.int .i64 ((t1 : Int) + 1))⟩ hr (Upd.setCell (.inr rfl) _)
end Go.Proofs.Ytkjkpmeommfdgaa

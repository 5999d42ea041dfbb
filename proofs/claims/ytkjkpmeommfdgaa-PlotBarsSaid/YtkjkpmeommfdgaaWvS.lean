/- Scan over ints: what there is so far, the first one ahead of all. -/
import Derived.Test.YtkjkpmeommfdgaaProg
import Derived.Test.YtkjkpmeommfdgaaBase
import Derived.Test.YtkjkpmeommfdgaaWvI
set_option linter.unusedSimpArgs false
set_option linter.unusedVariables false
namespace Go.Proofs.Ytkjkpmeommfdgaa
open Go.RowKit Go.Shelf
attribute [local go_sem] Oper.semAt_some

abbrev xorI (x y : Int) : Int := bits BinOp.xor .i64 x y
theorem xor_c {x y : Int} {w : World} : CallV Try.prog (.func (.func 25) #[] #[]) #[.int .i64 x, .int .i64 y] w fun v w' => v = .int .i64 (xorI x y) ∧ w' = w := by
  refine CallV.of_calls (n := 0) (enters_of Try.func25 (by kernel_rfl) rfl) ?_
  refine callsIn_of_wp Try.func25 rfl trivial ?_
  simp only [Try.ntmps25, List.size_toArray, List.length_cons, List.length_nil, Nat.reduceAdd, Nat.reduceSub, Array.replicate_succ, Array.replicate_zero, List.push_toArray, List.append_toArray, List.nil_append, List.cons_append]
  gi_wp2
  go_ret
  exact ⟨_, rfl, rfl, rfl⟩

/-- 'so = f(so, x)', given. -/
abbrev trScan (f : Int → Int → Int) : Int → Int → Int × Option Int × Bool := fun so x => (f so x, some (f so x), true)

set_option maxRecDepth 100000 in
set_option maxHeartbeats 1000000 in
theorem scan_seq {ω : Type} {fv : Value} {fk : Fn} {ak ck : Array Value} {evs : List (ω × Int)} {init fin : ω} {Own : ω → World → Prop} {E D : Nat → Prop} {w : World} {f : Int → Int → Int} {first : Int} {bs bf bk : Nat}
    (hseq : SeqO Try.prog fv encI evs init fin Own E D w) (hbs : Blk w bs #[fv] 32) (hbf : Blk w bf #[.int .i64 first] 3) (hbk : Blk w bk #[.func fk ak ck] 38)
    (hk : ∀ x y W, CallV Try.prog (.func fk ak ck) #[.int .i64 x, .int .i64 y] W fun v W' => v = .int .i64 (f x y) ∧ W' = W)
    (hsE : ¬ E bs) (hfE : ¬ E bf) (hkE : ¬ E bk) :
    SeqO Try.prog (.func (.func 77) #[] #[.pointer (some ⟨bf, 0, none⟩), .pointer (some ⟨bs, 0, none⟩), .pointer (some ⟨bk, 0, none⟩)]) encI
      ((init, first) :: evsT (trScan f) first evs) init (finT (trScan f) fin first evs) Own E (fun k => D k ∨ k = bs ∨ k = bf ∨ k = bk) w where
  fn := ⟨_, _, rfl⟩
  dlt := by rintro k (h | rfl | rfl | rfl); exact hseq.dlt k h; exact ⟨hbs.lt, hsE⟩; exact ⟨hbf.lt, hfE⟩; exact ⟨hbk.lt, hkE⟩
  elt := hseq.elt
  stable := hseq.stable
  run := by
    intro σ step Rep y s S W hx h4
    refine CallV.of_calls (n := 0) (enters_of Try.func77 (by kernel_rfl) rfl) ?_
    obtain ⟨yf, ya, yc, rfl⟩ := hx.shape
    obtain ⟨fk', fc', rfl⟩ := hseq.fn
    have hD' : ∀ k, (D k ∨ k = bs ∨ k = bf ∨ k = bk) → k < w.heap.size ∧ ¬ E k := by rintro k (h | rfl | rfl | rfl); exact hseq.dlt k h; exact ⟨hbs.lt, hsE⟩; exact ⟨hbf.lt, hfE⟩; exact ⟨hbk.lt, hkE⟩
    have c1 := (hbs.agree hx.agree (.inr (.inl rfl))).cell0
    have l1 := (hbs.agree hx.agree (.inr (.inl rfl))).lt
    have c2 := (hbf.agree hx.agree (.inr (.inr (.inl rfl)))).cell0
    have l2 := (hbf.agree hx.agree (.inr (.inr (.inl rfl)))).lt
    replace hk := Lib.hid hk
    have hL : ((init, first) :: evsT (trScan f) first evs).map (·.2) = [first] ++ outs (trScan f) first (evs.map (·.2)) := by rw [List.map_cons, evsT_snd]; rfl
    have hu0 : Upd (fun _ => False) W ((W.alloc (.cells #[.func yf ya yc] 26)).alloc (.cells #[.int .i64 first] 3)) := (Upd.alloc _ _ _).stepAlloc _
    have hx1 := hx.grow (fun k hk => (hD' k hk).1) hu0
    have hz := hx1.yield [] first _ s S _ hL rfl hx1.rep (Upd.refl _ _) (fun k hk => ⟨(hx1.own k hk).1, .inl hk⟩)
    have hSW := hx.own
    have hEW : ∀ k, E k → k < W.heap.size := fun k hk => by have := hseq.elt k hk; have := hx.size; omega
    have b1 : Blk ((W.alloc (.cells #[.func yf ya yc] 26)).alloc (.cells #[.int .i64 first] 3)) W.heap.size #[.func yf ya yc] 26 := Blk.alloc (Blk.new' rfl) _
    have b2 : Blk ((W.alloc (.cells #[.func yf ya yc] 26)).alloc (.cells #[.int .i64 first] 3)) (W.heap.size + 1) #[.int .i64 first] 3 := Blk.new' (by simp)
    have hsz : ((W.alloc (.cells #[.func yf ya yc] 26)).alloc (.cells #[.int .i64 first] 3)).heap.size = W.heap.size + 2 := by simp
    have hbs1 := (hbs.agree hx.agree (.inr (.inl rfl))).upd hu0 id
    have hnS : ¬ S bs := fun h => (hx.own bs h).2.1 (.inr (.inl rfl))
    have hn1 : ¬ S W.heap.size := fun h => by have := (hx.own _ h).1; omega
    have hn2 : ¬ S (W.heap.size + 1) := fun h => by have := (hx.own _ h).1; omega
    replace hz := Lib.hid hz
    replace hx := Lib.hid hx
    replace hseq := Lib.hid hseq
    replace hD' := Lib.hid hD'
    replace h4 := Lib.hid h4
    replace hSW := Lib.hid hSW
    replace hEW := Lib.hid hEW
    replace hL := Lib.hid hL
    clear hx1
    cases hb : (step s first).2 with
    | false =>
      refine callsIn_of_wp Try.func77 rfl trivial ?_
      simp only [Try.ntmps77, List.size_toArray, List.length_cons, List.length_nil, Nat.reduceAdd, Nat.reduceSub, Array.replicate_succ, Array.replicate_zero, List.push_toArray, List.append_toArray, List.nil_append, List.cons_append]
      gi_wp2_with ((with_reducible refine listV1 hz.out ?_ ?_ ?_); rfl; rfl; rintro v W2 ⟨S2, rfl, hr, hu, hS⟩; rw [hb]; (replace hr := Lib.hid hr); (replace hS := Lib.hid hS); (replace hu := Lib.hid hu))
      refine bodyPost_ret (results_none rfl _ _ _) rfl ⟨_, rfl, RunEnd.back0 (W2 := ((W.alloc (.cells #[.func yf ya yc] 26)).alloc (.cells #[.int .i64 first] 3))) ⟨S2, ?_, ?_, hu.out.mono fun _ _ h => .inl h, hS.out⟩ hu0⟩
      · simp only [goF, hb]
        exact hr.out
      · simp only [goOwn, hb]
        refine hseq.out.stable _ _ _ h4.out ((hu0.agree fun k hk => ⟨hEW.out k hk, id⟩).trans (hu.out.agree fun k hk => ⟨by have := hEW.out k hk; omega, fun h => (hSW.out k h).2.2 hk⟩))
    | true =>
      refine callsIn_of_wp_marks Try.func77 rfl trivial ?_
      simp only [Try.ntmps77, List.size_toArray, List.length_cons, List.length_nil, Nat.reduceAdd, Nat.reduceSub, Array.replicate_succ, Array.replicate_zero, List.push_toArray, List.append_toArray, List.nil_append, List.cons_append]
      gi_wp2_with ((with_reducible refine listV1 hz.out ?_ ?_ ?_); rfl; rfl; rintro v W2 ⟨S2, rfl, hr, hu, hS⟩; rw [hb]; (have c3 := (hbs1.upd hu hnS).cell0); (have hb1 := b1.upd hu hn1); (have hb2 := b2.upd hu hn2); (replace hr := Lib.hid hr); (replace hS := Lib.hid hS); (replace hu := Lib.hid hu))
      have hz2 := hu.out.size
      have hO2 : Own init W2 := hseq.out.stable _ _ _ h4.out ((hu0.agree fun k hk => ⟨hEW.out k hk, id⟩).trans (hu.out.agree fun k hk => ⟨by have := hEW.out k hk; omega, fun h => (hSW.out k h).2.2 hk⟩))
      refine trans_fnM (fn := Try.f77) (fun _ _ h => h) hseq.out hx.out hO2 hr.out (pre0 := [first]) (by simp only [goF, hb]; rfl) (D' := fun k => D k ∨ k = bs ∨ k = bf ∨ k = bk) (fun _ h => .inl h) hD'.out
        ((hu0.mono fun _ _ h => h.elim).trans hu.out (fun k hk => .inl (.inl hk))) rfl (fun _ => rfl) rfl rfl (fun _ _ h => ⟨h, h⟩) (trScan f) (fun so W' => Blk W' W.heap.size #[.func yf ya yc] 26 ∧ Blk W' (W.heap.size + 1) #[.int .i64 so] 3) (fun k => k = W.heap.size ∨ k = W.heap.size + 1) first ⟨hb1, hb2⟩ (by rintro k (rfl | rfl) <;> omega)
        (fun t Wa Wb h hA => ⟨h.1.agree hA (.inl rfl), h.2.agree hA (.inr rfl)⟩) ?hS hL.out rfl ?hOF ?a1 ?assign ?body
      case hS =>
        intro k hk
        obtain ⟨p, q⟩ := hS.out k hk
        refine ⟨p, q.imp id (fun h => by omega), ?_⟩
        rintro (rfl | rfl)
        · rcases q with q | q
          · exact hn1 q
          · omega
        · rcases q with q | q
          · exact hn2 q
          · omega
      case hOF => simp only [goOwn, hb, if_true]
      case a1 => exact fun x => { tmps := #[.func yf ya yc, .pointer (some ⟨bf, 0, none⟩), .pointer (some ⟨bs, 0, none⟩), .pointer (some ⟨bk, 0, none⟩), .pointer (some ⟨W.heap.size, 0, none⟩), .pointer (some ⟨W.heap.size + 1, 0, none⟩), .int .i64 x, .int .i64 first, .func yf ya yc, .int .i64 first, .bool true, .bool false, .func (.func fk') #[] fc', .int .i64 x, undef, undef, undef, undef, undef, undef, undef, undef], defers := [] }
      case assign =>
        clear hk c1 l1 c2 l2 hx hseq h4 hbs hbk hbf hz hD' hbs1 b1 b2 hb1 hb2 hr hu hS c3 hu0
        intro l x W K hK
        gi_wp2
        exact hK
      case body =>
        intro l pre x suf s1 t1 W1 Rdy _ _ _ _ _ hpv _ hAK hy
        obtain ⟨p1, p2⟩ := hpv
        have cy := p1.cell0
        have cs := p2.cell0
        have ls := p2.lt
        have fs := p2.frozen 0
        have ck := (hbk.agree hAK (.inr (.inr (.inr rfl)))).cell0
        have q1 := p1.other (p := ⟨W.heap.size + 1, 0, none⟩) (by simp) (.int .i64 (f t1 x))
        have q2 : Blk (W1.setCell ⟨W.heap.size + 1, 0, none⟩ (.int .i64 (f t1 x))) (W.heap.size + 1) #[.int .i64 (f t1 x)] 3 := p2.set 0 _
        have hu1 : Upd (fun k => k = W.heap.size ∨ k = W.heap.size + 1) W1 (W1.setCell ⟨W.heap.size + 1, 0, none⟩ (.int .i64 (f t1 x))) := Upd.setCell (.inr rfl) _
        have hz := hy.call (f t1 x) rfl _ hu1
        have cy2 := q1.cell0
        have hkk := hk.out t1 x W1
        clear hk c1 l1 c2 l2 hx hseq h4 hbs hbk hbf hD' hbs1 b1 b2 hb1 hb2 hr hu hS c3 hu0 hy p1 p2 hL hSW hEW hAK
        replace hz := Lib.hid hz
        replace hkk := Lib.hid hkk
        gi_wp2_with (first | ((with_reducible refine listV2 hkk.out ?_ ?_ ?_ ?_); rfl; rfl; rfl; rintro v w' ⟨rfl, rfl⟩) | ((with_reducible refine listV1 hz.out ?_ ?_ ?_); rfl; rfl; rintro v W3 ⟨rfl, hr, hu⟩))
        · exact tBody_ret (t' := f t1 x) (z := f t1 x) (c := true) rfl (nb1 (by assumption)) hr (Upd.refl _ _)
        · exact tBody_next (t' := f t1 x) (z := f t1 x) rfl (nb0 (by assumption)) ⟨q1.upd hu (by simp), q2.upd hu (by simp)⟩ hr (Upd.refl _ _)
end Go.Proofs.Ytkjkpmeommfdgaa

/- Map over ints. -/
import Derived.Test.YtkjkpmeommfdgaaProg
import Derived.Test.YtkjkpmeommfdgaaBase
import Derived.Test.YtkjkpmeommfdgaaWvI
namespace Go.Proofs.Ytkjkpmeommfdgaa
open Go.RowKit Go.Shelf
attribute [local go_sem] Oper.semAt_some

abbrev trMap (f : Int → Int) : Unit → Int → Unit × Option Int × Bool := fun _ x => ((), some (f x), true)
theorem outs_map (f : Int → Int) : ∀ (l : List Int), outs (trMap f) () l = l.map f
  | [] => rfl
  | x :: l => by simp [outs, outs_map f l]

set_option maxRecDepth 100000 in
set_option maxHeartbeats 1000000 in
theorem map_seq {ω : Type} {fv : Value} {fk : Fn} {ak ck : Array Value} {evs : List (ω × Int)} {init fin : ω} {Own : ω → World → Prop} {E D : Nat → Prop} {w : World} {f : Int → Int} {bs bk : Nat}
    (hseq : SeqO Try.prog fv encI evs init fin Own E D w) (hbs : Blk w bs #[fv] 32) (hbk : Blk w bk #[.func fk ak ck] 60)
    (hk : ∀ x W, CallV Try.prog (.func fk ak ck) #[.int .i64 x] W fun v W' => v = .int .i64 (f x) ∧ W' = W)
    (hsE : ¬ E bs) (hkE : ¬ E bk) :
    SeqO Try.prog (.func (.func 82) #[] #[.pointer (some ⟨bs, 0, none⟩), .pointer (some ⟨bk, 0, none⟩)]) encI
      (evsT (trMap f) () evs) init (finT (trMap f) fin () evs) Own E (fun k => D k ∨ k = bs ∨ k = bk) w where
  fn := ⟨_, _, rfl⟩
  dlt := by rintro k (h | rfl | rfl); exact hseq.dlt k h; exact ⟨hbs.lt, hsE⟩; exact ⟨hbk.lt, hkE⟩
  elt := hseq.elt
  stable := hseq.stable
  run := by
    intro σ step Rep y s S W hx h4
    refine CallV.of_calls (n := 0) (enters_of Try.func82 (by kernel_rfl) rfl) ?_
    obtain ⟨yf, ya, yc, rfl⟩ := hx.shape
    obtain ⟨fk', fc', rfl⟩ := hseq.fn
    replace hk := Lib.hid hk
    have c1 := (hbs.agree hx.agree (.inr (.inl rfl))).cell0
    have l1 := (hbs.agree hx.agree (.inr (.inl rfl))).lt
    refine callsIn_of_wp_marks Try.func82 rfl trivial ?_
    simp only [Try.ntmps82, List.size_toArray, List.length_cons, List.length_nil, Nat.reduceAdd, Nat.reduceSub, Array.replicate_succ, Array.replicate_zero, List.push_toArray, List.append_toArray, List.nil_append, List.cons_append]
    gi_wp2
    refine trans_fn hseq hx h4 (D' := fun k => D k ∨ k = bs ∨ k = bk) (fun _ h => .inl h) (by rintro k (h | rfl | rfl); exact hseq.dlt k h; exact ⟨hbs.lt, hsE⟩; exact ⟨hbk.lt, hkE⟩)
      (Upd.alloc _ _ _) rfl (fun _ => rfl) rfl rfl (fun _ _ h => ⟨h, h⟩) (trMap f) (fun _ W' => Blk W' W.heap.size #[.func yf ya yc] 26) (fun k => k = W.heap.size) () (Blk.new _ _ _) (by rintro k rfl; simp)
      (fun t W1 W2 h hA => h.agree hA rfl) (evsT_snd _ _ _) rfl rfl ?a1 ?assign ?body
    case a1 => exact fun x => { tmps := #[.func yf ya yc, .pointer (some ⟨bs, 0, none⟩), .pointer (some ⟨bk, 0, none⟩), .pointer (some ⟨W.heap.size, 0, none⟩), .int .i64 x, .func (.func fk') #[] fc', .int .i64 x, undef, undef, undef, undef, undef, undef], defers := [] }
    case assign =>
      clear hk c1 l1 hx hseq h4 hbs hbk
      intro l x W K hK
      gi_wp2
      exact hK
    case body =>
      intro l pre x suf s1 t1 W1 Rdy _ _ _ _ _ hpv _ hAK hy
      have hbk1 := hbk.agree hAK (.inr (.inr rfl))
      have hud := Upd.drew (fun k => k = W.heap.size) W1
      have hz := hy.call (f x) rfl W1.drew hud
      replace hpv := hpv.upd (Upd.drew (fun _ => False) W1) id
      replace hbk1 := hbk1.upd (Upd.drew (fun _ => False) W1) id
      have hne : ∀ k, (k = bk) → k ≠ W.heap.size := by rintro k rfl e; have := hbk.lt; have := hx.size; omega
      have hkk := hk.out x W1.drew
      have cy := hpv.cell0
      have ck1 := hbk1.cell0
      clear c1 l1 hx hseq h4 hbs hy hk hAK
      replace hz := Lib.hid hz
      replace hkk := Lib.hid hkk
      gi_wp2
      refine wpIn_eager [(0, true), (1, true), (2, true), (3, false), (4, false), (5, true)] (fun V => V.cell? ⟨W.heap.size, 0, none⟩ = some (.func yf ya yc) ∧ V.cell? ⟨bk, 0, none⟩ = some (.func fk ak ck)) (by kernel_rfl) (by kernel_rfl) ⟨cy, ck1⟩ ?_
      refine wpE_fl (v := .func yf ya yc) rfl rfl (fun W' h' => ?_) ?_
      · obtain ⟨h1, h2⟩ := h'; go_simp
      go_simp
      refine wpE_fl (v := .func fk ak ck) rfl rfl (fun W' h' => ?_) ?_
      · obtain ⟨h1, h2⟩ := h'; go_simp
      go_simp
      refine wpE_fl rfl rfl (fun _ _ => rfl) ?_
      go_simp
      refine wpE_ef rfl ?_
      go_simp
      gi_wp2_with ((with_reducible refine listV1 hkk.out ?_ ?_ ?_); rfl; rfl; rintro v w' ⟨rfl, rfl⟩)
      refine ⟨⟨cy, ck1⟩, ?_⟩
      refine wpE_ef rfl ?_
      go_simp
      gi_wp2_with ((with_reducible refine listV1 hz.out ?_ ?_ ?_); rfl; rfl; rintro v W3 ⟨rfl, hr, hu⟩)
      refine ⟨⟨(hpv.upd hu (by simp)).cell0, (hbk1.upd hu (by simp)).cell0⟩, ?_⟩
      refine wpE_fl rfl rfl (fun _ _ => rfl) ?_
      go_simp
      refine wpE_nil ?_
      gi_wp2
      · exact tBody_ret (t' := ()) (z := f x) (c := true) rfl (nb1 (by assumption)) hr (Upd.refl _ _)
      · exact tBody_next (t' := ()) (z := f x) rfl (nb0 (by assumption)) (hpv.upd hu (by simp)) hr (Upd.refl _ _)
end Go.Proofs.Ytkjkpmeommfdgaa

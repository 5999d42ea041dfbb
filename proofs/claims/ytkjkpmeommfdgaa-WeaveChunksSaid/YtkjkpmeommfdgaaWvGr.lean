/- weave.Groups over ints: neighbours that are the same, each list in memory of its own. -/
import Derived.Test.YtkjkpmeommfdgaaProg
import Derived.Test.YtkjkpmeommfdgaaBase
import Derived.Test.YtkjkpmeommfdgaaApp
import Derived.Test.YtkjkpmeommfdgaaWvI
import Derived.Test.YtkjkpmeommfdgaaWvL
import Derived.Test.YtkjkpmeommfdgaaWvC
namespace Go.Proofs.Ytkjkpmeommfdgaa
open Go.RowKit Go.Shelf
attribute [local go_sem] Oper.semAt_some

abbrev trGroup (same : Int → Int → Bool) : List Int → Int → List Int × Option (List Int) × Bool := fun l x => match l.getLast? with
  | none => ([x], none, true)
  | some z => if same z x then (l ++ [x], none, true) else ([x], some l, true)
def groupsOf (same : Int → Int → Bool) (xs : List Int) : List (List Int) := outs (trGroup same) [] xs ++ restOf (trSt (trGroup same) [] xs).1
def groupEvs {ω : Type} (same : Int → Int → Bool) (fin : ω) (evs : List (ω × Int)) : List (ω × List Int) := evsT (trGroup same) [] evs ++ (restOf (trSt (trGroup same) [] (evs.map (·.2))).1).map fun l => (fin, l)
theorem trGroup_keep (same : Int → Int → Bool) (l : List Int) (x : Int) : (trGroup same l x).2.2 = true ∧ (trGroup same l x).1.length ≤ l.length + 1 := by
  simp only [trGroup]
  split
  · simp
  · split <;> simp
theorem trGroup_len (same : Int → Int → Bool) : ∀ (xs : List Int) (l : List Int), (trSt (trGroup same) l xs).2 = true ∧ (trSt (trGroup same) l xs).1.length ≤ l.length + xs.length
  | [], l => by simp [trSt]
  | x :: xs, l => by
    have h := trGroup_keep same l x
    have ih := trGroup_len same xs (trGroup same l x).1
    simp only [trSt, h.1, if_true, List.length_cons]
    exact ⟨ih.1, by omega⟩
theorem finT_group {ω : Type} (same : Int → Int → Bool) (fin : ω) : ∀ (evs : List (ω × Int)) (l : List Int), finT (trGroup same) fin l evs = fin
  | [], l => rfl
  | e :: evs, l => by
    simp only [finT, (trGroup_keep same l e.2).1, if_true]
    exact finT_group same fin evs _
theorem groupEvs_snd {ω : Type} (same : Int → Int → Bool) (fin : ω) (evs : List (ω × Int)) : (groupEvs same fin evs).map (·.2) = groupsOf same (evs.map (·.2)) := by
  unfold groupEvs groupsOf
  rw [List.map_append, evsT_snd, List.map_map]; congr 1; simp [Function.comp_def]

set_option maxRecDepth 100000 in
set_option maxHeartbeats 4000000 in
theorem groups_seq {ω : Type} {fv : Value} {fk : Fn} {ak ck : Array Value} {evs : List (ω × Int)} {init fin : ω} {Own : ω → World → Prop} {E D Dk : Nat → Prop} {w : World} {same : Int → Int → Bool} {bs bk : Nat}
    (hseq : SeqO Try.prog fv encI evs init fin Own E D w) (hbs : Blk w bs #[fv] 32) (hbk : Blk w bk #[.func fk ak ck] 50) (hsE : ¬ E bs) (hkE : ¬ E bk)
    (hk : ∀ x y W, Agree Dk w W → CallV Try.prog (.func fk ak ck) #[.int .i64 x, .int .i64 y] W fun v W' => v = .bool (same x y) ∧ Upd (fun _ => False) W W') (hkD : ∀ k, Dk k → k < w.heap.size ∧ ¬ E k) (hlen : evs.length ≤ 1000) :
    SeqG Try.prog (.func (.func 81) #[] #[.pointer (some ⟨bs, 0, none⟩), .pointer (some ⟨bk, 0, none⟩)]) givI
      (groupEvs same fin evs) init fin Own E (fun k => D k ∨ k = bs ∨ k = bk ∨ Dk k) w where
  fn := ⟨_, _, rfl⟩
  dlt := by rintro k (h | rfl | rfl | h); exact hseq.dlt k h; exact ⟨hbs.lt, hsE⟩; exact ⟨hbk.lt, hkE⟩; exact hkD k h
  elt := hseq.elt
  stable := hseq.stable
  run := by
    intro σ step Rep y s S W hx h4
    refine CallV.of_calls (n := 0) (enters_of Try.func81 (by kernel_rfl) rfl) ?_
    obtain ⟨yf, ya, yc, rfl⟩ := hx.shape
    obtain ⟨fk', fc', rfl⟩ := hseq.fn
    have hD' : ∀ k, (D k ∨ k = bs ∨ k = bk ∨ Dk k) → k < w.heap.size ∧ ¬ E k := by rintro k (h | rfl | rfl | h); exact hseq.dlt k h; exact ⟨hbs.lt, hsE⟩; exact ⟨hbk.lt, hkE⟩; exact hkD k h
    have c1 := (hbs.agree hx.agree (.inr (.inl rfl))).cell0
    have l1 := (hbs.agree hx.agree (.inr (.inl rfl))).lt
    have c2 := (hbk.agree hx.agree (.inr (.inr (.inl rfl)))).cell0
    have l2 := (hbk.agree hx.agree (.inr (.inr (.inl rfl)))).lt
    replace hk := Lib.hid hk
    generalize hsF : (goF step s ((groupEvs same fin evs).map (·.2))).1 = sF
    generalize hOF : Own (goOwn step fin s (groupEvs same fin evs)) = OwnF
    refine callsIn_of_wp_marks Try.func81 rfl trivial ?_
    simp only [Try.ntmps81, List.size_toArray, List.length_cons, List.length_nil, Nat.reduceAdd, Nat.reduceSub, Array.replicate_succ, Array.replicate_zero, List.push_toArray, List.append_toArray, List.nil_append, List.cons_append]
    gi_wp2
    have hpv0 : ChunkPv W.heap.size (.func yf ya yc) [] (fun k => k = W.heap.size ∨ k = W.heap.size + 1) ((W.alloc (.cells #[.func yf ya yc] 24)).alloc (.cells #[.slice none 0 0] 22)) :=
      ⟨(Blk.new W _ _).alloc _, _, by simpa using Blk.new (W.alloc (.cells #[.func yf ya yc] 24)) #[.slice none 0 0] 22, World.ownsRow_nil _ _ _ _, by simp [Value.ownBlock]⟩
    refine wpIn_transG hseq hx h4 (D' := fun k => D k ∨ k = bs ∨ k = bk ∨ Dk k) (fun _ h => .inl h) hD' ((Upd.alloc _ _ _).stepAlloc _) rfl (fun _ => rfl) (trGroup same) (ChunkPv W.heap.size (.func yf ya yc)) (fun k => k = W.heap.size ∨ k = W.heap.size + 1) []
      hpv0 (by rintro k (rfl | rfl) <;> simp <;> omega) ?stab (restOf (trSt (trGroup same) [] (evs.map (·.2))).1) ?hL ?a1 ?assign ?body ?hend
    case stab =>
      rintro l Pr Wa Wb ⟨q1, v, q2, q3, q4⟩ hA _
      exact ⟨q1.agree hA ((q4 _).2 (.inl rfl)), v, q2.agree hA ((q4 _).2 (.inr (.inl rfl))), own_agree q3 (hA.mono fun k hk => (q4 k).2 (.inr (.inr hk))), q4⟩
    case hL => rw [groupEvs_snd]; rfl
    case a1 => exact fun x => { tmps := List.toArray (.func yf ya yc :: .pointer (some ⟨bs, 0, none⟩) :: .pointer (some ⟨bk, 0, none⟩) :: .pointer (some ⟨W.heap.size, 0, none⟩) :: .pointer (some ⟨W.heap.size + 1, 0, none⟩) :: .int .i64 x :: .func (.func fk') #[] fc' :: .int .i64 x :: undef :: undef :: undef :: undef :: undef :: undef :: undef :: undef :: undef :: undef :: undef :: undef :: undef :: undef :: undef :: undef :: undef :: undef :: undef :: undef :: undef :: undef :: undef :: undef :: undef :: undef :: undef :: undef :: undef :: []), defers := [] }
    case assign =>
      rename_i KK hKK
      clear hKK KK c1 l1 c2 l2 hx hseq h4 hbs hbk hpv0 hD' hk
      intro l x W K hK
      gi_wp2
      exact hK
    case body =>
      rename_i KK hKK
      intro l pre x suf s1 t1 Pr W1 Rdy q1 q2 q3 q4 he htr hpv hpr hsz hAK hy
      obtain ⟨hp1, v, hp2, hp3, hp4⟩ := hpv
      have hl1 : t1.length ≤ 1000 := by
        have h1 := (trGroup_len same pre []).2
        rw [htr] at h1
        have h2 := congrArg List.length he
        simp at h1 h2
        omega
      have hn2 := hbk.agree hAK (.inr (.inr (.inl rfl)))
      have hkk := fun x y W2 (hu : Upd (fun _ => False) W1 W2) => hk.out x y W2 ((hAK.mono fun k hk => .inr (.inr (.inr hk))).trans (hu.agree fun k hk => ⟨by have := hD' k (.inr (.inr (.inr hk))); have := hx.size; simp at hsz; omega, id⟩))
      have nb : v.ownBlock ≠ some bk := fun h => by have := (hpr _ ((hp4 _).2 (.inr (.inr h)))).1; omega
      have n1 := own_ne hp3 hp1 (by decide)
      have n2 := own_ne hp3 hp2 (by decide)
      have nbb : bk ≠ W.heap.size + 1 := by omega
      clear hKK KK c1 l1 c2 l2 hx hseq h4 hbs hbk hpv0 hD' he htr q1 q2 q3 q4 hsz hAK hlen hsE hkE hkD hk hsF hOF
      replace hy := Lib.hid hy
      replace hkk := Lib.hid hkk
      have fin : ∀ (x0 : List Int) (V : World) (u : Value) (Pr2 : Nat → Prop), Blk V W.heap.size #[.func yf ya yc] 24 → Blk V (W.heap.size + 1) #[u] 22 → V.ownsRow W.heap.size 3 1 u x0.length (x0.map (Value.int .i64)) → ∀ (g cap' : Nat) (w' : World), w'.ownsRow W.heap.size 3 1 (.slice (some ⟨g, 0, none⟩) (x0.length + 1) cap') (x0.length + 1) (x0.map (Value.int .i64) ++ [.int .i64 x]) → Upd (fun j => u.ownBlock = some j) V w' → g < w'.heap.size →
          Blk w' (W.heap.size + 1) #[u] 22 ∧ ChunkPv W.heap.size (.func yf ya yc) (x0 ++ [x]) (fun k => k = W.heap.size ∨ k = W.heap.size + 1 ∨ g = k) (w'.setCell ⟨W.heap.size + 1, 0, none⟩ (.slice (some ⟨g, 0, none⟩) (x0.length + 1) cap')) := by
        intro x0 V u Pr2 b1 b2 b3 g cap' w' ho hu hlt
        have hb1 := b1.upd hu (own_ne b3 b1 (by decide))
        have hb2 := b2.upd hu (own_ne b3 b2 (by decide))
        refine ⟨hb2, hb1.other (by simp) _, _, by simpa using hb2.set 0 _, ?_, by simp [Value.ownBlock]⟩
        rw [List.length_append, List.map_append]
        exact own_agree ho ((Upd.setCell (M := fun k => k = W.heap.size + 1) rfl _).agree (fun k hk => by
          obtain rfl : g = k := by simpa [Value.ownBlock] using hk
          exact ⟨hlt, fun e => own_ne ho hb2 (by decide) (by simp [Value.ownBlock, e])⟩))
      replace fin := Lib.hid fin
      have p1 := (hp4 W.heap.size).2 (.inl rfl)
      have p2 := (hp4 (W.heap.size + 1)).2 (.inr (.inl rfl))
      have p3 := fun k (h : v.ownBlock = some k) => (hp4 k).2 (.inr (.inr h))
      have hu := Upd.drew (fun _ => False) W1
      have huV := hu
      replace hy := Lib.hid hy
      replace hp4 := Lib.hid hp4
      replace hpr := Lib.hid hpr
      have hzV : W1.heap.size ≤ W1.drew.heap.size := Nat.le_refl _
      rcases List.eq_nil_or_concat t1 with ht | ⟨t0, z, ht⟩
      · subst ht
        have hT : trGroup same [] x = ([x], none, true) := rfl
        obtain ⟨A, cap, rfl⟩ := own_shape hp3
        rw [List.length_nil] at *
        have c0 := hp2.cell0
        gi_wp2
        refine wpIn_eager [(0, true), (1, true), (2, true), (3, true), (4, true), (5, true), (6, true), (7, true), (8, true), (9, true), (10, true), (11, true), (12, false), (13, true), (14, true)] (fun V => V.cell? ⟨W.heap.size + 1, 0, none⟩ = some (.slice A 0 cap)) (by kernel_rfl) (by kernel_rfl) c0 ?_
        replace hp1 := hp1.upd hu id
        replace hp2 := hp2.upd hu id
        replace hp3 := own_agree hp3 (hu.agree fun k hk => ⟨(hp3.lt k hk).2, id⟩)
        replace hn2 := hn2.upd hu id
        clear hu c0
        generalize W1.drew = V at *
        have l1' := hp2.lt
        refine wpE_fl (v := .slice A 0 cap) rfl rfl (fun W' h' => ?_) ?_
        · go_simp
        go_simp
        refine wpE_fl (v := .int .i64 0) rfl rfl (fun W' h' => ?_) ?_
        · go_simp
        go_simp
        refine wpE_fl (v := .bool false) rfl rfl (fun W' h' => ?_) ?_
        · go_simp
        go_simp
        refine wpE_fl rfl rfl (fun _ _ => rfl) ?_
        go_simp
        iterate 8 (refine wpE_sk rfl rfl ?_; go_simp)
        refine wpE_ef rfl ?_
        go_simp
        gi_wp2_with ((with_reducible refine listSkipV ?_ ?_ ?_); rfl; rfl)
        refine ⟨hp2.cell0, ?_⟩
        refine wpE_sk rfl rfl ?_
        go_simp
        refine wpE_fl (v := .bool false) rfl rfl (fun W' h' => ?_) ?_
        · go_simp
        go_simp
        refine wpE_nil ?_
        have c0 := hp2.cell0
        gi_wp2_with ((with_reducible refine app1 Try.underlying22 infoI zInt le_8 hp3 ?_ ?_ ?_ ?_ ?_ ?_); omega; omega; rfl; rfl; rfl; intro g' cap' w' ho hu hg hlt; obtain ⟨f2, f3⟩ := fin.out [] V _ Pr hp1 hp2 hp3 _ _ _ ho hu hlt; have d1 := f2.cell0; have d2 := f2.lt; have d3 := f2.frozen 0; (replace f3 := Lib.hid f3); clear f2)
        refine ⟨by simp [stepT, hT], ?_⟩
        rw [hT]
        refine ⟨fun k => k = W.heap.size ∨ k = W.heap.size + 1 ∨ g' = k, fun _ => f3.out, ((huV.mono fun _ _ h => h.elim).trans hu (fun k hk => .inl (p3 k hk))).stepSet (.inl p2) _, ?_⟩
        have hz := hu.size
        rintro k (rfl | rfl | rfl)
        · exact ⟨by simp; omega, .inl p1⟩
        · exact ⟨by simp; omega, .inl p2⟩
        · exact ⟨by simpa using hlt, hg.elim (fun h => .inl (p3 _ h)) (fun h => .inr (by omega))⟩
      · have hlast : t1.getLast? = some z := by rw [ht]; simp
        have hne : t1.length = t0.length + 1 := by rw [ht]; simp
        have hp3' := hp3
        rw [hne] at hp3'
        obtain ⟨g, cap, rfl⟩ := ownsRow_succ hp3'
        have cz : W1.drew.cell? ⟨g, t0.length, none⟩ = some (.int .i64 z) := by
          obtain ⟨_, e, h⟩ := (own_reads hp3' (by rw [List.length_map]; exact hne.symm)).1 t0.length (.int .i64 z) (by rw [ht]; simp)
          cases e
          have e1 : (⟨g, 0, none⟩ : Addr).add t0.length = ⟨g, t0.length, none⟩ := by unfold Addr.add; split <;> simp_all
          rw [e1] at h
          exact h
        have c0 := hp2.cell0
        have cn := hn2.cell0
        have hl2 : t0.length ≤ 1000 := by omega
        have hk1 := hkk.out z x W1.drew hu
        replace hk1 := Lib.hid hk1
        clear hp3' ht
        have hneH := Lib.hid hne
        have hwt : IntKind.i64.wrap (t0.length : Int) = (t0.length : Int) := Go.IntWalk.i64_in _ ⟨by omega, by omega⟩
        rw [hne] at hp3
        clear hne
        gi_wp2
        refine wpIn_eager [(0, true), (1, true), (2, true), (3, true), (4, true), (5, true), (6, true), (7, true), (8, true), (9, true), (10, true), (11, true), (12, false), (13, true), (14, true)] (fun V => V.cell? ⟨W.heap.size + 1, 0, none⟩ = some (.slice (some ⟨g, 0, none⟩) (t0.length + 1) cap) ∧ V.cell? ⟨bk, 0, none⟩ = some (.func fk ak ck) ∧ V.cell? ⟨g, t0.length, none⟩ = some (.int .i64 z)) (by kernel_rfl) (by kernel_rfl) ⟨c0, cn, cz⟩ ?_
        replace hp1 := hp1.upd hu id
        replace hp2 := hp2.upd hu id
        replace hp3 := own_agree hp3 (hu.agree fun k hk => ⟨(hp3.lt k hk).2, id⟩)
        replace hn2 := hn2.upd hu id
        clear hu c0 cn
        generalize W1.drew = V at *
        have l1' := hp2.lt
        refine wpE_fl (v := .slice (some ⟨g, 0, none⟩) (t0.length + 1) cap) rfl rfl (fun W' h' => ?_) ?_
        · obtain ⟨h1, h2, h3⟩ := h'; go_simp
        go_simp
        refine wpE_fl (v := .int .i64 ((t0.length : Int) + 1)) rfl rfl (fun W' h' => ?_) ?_
        · go_simp
        go_simp
        refine wpE_fl (v := .bool true) rfl rfl (fun W' h' => ?_) ?_
        · first | (go_simp; omega) | go_simp
        go_simp
        refine wpE_fl rfl rfl (fun _ _ => rfl) ?_
        go_simp
        refine wpE_fl (v := .func fk ak ck) rfl rfl (fun W' h' => ?_) ?_
        · obtain ⟨h1, h2, h3⟩ := h'; go_simp
        go_simp
        refine wpE_fl (v := .slice (some ⟨g, 0, none⟩) (t0.length + 1) cap) rfl rfl (fun W' h' => ?_) ?_
        · obtain ⟨h1, h2, h3⟩ := h'; go_simp
        go_simp
        refine wpE_fl (v := .slice (some ⟨g, 0, none⟩) (t0.length + 1) cap) rfl rfl (fun W' h' => ?_) ?_
        · obtain ⟨h1, h2, h3⟩ := h'; go_simp
        go_simp
        refine wpE_fl (v := .int .i64 ((t0.length : Int) + 1)) rfl rfl (fun W' h' => ?_) ?_
        · go_simp
        go_simp
        refine wpE_fl (v := .int .i64 t0.length) rfl rfl (fun W' h' => ?_) ?_
        · first | (go_simp; omega) | go_simp
        go_simp
        refine wpE_fl (v := .pointer (some ⟨g, t0.length, none⟩)) rfl rfl (fun W' h' => ?_) ?_
        · first | (go_simp; omega) | go_simp
        go_simp
        refine wpE_fl (v := .int .i64 z) rfl rfl (fun W' h' => ?_) ?_
        · obtain ⟨h1, h2, h3⟩ := h'; go_simp
        go_simp
        refine wpE_fl rfl rfl (fun _ _ => rfl) ?_
        go_simp
        refine wpE_ef rfl ?_
        go_simp
        gi_wp2_with ((with_reducible refine listV2g hk1.out ?_ ?_ ?_ ?_ ?_); rfl; rfl; rfl; rfl; rintro vb V2 ⟨rfl, hu⟩)
        replace cz := (hu.agree (D := fun k => k = g) (fun k hk => ⟨by subst hk; exact (hp3.lt _ (by simp [Value.ownBlock])).2, id⟩)).cell (p := ⟨g, t0.length, none⟩) rfl |>.trans cz
        replace hp1 := hp1.upd hu id
        replace hp2 := hp2.upd hu id
        replace hp3 := own_agree hp3 (hu.agree fun k hk => ⟨(hp3.lt k hk).2, id⟩)
        replace hn2 := hn2.upd hu id
        replace huV := huV.trans' hu
        replace hzV : W1.heap.size ≤ V2.heap.size := huV.size
        replace l1' := hp2.lt
        clear hu hk1
        refine ⟨⟨hp2.cell0, hn2.cell0, cz⟩, ?_⟩
        cases hsm : same z x with
        | true =>
          have hT : trGroup same t1 x = (t1 ++ [x], none, true) := by simp [trGroup, hlast, hsm]
          refine wpE_fl (v := .bool false) rfl rfl (fun W' h' => ?_) ?_
          · go_simp
          go_simp
          refine wpE_fl (v := .bool false) rfl rfl (fun W' h' => ?_) ?_
          · go_simp
          go_simp
          refine wpE_nil ?_
          have fin2 := fin.out t1 V2 _ Pr hp1 hp2 (by rw [hneH.out]; exact hp3)
          rw [hneH.out] at fin2
          replace fin2 := Lib.hid fin2
          have c0 := hp2.cell0
          gi_wp2_with ((with_reducible refine app1 Try.underlying22 infoI zInt le_8 hp3 ?_ ?_ ?_ ?_ ?_ ?_); omega; omega; rfl; rfl; rfl; intro g' cap' w' ho hu hg hlt; obtain ⟨f2, f3⟩ := fin2.out _ _ _ ho hu hlt; have d1 := f2.cell0; have d2 := f2.lt; have d3 := f2.frozen 0; (replace f3 := Lib.hid f3); clear f2)
          refine ⟨by simp [stepT, hT], ?_⟩
          rw [hT]
          refine ⟨fun k => k = W.heap.size ∨ k = W.heap.size + 1 ∨ g' = k, fun _ => f3.out, ((huV.mono fun _ _ h => h.elim).trans hu (fun k hk => .inl (p3 k hk))).stepSet (.inl p2) _, ?_⟩
          have hz := hu.size
          rintro k (rfl | rfl | rfl)
          · exact ⟨by simp; omega, .inl p1⟩
          · exact ⟨by simp; omega, .inl p2⟩
          · exact ⟨by simpa using hlt, hg.elim (fun h => .inl (p3 _ h)) (fun h => .inr (by omega))⟩
        | false =>
          have hT : trGroup same t1 x = ([x], some t1, true) := by simp [trGroup, hlast, hsm]
          refine wpE_fl (v := .bool true) rfl rfl (fun W' h' => ?_) ?_
          · go_simp
          go_simp
          refine wpE_fl (v := .bool true) rfl rfl (fun W' h' => ?_) ?_
          · go_simp
          go_simp
          refine wpE_nil ?_
          have m1 : g ≠ W.heap.size := fun e => own_ne hp3 hp1 (by decide) (by simp [Value.ownBlock, e])
          have m2 : g ≠ W.heap.size + 1 := fun e => own_ne hp3 hp2 (by decide) (by simp [Value.ownBlock, e])
          have hcall : CallV Try.prog (.func yf ya yc) #[.slice (some ⟨g, 0, none⟩) (t0.length + 1) cap] V2 fun vb W3 => vb = .bool (step s1 t1).2 ∧ W3.cell? ⟨W.heap.size + 1, 0, none⟩ = some (.slice (some ⟨g, 0, none⟩) (t0.length + 1) cap) ∧ W3.frozen? ⟨W.heap.size + 1, 0, none⟩ = false ∧ W.heap.size + 1 < W3.heap.size ∧
              Hid (Rdy V2 (fun k => g = k) W3 ∧ Blk W3 W.heap.size #[.func yf ya yc] 24 ∧ Blk W3 (W.heap.size + 1) #[.slice (some ⟨g, 0, none⟩) (t0.length + 1) cap] 22 ∧ V2.heap.size ≤ W3.heap.size) := by
            refine (hy.out.call t1 (by rw [hT]) _ _ (fun k => g = k) (huV.mono fun _ _ h => h.elim) ⟨_, rfl, own_rebase (by rw [hneH.out]; exact hp3) (fun _ _ => Nat.zero_le _), by simp [Value.ownBlock]⟩ ?_).mono ?_
            · rintro k rfl
              exact ⟨(hp3.lt _ (by simp [Value.ownBlock])).2, .inl (p3 _ (by simp [Value.ownBlock]))⟩
            · rintro vb W3 ⟨r1, r2, r3⟩
              have b1 := hp1.upd r3 (by rintro (h | h); exact m1 h; exact h.1 p1)
              have b2 := hp2.upd r3 (by rintro (h | h); exact m2 h; exact h.1 p2)
              exact ⟨r1, b2.cell0, b2.frozen 0, b2.lt, Lib.hid ⟨r2, b1, b2, r3.size⟩⟩
          replace hcall := Lib.hid hcall
          have c0 := hp2.cell0
          have c1 := hp1.cell0
          gi_wp2_with (first | ((with_reducible refine listV1 hcall.out ?_ ?_ ?_); rfl; rfl; rintro vb W3 ⟨rfl, z1, z2, z3, hr⟩) | ((with_reducible refine app1 Try.underlying22 infoI zInt le_8 (World.ownsRow_nil (W3.setCell ⟨W.heap.size + 1, 0, none⟩ (.slice none 0 0)) W.heap.size 3 1) ?_ ?_ ?_ ?_ ?_ ?_); (rw [World.size_setCell]; omega); omega; rfl; rfl; (rw [World.size_setCell]; rfl); intro g' cap' w' ho hu hg hlt; obtain ⟨r1, r2, r3, r4⟩ := hr.out; obtain ⟨f2, f3⟩ := fin.out [] (W3.setCell ⟨W.heap.size + 1, 0, none⟩ (.slice none 0 0)) (.slice none 0 0) Pr (r2.other (by simp) _) (by simpa using r3.set 0 (.slice none 0 0)) (World.ownsRow_nil _ _ _ _) _ _ _ ho hu hlt; have d1 := f2.cell0; have d2 := f2.lt; have d3 := f2.frozen 0; (replace f3 := Lib.hid f3); clear f2 r1 r2 r3 r4))
          · have hb : (step s1 t1).2 = false := nb1 (by assumption)
            refine ⟨by simp [stepT, hT, hb], ?_⟩
            obtain ⟨r1, r2, r3, r4⟩ := hr.out
            rw [hT]
            exact ⟨fun _ => False, (fun h => by cases h), _, _, _, r1, Upd.refl _ _, r4, fun k h => h.elim⟩
          · have hb : (step s1 t1).2 = true := nb0 (by assumption)
            refine ⟨by simp [stepT, hT, hb], ?_⟩
            obtain ⟨r1, r2, r3, r4⟩ := hr.out
            rw [World.size_setCell] at hg
            have hg2 : W3.heap.size ≤ g' := hg.elim (fun h => by simp [Value.ownBlock] at h) id
            have hz := hu.size
            rw [World.size_setCell] at hz
            rw [hT]
            refine ⟨fun k => k = W.heap.size ∨ k = W.heap.size + 1 ∨ g' = k, fun _ => f3.out, _, _, _, r1, ?_, r4, ?_⟩
            · refine ((Upd.setCell (M := fun k => (Pr k ∨ W1.heap.size ≤ k) ∧ k < V2.heap.size ∧ ¬ g = k) ⟨.inl p2, l1', m2⟩ _).trans hu (fun k hk => by simp [Value.ownBlock] at hk)).stepSet (.inl ⟨.inl p2, l1', m2⟩) _
            · rintro k (rfl | rfl | rfl)
              · exact ⟨by simp; omega, .inl ⟨p1, m1⟩⟩
              · exact ⟨by simp; omega, .inl ⟨p2, m2⟩⟩
              · exact ⟨by simpa using hlt, .inr (.inr hg2)⟩
    case hend =>
      rename_i KK hKK
      intro S' Pr' W' hR hOw hu hsz hAK hS' hPr' hdef
      have hsz' : W.heap.size + 4 ≤ W'.heap.size := by simpa using hsz
      have eW : ((W.alloc (.cells #[.func yf ya yc] 24)).alloc (.cells #[.slice none 0 0] 22)).heap.size = W.heap.size + 2 := by simp
      rw [eW] at hdef hS' hPr' ⊢
      have hd : W.heap.size ≤ W.heap.size + 2 := by omega
      have hES : ∀ k, E k → ¬ S k := fun k hk h => (hx.own k h).2.2 hk
      have eL : (groupEvs same fin evs).map (·.2) = outs (trGroup same) [] (evs.map (·.2)) ++ restOf (trSt (trGroup same) [] (evs.map (·.2))).1 := groupEvs_snd _ _ _
      have eE : groupEvs same fin evs = evsT (trGroup same) [] evs ++ (restOf (trSt (trGroup same) [] (evs.map (·.2))).1).map fun l => (fin, l) := rfl
      have ht := trGroup_len same (evs.map (·.2)) []
      rw [finT_group] at hOw
      rw [eL, goF_append] at hsF
      rw [eE, goOwn_append, evsT_snd] at hOF
      have hstable : ∀ W1 W2, OwnF W1 → Agree E W1 W2 → OwnF W2 := by subst hOF; exact hseq.stable _
      generalize hlast : (trSt (trGroup same) [] (evs.map (·.2))).1 = l at *
      have hlen1 : l.length ≤ 1000 := by have := ht.2; simp at this; omega
      cases g1 : (goF step s (outs (trGroup same) [] (evs.map (·.2)))).2 with
      | true =>
        rw [if_pos g1] at hsF hOF
        refine ⟨fun _ _ hpv => ?_, fun h => ?_⟩
        · obtain ⟨p1, v, p2, p3, p4⟩ := hpv
          refine hKK _ _ ?_
          have cy := p1.cell0
          have cl := p2.cell0
          obtain ⟨A, cap, rfl⟩ := own_shape p3
          cases l with
          | nil =>
            have hOw2 : OwnF W' := by
              subst hOF
              rw [restOf, if_pos rfl, List.map_nil]
              rw [goOwn_done _ _ _ _ (by rw [evsT_snd]; exact g1)] at hOw
              exact hOw
            have hfin := fun tmps => give_stop (fn := Try.f81) (tmps := tmps) (s2 := sF) hx hstable hseq.elt (by subst hsF; exact hR) hOw2 hu hS' hd hdef rfl
            replace hfin := Lib.hid hfin
            replace p3 := Lib.hid p3
            clear hKK KK c1 l1 c2 l2 hk hx hseq h4 hbs hbk hpv0 hD' hOw hR hu hS' hPr' hdef hES hstable hOF hsF eE eL ht hlast hAK
            gi_wp2
            exact hfin.out _
          | cons z l =>
            have hOw2 : OwnF W' := by
              subst hOF
              rw [restOf, if_neg (by simp)]
              rw [goOwn_done _ _ _ _ (by rw [evsT_snd]; exact g1)] at hOw
              simp only [List.map_cons, List.map_nil, goOwn]
              split <;> exact hOw
            have q3 : sF = (step (goF step s (outs (trGroup same) [] (evs.map (·.2)))).1 (z :: l)).1 := by
              rw [← hsF, restOf, if_neg (by simp)]
              simp only [goF]
              split <;> rfl
            have hz := give_last (fn := Try.f81) hx hstable hseq.elt hR hOw2 hu hS' hd hdef rfl hES (by rw [eL, restOf, if_neg (by simp)]) (Prod.ext rfl g1) (G := fun k => (Value.slice A (z :: l).length cap).ownBlock = some k)
              ⟨_, rfl, own_rebase p3 (fun _ _ => Nat.zero_le _), fun _ => Iff.rfl⟩ (fun k hk => by
                obtain ⟨r1, r2, r3, r4⟩ := hPr' k ((p4 k).2 (.inr (.inr hk)))
                exact ⟨r1, r2, r4, r3⟩)
            rw [← q3] at hz
            replace hz := Lib.hid hz
            replace p3 := Lib.hid p3
            clear hKK KK c1 l1 c2 l2 hk hx hseq h4 hbs hbk hpv0 hD' hOw hR hu hS' hPr' hdef hES hstable hOF hsF eE eL ht hlast hAK hOw2 q3
            have hll : (0 : Int) < ((z :: l).length : Nat) := by simp
            gi_wp2_with ((with_reducible refine listV1 hz.out ?_ ?_ ?_); rfl; rfl; intro v W3 hfin; (replace hfin := Lib.hid hfin))
            exact hfin.out _
        · rw [ht.1] at h; rcases h with h | h <;> simp at h
      | false =>
        rw [if_neg (by rw [g1]; simp)] at hsF hOF
        refine ⟨fun h => by simp at h, fun _ => ?_⟩
        have hOw2 : OwnF W' := by subst hOF; exact hOw
        exact give_stop hx hstable hseq.elt (by subst hsF; exact hR) hOw2 hu hS' hd hdef rfl
end Go.Proofs.Ytkjkpmeommfdgaa

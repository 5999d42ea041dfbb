/- mark: reach, Tick. -/
import Derived.Test.YtpljdckppmobeaaProg
import Derived.Test.YtpljdckppmobeaaBase
import Derived.Test.YtpljdckppmobeaaMkB
namespace Go.Proofs.Ytpljdckppmobeaa
open Go.RowKit Go.Shelf
attribute [local go_sem] Oper.semAt_some

theorem goR_all {σ α : Type} (f : σ → α → σ) : ∀ (l : List α) (s : σ), goR (fun s x => (f s x, none)) s l = (l.foldl f s, none)
  | [], s => rfl
  | x :: l, s => by simp only [goR, List.foldl_cons]; exact goR_all f l _
/-- The least time so far; has there been one? -/
def lstep (s : Int × Bool) (x : KSM × Int) : Int × Bool := if s.2 = false ∨ x.2 < s.1 then (x.2, true) else s
def leastL (l : List (KSM × Int)) : Int × Bool := l.foldl lstep (0, false)
theorem lstep_some : ∀ (l : List (KSM × Int)) (s : Int × Bool), s.2 = true → (l.foldl lstep s).2 = true
  | [], _, h => h
  | x :: l, s, h => by
    rw [List.foldl_cons]
    refine lstep_some l _ ?_
    unfold lstep
    split
    · rfl
    · exact h
theorem leastL_some (l : List (KSM × Int)) : (leastL l).2 = decide (l ≠ []) := by
  cases l with
  | nil => rfl
  | cons x l =>
    simp only [leastL, List.foldl_cons]
    rw [lstep_some l _ (by simp [lstep])]
    simp
def mostL (ls : List (KSM × VSM)) : Int := ls.foldl (fun m x => max m x.2.1) 0
theorem most_fold : ∀ (ls : List (KSM × VSM)) (m : Int), 0 ≤ m ∧ m ≤ mxT → (∀ x ∈ ls, 0 ≤ x.2.1 ∧ x.2.1 ≤ mxT) → 0 ≤ ls.foldl (fun m x => max m x.2.1) m ∧ ls.foldl (fun m x => max m x.2.1) m ≤ mxT
  | [], _, h, _ => h
  | x :: l, m, h, ht => by
    rw [List.foldl_cons]
    have := ht x (by simp)
    exact most_fold l _ (by omega) fun y hy => ht y (by simp [hy])
/-- How far the watermark may be. -/
def reachM (drain now idle : Int) (ls : List (KSM × VSM)) : Int := if awL now idle ls = [] ∧ ls ≠ [] then mostL ls + drain else (leastL (awL now idle ls)).1
section
variable {mb : Nat} {idle drain now low : Int} {ls : List (KSM × VSM)} {F : Nat → Prop} {W W2 : World}
set_option maxRecDepth 100000 in
set_option maxHeartbeats 4000000 in
theorem markReach_c {n : Nat} (h : MkI mb idle drain now low ls F W) (ho : MkOk idle drain now low ls) : CallsIn Fence.wide n Try.prog 30 #[.pointer (some ⟨mb, 0, none⟩)] W fun e W2 => e = .returned (.int .i64 (reachM drain now idle ls)) ∧ Upd (fun _ => False) W W2 := by
  have hFl := h.lt
  have hmF : mb < W.heap.size := by obtain ⟨rb, t, h1, _⟩ := h; exact h1.lt
  refine callsIn_any (n := 0) (callsIn_of_wp_marks Try.func30 rfl trivial ?_)
  simp only [Try.ntmps30, List.size_toArray, List.length_cons, List.length_nil, Nat.reduceAdd, Nat.reduceSub, Array.replicate_succ, Array.replicate_zero, List.push_toArray, List.append_toArray, List.nil_append, List.cons_append]
  gi_wp2_with (first | refine (⟨trivial, rfl, ?_⟩ : Fence.wide.fn _ ∧ Fence.wide.depth = none ∧ _) | (gi_at_call 14; (with_reducible refine markAwake_c.mono ?_); rintro e W2 ⟨bv, rfl, g1, g2, g3⟩; (skip)) | refine (⟨trivial, ?_⟩ : Fence.wide.fn _ ∧ _))
  rename_i KK hKK
  simp only [World.size_alloc] at g2
  have u0 := ((Upd.refl (fun _ => False) W).stepAlloc (.cells #[.int .i64 0] 3)).stepAlloc (.cells #[.bool false] 4)
  have hW2 : Upd (fun _ => False) W W2 := u0.trans' g3
  have h2 := h.upd hW2 fun _ _ => id
  have hseq := awakeSeq h2 ho g1
  have b3 := ((Blk.new W #[.int .i64 0] 3).alloc (.cells #[.bool false] 4)).upd g3 id
  have b4 := (Blk.new (W.alloc (.cells #[.int .i64 0] 3)) #[.bool false] 4).upd g3 id
  simp only [World.size_alloc] at b4
  have z2 := hW2.size
  have l4 := b4.lt
  have hbvlt := g1.lt
  have eel : ((awL now idle ls).map fun x => ((), x)).map (·.2) = awL now idle ls := by simp [Function.comp_def]
  refine wpIn_range_at hseq rfl (Nat.le_refl _) (Agree.refl _ _) trivial (fun _ => rfl) (fun s x => (lstep s x, none)) (fun s S1 W1 => S1 W.heap.size ∧ S1 (W.heap.size + 1) ∧ Blk W1 W.heap.size #[.int .i64 s.1] 3 ∧ Blk W1 (W.heap.size + 1) #[.bool s.2] 4) (0, false) (fun k => k = W.heap.size ∨ k = W.heap.size + 1) ?hS ?hstab ?hI ?hround ?hend
  case hS =>
    rintro k (rfl | rfl)
    · exact ⟨by omega, fun h => h.elim (fun h => by omega) fun h => by have := hFl _ h; omega, id⟩
    · exact ⟨by omega, fun h => h.elim (fun h => by omega) fun h => by have := hFl _ h; omega, id⟩
  case hstab =>
    rintro s S1 Wa Wb ⟨q1, q2, q3, q4⟩ hA _
    exact ⟨q1, q2, q3.agree hA q1, q4.agree hA q2⟩
  case hI => exact ⟨.inl rfl, .inr rfl, b3, b4⟩
  case hround =>
    rintro lb pre e suf s1 S1 W1 hlb he hgo ⟨q1, q2, q3, q4⟩ hsz hu1 hS1
    subst hlb
    obtain ⟨l0, s0⟩ := s1
    obtain ⟨nm, tm⟩ := e
    simp only at q3 q4
    have hS0 := (hS1 _ q1).1
    have hS0' := (hS1 _ q2).1
    clear hgo he eel hseq hKK KK h2 g1 g3 hW2 u0 b3 b4 h ho hFl hu1
    gi_wp2
    refine ⟨Upd.refl _ _, ?_⟩
    intro Wb hub hbs hrec
    replace hbs := Lib.hid hbs
    clear hrec
    have j3 := q3.upd hub (by omega)
    have j4 := q4.upd hub (by omega)
    have c3 := j3.cell0
    have c4 := j4.cell0
    have f3 := j3.frozen 0
    have f4 := j4.frozen 0
    have e3 := j3.lt
    have e4 := j4.lt
    have zb := hub.size
    have hdone : ∀ (l1 : Int), Held (fun (s : Int × Bool) (S1 : Nat → Prop) (W1 : World) => S1 W.heap.size ∧ S1 (W.heap.size + 1) ∧ Blk W1 W.heap.size #[.int .i64 s.1] 3 ∧ Blk W1 (W.heap.size + 1) #[.bool s.2] 4) (l1, true) (fun k => S1 k ∨ W1.heap.size ≤ k) Wb ((Wb.setCell ⟨W.heap.size, 0, none⟩ (.int .i64 l1)).setCell ⟨W.heap.size + 1, 0, none⟩ (.bool true)) := fun l1 =>
      ⟨S1, ⟨q1, q2, (j3.set 0 _).other (by dsimp only; omega) _, (j4.other (by dsimp only; omega) _).set 0 _⟩, ((Upd.refl _ Wb).stepSet (.inl (.inl q1)) _).stepSet (.inl (.inl q2)) _, fun k hk => ⟨by have := (hS1 k hk).1; simp; omega, .inl (.inl hk)⟩⟩
    have hstay : Held (fun (s : Int × Bool) (S1 : Nat → Prop) (W1 : World) => S1 W.heap.size ∧ S1 (W.heap.size + 1) ∧ Blk W1 W.heap.size #[.int .i64 s.1] 3 ∧ Blk W1 (W.heap.size + 1) #[.bool s.2] 4) (l0, s0) (fun k => S1 k ∨ W1.heap.size ≤ k) Wb Wb :=
      ⟨S1, ⟨q1, q2, j3, j4⟩, Upd.refl _ Wb, fun k hk => ⟨by have := (hS1 k hk).1; omega, .inl (.inl hk)⟩⟩
    replace hdone := Lib.hid hdone
    replace hstay := Lib.hid hstay
    clear j3 j4 q3 q4 hub
    cases s0 with
    | false =>
      gi_wp2
      unfold bodyP
      simp only [lstep, true_or, if_true]
      exact ⟨trivial, hdone.out tm⟩
    | true =>
      by_cases hlt : tm < l0
      · gi_wp2
        unfold bodyP
        simp only [lstep, hlt, or_true, if_true]
        exact ⟨trivial, hdone.out tm⟩
      · gi_wp2
        unfold bodyP
        have hlt2 : ¬ tm < l0 := by omega
        simp only [lstep, hlt2, Bool.true_eq_false, or_false, if_false]
        exact ⟨trivial, hstay.out⟩
  case hend =>
    rintro S1 W' ⟨q1, q2, q3, q4⟩ hOw hu1 hsz hS1 hdef
    rw [eel, goR_all] at q3 q4
    rw [eel, goR_all]
    have hsm := leastL_some (awL now idle ls)
    have hu : Upd (fun _ => False) W W' := hW2.trans hu1 fun k hk => by
      rcases hk with (h | h) | h
      · exact .inr (by omega)
      · exact .inr (by omega)
      · exact h.elim
    have hI := h.upd hu fun _ _ => id
    unfold leastL at hsm
    cases hl : awL now idle ls with
    | cons y m =>
      rw [hl] at q3 q4 hsm
      have er : reachM drain now idle ls = (List.foldl lstep (0, false) (y :: m)).1 := by simp [reachM, hl, leastL]
      rw [hsm] at q4
      generalize (List.foldl lstep (0, false) (y :: m)).1 = lst at *
      have c3 := q3.cell0
      have c4 := q4.cell0
      have hut := Lib.hid (hu.stepPut (r := W2.heap.size) (.inr z2) (.deferred none))
      clear hu hI hseq h2 q3 q4 hu1 hsm h ho hFl hS1 hOw
      simp only [ne_eq, List.cons_ne_nil, not_false_eq_true, decide_true] at c4
      gi_wp2_with (first | refine (⟨trivial, rfl, ?_⟩ : Fence.wide.fn _ ∧ Fence.wide.depth = none ∧ _) | refine (⟨trivial, ?_⟩ : Fence.wide.fn _ ∧ _))
      refine ⟨by simp, .inl ⟨_, _, rfl, run_takeDeferred hdef, ⟨_, results_tmp rfl _ _ _, ?_⟩⟩⟩
      exact ⟨by rw [er]; rfl, hut.out⟩
    | nil =>
      rw [hl] at q3 q4
      have c3 := q3.cell0
      have c4 := q4.cell0
      simp only [List.foldl_nil] at c3 c4
      have hz' := hu.size
      have hFl' := hI.lt
      obtain ⟨rb, t, h1', h2', h3', h4'⟩ := hI
      have d4 : W'.cell? ⟨mb, 4, none⟩ = some (.pointer (some ⟨rb, 0, none⟩)) := h1'.cell 4
      have kl := Lib.hid (rackLenSM (n := 0) h2')
      by_cases hls : ls = []
      · have er : reachM drain now idle ls = 0 := by simp [hls, reachM, awL_nil, leastL]
        have hut := Lib.hid (hu.stepPut (r := W2.heap.size) (.inr z2) (.deferred none))
        rw [hls] at kl
        clear hu hseq h2 q3 q4 hu1 hsm h ho hFl hS1 hOw h1' h2' h3' h4' hFl'
        gi_wp2_with (first | refine (⟨trivial, rfl, ?_⟩ : Fence.wide.fn _ ∧ Fence.wide.depth = none ∧ _) | (gi_at_call 41; refine kl.out.mono ?_; rintro e W3 ⟨rfl, e2⟩; (replace e2 := e2.symm); subst e2))
        refine ⟨by simp, .inl ⟨_, _, rfl, run_takeDeferred hdef, ⟨_, results_tmp rfl _ _ _, ?_⟩⟩⟩
        exact ⟨by rw [er]; rfl, hut.out⟩
      · have er : reachM drain now idle ls = mostL ls + drain := by simp [reachM, hl, hls]
        have hln : (ls.length : Int) ≠ 0 := by simpa using hls
        have hln0 : ((ls.length : Int) == 0) = false := by simpa using hls
        have hmost := most_fold ls 0 (by simp [mxT]) ho.time
        have hd0 := ho.dR
        have eml : ls.foldl (fun m x => max m x.2.1) 0 = mostL ls := rfl
        rw [eml] at hmost
        simp only [mxT] at hmost hd0
        have hw1 : IntKind.i64.wrap (mostL ls + drain) = mostL ls + drain := Go.IntWalk.i64_in _ ⟨by omega, by omega⟩
        have ka := (rackAllSM (n := 0) (rb := rb) (w := W'.alloc (.cells #[.int .i64 0] 3))).mono (R' := fun e W4 => ∃ br, e = .returned (.func (.func 43) #[] #[.pointer (some ⟨br, 0, none⟩)]) ∧ W'.heap.size < br ∧ Upd (fun _ => False) W' W4 ∧ Blk W4 W'.heap.size #[.int .i64 0] 3 ∧
            SeqO Try.prog (.func (.func 43) #[] #[.pointer (some ⟨br, 0, none⟩)]) encSM (ls.map fun x => ((), x)) () () (fun _ _ => True) (fun _ => False) (fun j => j = br ∨ j = rb ∨ t.has j) W4) (by
          rintro e W4 ⟨br, rfl, g1, g2, g3⟩
          simp only [World.size_alloc] at g2
          exact ⟨br, rfl, by omega, (Upd.alloc _ _ _).trans' g3, (Blk.new _ _ _).upd g3 id, allSeqSM (h2'.upd ((Upd.alloc (fun _ => False) _ _).trans' g3) fun _ _ => id) g1⟩)
        replace ka := Lib.hid ka
        have d4' : (W'.alloc (.cells #[.int .i64 0] 3)).cell? ⟨mb, 4, none⟩ = some (.pointer (some ⟨rb, 0, none⟩)) := (h1'.upd (Upd.alloc (fun _ => False) _ _) id).cell 4
        have hrbt : ∀ j, j = rb ∨ t.has j → j < W'.heap.size := fun j hj => hFl' j ((h3' j).2 (.inr hj))
        have hmb' : mb < W'.heap.size := hFl' mb ((h3' mb).2 (.inl rfl))
        clear hseq h2 q3 q4 hu1 hsm h ho hFl hS1 hOw h2' h3' h4' hFl'
        gi_wp2_with (first | refine (⟨trivial, rfl, ?_⟩ : Fence.wide.fn _ ∧ Fence.wide.depth = none ∧ _) | (gi_at_call 41; refine kl.out.mono ?_; rintro e W3 ⟨rfl, e2⟩; (replace e2 := e2.symm); subst e2) | (gi_at_call 32; refine ka.out.mono ?_; rintro e W4 ⟨br, rfl, g1, g2, b7, hseq⟩; (replace g2 := Lib.hid g2); (replace b7 := Lib.hid b7); (replace hseq := Lib.hid hseq)))
        rename_i KK2 hKK2
        have z4 := g2.out.size
        have hdef2 : W4.heap[W2.heap.size]? = some (.deferred (some [])) := (g2.out.block _ (by omega) id).trans hdef
        have hl7 := b7.out.lt
        have eel2 : (ls.map fun x => ((), x)).map (·.2) = ls := by simp [Function.comp_def]
        refine wpIn_range_at hseq.out rfl (Nat.le_refl _) (Agree.refl _ _) trivial (fun _ => rfl) (fun s x => (max s x.2.1, none)) (fun s S1 W1 => S1 W'.heap.size ∧ Blk W1 W'.heap.size #[.int .i64 s] 3) 0 (fun k => k = W'.heap.size) ?hS ?hstab ?hI ?hround ?hend
        case hS =>
          rintro k rfl
          exact ⟨hl7, fun h => h.elim (fun h => by omega) fun h => by have := hrbt _ h; omega, id⟩
        case hstab =>
          rintro s S1 Wa Wb ⟨q1, q2⟩ hA _
          exact ⟨q1, q2.agree hA q1⟩
        case hI => exact ⟨rfl, b7.out⟩
        case hround =>
          rintro lb pre e suf s1 S1 W1 hlb he hgo ⟨q1, q2⟩ hsz hu1 hS1
          subst hlb
          obtain ⟨nm, tm, at0⟩ := e
          have hS0 := (hS1 _ q1).1
          clear hgo he eel2 eel hseq hKK2 KK2 hu1 b7
          gi_wp2
          refine ⟨Upd.alloc _ _ _, ?_⟩
          intro Wb hub hbs hrec
          replace hbs := Lib.hid hbs
          have u1b := (Upd.alloc (fun k => k = W4.heap.size + 1) W1 (.cells #[.int .i64 tm, .int .i64 at0] 60)).trans' hub
          have j7 := q2.upd u1b (by omega)
          have j9 := (Blk.new W1 #[.int .i64 tm, .int .i64 at0] 60).upd hub (by omega)
          have c7 := j7.cell0
          have f7 := j7.frozen 0
          have l7 := j7.lt
          have c9 : Wb.cell? ⟨W1.heap.size, 0, none⟩ = some (.int .i64 tm) := j9.cell 0
          have hfin : Held (fun (s : Int) (S1 : Nat → Prop) (W1 : World) => S1 W'.heap.size ∧ Blk W1 W'.heap.size #[.int .i64 s] 3) (max s1 tm) (fun k => S1 k ∨ W1.heap.size ≤ k) Wb (Wb.setCell ⟨W'.heap.size, 0, none⟩ (.int .i64 (max s1 tm))) :=
            ⟨S1, ⟨q1, j7.set 0 _⟩, (Upd.refl _ Wb).stepSet (.inl (.inl q1)) _, fun k hk => ⟨by have := (hS1 k hk).1; have := u1b.size; simp; omega, .inl (.inl hk)⟩⟩
          replace hfin := Lib.hid hfin
          clear hrec j7 j9 u1b hub q2
          gi_wp2
          unfold bodyP
          exact ⟨rfl, hfin.out⟩
        case hend =>
          rintro S2 W5 ⟨q1, q2⟩ hOw2 hu5 hsz2 hS2 hdef5
          rw [eel2, goR_all] at q2
          rw [eel2, goR_all]
          have eml2 : ls.foldl (fun s x => max s x.2.1) 0 = mostL ls := rfl
          simp only [eml2] at q2 ⊢
          have hdef6 : W5.heap[W2.heap.size]? = some (.deferred (some [])) := (hu5.block _ (by omega) (by rintro (h | h); omega; exact h)).trans hdef2
          have hu6 : Upd (fun _ => False) W' W5 := g2.out.trans hu5 fun k hk => .inr (by rcases hk with h | h; omega; exact h.elim)
          have c7 := (q2.upd (Upd.drew (fun _ => False) _) id).cell0
          have cm : W5.drew.cell? ⟨mb, 1, none⟩ = some (.int .i64 drain) := ((h1'.upd hu6 id).upd (Upd.drew (fun _ => False) _) id).cell 1
          have z5 := hu5.size
          have hut := Lib.hid ((((hu.trans' hu6).stepDrew).stepPut (r := W4.heap.size) (.inr (by omega)) (.deferred none)).stepPut (r := W2.heap.size) (.inr z2) (.deferred none))
          clear hu5 q2 hu6 h1' hu
          gi_wp2
          refine wpIn_eager [(0, true), (1, true), (2, true), (3, true), (4, true), (5, true), (6, true)] (fun V => V.cell? ⟨W'.heap.size, 0, none⟩ = some (.int .i64 (mostL ls)) ∧ V.cell? ⟨mb, 1, none⟩ = some (.int .i64 drain)) (by kernel_rfl) (by kernel_rfl) ⟨c7, cm⟩ ?_
          repeat (first | (refine wpE_fl rfl rfl (fun _ _ => rfl) ?_; go_simp) | (refine wpE_sk rfl rfl ?_; go_simp) | (refine wpE_fl (v := ?_) rfl rfl ?_ ?_; rotate_left; (intro W' h'; (try dsimp only at h'); go_simp; exact rfl); go_simp) | (refine wpE_ef rfl ?_; go_simp; gi_wp2_with (first | refine (⟨trivial, rfl, ?_⟩ : Fence.wide.fn _ ∧ Fence.wide.depth = none ∧ _) | refine (⟨trivial, trivial, rfl, ?_⟩ : Fence.wide.fn _ ∧ Fence.wide.fn _ ∧ Fence.wide.depth = none ∧ _) | refine (⟨trivial, ?_⟩ : Fence.wide.fn _ ∧ _)); (first | refine ⟨by first | exact trivial, ?_⟩ | skip)))
          refine wpE_nil ?_
          gi_wp2
          have hdef7 : (W5.drew.putObj W4.heap.size (.deferred none)).heap[W2.heap.size]? = some (.deferred (some [])) := (World.putObj_heap_other (by omega)).trans hdef6
          refine ⟨by simp, .inl ⟨_, _, rfl, run_takeDeferred hdef5, ⟨by simp, .inl ⟨_, _, rfl, run_takeDeferred hdef7, ⟨_, results_tmp rfl _ _ _, ?_⟩⟩⟩⟩⟩
          exact ⟨by rw [er]; rfl, hut.out⟩
/-- The watermark behind a tick. -/
def tickLow (drain idle now' low : Int) (ls : List (KSM × VSM)) : Int := max low (reachM drain now' idle ls)
set_option maxRecDepth 100000 in
set_option maxHeartbeats 4000000 in
theorem markTick_c {n : Nat} {now' : Int} (h : MkI mb idle drain now low ls F W) (ho : MkOk idle drain now low ls) (h1 : now ≤ now') (h2 : now' ≤ mxT) : CallsIn Fence.wide n Try.prog 12 #[.pointer (some ⟨mb, 0, none⟩), .int .i64 now'] W fun e W2 => e = .returned (.int .i64 0) ∧ MkI mb idle drain now' (tickLow drain idle now' low ls) ls F W2 ∧ Upd F W W2 := by
  have ho' : MkOk idle drain now' low ls := ⟨ho.iR, ho.dR, ⟨by have := ho.nR; omega, h2⟩, ho.lR, ho.len, ho.time, fun x hx => by have := ho.at_ x hx; omega⟩
  have hset : ∀ {W : World} (v : Int) (k : Nat), MkI mb idle drain now low ls F W → True := fun _ _ _ => trivial
  clear hset
  obtain ⟨rb, t, m1, m2, m3, m4⟩ := h
  have hmF : F mb := (m3 mb).2 (.inl rfl)
  have d2 : W.cell? ⟨mb, 2, none⟩ = some (.int .i64 now) := m1.cell 2
  have f2 := m1.frozen 2
  have l2 := m1.lt
  have n1 : Blk (W.setCell ⟨mb, 2, none⟩ (.int .i64 now')).drew mb #[.int .i64 idle, .int .i64 drain, .int .i64 now', .int .i64 low, .pointer (some ⟨rb, 0, none⟩)] 63 := (by simpa using m1.set 2 (.int .i64 now') : Blk (W.setCell ⟨mb, 2, none⟩ (.int .i64 now')) mb _ _).upd (Upd.drew (fun _ => False) _) id
  have u1 : Upd (fun j => j = mb) W (W.setCell ⟨mb, 2, none⟩ (.int .i64 now')).drew := (Upd.setCell (M := fun j => j = mb) rfl _).stepDrew
  have hrt : ∀ j, (j = rb ∨ t.has j) → ¬ j = mb := fun j hj e => m4 (e ▸ hj)
  have n2 := m2.upd u1 hrt
  have d3 : (W.setCell ⟨mb, 2, none⟩ (.int .i64 now')).drew.cell? ⟨mb, 3, none⟩ = some (.int .i64 low) := n1.cell 3
  have hMk : MkI mb idle drain now' low ls F (W.setCell ⟨mb, 2, none⟩ (.int .i64 now')).drew := ⟨rb, t, n1, n2, m3, m4⟩
  have k1 := (markReach_c (n := 0) hMk ho').mono (R' := fun e W2 => e = .returned (.int .i64 (reachM drain now' idle ls)) ∧ W2.cell? ⟨mb, 3, none⟩ = some (.int .i64 low) ∧ W2.frozen? ⟨mb, 3, none⟩ = false ∧ mb < W2.heap.size ∧ MkI mb idle drain now' (tickLow drain idle now' low ls) ls F (W2.setCell ⟨mb, 3, none⟩ (.int .i64 (tickLow drain idle now' low ls))) ∧ Upd F W (W2.setCell ⟨mb, 3, none⟩ (.int .i64 (tickLow drain idle now' low ls)))) (by
    rintro e W2 ⟨rfl, u2⟩
    have p1 := n1.upd u2 id
    have p2 := (n2.upd u2 fun _ _ => id).upd (Upd.setCell (M := fun j => j = mb) (w := W2) (a := ⟨mb, 3, none⟩) rfl (.int .i64 (tickLow drain idle now' low ls))) hrt
    refine ⟨rfl, p1.cell 3, p1.frozen 3, p1.lt, ⟨rb, t, by simpa using p1.set 3 (.int .i64 (tickLow drain idle now' low ls)), p2, m3, m4⟩, ?_⟩
    exact ((u1.mono fun j _ h => h ▸ hmF).trans' (u2.mono fun _ _ h => h.elim)).stepSet (.inl hmF) _)
  replace k1 := Lib.hid k1
  clear m1 m2 n1 n2 u1 hMk ho ho' m3 m4 hrt hmF
  have hc1 : ¬ now' < now := by omega
  have hc2 : ¬ 1099511627776 < now' := by simp only [mxT] at h2; omega
  refine callsIn_any (n := 0) (callsIn_of_wp Try.func12 rfl trivial ?_)
  simp only [Try.ntmps12, List.size_toArray, List.length_cons, List.length_nil, Nat.reduceAdd, Nat.reduceSub, Array.replicate_succ, Array.replicate_zero, List.push_toArray, List.append_toArray, List.nil_append, List.cons_append]
  gi_wp2
  refine wpIn_plan (.fl 0 (.fl 1 (.fl 2 (.fl 3 (.fl 5 (.fork 4 (.ef 6 (.fl 7 (.fl 8 (.fl 9 (.ef 10 .done))))) 6 (.ef 4 (.fl 7 (.fl 8 (.fl 9 (.ef 10 .done))))))))))) (fun _ => True) (by kernel_rfl) (by kernel_rfl) trivial ?_
  repeat' (first | (refine wpT_fl rfl rfl (fun _ _ => rfl) ?_; go_simp) | (refine wpT_fl (v := ?_) rfl rfl ?_ ?_; rotate_left; (intro W' h'; (try dsimp only at h'); go_simp; exact rfl); go_simp) | (refine wpT_ef rfl ?_; go_simp; gi_wp2_with (first | refine (⟨trivial, rfl, ?_⟩ : Fence.wide.fn _ ∧ Fence.wide.depth = none ∧ _) | (gi_at_call 30; refine k1.out.mono ?_; rintro e W2 ⟨rfl, e3, f3, l3, fin⟩; (replace fin := Lib.hid fin)) | refine (⟨trivial, ?_⟩ : Fence.wide.fn _ ∧ _))) | (refine wpT_fork rfl rfl ?_ ?_ <;> (go_simp; gi_wp2_with (first | refine (⟨trivial, rfl, ?_⟩ : Fence.wide.fn _ ∧ Fence.wide.depth = none ∧ _) | (gi_at_call 30; refine k1.out.mono ?_; rintro e W2 ⟨rfl, e3, f3, l3, fin⟩; (replace fin := Lib.hid fin)) | refine (⟨trivial, ?_⟩ : Fence.wide.fn _ ∧ _)))))
  all_goals
    refine wpT_nil ?_
    gi_wp2
    go_ret
    exact ⟨rfl, fin.out⟩
theorem markTickNo_c {n : Nat} {now' : Int} (h : MkI mb idle drain now low ls F W) (h1 : ¬ (now ≤ now' ∧ now' ≤ mxT)) : CallsIn Fence.wide n Try.prog 12 #[.pointer (some ⟨mb, 0, none⟩), .int .i64 now'] W fun e W2 => e = .returned (.int .i64 1) ∧ W2 = W := by
  obtain ⟨rb, t, m1, m2, m3, m4⟩ := h
  have d2 : W.cell? ⟨mb, 2, none⟩ = some (.int .i64 now) := m1.cell 2
  clear m1 m2 m3 m4
  refine callsIn_any (n := 0) (callsIn_of_wp Try.func12 rfl trivial ?_)
  simp only [Try.ntmps12, List.size_toArray, List.length_cons, List.length_nil, Nat.reduceAdd, Nat.reduceSub, Array.replicate_succ, Array.replicate_zero, List.push_toArray, List.append_toArray, List.nil_append, List.cons_append]
  by_cases hc1 : now' < now
  · skip
    gi_wp2_with (first | refine (⟨trivial, rfl, ?_⟩ : Fence.wide.fn _ ∧ Fence.wide.depth = none ∧ _) | refine (⟨trivial, ?_⟩ : Fence.wide.fn _ ∧ _))
    go_ret
    exact ⟨rfl, rfl⟩
  · have hc2 : 1099511627776 < now' := by simp only [mxT] at h1; omega
    gi_wp2_with (first | refine (⟨trivial, rfl, ?_⟩ : Fence.wide.fn _ ∧ Fence.wide.depth = none ∧ _) | refine (⟨trivial, ?_⟩ : Fence.wide.fn _ ∧ _))
    go_ret
    exact ⟨rfl, rfl⟩
end
end Go.Proofs.Ytpljdckppmobeaa

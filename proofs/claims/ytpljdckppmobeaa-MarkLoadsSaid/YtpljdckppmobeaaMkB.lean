/- mark: Awake as a sequence. -/
import Derived.Test.YtpljdckppmobeaaProg
import Derived.Test.YtpljdckppmobeaaBase
import Derived.Test.YtpljdckppmobeaaMkA
import Derived.Test.YtpljdckppmobeaaRangeAt
namespace Go.Proofs.Ytpljdckppmobeaa
open Go.RowKit Go.Shelf
attribute [local go_sem] Oper.semAt_some

abbrev encAw (x : KSM × Int) : Array Value := #[.string x.1, .int .i64 x.2]
/-- The awake sources, and their times. -/
def awL (now idle : Int) (ls : List (KSM × VSM)) : List (KSM × Int) := (ls.filter fun x => decide (now - x.2.2 ≤ idle)).map fun x => (x.1, x.2.1)
theorem awL_nil {now idle : Int} : awL now idle [] = [] := rfl
theorem awL_cons {now idle : Int} (e : KSM × VSM) (ls : List (KSM × VSM)) : awL now idle (e :: ls) = if now - e.2.2 ≤ idle then (e.1, e.2.1) :: awL now idle ls else awL now idle ls := by
  by_cases h : now - e.2.2 ≤ idle <;> simp [awL, List.filter_cons, h]
theorem awL_append {now idle : Int} (l m : List (KSM × VSM)) : awL now idle (l ++ m) = awL now idle l ++ awL now idle m := by simp [awL]
def stepAw {σ : Type} (now idle : Int) (step : σ → KSM × Int → σ × Bool) (s : σ) (e : KSM × VSM) : σ × Option Code :=
  if now - e.2.2 ≤ idle then ((step s (e.1, e.2.1)).1, if (step s (e.1, e.2.1)).2 then none else some .ret) else (s, none)
theorem goR_aw {σ : Type} {now idle : Int} (step : σ → KSM × Int → σ × Bool) : ∀ (ls : List (KSM × VSM)) (s : σ), goR (stepAw now idle step) s ls = ((goF step s (awL now idle ls)).1, if (goF step s (awL now idle ls)).2 then none else some .ret)
  | [], s => by simp [goR, awL_nil, goF]
  | e :: ls, s => by
    rw [awL_cons]
    by_cases hc : now - e.2.2 ≤ idle
    · rw [if_pos hc]
      cases hb : (step s (e.1, e.2.1)).2 with
      | true => simp only [goR, stepAw, if_pos hc, hb, if_true, goF]; exact goR_aw step ls _
      | false => simp only [goR, stepAw, if_pos hc, hb, Bool.false_eq_true, if_false, goF]
    · rw [if_neg hc]
      simp only [goR, stepAw, if_neg hc]
      exact goR_aw step ls s
section
variable {mb : Nat} {idle drain now low : Int} {ls : List (KSM × VSM)} {F : Nat → Prop} {W W2 : World}
theorem markAwake_c {n : Nat} : CallsIn Fence.wide n Try.prog 14 #[.pointer (some ⟨mb, 0, none⟩)] W fun e W2 => ∃ bv, e = .returned (.func (.func 31) #[] #[.pointer (some ⟨bv, 0, none⟩)]) ∧ Blk W2 bv #[.pointer (some ⟨mb, 0, none⟩)] 23 ∧ W.heap.size ≤ bv ∧ Upd (fun _ => False) W W2 := by
  refine callsIn_any (n := 0) (callsIn_of_wp Try.func14 rfl trivial ?_)
  simp only [Try.ntmps14, List.size_toArray, List.length_cons, List.length_nil, Nat.reduceAdd, Nat.reduceSub, Array.replicate_succ, Array.replicate_zero, List.push_toArray, List.append_toArray, List.nil_append, List.cons_append]
  gi_wp2_with (first | refine (⟨trivial, rfl, ?_⟩ : Fence.wide.fn _ ∧ Fence.wide.depth = none ∧ _) | refine (⟨trivial, ?_⟩ : Fence.wide.fn _ ∧ _))
  go_ret
  exact ⟨_, rfl, Blk.new _ _ _, Nat.le_refl _, Upd.alloc _ _ _⟩

set_option maxRecDepth 100000 in
set_option maxHeartbeats 4000000 in
theorem awakeSeq {w : World} (h : MkI mb idle drain now low ls F w) (ho : MkOk idle drain now low ls) {bv : Nat} (hbv : Blk w bv #[.pointer (some ⟨mb, 0, none⟩)] 23) :
    SeqO Try.prog (.func (.func 31) #[] #[.pointer (some ⟨bv, 0, none⟩)]) encAw ((awL now idle ls).map fun x => ((), x)) () () (fun _ _ => True) (fun _ => False) (fun j => j = bv ∨ F j) w where
  fn := ⟨_, _, rfl⟩
  dlt := by
    rintro k (rfl | hk)
    · exact ⟨hbv.lt, id⟩
    · exact ⟨h.lt k hk, id⟩
  elt := fun _ h => h.elim
  stable := fun _ _ _ _ _ => trivial
  run := by
    intro σ step Rep y s S W hx _
    have ee : ((awL now idle ls).map fun x => ((), x)).map (·.2) = awL now idle ls := by simp [Function.comp_def]
    rw [ee] at hx ⊢
    refine CallV.of_calls (n := 0) (enters_of Try.func31 (by kernel_rfl) rfl) ?_
    obtain ⟨yf, ya, yc, rfl⟩ := hx.shape
    have hag := hx.agree
    have hW := h.agree (hag.mono fun j hj => .inr hj)
    have hbW := hbv.agree hag (.inl rfl)
    have hy0 := Blk.new W #[.func yf ya yc] 38
    have hu0 := Upd.alloc (fun _ => False) W (.cells #[.func yf ya yc] 38)
    have hzw := hx.size
    have hDw : ∀ j, (j = bv ∨ F j) → j < W.heap.size := by
      rintro j (rfl | hj)
      · have := hbv.lt; omega
      · have := h.lt j hj; omega
    obtain ⟨rb, t, m1, m2, m3, m4⟩ := hW
    have n1 := m1.upd hu0 id
    have n2 := m2.upd hu0 fun _ _ => id
    have nb := hbW.upd hu0 id
    have c0 := nb.cell0
    have c4 : (W.alloc (.cells #[.func yf ya yc] 38)).cell? ⟨mb, 4, none⟩ = some (.pointer (some ⟨rb, 0, none⟩)) := n1.cell 4
    have k1 := (rackAllSM (n := 0) (rb := rb) (w := W.alloc (.cells #[.func yf ya yc] 38))).mono (R' := fun e W2 => ∃ br, e = .returned (.func (.func 43) #[] #[.pointer (some ⟨br, 0, none⟩)]) ∧ W.heap.size < br ∧ Upd (fun _ => False) (W.alloc (.cells #[.func yf ya yc] 38)) W2 ∧
        SeqO Try.prog (.func (.func 43) #[] #[.pointer (some ⟨br, 0, none⟩)]) encSM (ls.map fun x => ((), x)) () () (fun _ _ => True) (fun _ => False) (fun j => j = br ∨ j = rb ∨ t.has j) W2) (by
      rintro e W2 ⟨br, rfl, g1, g2, g3⟩
      simp only [World.size_alloc] at g2
      exact ⟨br, rfl, by omega, g3, allSeqSM (n2.upd g3 fun _ _ => id) g1⟩)
    replace k1 := Lib.hid k1
    have hFm : ∀ j, j = mb ∨ j = rb ∨ t.has j → j < W.heap.size := fun j hj => hDw j (.inr ((m3 j).2 hj))
    have hFD : ∀ j, j = rb ∨ t.has j → F j := fun j hj => (m3 j).2 (.inr hj)
    have hbvF : bv < W.heap.size := hDw bv (.inl rfl)
    have hmF : mb < W.heap.size := hFm mb (.inl rfl)
    have hmD : F mb := (m3 mb).2 (.inl rfl)
    have bI := ho.iR
    have bN := ho.nR
    have bA := ho.at_
    simp only [mxT] at bI bN
    clear h hbv n1 n2 nb m2 m3 m4
    refine callsIn_of_wp_marks Try.func31 rfl trivial ?_
    simp only [Try.ntmps31, List.size_toArray, List.length_cons, List.length_nil, Nat.reduceAdd, Nat.reduceSub, Array.replicate_succ, Array.replicate_zero, List.push_toArray, List.append_toArray, List.nil_append, List.cons_append]
    gi_wp2_with (first | refine (⟨trivial, rfl, ?_⟩ : Fence.wide.fn _ ∧ Fence.wide.depth = none ∧ _) | (gi_at_call 32; (with_reducible refine k1.out.mono ?_); rintro e W2 ⟨br, rfl, hbr, hu2, hseq⟩; (replace hseq := Lib.hid hseq); (replace hu2 := Lib.hid hu2)) | refine (⟨trivial, ?_⟩ : Fence.wide.fn _ ∧ _))
    rename_i KK hKK
    have hy2 := hy0.upd hu2.out id
    have hW2 : Upd (fun _ => False) W W2 := hu0.trans' hu2.out
    have hz2 := hW2.size
    have hzy : W.heap.size < W2.heap.size := hy2.lt
    have eel : (ls.map fun x => ((), x)).map (·.2) = ls := by simp [Function.comp_def]
    have hyield := hx.yield
    have hstab := hx.stab
    have hown := hx.own
    refine wpIn_range_at hseq.out rfl (Nat.le_refl _) (Agree.refl _ _) trivial (fun _ => rfl) (stepAw now idle step) (fun s' S1 W1 => ∃ S', (∀ j, S' j → S1 j ∧ j ≠ W.heap.size) ∧ S1 W.heap.size ∧ Rep s' S' W1 ∧ Blk W1 W.heap.size #[.func yf ya yc] 38) s (fun k => S k ∨ k = W.heap.size) ?hS ?hstab ?hI ?hround ?hend
    case hS =>
      rintro k (hk | rfl)
      · have := (hown k hk).1
        refine ⟨by omega, ?_, id⟩
        rintro (h | h)
        · omega
        · exact (hown k hk).2.1 (.inr (hFD k h))
      · refine ⟨hzy, ?_, id⟩
        rintro (h | h)
        · omega
        · have := hFm _ (.inr h); omega
    case hstab =>
      rintro s' S1 Wa Wb ⟨S', g1, g2, g3, g4⟩ hA hz
      exact ⟨S', g1, g2, hstab _ _ _ _ g3 (fun j hj => hA j (g1 j hj).1) hz, g4.agree hA g2⟩
    case hI =>
      exact ⟨S, fun j hj => ⟨.inl hj, fun e => by have := (hown j hj).1; omega⟩, .inr rfl, hstab _ _ _ _ hx.rep (hW2.agree fun j hj => ⟨(hown j hj).1, id⟩) hz2, hy2⟩
    case hround =>
      rintro lb pre e suf s1 S1 W1 hlb he hgo ⟨S', g1, g2, g3, g4⟩ hsz hu1 hS1
      subst hlb
      rw [eel] at he
      rw [goR_aw] at hgo
      have hgo1 : goF step s (awL now idle pre) = (s1, true) := by
        obtain ⟨h1, h2⟩ := Prod.mk.inj hgo
        refine Prod.ext h1 ?_
        cases hb : (goF step s (awL now idle pre)).2 with
        | true => rfl
        | false => rw [hb] at h2; simp at h2
      have hea := bA e (by rw [he]; simp)
      have hz1 := hu1.size
      have hSlb : ∀ j, S' j → j < W1.heap.size ∧ j ≠ W2.heap.size + 1 ∧ j ≠ W.heap.size := fun j hj => ⟨(hS1 j (g1 j hj).1).1, (hS1 j (g1 j hj).1).2.1, (g1 j hj).2⟩
      have hSin : ∀ j, S' j → S j ∨ W.heap.size ≤ j := fun j hj => by
        rcases (hS1 j (g1 j hj).1).2.2 with (h | h) | h
        · exact .inl h
        · exact .inr (by omega)
        · exact .inr (by omega)
      have hWW1 : Upd S W W1 := (hW2.mono (M' := S) fun _ _ h => h.elim).trans hu1 fun k hk => by
        rcases hk with (h | h) | h
        · exact .inl h
        · exact .inr (by omega)
        · exact h.elim
      have hsF : ∀ j, (j = bv ∨ F j) → ¬ S j := fun j hj hs => (hown j hs).2.1 hj
      have o1 := m1.upd hWW1 (hsF mb (.inr hmD))
      have ob := hbW.upd hWW1 (hsF bv (.inl rfl))
      have hyc : now - e.2.2 ≤ idle → ∀ (W3 : World) (S3 : Nat → Prop), Rep s1 S3 W3 → Upd S W W3 → (∀ k, S3 k → k < W3.heap.size ∧ (S k ∨ W.heap.size ≤ k)) → CallV Try.prog (.func yf ya yc) #[.string e.1, .int .i64 e.2.1] W3 fun v W4 => ∃ S4, v = .bool (step s1 (e.1, e.2.1)).2 ∧ Rep (step s1 (e.1, e.2.1)).1 S4 W4 ∧ Upd S3 W3 W4 ∧ (∀ k, S4 k → k < W4.heap.size ∧ (S3 k ∨ W3.heap.size ≤ k)) := fun hc W3 S3 q1 q2 q3 =>
        hyield (awL now idle pre) (e.1, e.2.1) (awL now idle suf) s1 S3 W3 (by rw [he, awL_append, awL_cons, if_pos hc]) hgo1 q1 (q2.mono fun _ _ h => .inl h) q3
      replace hyc := Lib.hid hyc
      obtain ⟨nm, tm, at0⟩ := e
      have hw1 : IntKind.i64.wrap (now - at0) = now - at0 := Go.IntWalk.i64_in _ ⟨by simp only at hea; omega, by simp only at hea; omega⟩
      clear hgo hseq hKK KK k1 hu1 ee eel he hyield hown hx hea bA
      gi_wp2
      refine ⟨(Upd.alloc (fun _ => False) _ _), ?_⟩
      intro Wb hub hbs hrec hrec2
      replace hrec2 := Lib.hid hrec2
      have u1b := (Upd.alloc (fun k => k = W2.heap.size + 1) W1 (.cells #[.int .i64 tm, .int .i64 at0] 60)).trans' hub
      have hWWb : Upd S W Wb.drew := (hWW1.trans u1b fun k hk => .inr (by omega)).stepDrew
      have ud := Upd.drew (fun _ => False) Wb
      have y1 := (g4.upd u1b (by omega)).upd ud id
      have y2 := (o1.upd u1b (by omega)).upd ud id
      have y3 := (ob.upd u1b (by omega)).upd ud id
      have y4 := ((Blk.new W1 #[.int .i64 tm, .int .i64 at0] 60).upd hub (by omega)).upd ud id
      have r1 := hstab _ _ _ _ g3 ((u1b.stepDrew).agree fun j hj => ⟨(hSlb j hj).1, (hSlb j hj).2.1⟩) (u1b.stepDrew).size
      have nS : ∀ j, j < W.heap.size → ¬ S j → ¬ S' j := fun j h1 h2 h3 => (hSin j h3).elim h2 (fun h => by omega)
      have hld : ∀ W4, Upd S' Wb.drew W4 → W4.cell? ⟨bv, 0, none⟩ = some (.pointer (some ⟨mb, 0, none⟩)) ∧ W4.cell? ⟨mb, 2, none⟩ = some (.int .i64 now) ∧ W4.cell? ⟨W1.heap.size, 1, none⟩ = some (.int .i64 at0) ∧ W4.cell? ⟨mb, 0, none⟩ = some (.int .i64 idle) ∧ W4.cell? ⟨W.heap.size, 0, none⟩ = some (.func yf ya yc) ∧ W4.cell? ⟨W1.heap.size, 0, none⟩ = some (.int .i64 tm) := fun W4 u4 =>
        ⟨(y3.upd u4 (nS bv hbvF (hsF bv (.inl rfl)))).cell 0, (y2.upd u4 (nS mb hmF (hsF mb (.inr hmD)))).cell 2, (y4.upd u4 fun h => by have := (hSlb _ h).1; omega).cell 1, (y2.upd u4 (nS mb hmF (hsF mb (.inr hmD)))).cell 0, (y1.upd u4 fun h => (hSlb _ h).2.2 rfl).cell 0, (y4.upd u4 fun h => by have := (hSlb _ h).1; omega).cell 0⟩
      have hld0 := hld _ (Upd.refl _ _)
      replace hld := Lib.hid hld
      have hbz : Wb.drew.heap.size = W1.heap.size + 1 := by simpa using hbs
      have zb : W1.heap.size ≤ Wb.drew.heap.size := by omega
      have held : ∀ (s3 : σ) (S3 : Nat → Prop) (W3 : World), Rep s3 S3 W3 → Blk W3 W.heap.size #[.func yf ya yc] 38 → (∀ k, S3 k → k < W3.heap.size ∧ k ≠ W.heap.size ∧ (S' k ∨ Wb.heap.size ≤ k)) → Upd S' Wb W3 →
          Held (fun (s' : σ) (S1 : Nat → Prop) W1 => ∃ S', (∀ j, S' j → S1 j ∧ j ≠ W.heap.size) ∧ S1 W.heap.size ∧ Rep s' S' W1 ∧ Blk W1 W.heap.size #[.func yf ya yc] 38) s3 (fun k => S1 k ∨ W1.heap.size ≤ k) Wb W3 := by
        intro s3 S3 W3 q1 q2 q3 q4
        refine ⟨fun k => S3 k ∨ k = W.heap.size, ⟨S3, fun j hj => ⟨.inl hj, (q3 j hj).2.1⟩, .inr rfl, q1, q2⟩, q4.mono fun k _ hk => .inl (g1 k hk).1, ?_⟩
        rintro k (hk | rfl)
        · exact ⟨(q3 k hk).1, (q3 k hk).2.2.elim (fun h => .inl (.inl (g1 k h).1)) .inr⟩
        · exact ⟨q2.lt, .inl (.inl g2)⟩
      replace held := Lib.hid held
      by_cases hc : now - at0 ≤ idle
      · have kc := (hyc.out hc Wb.drew S' r1 hWWb (fun k hk => ⟨by have := (hSlb k hk).1; omega, hSin k hk⟩)).mono (R' := fun v W4 => ∃ b, v = .bool b ∧ b = (step s1 (nm, tm)).2 ∧ Upd S' Wb.drew W4 ∧ Held (fun (s' : σ) (S1 : Nat → Prop) W1 => ∃ S', (∀ j, S' j → S1 j ∧ j ≠ W.heap.size) ∧ S1 W.heap.size ∧ Rep s' S' W1 ∧ Blk W1 W.heap.size #[.func yf ya yc] 38) (step s1 (nm, tm)).1 (fun k => S1 k ∨ W1.heap.size ≤ k) Wb W4) (by
          rintro v W4 ⟨S4, rfl, q1, q2, q3⟩
          refine ⟨_, rfl, rfl, q2, held.out _ S4 W4 q1 (y1.upd q2 fun h => (hSlb _ h).2.2 rfl) (fun k hk => ⟨(q3 k hk).1, ?_, ?_⟩) ((Upd.drew S' Wb).trans' q2)⟩
          · rcases (q3 k hk).2 with h | h
            · exact (hSlb k h).2.2
            · omega
          · exact (q3 k hk).2)
        replace kc := Lib.hid kc
        clear hyc r1 y1 y2 y3 y4 g1 g2 g3 g4 hSlb hSin hsF nS hWW1 hWWb o1 ob hub u1b held hstab hS1
        gi_wp2
        refine wpIn_eager [(0, true), (1, true), (2, true), (3, true), (4, true), (5, true), (6, true), (7, true), (8, true), (9, true), (10, true), (11, true), (12, true), (13, true), (14, true), (15, true), (16, true), (17, false), (18, true), (19, true)] (fun V => V.cell? ⟨bv, 0, none⟩ = some (.pointer (some ⟨mb, 0, none⟩)) ∧ V.cell? ⟨mb, 2, none⟩ = some (.int .i64 now) ∧ V.cell? ⟨W1.heap.size, 1, none⟩ = some (.int .i64 at0) ∧ V.cell? ⟨mb, 0, none⟩ = some (.int .i64 idle) ∧ V.cell? ⟨W.heap.size, 0, none⟩ = some (.func yf ya yc) ∧ V.cell? ⟨W1.heap.size, 0, none⟩ = some (.int .i64 tm)) (by kernel_rfl) (by kernel_rfl) hld0 ?_
        repeat (first | (refine wpE_fl rfl rfl (fun _ _ => rfl) ?_; go_simp) | (refine wpE_sk rfl rfl ?_; go_simp) | (refine wpE_fl (v := ?_) rfl rfl ?_ ?_; rotate_left; (intro W' h'; (try dsimp only at h'); go_simp; exact rfl); go_simp) | (refine wpE_ef rfl ?_; go_simp; gi_wp2_with (first | refine (⟨trivial, rfl, ?_⟩ : Fence.wide.fn _ ∧ Fence.wide.depth = none ∧ _) | refine (⟨trivial, trivial, rfl, ?_⟩ : Fence.wide.fn _ ∧ Fence.wide.fn _ ∧ Fence.wide.depth = none ∧ _) | ((with_reducible refine listV2g kc.out ?_ ?_ ?_ ?_ ?_); rfl; rfl; rfl; rfl; rintro v W4 ⟨b, rfl, hb, u4, hh⟩; have hld4 := hld.out _ u4; (replace hh := Lib.hid hh); (replace hb := Lib.hid hb)) | refine (⟨trivial, ?_⟩ : Fence.wide.fn _ ∧ _)); (first | refine ⟨by first | exact hld0 | exact hld4, ?_⟩ | skip)) | (refine wpE_ef rfl ?_; go_simp; gi_wp2_with ((with_reducible refine listSkipV ?_ ?_ ?_); rfl; rfl); (first | refine ⟨by first | exact hld0 | exact hld4, ?_⟩ | skip)))
        refine wpE_nil ?_
        clear hld0
        cases b with
        | true =>
          gi_wp2
          unfold bodyP
          simp only [stepAw, if_pos hc]
          exact ⟨by simp [← hb.out], hh.out⟩
        | false =>
          gi_wp2
          unfold bodyP
          simp only [stepAw, if_pos hc]
          exact ⟨by simp [← hb.out], hh.out⟩
      · have hh := Lib.hid (held.out s1 S' Wb.drew r1 y1 (fun k hk => ⟨by have := (hSlb k hk).1; omega, (hSlb k hk).2.2, .inl hk⟩) (Upd.drew S' Wb))
        clear hyc r1 y1 y2 y3 y4 g1 g2 g3 g4 hSlb hSin hsF nS hWW1 hWWb o1 ob hub u1b held hstab hS1
        have hcd : (now - at0 ≤ idle) = False := eq_false hc
        gi_wp2
        refine wpIn_eager [(0, true), (1, true), (2, true), (3, true), (4, true), (5, true), (6, true), (7, true), (8, true), (9, true), (10, true), (11, true), (12, true), (13, true), (14, true), (15, true), (16, true), (17, false), (18, true), (19, true)] (fun V => V.cell? ⟨bv, 0, none⟩ = some (.pointer (some ⟨mb, 0, none⟩)) ∧ V.cell? ⟨mb, 2, none⟩ = some (.int .i64 now) ∧ V.cell? ⟨W1.heap.size, 1, none⟩ = some (.int .i64 at0) ∧ V.cell? ⟨mb, 0, none⟩ = some (.int .i64 idle) ∧ V.cell? ⟨W.heap.size, 0, none⟩ = some (.func yf ya yc) ∧ V.cell? ⟨W1.heap.size, 0, none⟩ = some (.int .i64 tm)) (by kernel_rfl) (by kernel_rfl) hld0 ?_
        repeat (first | (refine wpE_fl rfl rfl (fun _ _ => rfl) ?_; go_simp) | (refine wpE_sk rfl rfl ?_; go_simp) | (refine wpE_fl (v := ?_) rfl rfl ?_ ?_; rotate_left; (intro W' h'; (try dsimp only at h'); go_simp; exact rfl); go_simp) | (refine wpE_ef rfl ?_; go_simp; gi_wp2_with ((with_reducible refine listSkipV ?_ ?_ ?_); rfl; rfl); (first | refine ⟨by first | exact hld0, ?_⟩ | skip)))
        refine wpE_nil ?_
        clear hld0
        gi_wp2
        unfold bodyP
        have hc2 : ¬ now - at0 ≤ idle := by omega
        simp only [stepAw, if_neg hc2]
        exact ⟨trivial, hh.out⟩
    case hend =>
      rintro S1 W' ⟨S', g1, g2, g3, g4⟩ hOw hu1 hsz hS' hdef
      rw [eel] at g3 ⊢
      rw [goR_aw] at g3
      rw [goR_aw]
      have hfin : RunEnd Rep (goF step s (awL now idle ls)).1 (fun _ => True) S (fun _ => False) W (.tuple #[]) (W'.putObj W2.heap.size (.deferred none)) := by
        refine ⟨S', hstab _ _ _ _ g3 (fun k hk => World.putObj_heap_other (hS' k (g1 k hk).1).2.1) (by simp), trivial, ?_, fun k hk => ?_⟩
        · refine ((hW2.mono fun _ _ h => h.elim).trans hu1 fun k hk => ?_).stepPut (.inr hz2) _
          rcases hk with (h | h) | h
          · exact .inl (.inl h)
          · exact .inr (by omega)
          · exact h.elim
        · obtain ⟨a1, a2, a3⟩ := hS' k (g1 k hk).1
          refine ⟨by simpa using a1, ?_⟩
          rcases a3 with (h | h) | h
          · exact .inl h
          · exact .inr (by omega)
          · exact .inr (by omega)
      have hlv : ∀ tmps, LeavesInM Fence.wide 0 Try.prog Try.f31 tmps (Ret (RunEnd Rep (goF step s (awL now idle ls)).1 (fun _ => True) S (fun _ => False) W)) [{ target := .collected W2.heap.size, args := #[] }] .returning W' := fun tmps => leave_none (a := { tmps := tmps, defers := [{ target := .collected W2.heap.size, args := #[] }] }) rfl rfl hdef hfin
      clear hfin hseq k1 hyield hstab hown
      cases hb : (goF step s (awL now idle ls)).2 with
      | true =>
        simp only [if_true]
        exact hlv _
      | false =>
        simp only [Bool.false_eq_true, if_false]
        exact wpIn_ret (hlv _)
end
end Go.Proofs.Ytpljdckppmobeaa

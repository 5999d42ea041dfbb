/- slices.Collect of a sequence of entries; State. -/
import Derived.Test.YtadeechoknpjhaaProg
import Derived.Test.YtadeechoknpjhaaBase
import Derived.Test.YtadeechoknpjhaaSlM
import Derived.Test.YtadeechoknpjhaaRangeAt
set_option linter.unusedSimpArgs false
set_option linter.unusedVariables false
namespace Go.Proofs.Ytadeechoknpjhaa
open Go.RowKit Go.Shelf
attribute [local go_sem] Oper.semAt_some
theorem infoEs : (Try.prog.info? 63).map (fun i => (i.zero, i.size, i.bytes)) = some (some (.agg #[.int .i64 0, .string ⟨#[]⟩, .string ⟨#[]⟩, .int .i64 0, .int .i64 0, .int .i64 0, .bool false, .int .i64 0, .int .i64 0, .int .i64 0, .int .i64 0, .int .i64 0, .int .i64 0, .int .i64 0, .int .i64 0, .bool false]), 16, 144) := by kernel_rfl
/-- What is gathered so far. -/
def ColE (b2 base : Nat) (s : List VCE) (v : Value) (W : World) : Prop := Blk W b2 #[v] 53 ∧ W.ownsRow base 63 16 v s.length (flatE s) ∧ v.ownBlock ≠ some b2

set_option maxRecDepth 100000 in
set_option maxHeartbeats 1000000 in
theorem appendSeqE {n : Nat} {fi : FuncId} {fc : Array Value} {l : List VCE} {D : Nat → Prop} {w : World} (hseq : SeqO Try.prog (.func (.func fi) #[] fc) encV (l.map fun x => ((), x)) () () (fun _ _ => True) (fun _ => False) D w) (hl : l.length ≤ 100000) :
    CallsIn Fence.wide n Try.prog 48 #[.slice none 0 0, .func (.func fi) #[] fc] w fun e w' => ∃ A cap, e = .returned (.slice A l.length cap) ∧ l.length ≤ cap ∧ Reads1 w' A (flatE l) ∧ (∀ j, blkOf A j → w.heap.size ≤ j) ∧ Upd (fun _ => False) w w' := by
  refine callsIn_any (n := 0) (callsIn_of_wp_marks Try.func48 rfl trivial ?_)
  simp only [Try.ntmps48, List.size_toArray, List.length_cons, List.length_nil, Nat.reduceAdd, Nat.reduceSub, Array.replicate_succ, Array.replicate_zero, List.push_toArray, List.append_toArray, List.nil_append, List.cons_append]
  replace hseq := Lib.hid hseq
  gi_wp2_with (first | refine (⟨trivial, rfl, ?_⟩ : Fence.wide.fn _ ∧ Fence.wide.depth = none ∧ _) | refine (⟨trivial, ?_⟩ : Fence.wide.fn _ ∧ _))
  rename_i KK hKK
  have hb0 : Blk (w.alloc (.cells #[.slice none 0 0] 53)) w.heap.size #[.slice none 0 0] 53 := Blk.new _ _ _
  have hu0 : Upd (fun _ => False) w (w.alloc (.cells #[.slice none 0 0] 53)) := Upd.alloc _ _ _
  have hsz0 : (w.alloc (.cells #[.slice none 0 0] 53)).heap.size = w.heap.size + 1 := by simp
  have ho0 : (w.alloc (.cells #[.slice none 0 0] 53)).ownsRow w.heap.size 63 16 (.slice none 0 0) 0 [] := World.ownsRow_nil _ _ _ 16
  generalize (w.alloc (.cells #[.slice none 0 0] 53)) = W0 at *
  have hs := hseq.out.later (w' := W0) hu0.size (hu0.agree fun k hk => ⟨(hseq.out.dlt k hk).1, id⟩)
  have ee : (l.map fun x => ((), x)).map (·.2) = l := by simp [Function.comp_def]
  have hgo : ∀ (m s : List VCE), goR (fun (s : List VCE) (x : VCE) => (s ++ [x], (none : Option Code))) s m = (s ++ m, none) := by
    intro m
    induction m with
    | nil => intro s; simp [goR]
    | cons x m ih => intro s; simp only [goR]; rw [ih]; simp
  have hDlt : ∀ k, D k → k < w.heap.size := fun k hk => (hseq.out.dlt k hk).1
  refine wpIn_range_at hs rfl (Nat.le_refl _) (Agree.refl _ _) trivial (fun _ => rfl) (fun s x => (s ++ [x], none)) (fun s' S' W' => ∃ v, ColE w.heap.size w.heap.size s' v W' ∧ ∀ j, (j = w.heap.size ∨ v.ownBlock = some j) → S' j) [] (fun k => k = w.heap.size) ?hS ?hstab ⟨.slice none 0 0, ⟨hb0, ho0, by simp [Value.ownBlock]⟩, fun j hj => hj.elim id (fun h => by simp [Value.ownBlock] at h)⟩ ?hround ?hend
  case hS =>
    rintro k rfl
    exact ⟨by omega, fun h => by have := hDlt _ h; omega, id⟩
  case hstab =>
    rintro s' S' Wa Wb ⟨v, ⟨g1, g2, g3⟩, g4⟩ hA _
    exact ⟨v, ⟨g1.agree hA (g4 _ (.inl rfl)), own_agree g2 (hA.mono fun j hj => g4 j (.inr hj)), g3⟩, g4⟩
  case hround =>
    rintro lb pre x suf s1 S1 W1 hlb he hgo1 ⟨v, ⟨i1, i2, i5⟩, i3⟩ hsz hu1 hS1
    have hs1 : s1.length ≤ 100000 := by
      rw [hgo] at hgo1
      have e1 := (Prod.mk.inj hgo1).1
      simp only [List.nil_append] at e1
      have e2 := congrArg List.length he
      rw [ee] at e2
      simp at e2
      rw [← e1]; omega
    clear hs hgo hgo1 hseq hKK KK hDlt he ee
    obtain ⟨A3, cap3, rfl⟩ := own_shape i2
    gi_wp2
    refine ⟨Upd.alloc _ _ _, ?_⟩
    intro Wb hub hbs hrec
    have hSl : ∀ j, S1 j → j ≠ lb := fun j hj => (hS1 j hj).2.1
    have hlW : lb < W1.heap.size := by omega
    have hzq := hub.size
    simp only [World.size_alloc] at hzq
    have xe := (Blk.new W1 #[.int .i64 (x).ep, .string (x).key, .string (x).pol, .int .i64 (x).kd, .int .i64 (x).st, .int .i64 (x).rev, .bool (x).fin, .int .i64 (x).rk, .int .i64 (x).cnt, .int .i64 (x).sum, .int .i64 (x).mn, .int .i64 (x).mx, .int .i64 (x).q0, .int .i64 (x).q1, .int .i64 (x).q2, .bool (x).over] 63).upd hub (by omega)
    have hxe : Wb.cell? ⟨W1.heap.size, 0, none⟩ = some (.int .i64 (x).ep) ∧ Wb.cell? ⟨W1.heap.size, 1, none⟩ = some (.string (x).key) ∧ Wb.cell? ⟨W1.heap.size, 2, none⟩ = some (.string (x).pol) ∧ Wb.cell? ⟨W1.heap.size, 3, none⟩ = some (.int .i64 (x).kd) ∧ Wb.cell? ⟨W1.heap.size, 4, none⟩ = some (.int .i64 (x).st) ∧ Wb.cell? ⟨W1.heap.size, 5, none⟩ = some (.int .i64 (x).rev) ∧ Wb.cell? ⟨W1.heap.size, 6, none⟩ = some (.bool (x).fin) ∧ Wb.cell? ⟨W1.heap.size, 7, none⟩ = some (.int .i64 (x).rk) ∧ Wb.cell? ⟨W1.heap.size, 8, none⟩ = some (.int .i64 (x).cnt) ∧ Wb.cell? ⟨W1.heap.size, 9, none⟩ = some (.int .i64 (x).sum) ∧ Wb.cell? ⟨W1.heap.size, 10, none⟩ = some (.int .i64 (x).mn) ∧ Wb.cell? ⟨W1.heap.size, 11, none⟩ = some (.int .i64 (x).mx) ∧ Wb.cell? ⟨W1.heap.size, 12, none⟩ = some (.int .i64 (x).q0) ∧ Wb.cell? ⟨W1.heap.size, 13, none⟩ = some (.int .i64 (x).q1) ∧ Wb.cell? ⟨W1.heap.size, 14, none⟩ = some (.int .i64 (x).q2) ∧ Wb.cell? ⟨W1.heap.size, 15, none⟩ = some (.bool (x).over) := ⟨xe.cell 0, xe.cell 1, xe.cell 2, xe.cell 3, xe.cell 4, xe.cell 5, xe.cell 6, xe.cell 7, xe.cell 8, xe.cell 9, xe.cell 10, xe.cell 11, xe.cell 12, xe.cell 13, xe.cell 14, xe.cell 15⟩
    obtain ⟨x0, x1, x2, x3, x4, x5, x6, x7, x8, x9, x10, x11, x12, x13, x14, x15⟩ := hxe
    have hub := (Upd.alloc (fun k => k = lb) W1 (.cells #[.int .i64 (x).ep, .string (x).key, .string (x).pol, .int .i64 (x).kd, .int .i64 (x).st, .int .i64 (x).rev, .bool (x).fin, .int .i64 (x).rk, .int .i64 (x).cnt, .int .i64 (x).sum, .int .i64 (x).mn, .int .i64 (x).mx, .int .i64 (x).q0, .int .i64 (x).q1, .int .i64 (x).q2, .bool (x).over] 63)).trans' hub
    have hb := i1.upd hub (hSl _ (i3 _ (.inl rfl)))
    have ho := own_agree i2 (hub.agree fun j hj => ⟨(hS1 j (i3 j (.inr hj))).1, hSl j (i3 j (.inr hj))⟩)
    have d1 := hb.cell0
    have hz0 := hu0.size
    have fin : ∀ g' cap' w', w'.ownsRow w.heap.size 63 16 (.slice (some ⟨g', 0, none⟩) (s1.length + 1) cap') (s1.length + 1) (flatE s1 ++ cellsE x) → Upd (fun j => (Value.slice A3 s1.length cap3).ownBlock = some j) Wb w' → ((Value.slice A3 s1.length cap3).ownBlock = some g' ∨ Wb.heap.size ≤ g') → g' < w'.heap.size →
        w'.cell? ⟨w.heap.size, 0, none⟩ = some (.slice A3 s1.length cap3) ∧ w'.frozen? ⟨w.heap.size, 0, none⟩ = false ∧ w.heap.size < w'.heap.size ∧
        Held (fun (s' : List VCE) (S' : Nat → Prop) W' => ∃ v, ColE w.heap.size w.heap.size s' v W' ∧ ∀ j, (j = w.heap.size ∨ v.ownBlock = some j) → S' j) (s1 ++ [x]) (fun k => S1 k ∨ W1.heap.size ≤ k) Wb (w'.setCell ⟨w.heap.size, 0, none⟩ (.slice (some ⟨g', 0, none⟩) (s1.length + 1) cap')) := by
      intro g' cap' w' h1 h2 h3 h4
      have hb1 := hb.upd h2 i5
      have hgb : g' ≠ w.heap.size := by
        rintro rfl
        rcases h3 with h | h
        · exact i5 h
        · have := hb.lt; omega
      have hz2 := h2.size
      have hzb := hub.size
      refine ⟨hb1.cell0, hb1.frozen 0, hb1.lt, fun j => j = w.heap.size ∨ j = g', ⟨_, ⟨by simpa using hb1.set 0 (.slice (some ⟨g', 0, none⟩) (s1.length + 1) cap'), ?_, by simpa [Value.ownBlock] using hgb⟩, ?_⟩, ?_, ?_⟩
      · rw [flatE_append, List.length_append, show flatE [x] = cellsE x by simp [flatE]]
        exact own_agree h1 (fun j hj => Below.heap_setCell _ _ _ _ (fun e => hgb (by simp [Value.ownBlock] at hj; rw [hj]; exact e)))
      · rintro j (h | h)
        · exact .inl h
        · simp [Value.ownBlock] at h; exact .inr h.symm
      · exact (h2.mono fun j _ hj => .inl (i3 j (.inr hj))).stepSet (.inl (.inl (i3 _ (.inl rfl)))) _
      · rintro j (rfl | rfl)
        · exact ⟨by have := hb1.lt; simpa using this, .inl (.inl (i3 _ (.inl rfl)))⟩
        · exact ⟨by simpa using h4, h3.elim (fun h => .inl (.inl (i3 _ (.inr h)))) (fun h => .inr h)⟩
    replace fin := Lib.hid fin
    have hwb : w.heap.size ≤ Wb.heap.size := by omega
    replace hbs := Lib.hid hbs
    clear hb hub hrec hu1 hS1 i1 i2 i3 i5 hSl hu0 xe
    gi_wp2_with (first | refine (⟨trivial, rfl, ?_⟩ : Fence.wide.fn _ ∧ Fence.wide.depth = none ∧ _) | ((with_reducible refine app16 (y := x) Try.underlying53 infoEs zE (by omega) ho ?_ ?_ ?_ ?_ ?_); exact hwb; omega; rfl; rfl; intro g' cap' w' h1 h2 h3 h4; obtain ⟨k1, k2, k3, k4⟩ := fin.out g' cap' w' h1 h2 h3 h4; (replace k4 := Lib.hid k4); clear h1 h2 h3 h4) | refine (⟨trivial, ?_⟩ : Fence.wide.fn _ ∧ _))
    exact ⟨rfl, k4.out⟩
  case hend =>
    rintro S' W' ⟨v, ⟨i1, i2, i5⟩, i3⟩ hOw hu1 hsz hS' hdef
    rw [hgo, ee, List.nil_append] at i2
    rw [hgo]
    refine hKK _ _ ?_
    obtain ⟨A5, cap5, rfl, hn5, hr5, _, hb5⟩ := own_readsS i2
    have hge := own_ge i2
    have d1 := i1.cell0
    have hz0 := hu0.size
    replace hsz0 := Lib.hid hsz0
    clear hs hgo hseq hKK KK hDlt hOw i2
    gi_wp2
    refine ⟨by simp, .inl ⟨_, _, rfl, run_takeDeferred hdef, ⟨_, results_tmp rfl _ _ _, ?_⟩⟩⟩
    refine ⟨A5, cap5, rfl, hn5, hr5.agree' (fun k hk => World.putObj_heap_other ?_), fun j hj => hge j (hb5 j hj), ((hu0.mono fun _ _ h => h.elim).trans hu1 (fun k hk => ?_)).stepPut (.inr hu0.size) _⟩
    · have := (hS' k (i3 k (.inr (hb5 k hk.2)))).2.1
      exact this
    · rcases hk with rfl | h
      · exact .inr (Nat.le_refl _)
      · exact h.elim
theorem collectE {n : Nat} {fi : FuncId} {fc : Array Value} {l : List VCE} {D : Nat → Prop} {w : World} (hseq : SeqO Try.prog (.func (.func fi) #[] fc) encV (l.map fun x => ((), x)) () () (fun _ _ => True) (fun _ => False) D w) (hl : l.length ≤ 100000) :
    CallsIn Fence.wide n Try.prog 34 #[.func (.func fi) #[] fc] w fun e w' => ∃ A cap, e = .returned (.slice A l.length cap) ∧ l.length ≤ cap ∧ Reads1 w' A (flatE l) ∧ (∀ j, blkOf A j → w.heap.size ≤ j) ∧ Upd (fun _ => False) w w' := by
  have k1 := Lib.hid (appendSeqE (n := 0) hseq hl)
  clear hseq
  refine callsIn_any (n := 0) (callsIn_of_wp Try.func34 rfl trivial ?_)
  simp only [Try.ntmps34, List.size_toArray, List.length_cons, List.length_nil, Nat.reduceAdd, Nat.reduceSub, Array.replicate_succ, Array.replicate_zero, List.push_toArray, List.append_toArray, List.nil_append, List.cons_append]
  gi_wp2_with (first | refine (⟨trivial, rfl, ?_⟩ : Fence.wide.fn _ ∧ Fence.wide.depth = none ∧ _) | (gi_at_call 48; (with_reducible refine k1.out.mono ?_); rintro e W2 ⟨A, cap, rfl, fin⟩; (replace fin := Lib.hid fin)) | refine (⟨trivial, ?_⟩ : Fence.wide.fn _ ∧ _))
  go_ret
  exact ⟨A, cap, rfl, fin.out⟩
theorem results_c2 {fn : Func} {p : Tmp} {T : TypeId} {b : Nat} {w : World} {tmps : Array Value} {x0 x1 : Value} (h : fn.results = #[.cell p T]) (ha : tmps[p]?.getD undef = .pointer (some ⟨b, 0, none⟩)) (e1 : (isAgg T).run Try.prog w = .ok true w) (e2 : (Go.sizeOf T).run Try.prog w = .ok 2 w)
    (h0 : w.cell? ⟨b, 0, none⟩ = some x0) (h1 : w.cell? ⟨b, 1, none⟩ = some x1) : (results fn tmps).run Try.prog w = .ok (.agg #[x0, x1]) w := by
  have e := load2 e1 e2 h0 h1
  simp only [results, h]
  simp [Sem.run_bind, Result.andThen, ha, asAddr, e]
section
variable {sb : Nat} {f : Int} {vs : List VCE} {F : Nat → Prop} {W : World}
set_option maxRecDepth 100000 in
set_option maxHeartbeats 4000000 in
theorem siloState_c {n : Nat} (h : SiloV sb f vs F W) (hl : vs.length ≤ 100000) : CallsIn Fence.wide n Try.prog 17 #[.pointer (some ⟨sb, 0, none⟩)] W fun e W2 => ∃ A cap, e = .returned (.agg #[.int .i64 f, .slice A vs.length cap]) ∧ vs.length ≤ cap ∧ Reads1 W2 A (flatE vs) ∧ (∀ j, blkOf A j → W.heap.size ≤ j) ∧ Upd (fun _ => False) W W2 := by
  obtain ⟨W0, hW0⟩ : ∃ W0, W.alloc (.cells #[.int .i64 0, .slice none 0 0] 55) = W0 := ⟨_, rfl⟩
  have u0 : Upd (fun _ => False) W W0 := by rw [← hW0]; exact Upd.alloc _ _ _
  have b0 : Blk W0 W.heap.size #[.int .i64 0, .slice none 0 0] 55 := by rw [← hW0]; exact Blk.new _ _ _
  have hz0 : W0.heap.size = W.heap.size + 1 := by rw [← hW0]; simp
  have h0 := h.upd u0 fun _ _ => id
  have hc : ∀ V, Upd (fun _ => False) W0 V → V.cell? ⟨sb, 0, none⟩ = some (.int .i64 f) := fun V u => by
    obtain ⟨q, t, g1, _⟩ := h0
    exact (g1.upd u id).cell 0
  replace hc := Lib.hid hc
  have ud : Upd (fun _ => False) W0 W0.drew := Upd.drew _ _
  have c0 := hc.out _ ud
  have k1 := Lib.hid ((siloAll_c (n := 0) (sb := sb) (W := W0.drew)).mono (R' := fun e W2 => ∃ bs, e = .returned (.func (.func 37) #[] #[.pointer (some ⟨bs, 0, none⟩)]) ∧ Upd (fun _ => False) W0 W2 ∧
      CallsIn Fence.wide 0 Try.prog 34 #[.func (.func 37) #[] #[.pointer (some ⟨bs, 0, none⟩)]] W2 fun e W3 => ∃ A cap, e = .returned (.slice A vs.length cap) ∧ vs.length ≤ cap ∧ Reads1 W3 A (flatE vs) ∧ (∀ j, blkOf A j → W0.heap.size ≤ j) ∧ Upd (fun _ => False) W0 W3 ∧ (W3.cell? ⟨W.heap.size, 0, none⟩ = some (.int .i64 0) ∧ W3.cell? ⟨W.heap.size, 1, none⟩ = some (.slice none 0 0) ∧ W3.frozen? ⟨W.heap.size, 0, none⟩ = false ∧ W3.frozen? ⟨W.heap.size, 1, none⟩ = false ∧ W.heap.size < W3.heap.size) ∧ Blk W3 W.heap.size #[.int .i64 0, .slice none 0 0] 55) (by
    rintro e W2 ⟨bs, rfl, q1, q2, q3⟩
    have u2 := ud.trans' q3
    have hs := allSilo (h0.upd u2 fun _ _ => id) q1
    refine ⟨bs, rfl, u2, (collectE (n := 0) hs hl).mono ?_⟩
    rintro e W3 ⟨A, cap, rfl, p1, p2, p3, p4⟩
    have u3 := u2.trans' p4
    have b3 := b0.upd u3 id
    have z := u2.size
    exact ⟨A, cap, rfl, p1, p2, fun j hj => by have := p3 j hj; omega, u3, ⟨b3.cell 0, b3.cell 1, b3.frozen 0, b3.frozen 1, b3.lt⟩, b3⟩))
  clear h h0 b0
  refine callsIn_any (n := 0) (callsIn_of_wp Try.func17 rfl trivial ?_)
  simp only [Try.ntmps17, List.size_toArray, List.length_cons, List.length_nil, Nat.reduceAdd, Nat.reduceSub, Array.replicate_succ, Array.replicate_zero, List.push_toArray, List.append_toArray, List.nil_append, List.cons_append]
  gi_wp2_with (first | (rw [hW0]; skip))
  refine wpIn_planE (.fl 0 (.fl 1 (.fl 2 (.fl 3 (.fl 4 (.ef 5 (.ef 6 (.fl 7 (.ef 8 .done))))))))) 8 (fun V => V.cell? ⟨sb, 0, none⟩ = some (.int .i64 f)) (by kernel_rfl) (by kernel_rfl) c0 ?_
  repeat (first | (refine wpU_fl rfl rfl (fun _ _ => rfl) ?_; go_simp) | (refine wpU_fl (v := ?_) rfl rfl ?_ ?_; rotate_left; (intro W' h'; (try dsimp only at h'); go_simp; exact rfl); go_simp) | (refine wpU_ef rfl ?_; (go_simp; gi_wp2_with (first | refine (⟨trivial, rfl, ?_⟩ : Fence.wide.fn _ ∧ Fence.wide.depth = none ∧ _) | refine (⟨trivial, trivial, rfl, ?_⟩ : Fence.wide.fn _ ∧ Fence.wide.fn _ ∧ Fence.wide.depth = none ∧ _) | (gi_at_call 24; (with_reducible refine k1.out.mono ?_); rintro e W2 ⟨bs, rfl, u2, k2⟩; (replace k2 := Lib.hid k2)) | (gi_at_call 34; (with_reducible refine k2.out.mono ?_); rintro e W3 ⟨A, cap, rfl, p1, p2, p3, u3, ⟨m0, m1, y0, y1, l1⟩, b3⟩; (replace b3 := Lib.hid b3); (replace p2 := Lib.hid p2); (replace p3 := Lib.hid p3); (replace p1 := Lib.hid p1)) | refine (⟨trivial, ?_⟩ : Fence.wide.fn _ ∧ _)); (first | refine ⟨by first | trivial | exact .inl rfl | exact (hc.out _ u2) | exact .inr ((hc.out _ u2)) | exact (hc.out _ u3) | exact .inr ((hc.out _ u3)), ?_⟩ | skip))))
  (first | refine wpU_nil ?_ | skip)
  have b4 := blk_set2 (x0 := .int .i64 f) (x1 := .slice A vs.length cap) b3.out
  have us : Upd (fun j => j = W.heap.size) W3 ((W3.setCell ⟨W.heap.size, 0, none⟩ (.int .i64 f)).setCell ⟨W.heap.size, 1, none⟩ (.slice A vs.length cap)) := upd_set2 (Upd.refl _ _) (.inl rfl)
  have u4 : Upd (fun _ => False) W ((W3.setCell ⟨W.heap.size, 0, none⟩ (.int .i64 f)).setCell ⟨W.heap.size, 1, none⟩ (.slice A vs.length cap)) := (u0.trans' u3).trans us fun j hj => .inr (by omega)
  have hr4 := p2.out.agree' (w' := (W3.setCell ⟨W.heap.size, 0, none⟩ (.int .i64 f)).setCell ⟨W.heap.size, 1, none⟩ (.slice A vs.length cap)) (us.agree fun j hj => ⟨p2.out.lt' j hj, fun e => by have := p3.out j hj.2; omega⟩)
  replace b4 := Lib.hid b4
  replace u4 := Lib.hid u4
  replace hr4 := Lib.hid hr4
  clear us b3 p2
  gi_wp2
  refine bodyPost_ret (results_c2 rfl rfl rfl rfl (b4.out.cell 0) (b4.out.cell 1)) rfl ?_
  exact ⟨A, cap, rfl, p1.out, hr4.out, fun j hj => by have := p3.out j hj; omega, u4.out⟩
end
end Go.Proofs.Ytadeechoknpjhaa

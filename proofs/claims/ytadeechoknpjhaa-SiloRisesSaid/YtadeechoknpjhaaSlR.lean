/- silo: Range as a sequence. -/
import Derived.Test.YtadeechoknpjhaaProg
import Derived.Test.YtadeechoknpjhaaBase
import Derived.Test.YtadeechoknpjhaaSlG
set_option linter.unusedSimpArgs false
set_option linter.unusedVariables false
namespace Go.Proofs.Ytadeechoknpjhaa
open Go.RowKit Go.Shelf
attribute [local go_sem] Oper.semAt_some

def trR (k : KCE) (to : Int) (x : KCE × VCE) : Option VCE × Bool := if (x.1.1, x.1.2.1, x.1.2.2.1, k.2.2.2) = k ∧ x.1.2.2.2 < to then (some x.2, true) else (none, false)
/-- What a range gives. -/
def rangeL (k : KCE) (to : Int) (vs : List VCE) : List VCE := outsE (trR k to) (behindL (fun a => decide (cmpC a k < 0)) (vs.map prE))
section
variable {sb : Nat} {f : Int} {vs : List VCE} {F : Nat → Prop} {W w : World}
theorem siloRange_c {n : Nat} {k : KCE} {to : Int} : CallsIn Fence.wide n Try.prog 15 #[.pointer (some ⟨sb, 0, none⟩), .string k.1, .string k.2.1, .int .i64 k.2.2.1, .int .i64 k.2.2.2, .int .i64 to] W fun e W2 => ∃ bk bp bd bf bs bt, e = .returned (.func (.func 32) #[] #[.pointer (some ⟨bk, 0, none⟩), .pointer (some ⟨bp, 0, none⟩), .pointer (some ⟨bd, 0, none⟩), .pointer (some ⟨bf, 0, none⟩), .pointer (some ⟨bs, 0, none⟩), .pointer (some ⟨bt, 0, none⟩)]) ∧
    (Blk W2 bk #[.string k.1] 9 ∧ Blk W2 bp #[.string k.2.1] 9 ∧ Blk W2 bd #[.int .i64 k.2.2.1] 3 ∧ Blk W2 bf #[.int .i64 k.2.2.2] 3 ∧ Blk W2 bs #[.pointer (some ⟨sb, 0, none⟩)] 27 ∧ Blk W2 bt #[.int .i64 to] 3) ∧ (∀ j, (j = bk ∨ j = bp ∨ j = bd ∨ j = bf ∨ j = bs ∨ j = bt) → W.heap.size ≤ j) ∧ Upd (fun _ => False) W W2 := by
  refine callsIn_any (n := 0) (callsIn_of_wp Try.func15 rfl trivial ?_)
  simp only [Try.ntmps15, List.size_toArray, List.length_cons, List.length_nil, Nat.reduceAdd, Nat.reduceSub, Array.replicate_succ, Array.replicate_zero, List.push_toArray, List.append_toArray, List.nil_append, List.cons_append]
  gi_wp2_with (first | refine (⟨trivial, rfl, ?_⟩ : Fence.wide.fn _ ∧ Fence.wide.depth = none ∧ _) | refine (⟨trivial, ?_⟩ : Fence.wide.fn _ ∧ _))
  go_ret
  refine ⟨_, _, _, _, _, _, rfl, ⟨?_, ?_, ?_, ?_, ?_, ?_⟩, ?_, (((((Upd.alloc _ _ _).stepAlloc _).stepAlloc _).stepAlloc _).stepAlloc _).stepAlloc _⟩
  · exact ((((Blk.new' (by simp)).alloc _).alloc _).alloc _).alloc _
  · exact (((Blk.new' (by simp)).alloc _).alloc _).alloc _
  · exact ((Blk.new' (by simp)).alloc _).alloc _
  · exact (Blk.new' (by simp)).alloc _
  · exact (((((Blk.new _ _ _).alloc _).alloc _).alloc _).alloc _).alloc _
  · exact Blk.new' (by simp)
  · intro j hj
    omega
set_option maxRecDepth 100000 in
set_option maxHeartbeats 4000000 in
theorem rangeSilo (h : SiloV sb f vs F w) {k : KCE} {to : Int} {bk bp bd bf bs bt : Nat} (hB : Blk w bk #[.string k.1] 9 ∧ Blk w bp #[.string k.2.1] 9 ∧ Blk w bd #[.int .i64 k.2.2.1] 3 ∧ Blk w bf #[.int .i64 k.2.2.2] 3 ∧ Blk w bs #[.pointer (some ⟨sb, 0, none⟩)] 27 ∧ Blk w bt #[.int .i64 to] 3) :
    SeqO Try.prog (.func (.func 32) #[] #[.pointer (some ⟨bk, 0, none⟩), .pointer (some ⟨bp, 0, none⟩), .pointer (some ⟨bd, 0, none⟩), .pointer (some ⟨bf, 0, none⟩), .pointer (some ⟨bs, 0, none⟩), .pointer (some ⟨bt, 0, none⟩)]) encV ((rangeL k to vs).map fun x => ((), x)) () () (fun _ _ => True) (fun _ => False) (fun j => (j = bk ∨ j = bp ∨ j = bd ∨ j = bf ∨ j = bs ∨ j = bt) ∨ F j) w where
  fn := ⟨_, _, rfl⟩
  dlt := by
    rintro j ((rfl | rfl | rfl | rfl | rfl | rfl) | hj)
    · exact ⟨hB.1.lt, id⟩
    · exact ⟨hB.2.1.lt, id⟩
    · exact ⟨hB.2.2.1.lt, id⟩
    · exact ⟨hB.2.2.2.1.lt, id⟩
    · exact ⟨hB.2.2.2.2.1.lt, id⟩
    · exact ⟨hB.2.2.2.2.2.lt, id⟩
    · exact ⟨h.lt j hj, id⟩
  elt := fun _ h => h.elim
  stable := fun _ _ _ _ _ => trivial
  run := by
    intro σ step Rep y s S W hx _
    have ee : ((rangeL k to vs).map fun x => ((), x)).map (·.2) = rangeL k to vs := by simp [Function.comp_def]
    rw [ee] at hx ⊢
    refine CallV.of_calls (n := 0) (enters_of Try.func32 (by kernel_rfl) rfl) ?_
    obtain ⟨yf, ya, yc, rfl⟩ := hx.shape
    have hag := hx.agree
    have hW := h.agree (hag.mono fun j hj => .inr hj)
    obtain ⟨i1, i2, i3, i4, i5, i6⟩ := hB
    have nb1 := i1.agree hag (.inl (by simp))
    have nb2 := i2.agree hag (.inl (by simp))
    have nb3 := i3.agree hag (.inl (by simp))
    have nb4 := i4.agree hag (.inl (by simp))
    have nb5 := i5.agree hag (.inl (by simp))
    have nb6 := i6.agree hag (.inl (by simp))
    have hDW : ∀ j, ((j = bk ∨ j = bp ∨ j = bd ∨ j = bf ∨ j = bs ∨ j = bt) ∨ F j) → j < W.heap.size := by
      rintro j ((rfl | rfl | rfl | rfl | rfl | rfl) | hj)
      · exact nb1.lt
      · exact nb2.lt
      · exact nb3.lt
      · exact nb4.lt
      · exact nb5.lt
      · exact nb6.lt
      · exact hW.lt j hj
    have hown := hx.own
    obtain ⟨W0, hW0⟩ : ∃ W0, (W.alloc (.cells #[.func yf ya yc] 64)).alloc (.cells #[.string (k).1, .string (k).2.1, .int .i64 (k).2.2.1, .int .i64 (k).2.2.2] 24) = W0 := ⟨_, rfl⟩
    have hu0 : Upd (fun _ => False) W W0 := by rw [← hW0]; exact (Upd.alloc _ _ _).stepAlloc _
    have hy0 : Blk W0 W.heap.size #[.func yf ya yc] 64 := by rw [← hW0]; exact (Blk.new _ _ _).alloc _
    have hk0 : Blk W0 (W.heap.size + 1) #[.string (k).1, .string (k).2.1, .int .i64 (k).2.2.1, .int .i64 (k).2.2.2] 24 := by rw [← hW0]; exact Blk.new' (by simp)
    have uA : Upd (fun _ => False) W (W.alloc (.cells #[.func yf ya yc] 64)) := Upd.alloc _ _ _
    have c1 := (nb1.upd uA id).cell0
    have c2 := (nb2.upd uA id).cell0
    have c3 := (nb3.upd uA id).cell0
    have c4 := (nb4.upd uA id).cell0
    have hW1 := hW.upd hu0 fun _ _ => id
    obtain ⟨q, t, g1, g2, g3, g4⟩ := id hW1
    have hH := Lib.hid fun V (u : Upd (fun _ => False) W0 V) => show V.cell? ⟨bs, 0, none⟩ = some (.pointer (some ⟨sb, 0, none⟩)) ∧ V.cell? ⟨sb, 1, none⟩ = some (.pointer (some ⟨q, 0, none⟩)) ∧ V.cell? ⟨W.heap.size + 1, 0, none⟩ = some (.string k.1) ∧ V.cell? ⟨W.heap.size + 1, 1, none⟩ = some (.string k.2.1) ∧ V.cell? ⟨W.heap.size + 1, 2, none⟩ = some (.int .i64 k.2.2.1) ∧ V.cell? ⟨W.heap.size + 1, 3, none⟩ = some (.int .i64 k.2.2.2) from
      ⟨((nb5.upd hu0 id).upd u id).cell0, (g1.upd u id).cell 1, (hk0.upd u id).cell 0, (hk0.upd u id).cell 1, (hk0.upd u id).cell 2, (hk0.upd u id).cell 3⟩
    have ud : Upd (fun _ => False) W0 W0.drew := Upd.drew _ _
    have k1 := (rackFromCE (n := 0) (rb := q) (k := k) (w := W0.drew)).mono (R' := fun e W3 => ∃ bv bw, e = .returned (.func (.func 45) #[] #[.pointer (some ⟨bv, 0, none⟩), .pointer (some ⟨bw, 0, none⟩)]) ∧ (W.heap.size + 1 < bv ∧ bv < W3.heap.size ∧ W.heap.size + 1 < bw ∧ bw < W3.heap.size) ∧ Upd (fun _ => False) W0 W3 ∧
        SeqO Try.prog (.func (.func 45) #[] #[.pointer (some ⟨bv, 0, none⟩), .pointer (some ⟨bw, 0, none⟩)]) encCE ((behindL (fun a => decide (cmpC a k < 0)) (vs.map prE)).map fun x => ((), x)) () () (fun _ _ => True) (fun _ => False) (fun j => j = bv ∨ j = bw ∨ j = q ∨ t.has j) W3) (by
      rintro e W3 ⟨bv, bw, rfl, q1, q2, q3, q4, q5⟩
      have hz1 := hk0.lt
      have hz2 := ud.size
      exact ⟨bv, bw, rfl, ⟨by omega, q1.lt, by omega, q2.lt⟩, ud.trans' q5, fromSeqCE (g2.upd (ud.trans' q5) fun _ _ => id) q1 q2 cmpV_cell⟩)
    have hDq : ∀ j, (j = q ∨ t.has j) → F j := fun j hj => (g3 j).2 (.inr hj)
    have nt := nb6.upd hu0 id
    have nf := nb4.upd hu0 id
    replace k1 := Lib.hid k1
    replace hu0 := Lib.hid hu0
    clear h hW hW1 ee g1 g2 g3 g4 i1 i2 i3 i4 i5 i6 nb1 nb2 nb3 nb4 nb5 nb6 uA hag
    refine callsIn_of_wp_marks Try.func32 rfl trivial ?_
    simp only [Try.ntmps32, List.size_toArray, List.length_cons, List.length_nil, Nat.reduceAdd, Nat.reduceSub, Array.replicate_succ, Array.replicate_zero, List.push_toArray, List.append_toArray, List.nil_append, List.cons_append]
    replace hx := Lib.hid hx
    replace nt := Lib.hid nt
    replace nf := Lib.hid nf
    replace hk0 := Lib.hid hk0
    replace hy0 := Lib.hid hy0
    have hhd := hH.out _ ud
    gi_wp2_with (first | (rw [hW0]; skip))
    refine wpIn_eager [(0, true), (1, true), (2, true), (3, true), (4, true), (5, false)] (fun V => V.cell? ⟨bs, 0, none⟩ = some (.pointer (some ⟨sb, 0, none⟩)) ∧ V.cell? ⟨sb, 1, none⟩ = some (.pointer (some ⟨q, 0, none⟩)) ∧ V.cell? ⟨W.heap.size + 1, 0, none⟩ = some (.string k.1) ∧ V.cell? ⟨W.heap.size + 1, 1, none⟩ = some (.string k.2.1) ∧ V.cell? ⟨W.heap.size + 1, 2, none⟩ = some (.int .i64 k.2.2.1) ∧ V.cell? ⟨W.heap.size + 1, 3, none⟩ = some (.int .i64 k.2.2.2)) (by kernel_rfl) (by kernel_rfl) hhd ?_
    repeat (first | (refine wpE_fl rfl rfl (fun _ _ => rfl) ?_; go_simp) | (refine wpE_sk rfl rfl ?_; go_simp) | (refine wpE_fl (v := ?_) rfl rfl ?_ ?_; rotate_left; (intro W' h'; (try dsimp only at h'); go_simp; exact rfl); go_simp) | (refine wpE_ef rfl ?_; go_simp; gi_wp2_with (first | refine (⟨trivial, rfl, ?_⟩ : Fence.wide.fn _ ∧ Fence.wide.depth = none ∧ _) | refine (⟨trivial, trivial, rfl, ?_⟩ : Fence.wide.fn _ ∧ Fence.wide.fn _ ∧ Fence.wide.depth = none ∧ _) | (gi_at_call 33; (with_reducible refine k1.out.mono ?_); rintro e W3 ⟨bv, bw, rfl, hbb, hu3, hseq⟩; (replace hseq := Lib.hid hseq)) | refine (⟨trivial, ?_⟩ : Fence.wide.fn _ ∧ _)); (first | refine ⟨by first | exact (hH.out _ hu3), ?_⟩ | skip)))
    refine wpE_nil ?_
    have nt3 := nt.out.upd hu3 id
    have nf3 := nf.out.upd hu3 id
    have nk3 := hk0.out.upd hu3 id
    have ny3 := hy0.out.upd hu3 id
    have huW3 := hu0.out.trans' hu3
    have hzz := ny3.lt
    have hzk := nk3.lt
    clear hhd hH hk0 hy0 nt nf hW0 ud k1
    gi_wp2
    refine trans_each (fn := Try.f32) (trR k to) (D' := fun j => j = bv ∨ j = bw ∨ j = W.heap.size ∨ j = W.heap.size + 1 ∨ ((j = bk ∨ j = bp ∨ j = bd ∨ j = bf ∨ j = bs ∨ j = bt) ∨ F j)) hseq.out hx.out huW3 ?hDD ?hD' ?hDS rfl rfl (fun _ => rfl) rfl rfl (fun _ _ h => h) ?hQ ?hround
    case hDD =>
      rintro j (h | h | h)
      · exact .inl h
      · exact .inr (.inl h)
      · exact .inr (.inr (.inr (.inr (.inr (hDq j h)))))
    case hD' =>
      rintro j (h | h | h | h | h)
      · omega
      · omega
      · omega
      · omega
      · have := hDW j h; omega
    case hDS =>
      intro j hj
      have h1 := hown j hj
      rintro (h | h | h | h | h)
      · omega
      · omega
      · omega
      · omega
      · exact h1.2.1 h
    case hQ =>
      intro a' W' h
      exact ⟨h, h⟩
    case hround =>
      intro lb x W1 hlb hlW hxl hsz hA
      obtain ⟨kk, v⟩ := x
      clear hx hseq hxl
      gi_wp2
      refine ⟨(Upd.alloc _ _ _).stepAlloc _, ?_⟩
      intro Wb M Next Stop hub hbs hrec hE
      have zc := (Blk.new W1 #[.string (kk).1, .string (kk).2.1, .int .i64 (kk).2.2.1, .int .i64 (kk).2.2.2] 24).lt
      have xc := ((Blk.new W1 #[.string (kk).1, .string (kk).2.1, .int .i64 (kk).2.2.1, .int .i64 (kk).2.2.2] 24).alloc (.cells #[.int .i64 (v).ep, .string (v).key, .string (v).pol, .int .i64 (v).kd, .int .i64 (v).st, .int .i64 (v).rev, .bool (v).fin, .int .i64 (v).rk, .int .i64 (v).cnt, .int .i64 (v).sum, .int .i64 (v).mn, .int .i64 (v).mx, .int .i64 (v).q0, .int .i64 (v).q1, .int .i64 (v).q2, .bool (v).over] 63)).upd hub (by omega)
      have xe := (Blk.new' (w := W1.alloc (.cells #[.string (kk).1, .string (kk).2.1, .int .i64 (kk).2.2.1, .int .i64 (kk).2.2.2] 24)) (b := W1.heap.size + 1) (cs := #[.int .i64 (v).ep, .string (v).key, .string (v).pol, .int .i64 (v).kd, .int .i64 (v).st, .int .i64 (v).rev, .bool (v).fin, .int .i64 (v).rk, .int .i64 (v).cnt, .int .i64 (v).sum, .int .i64 (v).mn, .int .i64 (v).mx, .int .i64 (v).q0, .int .i64 (v).q1, .int .i64 (v).q2, .bool (v).over]) (t := 63) (by simp)).upd hub (by omega)
      have ag := hE.agree
      have y1 := ny3.agree ag (by simp)
      have y2 := nk3.agree ag (by simp)
      have y3 := nf3.agree ag (by simp)
      have y4 := nt3.agree ag (by simp)
      have e1 : Wb.cell? ⟨bf, 0, none⟩ = some (.int .i64 k.2.2.2) := y3.cell0
      have e2 : (Wb.alloc (.cells #[.string (kk).1, .string (kk).2.1, .int .i64 (kk).2.2.1, .int .i64 (kk).2.2.2] 24)).cell? ⟨bf, 0, none⟩ = some (.int .i64 k.2.2.2) := (y3.alloc _).cell0
      have hcx : Wb.cell? ⟨W1.heap.size, 0, none⟩ = some (.string (kk).1) ∧ Wb.cell? ⟨W1.heap.size, 1, none⟩ = some (.string (kk).2.1) ∧ Wb.cell? ⟨W1.heap.size, 2, none⟩ = some (.int .i64 (kk).2.2.1) ∧ Wb.cell? ⟨W1.heap.size, 3, none⟩ = some (.int .i64 (kk).2.2.2) := ⟨xc.cell 0, xc.cell 1, xc.cell 2, xc.cell 3⟩
      have uV : Upd (fun _ => False) Wb (Wb.alloc (.cells #[.string kk.1, .string kk.2.1, .int .i64 kk.2.2.1, .int .i64 k.2.2.2] 24)) := Upd.alloc _ _ _
      have hV : (Wb.alloc (.cells #[.string kk.1, .string kk.2.1, .int .i64 kk.2.2.1, .int .i64 k.2.2.2] 24)).cell? ⟨W.heap.size + 1, 0, none⟩ = some (.string (k).1) ∧ (Wb.alloc (.cells #[.string kk.1, .string kk.2.1, .int .i64 kk.2.2.1, .int .i64 k.2.2.2] 24)).cell? ⟨W.heap.size + 1, 1, none⟩ = some (.string (k).2.1) ∧ (Wb.alloc (.cells #[.string kk.1, .string kk.2.1, .int .i64 kk.2.2.1, .int .i64 k.2.2.2] 24)).cell? ⟨W.heap.size + 1, 2, none⟩ = some (.int .i64 (k).2.2.1) ∧ (Wb.alloc (.cells #[.string kk.1, .string kk.2.1, .int .i64 kk.2.2.1, .int .i64 k.2.2.2] 24)).cell? ⟨W.heap.size + 1, 3, none⟩ = some (.int .i64 (k).2.2.2) := ⟨(y2.upd uV id).cell 0, (y2.upd uV id).cell 1, (y2.upd uV id).cell 2, (y2.upd uV id).cell 3⟩
      have hVc : (Wb.alloc (.cells #[.string kk.1, .string kk.2.1, .int .i64 kk.2.2.1, .int .i64 k.2.2.2] 24)).cell? ⟨W1.heap.size, 3, none⟩ = some (.int .i64 kk.2.2.2) := (xc.upd uV id).cell 3
      have hVt : (Wb.alloc (.cells #[.string kk.1, .string kk.2.1, .int .i64 kk.2.2.1, .int .i64 k.2.2.2] 24)).cell? ⟨bt, 0, none⟩ = some (.int .i64 to) := (y4.upd uV id).cell0
      have hVy : (Wb.alloc (.cells #[.string kk.1, .string kk.2.1, .int .i64 kk.2.2.1, .int .i64 k.2.2.2] 24)).cell? ⟨W.heap.size, 0, none⟩ = some (.func yf ya yc) := (y1.upd uV id).cell0
      have hVx : (Wb.alloc (.cells #[.string kk.1, .string kk.2.1, .int .i64 kk.2.2.1, .int .i64 k.2.2.2] 24)).cell? ⟨W1.heap.size + 1, 0, none⟩ = some (.int .i64 (v).ep) ∧ (Wb.alloc (.cells #[.string kk.1, .string kk.2.1, .int .i64 kk.2.2.1, .int .i64 k.2.2.2] 24)).cell? ⟨W1.heap.size + 1, 1, none⟩ = some (.string (v).key) ∧ (Wb.alloc (.cells #[.string kk.1, .string kk.2.1, .int .i64 kk.2.2.1, .int .i64 k.2.2.2] 24)).cell? ⟨W1.heap.size + 1, 2, none⟩ = some (.string (v).pol) ∧ (Wb.alloc (.cells #[.string kk.1, .string kk.2.1, .int .i64 kk.2.2.1, .int .i64 k.2.2.2] 24)).cell? ⟨W1.heap.size + 1, 3, none⟩ = some (.int .i64 (v).kd) ∧ (Wb.alloc (.cells #[.string kk.1, .string kk.2.1, .int .i64 kk.2.2.1, .int .i64 k.2.2.2] 24)).cell? ⟨W1.heap.size + 1, 4, none⟩ = some (.int .i64 (v).st) ∧ (Wb.alloc (.cells #[.string kk.1, .string kk.2.1, .int .i64 kk.2.2.1, .int .i64 k.2.2.2] 24)).cell? ⟨W1.heap.size + 1, 5, none⟩ = some (.int .i64 (v).rev) ∧ (Wb.alloc (.cells #[.string kk.1, .string kk.2.1, .int .i64 kk.2.2.1, .int .i64 k.2.2.2] 24)).cell? ⟨W1.heap.size + 1, 6, none⟩ = some (.bool (v).fin) ∧ (Wb.alloc (.cells #[.string kk.1, .string kk.2.1, .int .i64 kk.2.2.1, .int .i64 k.2.2.2] 24)).cell? ⟨W1.heap.size + 1, 7, none⟩ = some (.int .i64 (v).rk) ∧ (Wb.alloc (.cells #[.string kk.1, .string kk.2.1, .int .i64 kk.2.2.1, .int .i64 k.2.2.2] 24)).cell? ⟨W1.heap.size + 1, 8, none⟩ = some (.int .i64 (v).cnt) ∧ (Wb.alloc (.cells #[.string kk.1, .string kk.2.1, .int .i64 kk.2.2.1, .int .i64 k.2.2.2] 24)).cell? ⟨W1.heap.size + 1, 9, none⟩ = some (.int .i64 (v).sum) ∧ (Wb.alloc (.cells #[.string kk.1, .string kk.2.1, .int .i64 kk.2.2.1, .int .i64 k.2.2.2] 24)).cell? ⟨W1.heap.size + 1, 10, none⟩ = some (.int .i64 (v).mn) ∧ (Wb.alloc (.cells #[.string kk.1, .string kk.2.1, .int .i64 kk.2.2.1, .int .i64 k.2.2.2] 24)).cell? ⟨W1.heap.size + 1, 11, none⟩ = some (.int .i64 (v).mx) ∧ (Wb.alloc (.cells #[.string kk.1, .string kk.2.1, .int .i64 kk.2.2.1, .int .i64 k.2.2.2] 24)).cell? ⟨W1.heap.size + 1, 12, none⟩ = some (.int .i64 (v).q0) ∧ (Wb.alloc (.cells #[.string kk.1, .string kk.2.1, .int .i64 kk.2.2.1, .int .i64 k.2.2.2] 24)).cell? ⟨W1.heap.size + 1, 13, none⟩ = some (.int .i64 (v).q1) ∧ (Wb.alloc (.cells #[.string kk.1, .string kk.2.1, .int .i64 kk.2.2.1, .int .i64 k.2.2.2] 24)).cell? ⟨W1.heap.size + 1, 14, none⟩ = some (.int .i64 (v).q2) ∧ (Wb.alloc (.cells #[.string kk.1, .string kk.2.1, .int .i64 kk.2.2.1, .int .i64 k.2.2.2] 24)).cell? ⟨W1.heap.size + 1, 15, none⟩ = some (.bool (v).over) := ⟨(xe.upd uV id).cell 0, (xe.upd uV id).cell 1, (xe.upd uV id).cell 2, (xe.upd uV id).cell 3, (xe.upd uV id).cell 4, (xe.upd uV id).cell 5, (xe.upd uV id).cell 6, (xe.upd uV id).cell 7, (xe.upd uV id).cell 8, (xe.upd uV id).cell 9, (xe.upd uV id).cell 10, (xe.upd uV id).cell 11, (xe.upd uV id).cell 12, (xe.upd uV id).cell 13, (xe.upd uV id).cell 14, (xe.upd uV id).cell 15⟩
      have q1 : ∀ w, (binOp .neq 24 (.agg #[.string kk.1, .string kk.2.1, .int .i64 kk.2.2.1, .int .i64 k.2.2.2]) (.agg #[.string (k).1, .string (k).2.1, .int .i64 (k).2.2.1, .int .i64 (k).2.2.2])).run Try.prog w = .ok (.bool (!decide ((kk.1, kk.2.1, kk.2.2.1, k.2.2.2) = k))) w := fun w => neqC1 (kk.1, kk.2.1, kk.2.2.1, k.2.2.2) k w
      have q2 := guardC
      obtain ⟨a0, a1, a2, a3⟩ := hcx
      obtain ⟨b0, b1, b2, b3⟩ := hV
      obtain ⟨x0, x1, x2, x3, x4, x5, x6, x7, x8, x9, x10, x11, x12, x13, x14, x15⟩ := hVx
      by_cases hc : (kk.1, kk.2.1, kk.2.2.1, k.2.2.2) = k ∧ kk.2.2.2 < to
      · have htr : (trR k to (kk, v)) = (some v, true) := if_pos hc
        have hz := hE.yield v (by rw [htr]) _ uV
        rw [htr] at hz
        obtain ⟨hc1, hc2⟩ := hc
        have hd := Lib.hid (decide_eq_false (show ¬ to ≤ kk.2.2.2 by omega))
        simp only [decide_eq_true hc1, Bool.not_true] at q1
        replace hz := Lib.hid hz
        replace hE := Lib.hid hE
        clear hub hrec hA ag y1 y2 y3 y4 xc xe zc uV htr ny3 nk3 nf3 nt3 hc1
        gi_wp2_with (first | ((with_reducible refine listV1g hz.out ?_ ?_ ?_ ?_); exact congrArg some hd.out; rfl; rfl; rintro v W4 ⟨b, rfl, hm, hn, hs⟩; (replace hn := Lib.hid hn); (replace hs := Lib.hid hs); cases b))
        · exact hs.out (.inl (by first | rfl | trivial))
        · exact hn.out (by first | rfl | trivial) (by first | rfl | trivial)
      · have htr : (trR k to (kk, v)) = (none, false) := if_neg hc
        have hz := (hE.none (by rw [htr]) _ uV).2 (by rw [htr])
        replace hz := Lib.hid hz
        replace hE := Lib.hid hE
        clear hub hrec hA ag y1 y2 y3 y4 xc xe zc uV htr ny3 nk3 nf3 nt3
        by_cases hc1 : (kk.1, kk.2.1, kk.2.2.1, k.2.2.2) = k
        · have hc2 : ¬ kk.2.2.2 < to := fun h => hc ⟨hc1, h⟩
          simp only [decide_eq_true hc1, Bool.not_true] at q1
          have hd := Lib.hid (decide_eq_true (show to ≤ kk.2.2.2 by omega))
          clear hc hc1
          gi_wp2_with (first | ((with_reducible refine listSkipV ?_ ?_ ?_); exact (show (some (decide (to ≤ kk.2.2.2)) == some false) = false from by rw [hd.out]; rfl); rfl))
          exact hz.out
        · simp only [decide_eq_false hc1, Bool.not_false] at q1
          clear hc hc1
          gi_wp2_with (first | ((with_reducible refine listSkipV ?_ ?_ ?_); rfl; rfl))
          exact hz.out
end
end Go.Proofs.Ytadeechoknpjhaa

/- sack's Near. Things of kind int. -/
import Derived.Test.YtjlobcbjhnfjcaaProg
import Derived.Test.YtjlobcbjhnfjcaaBase
import Derived.Test.YtjlobcbjhnfjcaaSkIB
import Derived.Laws.ResultCell
namespace Go.Proofs.Ytjlobcbjhnfjcaa
open Go.RowKit Go.Shelf
attribute [local go_sem] Oper.semAt_some

theorem results_cell2I {fn : Func} {p q : Tmp} {t1 t2 : TypeId} {P : Program} {w : World} {tmps : Array Value} {a b : Addr} {v1 v2 : Value} (h : fn.results = #[.cell p t1, .cell q t2]) (h1 : (isAgg t1).run P w = .ok false w) (h2 : (isAgg t2).run P w = .ok false w)
    (ha : tmps[p]?.getD undef = .pointer (some a)) (hb : tmps[q]?.getD undef = .pointer (some b)) (c1 : w.cell? a = some v1) (c2 : w.cell? b = some v2) : (results fn tmps).run P w = .ok (.tuple #[v1, v2]) w := by
  simp only [results, h]
  simp [Sem.run_bind, Result.andThen, ha, hb, asAddr, loadVar, h1, h2, c1, c2]
def nearLI (t q : Int) : Int → List Int → Option Int
  | _, [] => none
  | b, x :: l => if t ≤ (b + 1) * q then some x else nearLI t q (b + 1) l
/-- The document's: the one at the nearest rank, or what is wrong. -/
def nearSI (p q : Int) (ls : List Int) : Option Int × Int :=
  if q < 1 ∨ 1000000 < q ∨ p < 0 ∨ q < p then (none, 1) else match nearLI (p * ls.length) q 0 ls with
  | some x => (some x, 0)
  | none => (none, 5)
def stepNearI (t q : Int) (s : Int × Option Int) (e : Int × Int) : (Int × Option Int) × Option Code := if t ≤ (s.1 + e.2) * q then ((s.1 + e.2, some e.1), some .ret) else ((s.1 + e.2, none), none)
theorem near_repI {t q : Int} (hq : 0 ≤ q) (x : Int) (rest : List Int) : ∀ (c : Nat) (b : Int), nearLI t q b (List.replicate c x ++ rest) = if 0 < c ∧ t ≤ (b + c) * q then some x else nearLI t q (b + c) rest
  | 0, b => by simp
  | c + 1, b => by
    rw [List.replicate_succ, List.cons_append, nearLI, near_repI hq x rest c]
    have e : b + 1 + (c : Int) = b + ((c + 1 : Nat) : Int) := by push_cast; omega
    rw [e]
    have hm : (b + 1) * q ≤ (b + ((c + 1 : Nat) : Int)) * q := Int.mul_le_mul_of_nonneg_right (by omega) hq
    by_cases h1 : t ≤ (b + 1) * q
    · rw [if_pos h1, if_pos ⟨by omega, by omega⟩]
    · rw [if_neg h1]
      by_cases hc : 0 < c
      · simp [hc]
      · obtain rfl : c = 0 := by omega
        simp at h1 ⊢
        intro h2; omega
theorem goR_nearI {t q : Int} (hq : 0 ≤ q) : ∀ (lr : List (Int × Int)) (b : Int), (∀ e ∈ lr, 0 < e.2) →
    (goR (stepNearI t q) (b, none) lr).1.2 = nearLI t q b (expand lr) ∧ ((nearLI t q b (expand lr)) = none → (goR (stepNearI t q) (b, none) lr) = ((b + (expand lr).length, none), none)) ∧ ((nearLI t q b (expand lr)) ≠ none → (goR (stepNearI t q) (b, none) lr).2 = some .ret)
  | [], b, _ => by simp [goR, expand, nearLI]
  | e :: lr, b, h => by
    have ex : expand (e :: lr) = List.replicate e.2.toNat e.1 ++ expand lr := rfl
    have he := h e (List.mem_cons_self ..)
    have hc : (e.2.toNat : Int) = e.2 := Int.toNat_of_nonneg (by omega)
    obtain ⟨i1, i2, i3⟩ := goR_nearI hq lr (b + e.2) fun y hy => h y (List.mem_cons_of_mem _ hy)
    rw [ex, near_repI hq, hc]
    have h0 : 0 < e.2.toNat := by omega
    simp only [h0, true_and, goR, stepNearI]
    by_cases h1 : t ≤ (b + e.2) * q
    · simp [h1]
    · simp only [h1, if_false]
      refine ⟨i1, fun hn => ?_, i3⟩
      rw [i2 hn]
      simp [hc]; omega

theorem prod_smallI {a q : Int} (h0 : 0 ≤ a) (h1 : a ≤ 1000) (h2 : 0 ≤ q) (h3 : q ≤ 1000000) : 0 ≤ a * q ∧ a * q ≤ 1000000000 :=
  ⟨Int.mul_nonneg h0 h2, by have := Int.mul_le_mul h1 h3 h2 (by omega); omega⟩
def NearII (sb B : Nat) (p q : Int) (s : Int × Option Int) (S1 : Nat → Prop) (W1 : World) : Prop :=
  (∀ i, i < 6 → S1 (B + i)) ∧ Blk W1 B #[.pointer (some ⟨sb, 0, none⟩)] 24 ∧ Blk W1 (B + 1) #[.int .i64 p] 3 ∧ Blk W1 (B + 1 + 1) #[.int .i64 q] 3 ∧
    Blk W1 (B + 1 + 1 + 1) #[(s.2.map fun x => Value.int .i64 x).getD (.int .i64 0)] 3 ∧ Blk W1 (B + 1 + 1 + 1 + 1) #[.int .i64 0] 27 ∧ Blk W1 (B + 1 + 1 + 1 + 1 + 1) #[.int .i64 s.1] 3
theorem NearII.upd {sb B : Nat} {p q : Int} {s : Int × Option Int} {S1 : Nat → Prop} {W1 W2 : World} (h : NearII sb B p q s S1 W1) (ha : Agree S1 W1 W2) : NearII sb B p q s S1 W2 := by
  obtain ⟨h00, h2, h3, h4, h5, h6, h7⟩ := h
  exact ⟨h00, h2.agree ha (h00 0 (by omega)), h3.agree ha (h00 1 (by omega)), h4.agree ha (h00 2 (by omega)), h5.agree ha (h00 3 (by omega)), h6.agree ha (h00 4 (by omega)), h7.agree ha (h00 5 (by omega))⟩

section SkI
variable {sb : Nat} {ls : List Int} {room : Int} {F : Nat → Prop} {W W2 : World}
def keyVI (o : Option Int) : Value := (o.map fun x => Value.int .i64 x).getD (.int .i64 0)
set_option maxRecDepth 100000 in
set_option maxHeartbeats 4000000 in
theorem sackNearI {n : Nat} (h : SkI sb ls room F W) (hs : Srt cmpI ls) (p q : Int) : CallsIn Fence.wide n Try.prog 9 #[.pointer (some ⟨sb, 0, none⟩), .int .i64 p, .int .i64 q] W fun e W2 => e = .returned (.tuple #[keyVI (nearSI p q ls).1, .int .i64 (nearSI p q ls).2]) ∧ Upd (fun _ => False) W W2 := by
  have hr := h.len_le
  have agg1 : ∀ w, (isAgg 3).run Try.prog w = .ok false w := run_isAgg_plain rfl rfl
  have agg2 : ∀ w, (isAgg 27).run Try.prog w = .ok false w := run_isAgg_plain rfl rfl
  have c1 : ∀ W1, Upd (fun _ => False) W W1 → W1.cell? ⟨sb, 2, none⟩ = some (.int .i64 ls.length) := fun W2 hu => by
    obtain ⟨rb, t, lr, h1, _⟩ := h
    exact (h1.upd hu id).cell 2
  have k1 := fun W1 hu => sackRunsI (n := 0) (h.upd (W2 := W1) hu fun _ _ => id)
  have u5 : Upd (fun _ => False) W (((((W.alloc (.cells #[.pointer (some ⟨sb, 0, none⟩)] 24)).alloc (.cells #[.int .i64 p] 3)).alloc (.cells #[.int .i64 q] 3)).alloc (.cells #[(.int .i64 0)] 3)).alloc (.cells #[.int .i64 0] 27)) :=
    (((((Upd.refl (fun _ => False) W).stepAlloc _).stepAlloc _).stepAlloc _).stepAlloc _).stepAlloc _
  have c5 := c1 _ u5
  have k6 := k1 _ (u5.stepAlloc (.cells #[.int .i64 0] 3))
  replace u5 := Lib.hid u5
  replace k6 := Lib.hid k6
  clear k1
  obtain ⟨rb, hb1⟩ : ∃ rb, Blk W sb #[.pointer (some ⟨rb, 0, none⟩), .int .i64 room, .int .i64 ls.length] 61 := by
    obtain ⟨rb, t, lr, h1, _⟩ := h
    exact ⟨rb, h1⟩
  have hFl := h.lt
  replace hFl := Lib.hid hFl
  replace hb1 := Lib.hid hb1
  clear h
  refine callsIn_any (n := 0) (callsIn_of_wp_marks Try.func9 rfl trivial ?_)
  simp only [Try.ntmps9, List.size_toArray, List.length_cons, List.length_nil, Nat.reduceAdd, Nat.reduceSub, Array.replicate_succ, Array.replicate_zero, List.push_toArray, List.append_toArray, List.nil_append, List.cons_append]
  gi_wp2
  rotate_left 2
  · have hq1 : 1 ≤ q := by omega
    have hq2 : q ≤ 1000000 := by omega
    have hp1 : 0 ≤ p := by omega
    have hp2 : p ≤ q := by omega
    gi_wp2_with (first | refine (⟨trivial, rfl, ?_⟩ : Fence.wide.fn _ ∧ Fence.wide.depth = none ∧ _) | (gi_at_call 12; (with_reducible refine k6.out.mono ?_); rintro e W2 ⟨bv, lr, rfl, hbag, hbv, hu2, hseq⟩; (replace hseq := Lib.hid hseq); (replace hbag := Lib.hid hbag); (replace hu2 := Lib.hid hu2); (replace hbv := Lib.hid hbv)) | refine (⟨trivial, ?_⟩ : Fence.wide.fn _ ∧ _))
    rename_i KK hKK
    have hexp := hbag.out.expand ordrI hs
    have hpos := hbag.out.pos
    have z2 := hu2.out.size
    simp only [World.size_alloc] at z2
    have zbv := hbv.out
    simp only [World.size_alloc] at zbv
    have eel : (lr.map fun x => ((), x)).map (·.2) = lr := by simp [Function.comp_def]
    have hsb := hb1.out.lt
    have hW2 : Upd (fun _ => False) W W2 := (u5.out.stepAlloc _).trans' hu2.out
    have hI0 : NearII sb W.heap.size p q (0, none) (fun k => W.heap.size ≤ k ∧ k < W.heap.size + 6) W2 :=
      ⟨fun i hi => by omega, (((((((Blk.new' rfl).alloc _).alloc _).alloc _).alloc _).alloc _).upd hu2.out id), ((((((Blk.new' (by simp)).alloc _).alloc _).alloc _).alloc _).upd hu2.out id), (((((Blk.new' (by simp)).alloc _).alloc _).alloc _).upd hu2.out id),
        ((((Blk.new' (by simp)).alloc _).alloc _).upd hu2.out id), (((Blk.new' (by simp)).alloc _).upd hu2.out id), ((Blk.new' (by simp)).upd hu2.out id)⟩
    replace hI0 := Lib.hid hI0
    refine wpIn_range_out hseq.out rfl (Nat.le_refl _) (Agree.refl _ _) trivial (fun _ => rfl) (stepNearI (p * ls.length) q) (NearII sb W.heap.size p q) (0, none) (fun k => W.heap.size ≤ k ∧ k < W.heap.size + 6) ?hS ?hstab hI0.out ?hround ?hend
    case hS =>
      rintro k hk
      refine ⟨by omega, ?_, id⟩
      rintro (h | ⟨h, _⟩)
      · omega
      · have := hFl.out k h; omega
    case hstab => exact fun s S1 Wa Wb h hA _ => h.upd hA
    case hround =>
      rintro lb pre e suf s1 S1 W1 hlb he hgo hi hsz hu1 hS1
      rw [eel] at he
      have hlr : (expand pre).length + e.2.toNat ≤ ls.length := by
        rw [← hexp, he]
        simp [expand, List.length_append]
      obtain ⟨g1, g2, g3⟩ := goR_nearI (t := p * ls.length) (q := q) (by omega) pre 0 fun y hy => (hpos y (by rw [he]; simp [hy])).1
      have hes := hpos e (by rw [he]; simp)
      have hn : nearLI (p * ls.length) q 0 (expand pre) = none := by
        cases hn : nearLI (p * ls.length) q 0 (expand pre) with
        | none => rfl
        | some x =>
          rw [hn, hgo] at g3
          simp at g3
      have hs1 := g2 hn
      rw [hgo] at hs1
      obtain rfl : s1 = (((expand pre).length : Int), none) := by simpa using (Prod.mk.inj hs1).1
      obtain ⟨x, c⟩ := e
      obtain ⟨b, hb⟩ : ∃ b : Int, b = ((expand pre).length : Int) := ⟨_, rfl⟩
      have hbc : 0 ≤ b + c ∧ b + c ≤ 1000 := by
        simp only at hlr hes
        omega
      rw [← hb] at hi ⊢
      obtain ⟨p1, p2⟩ := prod_smallI hbc.1 hbc.2 (by omega) hq2 (q := q)
      obtain ⟨p3, p4⟩ := prod_smallI (a := (ls.length : Int)) (q := p) (by omega) (by omega) hp1 (by omega)
      rw [Int.mul_comm] at p3 p4
      have hw1 : IntKind.i64.wrap (b + c) = b + c := Go.IntWalk.i64_in _ ⟨by omega, by omega⟩
      have hw2 : IntKind.i64.wrap ((b + c) * q) = (b + c) * q := Go.IntWalk.i64_in _ ⟨by omega, by omega⟩
      have hw3 : IntKind.i64.wrap (p * (ls.length : Int)) = p * (ls.length : Int) := Go.IntWalk.i64_in _ ⟨by omega, by omega⟩
      obtain ⟨i1, i2, i3, i4, i5, i6, i7⟩ := hi
      have hz1 := hu1.size
      have hsb1 : Blk W1 sb #[.pointer (some ⟨rb, 0, none⟩), .int .i64 room, .int .i64 ls.length] 61 := (hb1.out.upd hW2 id).upd hu1 fun h => by
        rcases h with h | h
        · omega
        · exact h
      have hB : ∀ i, i < 6 → W.heap.size + i ≠ lb ∧ W.heap.size + i < W1.heap.size := fun i hi => ⟨(hS1 _ (i1 i hi)).2.1, (hS1 _ (i1 i hi)).1⟩
      have hB0 := hB 0 (by omega)
      have hB1 := hB 1 (by omega)
      have hB2 := hB 2 (by omega)
      have hB3 := hB 3 (by omega)
      have hB4 := hB 4 (by omega)
      have hB5 := hB 5 (by omega)
      clear g1 g2 g3 hexp hpos hbag hseq hI0 hgo hn hs1 hKK KK hlr hes k6 c5 u5 he hB hb
      gi_wp2
      refine ⟨Upd.refl _ _, ?_⟩
      intro Wb hub hbs hrec hrec2
      replace hbs := Lib.hid hbs
      replace hrec2 := Lib.hid hrec2
      have j2 := i2.upd hub (by omega)
      have j3 := i3.upd hub (by omega)
      have j4 := i4.upd hub (by omega)
      have j5 := i5.upd hub (by omega)
      have j6 := i6.upd hub (by omega)
      have j7 := i7.upd hub (by omega)
      have j1 := hsb1.upd hub (by omega)
      have d7 := j7.cell0
      have f7 := j7.frozen 0
      have l7 := j7.lt
      have j7' := j7.set 0 (.int .i64 (b + c))
      have j2' := (j2.other (p := ⟨W.heap.size + 1 + 1 + 1 + 1 + 1, 0, none⟩) (by dsimp only; omega) (.int .i64 (b + c))).upd (Upd.drew (fun _ => False) _) id
      have j3' := (j3.other (p := ⟨W.heap.size + 1 + 1 + 1 + 1 + 1, 0, none⟩) (by dsimp only; omega) (.int .i64 (b + c))).upd (Upd.drew (fun _ => False) _) id
      have j4' := (j4.other (p := ⟨W.heap.size + 1 + 1 + 1 + 1 + 1, 0, none⟩) (by dsimp only; omega) (.int .i64 (b + c))).upd (Upd.drew (fun _ => False) _) id
      have j5' := (j5.other (p := ⟨W.heap.size + 1 + 1 + 1 + 1 + 1, 0, none⟩) (by dsimp only; omega) (.int .i64 (b + c))).upd (Upd.drew (fun _ => False) _) id
      have j6' := (j6.other (p := ⟨W.heap.size + 1 + 1 + 1 + 1 + 1, 0, none⟩) (by dsimp only; omega) (.int .i64 (b + c))).upd (Upd.drew (fun _ => False) _) id
      have j7' := (j7.set 0 (.int .i64 (b + c))).upd (Upd.drew (fun _ => False) _) id
      have j1' := (j1.other (p := ⟨W.heap.size + 1 + 1 + 1 + 1 + 1, 0, none⟩) (by dsimp only; omega) (.int .i64 (b + c))).upd (Upd.drew (fun _ => False) _) id
      have e1 : ((Wb.setCell ⟨W.heap.size + 1 + 1 + 1 + 1 + 1, 0, none⟩ (.int .i64 (b + c))).drew).cell? ⟨sb, 2, none⟩ = some (.int .i64 ls.length) := j1'.cell 2
      gi_wp2
      refine wpIn_eager [(0, true), (1, true), (2, true), (3, true), (4, true), (5, true), (6, true), (7, true), (8, true), (9, true)] (fun V => V.cell? ⟨W.heap.size + 1 + 1 + 1 + 1 + 1, 0, none⟩ = some (.int .i64 (b + c)) ∧ V.cell? ⟨W.heap.size + 1 + 1, 0, none⟩ = some (.int .i64 q) ∧ V.cell? ⟨W.heap.size + 1, 0, none⟩ = some (.int .i64 p) ∧ V.cell? ⟨W.heap.size, 0, none⟩ = some (.pointer (some ⟨sb, 0, none⟩)) ∧ V.cell? ⟨sb, 2, none⟩ = some (.int .i64 ls.length)) (by kernel_rfl) (by kernel_rfl) ⟨j7'.cell0, j4'.cell0, j3'.cell0, j2'.cell0, e1⟩ ?_
      repeat (first | (refine wpE_fl rfl rfl (fun _ _ => rfl) ?_; go_simp) | (refine wpE_sk rfl rfl ?_; go_simp) | (refine wpE_fl (v := ?_) rfl rfl ?_ ?_; rotate_left; (intro W' h'; (try dsimp only at h'); go_simp; exact rfl); go_simp) | (refine wpE_ef rfl ?_; go_simp; gi_wp2_with (first | refine (⟨trivial, rfl, ?_⟩ : Fence.wide.fn _ ∧ Fence.wide.depth = none ∧ _) | refine (⟨trivial, trivial, rfl, ?_⟩ : Fence.wide.fn _ ∧ Fence.wide.fn _ ∧ Fence.wide.depth = none ∧ _) | refine (⟨trivial, ?_⟩ : Fence.wide.fn _ ∧ _)); (first | refine ⟨by first | exact trivial, ?_⟩ | skip)))
      refine wpE_nil ?_
      have x5 := j5.cell0
      have y5 := j5.frozen 0
      have z5 := j5.lt
      have x6 := j6.cell0
      have y6 := j6.frozen 0
      have z6 := j6.lt
      have hzb := hub.size
      have hu7 : Upd S1 Wb ((Wb.setCell ⟨W.heap.size + 1 + 1 + 1 + 1 + 1, 0, none⟩ (.int .i64 (b + c))).drew) := ((Upd.refl S1 Wb).stepSet (.inl (i1 5 (by omega))) _).stepDrew
      gi_wp2
      · rename_i hge
        have e : stepNearI (p * ls.length) q (b, none) (x, c) = ((b + c, some x), some .ret) := by
          unfold stepNearI
          rw [if_pos hge]
        unfold bodyP
        rw [e]
        refine ⟨rfl, S1, ⟨i1, ?_, ?_, ?_, ?_, ?_, ?_⟩, ?_, ?_⟩
        · exact (((j2.other (by dsimp only; omega) _).other (by dsimp only; omega) _).other (by dsimp only; omega) _).upd (Upd.drew (fun _ => False) _) id
        · exact (((j3.other (by dsimp only; omega) _).other (by dsimp only; omega) _).other (by dsimp only; omega) _).upd (Upd.drew (fun _ => False) _) id
        · exact (((j4.other (by dsimp only; omega) _).other (by dsimp only; omega) _).other (by dsimp only; omega) _).upd (Upd.drew (fun _ => False) _) id
        · exact (((j5.other (by dsimp only; omega) _).set 0 _).other (by dsimp only; omega) _).upd (Upd.drew (fun _ => False) _) id
        · exact (((j6.other (by dsimp only; omega) _).other (by dsimp only; omega) _).set 0 _).upd (Upd.drew (fun _ => False) _) id
        · exact (((j7.set 0 _).other (by dsimp only; omega) _).other (by dsimp only; omega) _).upd (Upd.drew (fun _ => False) _) id
        · exact ((((Upd.refl _ Wb).stepSet (.inl (.inl (i1 5 (by omega)))) _).stepSet (.inl (.inl (i1 3 (by omega)))) _).stepSet (.inl (.inl (i1 4 (by omega)))) _).stepDrew
        · exact fun k hk => ⟨by have := (hS1 k hk).1; simp; omega, .inl (.inl hk)⟩
      · rename_i hge
        have e : stepNearI (p * ls.length) q (b, none) (x, c) = ((b + c, none), none) := by
          unfold stepNearI
          rw [if_neg (by dsimp only; omega)]
        unfold bodyP
        rw [e]
        exact ⟨rfl, S1, ⟨i1, j2', j3', j4', j5', j6', j7'⟩, ((Upd.refl _ Wb).stepSet (.inl (.inl (i1 5 (by omega)))) _).stepDrew, fun k hk => ⟨by have := (hS1 k hk).1; simp; omega, .inl (.inl hk)⟩⟩
    case hend =>
      intro S' W' hI hOw hu1 hsz hS' hdef
      rw [eel] at hI ⊢
      have hgn := goR_nearI (t := p * ls.length) (q := q) (by omega) lr 0 fun y hy => (hpos y hy).1
      rw [hexp] at hgn
      obtain ⟨g1, g2, g3⟩ := hgn
      have hu : Upd (fun _ => False) W W' := hW2.trans hu1 fun k hk => by
        rcases hk with h | h
        · exact .inr h.1
        · exact h.elim
      have hfin : ∀ o r, nearSI p q ls = (o, r) → Upd (fun _ => False) W W' → True := fun _ _ _ _ => trivial
      clear hfin
      cases hn : nearLI (p * ls.length) q 0 ls with
      | none =>
        have e : nearSI p q ls = (none, 5) := by
          unfold nearSI
          rw [if_neg (by omega), hn]
        rw [hn] at g1 g2
        replace g2 := g2 rfl
        simp only [g2] at hI ⊢
        obtain ⟨_, i2, i3, i4, i5, i6, i7⟩ := hI
        have c5' := i5.cell0
        have c6' := i6.cell0
        have f5 := i5.frozen 0
        have f6 := i6.frozen 0
        have l5 := i5.lt
        have l6 := i6.lt
        clear g1 g2 g3 hexp hpos hbag hseq hI0
        gi_wp2
        have hd' : ((W'.setCell ⟨W.heap.size + 1 + 1 + 1, 0, none⟩ (.int .i64 0)).setCell ⟨W.heap.size + 1 + 1 + 1 + 1, 0, none⟩ (.int .i64 5)).heap[W2.heap.size]? = some (.deferred (some [])) := by
          rw [Below.heap_setCell _ _ _ _ (by dsimp only; omega), Below.heap_setCell _ _ _ _ (by dsimp only; omega)]; exact hdef
        have q5 := (i5.set 0 (.int .i64 0)).other (p := ⟨W.heap.size + 1 + 1 + 1 + 1, 0, none⟩) (by simp) (.int .i64 5)
        have q6 := (i6.other (p := ⟨W.heap.size + 1 + 1 + 1, 0, none⟩) (by simp) (.int .i64 0)).set 0 (.int .i64 5)
        refine ⟨by simp, .inl ⟨_, _, rfl, run_takeDeferred hd', ⟨_, results_cell2I rfl (agg1 _) (agg2 _) rfl rfl (q5.upd (Upd.putObj (M := fun j => j = W2.heap.size) rfl _) (by omega)).cell0 (q6.upd (Upd.putObj (M := fun j => j = W2.heap.size) rfl _) (by omega)).cell0, ?_⟩⟩⟩
        exact ⟨rfl, ((hu.stepSet (.inr (by dsimp only; omega)) _).stepSet (.inr (by dsimp only; omega)) _).stepPut (.inr (by omega)) _⟩
      | some x => 
        rw [hn] at g1 g3
        replace g3 := g3 (by simp)
        have e : nearSI p q ls = (some x, 0) := by
          unfold nearSI
          rw [if_neg (by omega), hn]
        obtain ⟨_, i2, i3, i4, i5, i6, i7⟩ := hI
        rw [g1] at i5
        simp only [g3]
        clear g1 g2 g3 hexp hpos hbag hseq hI0
        gi_wp2
        rw [e]
        refine ⟨by simp, .inl ⟨_, _, rfl, run_takeDeferred hdef, ⟨_, results_cell2I rfl (agg1 _) (agg2 _) rfl rfl (i5.upd (Upd.putObj (M := fun j => j = W2.heap.size) rfl _) (by omega)).cell0 (i6.upd (Upd.putObj (M := fun j => j = W2.heap.size) rfl _) (by omega)).cell0, ?_⟩⟩⟩
        exact ⟨rfl, hu.stepPut (.inr (by omega)) _⟩
  iterate 4
    · refine ⟨.tuple #[(.int .i64 0), .int .i64 1], results_cell2I rfl (agg1 _) (agg2 _) rfl rfl ((Blk.new' (by simp)).alloc _).cell0 (Blk.new' (by simp)).cell0, ?_⟩
      have e : nearSI p q ls = (none, 1) := by
        unfold nearSI
        rw [if_pos (by omega)]
      rw [e]
      exact ⟨rfl, ((((Upd.refl (fun _ => False) W).stepAlloc _).stepAlloc _).stepAlloc _).stepAlloc _ |>.stepAlloc _⟩
  · rename_i hc1 hc2
    refine ⟨.tuple #[(.int .i64 0), .int .i64 5], results_cell2I rfl (agg1 _) (agg2 _) rfl rfl ((Blk.new' (by simp)).alloc _).cell0 (Blk.new' (by simp)).cell0, ?_⟩
    have hl : ls = [] := by simpa using hc2
    have e : nearSI p q ls = (none, 5) := by
      unfold nearSI
      rw [if_neg (by omega), hl]
      rfl
    rw [e]
    exact ⟨rfl, ((((Upd.refl (fun _ => False) W).stepAlloc _).stepAlloc _).stepAlloc _).stepAlloc _ |>.stepAlloc _⟩
end SkI
end Go.Proofs.Ytjlobcbjhnfjcaa

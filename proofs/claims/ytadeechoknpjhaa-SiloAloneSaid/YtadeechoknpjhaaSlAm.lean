/- SiloAlone: what is gathered out of ranges; the calls. -/
import Derived.Test.YtadeechoknpjhaaProg
import Derived.Test.YtadeechoknpjhaaBase
import Derived.Test.YtadeechoknpjhaaSlAl
import Derived.Test.YtadeechoknpjhaaSlRf
set_option linter.unusedSimpArgs false
set_option linter.unusedVariables false
namespace Go.Proofs.Ytadeechoknpjhaa
open Go.RowKit Go.Shelf
attribute [local go_sem] Oper.semAt_some

/-- What is gathered so far, in a variable of its own. -/
structure HavE (bh base : Nat) (s : List VCE) (v : Value) (W : World) : Prop where
  blk : Blk W bh #[v] 31
  row : W.ownsRow base 61 16 v s.length (flatE s)
  ne : v.ownBlock ≠ some bh
theorem HavE.agree {bh base : Nat} {s : List VCE} {v : Value} {W W' : World} (h : HavE bh base s v W) (ha : Agree (fun j => j = bh ∨ v.ownBlock = some j) W W') : HavE bh base s v W' :=
  ⟨h.blk.agree ha (.inl rfl), own_agree h.row (ha.mono fun _ h => .inr h), h.ne⟩
theorem HavE.lt {bh base : Nat} {s : List VCE} {v : Value} {W : World} (h : HavE bh base s v W) : ∀ j, (j = bh ∨ v.ownBlock = some j) → j < W.heap.size := by
  rintro j (rfl | hj)
  · exact h.blk.lt
  · exact (h.row.lt j hj).2
theorem HavE.upd {bh base : Nat} {s : List VCE} {v : Value} {W W' : World} (h : HavE bh base s v W) {M : Nat → Prop} (u : Upd M W W') (hM : ∀ j, (j = bh ∨ v.ownBlock = some j) → ¬ M j) : HavE bh base s v W' := h.agree (u.agree fun j hj => ⟨h.lt j hj, hM j hj⟩)
abbrev noteV (bh : Nat) : Value := .func (.func 21) #[] #[.pointer (some ⟨bh, 0, none⟩)]
set_option maxRecDepth 100000 in
set_option maxHeartbeats 1000000 in
theorem note_c {bh base : Nat} {s : List VCE} {v : Value} {W : World} {x : VCE} (h : HavE bh base s v W) (hb : base ≤ W.heap.size) (hl : s.length ≤ 1000000) :
    CallV Try.prog (noteV bh) (encV x) W fun r W2 => r = .bool true ∧ ∃ v2, HavE bh base (s ++ [x]) v2 W2 ∧ Upd (fun j => j = bh ∨ v.ownBlock = some j) W W2 ∧ ∀ j, v2.ownBlock = some j → (v.ownBlock = some j ∨ W.heap.size ≤ j) ∧ j < W2.heap.size := by
  refine CallV.of_calls (n := 0) (enters_of Try.func21 (by kernel_rfl) rfl) ?_
  have ua := Upd.alloc (fun _ => False) W (.cells #[.int .i64 (x).ep, .string (x).key, .string (x).pol, .int .i64 (x).kd, .int .i64 (x).st, .int .i64 (x).rev, .bool (x).fin, .int .i64 (x).rk, .int .i64 (x).cnt, .int .i64 (x).sum, .int .i64 (x).mn, .int .i64 (x).mx, .int .i64 (x).q0, .int .i64 (x).q1, .int .i64 (x).q2, .bool (x).over] 63)
  have h1 := h.upd ua fun _ _ => id
  obtain ⟨A3, cap3, rfl⟩ := own_shape h.row
  have c1 : (W.alloc (.cells #[.int .i64 (x).ep, .string (x).key, .string (x).pol, .int .i64 (x).kd, .int .i64 (x).st, .int .i64 (x).rev, .bool (x).fin, .int .i64 (x).rk, .int .i64 (x).cnt, .int .i64 (x).sum, .int .i64 (x).mn, .int .i64 (x).mx, .int .i64 (x).q0, .int .i64 (x).q1, .int .i64 (x).q2, .bool (x).over] 63)).cell? ⟨bh, 0, none⟩ = some (.slice A3 s.length cap3) := h1.blk.cell0
  have ho := h1.row
  have hz : base ≤ (W.alloc (.cells #[.int .i64 (x).ep, .string (x).key, .string (x).pol, .int .i64 (x).kd, .int .i64 (x).st, .int .i64 (x).rev, .bool (x).fin, .int .i64 (x).rk, .int .i64 (x).cnt, .int .i64 (x).sum, .int .i64 (x).mn, .int .i64 (x).mx, .int .i64 (x).q0, .int .i64 (x).q1, .int .i64 (x).q2, .bool (x).over] 63)).heap.size := by simp; omega
  have fin : ∀ g' cap' w', w'.ownsRow base 61 16 (.slice (some ⟨g', 0, none⟩) (s.length + 1) cap') (s.length + 1) (flatE s ++ cellsE x) → Upd (fun j => (Value.slice A3 s.length cap3).ownBlock = some j) (W.alloc (.cells #[.int .i64 (x).ep, .string (x).key, .string (x).pol, .int .i64 (x).kd, .int .i64 (x).st, .int .i64 (x).rev, .bool (x).fin, .int .i64 (x).rk, .int .i64 (x).cnt, .int .i64 (x).sum, .int .i64 (x).mn, .int .i64 (x).mx, .int .i64 (x).q0, .int .i64 (x).q1, .int .i64 (x).q2, .bool (x).over] 63)) w' → ((Value.slice A3 s.length cap3).ownBlock = some g' ∨ (W.alloc (.cells #[.int .i64 (x).ep, .string (x).key, .string (x).pol, .int .i64 (x).kd, .int .i64 (x).st, .int .i64 (x).rev, .bool (x).fin, .int .i64 (x).rk, .int .i64 (x).cnt, .int .i64 (x).sum, .int .i64 (x).mn, .int .i64 (x).mx, .int .i64 (x).q0, .int .i64 (x).q1, .int .i64 (x).q2, .bool (x).over] 63)).heap.size ≤ g') → g' < w'.heap.size →
      (w'.cell? ⟨bh, 0, none⟩ = some (.slice A3 s.length cap3) ∧ w'.frozen? ⟨bh, 0, none⟩ = false ∧ bh < w'.heap.size) ∧
      ∃ v2, HavE bh base (s ++ [x]) v2 (w'.setCell ⟨bh, 0, none⟩ (.slice (some ⟨g', 0, none⟩) (s.length + 1) cap')) ∧ Upd (fun j => j = bh ∨ (Value.slice A3 s.length cap3).ownBlock = some j) W (w'.setCell ⟨bh, 0, none⟩ (.slice (some ⟨g', 0, none⟩) (s.length + 1) cap')) ∧
        ∀ j, v2.ownBlock = some j → ((Value.slice A3 s.length cap3).ownBlock = some j ∨ W.heap.size ≤ j) ∧ j < (w'.setCell ⟨bh, 0, none⟩ (.slice (some ⟨g', 0, none⟩) (s.length + 1) cap')).heap.size := by
    intro g' cap' w' p1 p2 p3 p4
    have hb1 := h1.blk.upd p2 h1.ne
    have hlb := h.blk.lt
    simp only [World.size_alloc] at p3
    have hgb : g' ≠ bh := by
      rintro rfl
      rcases p3 with h | h
      · exact h1.ne h
      · omega
    refine ⟨⟨hb1.cell0, hb1.frozen 0, hb1.lt⟩, _, ⟨by simpa using hb1.set 0 (.slice (some ⟨g', 0, none⟩) (s.length + 1) cap'), ?_, by simpa [Value.ownBlock] using hgb⟩, ?_, ?_⟩
    · rw [flatE_append, List.length_append, show flatE [x] = cellsE x by simp [flatE]]
      exact own_agree p1 (fun j hj => Below.heap_setCell _ _ _ _ (fun e => hgb (by simp [Value.ownBlock] at hj; rw [hj]; exact e)))
    · exact ((ua.mono fun _ _ h => h.elim).trans' (p2.mono fun j _ hj => .inr hj)).stepSet (.inl (.inl rfl)) _
    · intro j hj
      simp [Value.ownBlock] at hj
      subst hj
      refine ⟨p3.imp id fun h => by omega, by simpa using p4⟩
  replace fin := Lib.hid fin
  clear h h1 ua
  refine callsIn_any (n := 0) (callsIn_of_wp Try.func21 rfl trivial ?_)
  simp only [Try.ntmps21, List.size_toArray, List.length_cons, List.length_nil, Nat.reduceAdd, Nat.reduceSub, Array.replicate_succ, Array.replicate_zero, List.push_toArray, List.append_toArray, List.nil_append, List.cons_append]
  gi_wp2_with (first | refine (⟨trivial, rfl, ?_⟩ : Fence.wide.fn _ ∧ Fence.wide.depth = none ∧ _) | ((with_reducible refine app16 (y := x) Try.underlying31 infoE zE (by omega) ho ?_ ?_ ?_ ?_ ?_); exact hz; omega; rfl; (rw [World.size_alloc]; rfl); intro g' cap' w' h1 h2 h3 h4; (obtain ⟨⟨n0, n1, n2⟩, kk⟩ := fin.out g' cap' w' h1 h2 h3 h4); (replace kk := Lib.hid kk); clear h1 h2 h3 h4) | refine (⟨trivial, ?_⟩ : Fence.wide.fn _ ∧ _))
  go_ret
  exact ⟨_, rfl, rfl, kk.out⟩
/-- A sequence is gathered. -/
theorem run_note {bh base : Nat} {fk : FuncId} {fc : Array Value} {D : Nat → Prop} {s l : List VCE} {v : Value} {W : World} (hseq : SeqO Try.prog (.func (.func fk) #[] fc) encV (l.map fun x => ((), x)) () () (fun _ _ => True) (fun _ => False) D W) (h : HavE bh base s v W) (hb : base ≤ W.heap.size)
    (hD : ∀ j, (j = bh ∨ v.ownBlock = some j) → ¬ D j) (hl : s.length + l.length ≤ 1000000) :
    CallV Try.prog (.func (.func fk) #[] fc) #[noteV bh] W fun _ W2 => ∃ v2, HavE bh base (s ++ l) v2 W2 ∧ Upd (fun j => j = bh ∨ v.ownBlock = some j) W W2 ∧ ∀ j, v2.ownBlock = some j → j ≠ bh ∧ (v.ownBlock = some j ∨ W.heap.size ≤ j) := by
  have hgo : ∀ (m s : List VCE), goF (fun (s : List VCE) (x : VCE) => (s ++ [x], true)) s m = (s ++ m, true) := by
    intro m
    induction m with
    | nil => intro s; simp [goF]
    | cons x m ih => intro s; simp only [goF, if_true]; rw [ih]; simp
  refine (feed (S0 := fun j => j = bh ∨ v.ownBlock = some j) (step := fun (s : List VCE) (x : VCE) => (s ++ [x], true)) (Rep := fun s' S W' => base ≤ W'.heap.size ∧ ∃ v', HavE bh base s' v' W' ∧ ∀ j, (j = bh ∨ v'.ownBlock = some j) → S j) (s0 := s) hseq (Nat.le_refl _) (Agree.refl _ _) (fun j hj => ⟨h.lt j hj, hD j hj⟩) ?_ ⟨hb, v, h, fun _ h => h⟩ ?_).mono ?_
  · rintro s' S W1 W2 ⟨hb1, v', h1, h2⟩ hA hz
    exact ⟨by omega, v', h1.agree (hA.mono h2), h2⟩
  · rintro pre x suf s1 S1 W1 he hg ⟨hb1, v', h1, h2⟩ hu hS1
    rw [hgo] at hg
    have e1 := (Prod.mk.inj hg).1
    have e2 : s1.length ≤ 1000000 := by rw [← e1, List.length_append]; have := congrArg List.length he; simp at this; omega
    refine (note_c (x := x) h1 hb1 e2).mono ?_
    rintro r W2 ⟨rfl, v2, q1, q2, q3⟩
    have hz2 := q2.size
    refine ⟨fun j => j = bh ∨ v2.ownBlock = some j, rfl, ⟨by omega, v2, q1, fun _ h => h⟩, q2.mono fun j _ hj => h2 j hj, fun j hj => ⟨q1.lt j hj, ?_⟩⟩
    rcases hj with rfl | hj
    · exact .inl (h2 _ (.inl rfl))
    · exact (q3 j hj).1.imp (fun h => h2 j (.inr h)) id
  · rintro r W2 ⟨S', ⟨_, v2, h1, h2⟩, hu, hS'⟩
    rw [hgo] at h1
    refine ⟨v2, h1, hu, fun j hj => ?_⟩
    have hne : j ≠ bh := fun e => h1.ne (e ▸ hj)
    refine ⟨hne, ?_⟩
    rcases (hS' j (h2 j (.inr hj))).2 with (h | h) | h
    · exact absurd h hne
    · exact .inl h
    · exact .inr h
section
variable {sb : Nat} {f : Int} {vs : List VCE} {F : Nat → Prop} {W : World} {c : VCE}
/-- What lies there while ranges are gathered: the silo, the cell, those of the key, the halves. -/
structure AloI (sb cb bh : Nat) (f : Int) (vs : List VCE) (F : Nat → Prop) (c : VCE) (A : Option Addr) (s : List VCE) (v : Value) (w W : World) : Prop where
  si : SiloV sb f vs F W
  ce : Blk W cb #[.string (c).key, .string (c).pol, .int .i64 (c).kd, .int .i64 (c).st] 24
  rd : Reads1 W A (flatE (keyL c vs))
  hv : HavE bh w.heap.size s v W
  nF : ∀ j, (j = bh ∨ v.ownBlock = some j) → ¬ F j ∧ j ≠ cb ∧ ¬ blkOf' A (flatE (keyL c vs)).length j
  new : ∀ j, (F j ∨ j = bh) → w.heap.size ≤ j
  base : Upd (fun _ => False) w W
theorem AloI.upd {cb bh : Nat} {A : Option Addr} {s : List VCE} {v : Value} {w W2 : World} (h : AloI sb cb bh f vs F c A s v w W) (u : Upd (fun _ => False) W W2) : AloI sb cb bh f vs F c A s v w W2 :=
  ⟨h.si.upd u fun _ _ => id, h.ce.upd u id, h.rd.agree' (u.agree fun j hj => ⟨h.rd.lt' j hj, id⟩), h.hv.upd u fun _ _ => id, h.nF, h.new, h.base.trans' u⟩
theorem AloI.cells {cb bh : Nat} {A : Option Addr} {s : List VCE} {v : Value} {w : World} (h : AloI sb cb bh f vs F c A s v w W) : W.cell? ⟨cb, 0, none⟩ = some (.string c.key) ∧ W.cell? ⟨cb, 1, none⟩ = some (.string c.pol) ∧ W.cell? ⟨cb, 2, none⟩ = some (.int .i64 c.kd) := ⟨h.ce.cell 0, h.ce.cell 1, h.ce.cell 2⟩
theorem fitL_len (k : KCE) (to : Int) (vs : List VCE) : (fitL k to vs).length ≤ vs.length := List.length_filter_le _ _
/-- A range, gathered. -/
theorem alo_range {cb bh : Nat} {A : Option Addr} {s : List VCE} {v : Value} {w : World} (h : AloI sb cb bh f vs F c A s v w W) (hl : s.length + vs.length ≤ 1000000) (x to : Int) :
    CallsIn Fence.wide 0 Try.prog 15 #[.pointer (some ⟨sb, 0, none⟩), .string c.key, .string c.pol, .int .i64 c.kd, .int .i64 x, .int .i64 to] W fun e W2 => ∃ fc, e = .returned (.func (.func 32) #[] fc) ∧
      CallV Try.prog (.func (.func 32) #[] fc) #[noteV bh] W2 fun _ W3 => ∃ v2, AloI sb cb bh f vs F c A (s ++ fitL (kyA c x) to vs) v2 w W3 := by
  have hri := h.si.rise
  refine (siloRange_c (k := kyA c x) (to := to)).mono ?_
  rintro e W2 ⟨bk, bp, bd, bf, bs, bt, rfl, q1, q2, q3⟩
  have h2 := h.upd q3
  have hs := rangeSilo h2.si q1
  rw [rangeL_eq hri] at hs
  have hlt := h.hv.lt
  have hfl := fitL_len (kyA c x) to vs
  have hzb := h2.base.size
  refine ⟨_, rfl, (run_note hs h2.hv hzb ?_ (by omega)).mono ?_⟩
  · intro j hj
    have := hlt j hj
    rintro (h3 | h3)
    · have := q2 j h3; omega
    · exact (h.nF j hj).1 h3
  · rintro _ W3 ⟨v2, p1, p2, p3⟩
    have hFlt := h2.si.lt
    have hclt := h2.ce.lt
    have hrlt := h2.rd.lt'
    refine ⟨v2, h2.si.upd p2 fun j hj e => (h.nF j e).1 hj, h2.ce.upd p2 fun e => (h.nF _ e).2.1 rfl, h2.rd.agree' (p2.agree fun j hj => ⟨hrlt j hj, fun e => (h.nF j e).2.2 hj⟩), p1, ?_, h.new, h2.base.trans p2 ?_⟩
    · rintro j (hj | hj)
      · exact h.nF j (.inl hj)
      · obtain ⟨_, hj2⟩ := p3 j hj
        rcases hj2 with hj2 | hj2
        · exact h.nF j (.inr hj2)
        · exact ⟨fun hF => by have := hFlt j hF; omega, by omega, fun hb => by have := hrlt j hb; omega⟩
    · rintro j (hj | hj)
      · exact .inr (h.new j (.inr hj))
      · exact .inr (h2.hv.row.lt j hj).1
/-- The end: Goes, Same. -/
theorem alo_end {cb bh cap : Nat} {A : Option Addr} {v : Value} {w : World} (h : AloI sb cb bh f vs F c A (keyL c vs) v w W) (ht : timeL vs) (hl : vs.length ≤ 100000) :
    CallsIn Fence.wide 0 Try.prog 15 #[.pointer (some ⟨sb, 0, none⟩), .string c.key, .string c.pol, .int .i64 c.kd, .int .i64 0, .int .i64 1099511627777] W fun e W2 => ∃ fc, e = .returned (.func (.func 32) #[] fc) ∧
      CallsIn Fence.wide 0 Try.prog 14 #[.func (.func 32) #[] fc, .slice A (keyL c vs).length cap, .int .i64 500] W2 fun e W3 => e = .returned (.bool true) ∧ ∃ A2 c2, W3.cell? ⟨bh, 0, none⟩ = some (.slice A2 (keyL c vs).length c2) ∧
        CallsIn Fence.wide 0 Try.prog 18 #[.slice A2 (keyL c vs).length c2, .slice A (keyL c vs).length cap] W3 fun e W4 => e = .returned (.bool true) ∧ Upd (fun _ => False) w W4 := by
  have hri := h.si.rise
  have hkl := keyL_len c vs
  refine (siloRange_c (k := kyA c 0) (to := 1099511627777)).mono ?_
  rintro e W2 ⟨bk, bp, bd, bf, bs, bt, rfl, q1, q2, q3⟩
  have h2 := h.upd q3
  have hs := rangeSilo h2.si q1
  rw [rangeL_eq hri, fit_all ht] at hs
  refine ⟨_, rfl, (goes_c hs rfl h2.rd (by omega)).mono ?_⟩
  rintro e W3 ⟨rfl, u3⟩
  have h3 := h2.upd u3
  obtain ⟨A2, c2, rfl, _, r2, _, _⟩ := own_readsS h3.hv.row
  refine ⟨rfl, A2, c2, h3.hv.blk.cell0, (same20_c r2 h3.rd (by omega) (by omega)).mono ?_⟩
  rintro e W4 ⟨rfl, u4⟩
  exact ⟨by simp, h3.base.trans' u4⟩
end
end Go.Proofs.Ytadeechoknpjhaa

/- silo: a silo beside the document's; Put on both. -/
import Derived.Test.YtadeechoknpjhaaProg
import Derived.Test.YtadeechoknpjhaaBase
import Derived.Test.YtadeechoknpjhaaSlN
set_option linter.unusedSimpArgs false
set_option linter.unusedVariables false
namespace Go.Proofs.Ytadeechoknpjhaa
open Go.RowKit Go.Shelf
attribute [local go_sem] Oper.semAt_some

/-- A silo beside the document's, which lies in the variable mb. -/
structure RngS (sb mb : Nat) (f : Int) (vs : List VCE) (F : Nat → Prop) (A : Option Addr) (cap : Nat) (W : World) : Prop where
  si : SiloV sb f vs F W
  bm : Blk W mb #[.int .i64 f, .slice A vs.length cap] 33
  rd : Reads1 W A (flatE vs)
  cp : vs.length ≤ cap
  ap : ∀ j, blkOf' A (flatE vs).length j → ¬ F j ∧ j ≠ mb
  nF : ¬ F mb
  sz : ∀ v ∈ vs, v.key.size ≤ 300 ∧ v.pol.size ≤ 300
theorem SiloI.rise {sb : Nat} {f : Int} {l : List (KCE × VCE)} {F : Nat → Prop} {W : World} (h : SiloI sb f l F W) : Rise cmpC l := by
  obtain ⟨q, t, g1, g2, g3, g4⟩ := h
  exact g2.rise
theorem putV_len {x : Int} {v : VCE} {vs : List VCE} (hrise : Rise cmpC (vs.map prE)) : (putV x v vs).length ≤ vs.length + 1 := by
  have h := putL_le ordrC (k := cellE v) (atE x v) hrise
  rw [putV_pr hrise, List.length_map, List.length_map] at h
  exact h
theorem mem_putV {x : Int} {v y : VCE} {vs : List VCE} (h : y ∈ putV x v vs) : y = atE x v ∨ y ∈ vs := by
  simp only [putV, List.mem_append, List.mem_cons] at h
  rcases h with h | h | h
  · exact .inr (List.mem_of_mem_take h)
  · exact .inl h
  · exact .inr (List.mem_of_mem_drop h)
section
variable {sb mb : Nat} {f : Int} {vs : List VCE} {F : Nat → Prop} {A : Option Addr} {cap : Nat} {W : World}
theorem RngS.lt (h : RngS sb mb f vs F A cap W) : ∀ j, (F j ∨ j = mb ∨ blkOf' A (flatE vs).length j) → j < W.heap.size := by
  rintro j (hj | rfl | hj)
  · exact h.si.lt j hj
  · exact h.bm.lt
  · exact h.rd.lt' j hj
theorem RngS.upd (h : RngS sb mb f vs F A cap W) {M : Nat → Prop} {W2 : World} (u : Upd M W W2) (hM : ∀ j, (F j ∨ j = mb ∨ blkOf' A (flatE vs).length j) → ¬ M j) : RngS sb mb f vs F A cap W2 :=
  ⟨h.si.upd u fun j hj => hM j (.inl hj), h.bm.upd u (hM _ (.inr (.inl rfl))), h.rd.agree' (u.agree fun j hj => ⟨h.rd.lt' j hj, hM j (.inr (.inr hj))⟩), h.cp, h.ap, h.nF, h.sz⟩
set_option maxHeartbeats 1000000 in
theorem rng_put {n : Nat} (h : RngS sb mb f vs F A cap W) {v : VCE} (hv : v.key.size ≤ 300 ∧ v.pol.size ≤ 300) (hl : vs.length ≤ 50000) :
    CallsIn Fence.wide n Try.prog 11 #[.pointer (some ⟨sb, 0, none⟩), .int .i64 v.ep, .agg #[.string (v).key, .string (v).pol, .int .i64 (v).kd, .int .i64 (v).st, .int .i64 (v).rev, .bool (v).fin, .int .i64 (v).rk, .int .i64 (v).cnt, .int .i64 (v).sum, .int .i64 (v).mn, .int .i64 (v).mx, .int .i64 (v).q0, .int .i64 (v).q1, .int .i64 (v).q2, .bool (v).over]] W fun e W2 => ∃ c, e = .returned (.int .i64 c) ∧ Upd F W W2 ∧ (W2.cell? ⟨mb, 0, none⟩ = some (.int .i64 f) ∧ W2.cell? ⟨mb, 1, none⟩ = some (.slice A vs.length cap)) ∧
      CallsIn Fence.wide 0 Try.prog 12 #[.agg #[.int .i64 f, .slice A vs.length cap], .int .i64 v.ep, .agg #[.string (v).key, .string (v).pol, .int .i64 (v).kd, .int .i64 (v).st, .int .i64 (v).rev, .bool (v).fin, .int .i64 (v).rk, .int .i64 (v).cnt, .int .i64 (v).sum, .int .i64 (v).mn, .int .i64 (v).mx, .int .i64 (v).q0, .int .i64 (v).q1, .int .i64 (v).q2, .bool (v).over]] W2 fun e W3 => ∃ f' vs' F' A' cap', e = .returned (.tuple #[.agg #[.int .i64 f', .slice A' vs'.length cap'], .int .i64 c]) ∧
        (W3.cell? ⟨mb, 0, none⟩ = some (.int .i64 f) ∧ W3.cell? ⟨mb, 1, none⟩ = some (.slice A vs.length cap) ∧ W3.frozen? ⟨mb, 0, none⟩ = false ∧ W3.frozen? ⟨mb, 1, none⟩ = false ∧ mb < W3.heap.size) ∧ vs'.length ≤ vs.length + 1 ∧
        RngS sb mb f' vs' F' A' cap' ((W3.setCell ⟨mb, 0, none⟩ (.int .i64 f')).setCell ⟨mb, 1, none⟩ (.slice A' vs'.length cap')) ∧ (∀ j, F' j → F j ∨ W.heap.size ≤ j) ∧
        Upd (fun j => F j ∨ j = mb) W ((W3.setCell ⟨mb, 0, none⟩ (.int .i64 f')).setCell ⟨mb, 1, none⟩ (.slice A' vs'.length cap')) := by
  have hri := h.si.rise
  have hsz : ∀ v ∈ vs, v.key.size ≤ maxLen ∧ v.pol.size ≤ maxLen := fun v hv => by
    have := h.sz v hv
    unfold maxLen
    omega
  have hee : atE v.ep v = v := rfl
  by_cases hc : codeP f (vs.map prE) v.ep v = 0
  · refine (siloPutYes_c h.si (by simp; omega) hc).mono ?_
    rintro e W2 ⟨rfl, F', s1, s2, s3⟩
    have bm2 := h.bm.upd s3 h.nF
    have rd2 := h.rd.agree' (w' := W2) (s3.agree fun j hj => ⟨h.rd.lt' j hj, (h.ap j hj).1⟩)
    refine ⟨0, rfl, s3, ⟨bm2.cell 0, bm2.cell 1⟩, ?_⟩
    refine (put20Yes_c (f := f) rd2 h.cp hri (by omega) hsz hc).mono ?_
    rintro e W3 ⟨A', cap', rfl, p1, p2, p3, p4⟩
    have bm3 := bm2.upd p4 id
    have s1' := s1.upd p4 fun _ _ => id
    rw [putV_pr hri] at s1'
    have z2 := s3.size
    have z3 := p4.size
    have hmb := h.bm.lt
    have hnF' : ¬ F' mb := fun hj => by
      rcases s2 mb hj with h1 | h1
      · exact h.nF h1
      · omega
    have us : Upd (fun j => j = mb) W3 ((W3.setCell ⟨mb, 0, none⟩ (.int .i64 v.ep)).setCell ⟨mb, 1, none⟩ (.slice A' (putV v.ep v vs).length cap')) := upd_set2 (Upd.refl _ _) (.inl rfl)
    have hA' : ∀ j, blkOf' A' (flatE (putV v.ep v vs)).length j → W2.heap.size ≤ j := fun j hj => (p3 j hj.2).1
    refine ⟨v.ep, putV v.ep v vs, F', A', cap', rfl, ⟨bm3.cell 0, bm3.cell 1, bm3.frozen 0, bm3.frozen 1, bm3.lt⟩, putV_len hri, ⟨s1'.upd us fun j hj e => hnF' (e ▸ hj), blk_set2 bm3, ?_, p1, ?_, hnF', ?_⟩, s2, ?_⟩
    · exact p2.agree' (us.agree fun j hj => ⟨(p3 j hj.2).2, fun e => by have := hA' j hj; omega⟩)
    · exact fun j hj => ⟨fun hj2 => by have := s1.lt j hj2; have := hA' j hj; omega, fun e => by have := hA' j hj; omega⟩
    · intro y hy
      rcases mem_putV hy with rfl | hy
      · exact hv
      · exact h.sz y hy
    · exact ((s3.mono fun _ _ hj => .inl hj).trans' (p4.mono fun _ _ h => h.elim)).trans us fun j hj => .inl (.inr hj)
  · refine (siloPutNo_c h.si hc).mono ?_
    rintro e W2 ⟨rfl, s3⟩
    have h2 := h.upd s3 fun _ _ => id
    refine ⟨_, rfl, s3.mono fun _ _ h => h.elim, ⟨h2.bm.cell 0, h2.bm.cell 1⟩, ?_⟩
    refine (put20No_c (f := f) h2.rd hri (by omega) hsz hc).mono ?_
    rintro e W3 ⟨rfl, p4⟩
    have h3 := h2.upd p4 fun _ _ => id
    have us : Upd (fun j => j = mb) W3 ((W3.setCell ⟨mb, 0, none⟩ (.int .i64 f)).setCell ⟨mb, 1, none⟩ (.slice A vs.length cap)) := upd_set2 (Upd.refl _ _) (.inl rfl)
    refine ⟨f, vs, F, A, cap, rfl, ⟨h3.bm.cell 0, h3.bm.cell 1, h3.bm.frozen 0, h3.bm.frozen 1, h3.bm.lt⟩, by omega, ⟨h3.si.upd us fun j hj e => h.nF (e ▸ hj), blk_set2 h3.bm, ?_, h.cp, h.ap, h.nF, h.sz⟩, fun j hj => .inl hj, ?_⟩
    · exact h3.rd.agree' (us.agree fun j hj => ⟨h3.rd.lt' j hj, (h.ap j hj).2⟩)
    · exact (((s3.trans' p4).mono fun _ _ h => h.elim).trans us fun j hj => .inl (.inr hj))
end
end Go.Proofs.Ytadeechoknpjhaa

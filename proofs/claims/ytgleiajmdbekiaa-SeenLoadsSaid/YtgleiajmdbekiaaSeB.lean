/- seen: one source of the state; of, Note. -/
import Derived.Test.YtgleiajmdbekiaaProg
import Derived.Test.YtgleiajmdbekiaaBase
import Derived.Test.YtgleiajmdbekiaaSeA
namespace Go.Proofs.Ytgleiajmdbekiaa
open Go.RowKit Go.Shelf
attribute [local go_sem] Oper.semAt_some

/-- A number among numbers. -/
def insI (q : Int) (s : List Int) : List Int := s.filter (fun x => decide (0 < cmpI q x)) ++ q :: s.filter (fun x => decide (cmpI q x < 0))
theorem tru_filter (p : Int → Bool) (s : List Int) : (tru s).filter (fun x => p x.1) = tru (s.filter p) := by
  induction s with
  | nil => rfl
  | cons x s ih =>
    simp only [tru, List.map_cons, List.filter_cons] at ih ⊢
    cases p x <;> simp_all
theorem tru_put (q : Int) (s : List Int) : putL cmpI q true (tru s) = tru (insI q s) := by
  simp only [putL, insI]
  rw [tru_filter (fun y => decide (0 < cmpI q y)), tru_filter (fun y => decide (cmpI q y < 0))]
  simp [tru]
theorem tru_had (q : Int) (s : List Int) : hadL cmpI q (tru s) = decide (q ∈ s) := by rw [← get_had, tru_get]
theorem tru_drop (x : Int) (s : List Int) (h : Rise cmpI (tru (x :: s))) : dropL cmpI x (tru (x :: s)) = tru s := by
  have h2 := (List.pairwise_cons.1 h).1
  simp only [dropL, tru, List.map_cons, List.filter_cons]
  have e : cmpI x x = 0 := (ordrI.eq x x).2 rfl
  simp only [e, decide_true, Bool.not_true, Bool.false_eq_true, if_false]
  refine List.filter_eq_self.2 fun y hy => ?_
  have := h2 y hy
  simp only [Bool.not_eq_true', decide_eq_false_iff_not]
  intro e2
  rw [e2] at this
  omega
theorem insI_mem (q : Int) (s : List Int) (y : Int) : y ∈ insI q s ↔ y = q ∨ y ∈ s := by
  simp only [insI, List.mem_append, List.mem_cons, List.mem_filter, decide_eq_true_eq]
  constructor
  · rintro (⟨h, _⟩ | h | ⟨h, _⟩)
    · exact .inr h
    · exact .inl h
    · exact .inr h
  · rintro (h | h)
    · exact .inr (.inl h)
    · rcases Int.lt_trichotomy (cmpI q y) 0 with h2 | h2 | h2
      · exact .inr (.inr ⟨h, h2⟩)
      · exact .inr (.inl ((ordrI.eq _ _).1 h2).symm)
      · exact .inl ⟨h, h2⟩
theorem insI_len {q : Int} : ∀ {s : List Int}, q ∉ s → (insI q s).length = s.length + 1
  | [], _ => rfl
  | x :: s, h => by
    have h1 : q ≠ x := fun e => h (e ▸ List.mem_cons_self ..)
    have ih := insI_len (q := q) (s := s) fun h2 => h (List.mem_cons_of_mem _ h2)
    simp only [insI, List.length_append, List.length_cons, List.filter_cons] at ih ⊢
    have hne : cmpI q x ≠ 0 := fun e => h1 ((ordrI.eq _ _).1 e)
    rcases Int.lt_or_gt_of_ne hne with h2 | h2
    · rw [if_neg (by simp; omega), if_pos (by simpa using h2)]
      simp only [List.length_cons]; omega
    · rw [if_pos (by simpa using h2), if_neg (by simp; omega)]
      simp only [List.length_cons]; omega
theorem insI_len_le (q : Int) (s : List Int) : (insI q s).length ≤ s.length + 1 := by
  induction s with
  | nil => exact Nat.le_refl _
  | cons x s ih =>
    simp only [insI, List.length_append, List.length_cons, List.filter_cons] at ih ⊢
    by_cases h1 : 0 < cmpI q x
    · rw [if_pos (by simpa using h1), if_neg (by simp; omega)]; simp only [List.length_cons]; omega
    · rw [if_neg (by simpa using h1)]
      split
      · simp only [List.length_cons]; omega
      · omega
/-- A source with a number more. -/
def noteS (q : Int) (x : Src) : Src := if 32 < (insI q x.2).length then ((insI q x.2).headD 0, (insI q x.2).tail) else (x.1, insI q x.2)

theorem putL_same {α β : Type} {c : α → α → Int} (ho : Ordr c) {k : α} {v : β} {l : List (α × β)} (hr : Rise c l) (hg : getL c k l = some v) : putL c k v l = l := by
  refine rise_ext ho (putL_rise ho hr k v) hr fun y => ?_
  rw [mem_putL]
  constructor
  · rintro (rfl | ⟨h, _⟩)
    · exact get_mem ho hg
    · exact h
  · intro hy
    by_cases e : c k y.1 = 0
    · refine .inl ?_
      have e2 := (ho.eq _ _).1 e
      have := get_of_mem ho hr hy
      rw [← e2, hg] at this
      exact Prod.ext e2.symm (Option.some.inj this).symm
    · exact .inr ⟨hy, e⟩
theorem putL_put {α β : Type} {c : α → α → Int} (ho : Ordr c) {k : α} {v u : β} {l : List (α × β)} (hr : Rise c l) : putL c k v (putL c k u l) = putL c k v l := by
  refine rise_ext ho (putL_rise ho (putL_rise ho hr k u) k v) (putL_rise ho hr k v) fun y => ?_
  rw [mem_putL, mem_putL, mem_putL]
  constructor
  · rintro (h | ⟨rfl | ⟨h, _⟩, h2⟩)
    · exact .inl h
    · exact (h2 ((ho.eq _ _).2 rfl)).elim
    · exact .inr ⟨h, h2⟩
  · rintro (h | ⟨h, h2⟩)
    · exact .inl h
    · exact .inr ⟨.inr ⟨h, h2⟩, h2⟩
theorem getL_put {α β : Type} {c : α → α → Int} (ho : Ordr c) {k : α} {v : β} {l : List (α × β)} (hr : Rise c l) : getL c k (putL c k v l) = some v :=
  get_of_mem (x := (k, v)) ho (putL_rise ho hr k v) (mem_putL.2 (.inl rfl))
section
variable {sb cb : Nat} {es : Ents} {F G : Nat → Prop} {W W2 : World} {x : Src}
/-- ONE SOURCE, taken out and put back. -/
theorem SeenI.focus (h : SeenI sb es F W) {k : KSP} {cb : Nat} {x : Src} (hg : getL cmpS k es = some (cb, x)) : ∃ G, CameI cb x G W ∧ (∀ j, G j → F j ∧ j ≠ sb) ∧
    ∀ W2 x2 G2, CameI cb x2 G2 W2 → (∀ j, G2 j → G j ∨ W.heap.size ≤ j) → Upd G W W2 → ∃ F2, SeenI sb (putL cmpS k (cb, x2) es) F2 W2 ∧ (∀ j, F2 j → F j ∨ W.heap.size ≤ j) := by
  have hri := h.rise
  have hlt := h.lt
  obtain ⟨rb, t, G, h1, h2, h3, h4, h5, h6, h7⟩ := h
  have hm := get_mem ordrS hg
  refine ⟨G cb, h3 _ hm, fun j hj => ⟨(h4 j).2 (.inr (.inr (.inr ⟨_, hm, hj⟩))), fun e => h6 _ hm j hj (.inl e)⟩, fun W2 x2 G2 c2 hG2 hu => ?_⟩
  have hself := (h3 _ hm).self
  have hne : ∀ y ∈ es, k ≠ y.1 → y.2.1 ≠ cb := fun y hy hk e => by
    have := h7 _ hm y hy hk cb hself
    rw [e] at this
    exact this hself
  have hmem : ∀ y, y ∈ putL cmpS k (cb, x2) es → y = (k, cb, x2) ∨ (y ∈ es ∧ k ≠ y.1) := fun y hy => by
    rcases mem_putL.1 hy with h | ⟨h, h'⟩
    · exact .inl h
    · exact .inr ⟨h, fun e => h' ((ordrS.eq _ _).2 e)⟩
  have hps : ptrs (putL cmpS k (cb, x2) es) = ptrs es := by
    simp only [ptrs]
    rw [mapV_put]
    refine putL_same ordrS (by simpa [mapV, Rise, List.pairwise_map] using hri) ?_
    rw [mapV_get, hg]; rfl
  have hd : ∀ j, (j = sb ∨ j = rb ∨ t.has j) → ¬ G cb j := fun j hj hh => h6 _ hm j hh hj
  have hltS : ∀ j, (j = sb ∨ j = rb ∨ t.has j) → j < W.heap.size := fun j hj => hlt j ((h4 j).2 (hj.elim .inl fun h => .inr (h.elim .inl fun h => .inr (.inl h))))
  refine ⟨fun j => j = sb ∨ j = rb ∨ t.has j ∨ ∃ y ∈ putL cmpS k (cb, x2) es, (if y.2.1 = cb then G2 j else G y.2.1 j), ⟨rb, t, fun c j => if c = cb then G2 j else G c j, h1.upd hu (hd _ (.inl rfl)), ?_, ?_, fun j => Iff.rfl, h5, ?_, ?_⟩, ?_⟩
  · rw [hps]; exact h2.upd hu fun j hj => hd j (.inr hj)
  · intro y hy
    rcases hmem y hy with rfl | ⟨hy, hk⟩
    · simp only [if_true]; exact c2
    · simp only [if_neg (hne y hy hk)]
      exact (h3 y hy).upd hu fun j hj hh => h7 _ hm y hy hk j hh hj
  · intro y hy j hj hh
    rcases hmem y hy with rfl | ⟨hy, hk⟩
    · simp only [if_true] at hj
      rcases hG2 j hj with h | h
      · exact hd j hh h
      · have := hltS j hh; omega
    · simp only [if_neg (hne y hy hk)] at hj
      exact h6 y hy j hj hh
  · intro y hy z hz hyz j hj hh
    rcases hmem y hy with rfl | ⟨hy, hk⟩ <;> rcases hmem z hz with rfl | ⟨hz, hk2⟩
    · exact hyz rfl
    · simp only [if_true, if_neg (hne z hz hk2)] at hj hh
      rcases hG2 j hj with h | h
      · exact h7 _ hm z hz hk2 j h hh
      · have := (h3 z hz).lt j hh; omega
    · simp only [if_true, if_neg (hne y hy hk)] at hj hh
      rcases hG2 j hh with h | h
      · exact h7 _ hm y hy hk j h hj
      · have := (h3 y hy).lt j hj; omega
    · simp only [if_neg (hne y hy hk), if_neg (hne z hz hk2)] at hj hh
      exact h7 y hy z hz hyz j hj hh
  · rintro j (h | h | h | ⟨y, hy, h⟩)
    · exact .inl ((h4 j).2 (.inl h))
    · exact .inl ((h4 j).2 (.inr (.inl h)))
    · exact .inl ((h4 j).2 (.inr (.inr (.inl h))))
    · rcases hmem y hy with rfl | ⟨hy, hk⟩
      · simp only [if_true] at h
        rcases hG2 j h with h | h
        · exact .inl ((h4 j).2 (.inr (.inr (.inr ⟨_, hm, h⟩))))
        · exact .inr h
      · simp only [if_neg (hne y hy hk)] at h
        exact .inl ((h4 j).2 (.inr (.inr (.inr ⟨y, hy, h⟩))))
/-- A SOURCE MORE is put. -/
theorem SeenI.push (h : SeenI sb es F W) {k : KSP} (hg : getL cmpS k es = none) (hl : es.length < 100000) {W1 : World} (hu : Upd (fun _ => False) W W1) {cb : Nat} {x : Src} {G0 : Nat → Prop} (hc : CameI cb x G0 W1) (hG0 : ∀ j, G0 j → W.heap.size ≤ j) :
    ∃ rb, W1.cell? ⟨sb, 0, none⟩ = some (.pointer (some ⟨rb, 0, none⟩)) ∧ CallsIn Fence.wide 0 Try.prog 45 #[.pointer (some ⟨rb, 0, none⟩), .string k, .pointer (some ⟨cb, 0, none⟩)] W1 fun e W2 => ∃ b, e = .returned (.bool b) ∧
      ∃ F2, SeenI sb (putL cmpS k (cb, x) es) F2 W2 ∧ (∀ j, F2 j → F j ∨ W.heap.size ≤ j) ∧ Upd F W W2 := by
  have hlt := h.lt
  obtain ⟨rb, t, G, h1, h2, h3, h4, h5, h6, h7⟩ := h
  have hz := hu.size
  have g1 := h1.upd hu id
  have g2 := h2.upd hu fun _ _ => id
  refine ⟨rb, g1.cell 0, (rackPutSP (n := 0) cmpV_strings (v := some ⟨cb, 0, none⟩) g2 (by rw [mapV_len]; exact hl)).mono ?_⟩
  rintro e W2 ⟨rfl, t', q1, q2, q3⟩
  have hself := hG0 _ hc.self
  have hno : ∀ y ∈ es, k ≠ y.1 := fun y hy e => by
    have : hadL cmpS k es = true := (hadL_iff ordrS).2 ⟨y, hy, e.symm⟩
    rw [← get_had, hg] at this
    cases this
  have hmem : ∀ y, y ∈ putL cmpS k (cb, x) es → y = (k, cb, x) ∨ (y ∈ es ∧ k ≠ y.1) := fun y hy => by
    rcases mem_putL.1 hy with h | ⟨h, h'⟩
    · exact .inl h
    · exact .inr ⟨h, hno y h⟩
  have hG : ∀ y ∈ es, ∀ j, G y.2.1 j → j < W.heap.size := fun y hy j hj => (h3 y hy).lt j hj
  have hne : ∀ y ∈ es, y.2.1 ≠ cb := fun y hy e => by
    have := hG y hy _ (h3 y hy).self
    omega
  have hR : ∀ j, (j = rb ∨ t.has j) → j < W.heap.size := h2.lt
  have hcl := hc.lt
  have hsb : ¬ (sb = rb ∨ t'.has sb) := by
    rintro (h | h)
    · exact h5 (.inl h)
    · rcases q2 _ h with h | h
      · exact h5 (.inr h)
      · have := h1.lt; omega
  refine ⟨_, rfl, fun j => j = sb ∨ j = rb ∨ t'.has j ∨ ∃ y ∈ putL cmpS k (cb, x) es, (if y.2.1 = cb then G0 j else G y.2.1 j), ⟨rb, t', fun c j => if c = cb then G0 j else G c j, g1.upd q3 h5, ?_, ?_, fun j => Iff.rfl, hsb, ?_, ?_⟩, ?_, ?_⟩
  · simp only [ptrs]
    rw [mapV_put]; exact q1
  · intro y hy
    rcases hmem y hy with rfl | ⟨hy, hk⟩
    · simp only [if_true]; exact hc.upd q3 fun j hj hh => by have := hG0 j hj; have := hR j hh; omega
    · simp only [if_neg (hne y hy)]
      exact ((h3 y hy).upd hu fun _ _ => id).upd q3 fun j hj hh => h6 y hy j hj (.inr hh)
  · intro y hy j hj hh
    have hx : j < W1.heap.size := by
      rcases hmem y hy with rfl | ⟨hy, hk⟩
      · simp only [if_true] at hj; exact hcl j hj
      · simp only [if_neg (hne y hy)] at hj; have := hG y hy j hj; omega
    have hh2 : j = sb ∨ j = rb ∨ t.has j := by
      rcases hh with h | h | h
      · exact .inl h
      · exact .inr (.inl h)
      · rcases q2 j h with h | h
        · exact .inr (.inr h)
        · omega
    rcases hmem y hy with rfl | ⟨hy, hk⟩
    · simp only [if_true] at hj
      have := hG0 j hj
      rcases hh2 with h | h
      · have := h1.lt; omega
      · have := hR j h; omega
    · simp only [if_neg (hne y hy)] at hj
      exact h6 y hy j hj hh2
  · intro y hy z hz hyz j hj hh
    rcases hmem y hy with rfl | ⟨hy, hk⟩ <;> rcases hmem z hz with rfl | ⟨hz, hk2⟩
    · exact hyz rfl
    · simp only [if_true, if_neg (hne z hz)] at hj hh
      have := hG0 j hj; have := hG z hz j hh; omega
    · simp only [if_true, if_neg (hne y hy)] at hj hh
      have := hG0 j hh; have := hG y hy j hj; omega
    · simp only [if_neg (hne y hy), if_neg (hne z hz)] at hj hh
      exact h7 y hy z hz hyz j hj hh
  · rintro j (h | h | h | ⟨y, hy, h⟩)
    · exact .inl ((h4 j).2 (.inl h))
    · exact .inl ((h4 j).2 (.inr (.inl h)))
    · rcases q2 j h with h | h
      · exact .inl ((h4 j).2 (.inr (.inr (.inl h))))
      · exact .inr (by omega)
    · rcases hmem y hy with rfl | ⟨hy, hk⟩
      · simp only [if_true] at h
        exact .inr (hG0 j h)
      · simp only [if_neg (hne y hy)] at h
        exact .inl ((h4 j).2 (.inr (.inr (.inr ⟨y, hy, h⟩))))
  · exact (hu.mono fun _ _ h => h.elim).trans q3 fun j hj => .inl ((h4 j).2 (hj.elim (fun h => .inr (.inl h)) fun h => .inr (.inr (.inl h))))
theorem news2 {W3 : World} {M M2 : Nat → Prop} (u2 : Upd M W W2) (ua : Upd M2 W2 W3) : ∀ j, (j = W3.heap.size ∨ j = W2.heap.size) → W.heap.size ≤ j := fun j hj => by
  have := u2.size; have := ua.size
  rcases hj with h | h <;> omega
theorem newCame {q : Nat} (ra : RackIB cmpI cmpIn #[] #[] q .nil [] W) : CameI W.heap.size (0, []) (fun j => j = W.heap.size ∨ j = q) (W.alloc (.cells #[.int .i64 0, .pointer (some ⟨q, 0, none⟩)] 65)) :=
  ⟨q, .nil, Blk.new _ _ _, ra.upd (Upd.alloc (fun _ => False) _ _) (fun _ _ => id), fun j => ⟨fun h => h.elim .inl fun h => .inr (.inl h), fun h => h.elim .inl fun h => h.elim .inr fun h => h.elim⟩, fun h => h.elim (fun h => by have := ra.blk.lt; omega) id⟩
set_option maxRecDepth 100000 in
set_option maxHeartbeats 4000000 in
/-- What came of a source; it is there from then on. -/
theorem of_c {n : Nat} (h : SeenI sb es F W) (hl : es.length < 100000) (k : KSP) : CallsIn Fence.wide n Try.prog 25 #[.pointer (some ⟨sb, 0, none⟩), .string k] W fun e W2 => ∃ cb es' F', e = .returned (.pointer (some ⟨cb, 0, none⟩)) ∧ SeenI sb es' F' W2 ∧
    getL cmpS k es' = some (cb, ((getL cmpS k (mapV (·.2) es)).getD (0, []))) ∧ (∀ v, putL cmpS k v (mapV (·.2) es') = putL cmpS k v (mapV (·.2) es)) ∧ (∀ j, F' j → F j ∨ W.heap.size ≤ j) ∧ Upd F W W2 := by
  have hri := h.rise
  have h0 := h
  obtain ⟨rb, t, G, h1, h2, h3, h4, h5⟩ := h
  have c0 : W.cell? ⟨sb, 0, none⟩ = some (.pointer (some ⟨rb, 0, none⟩)) := h1.cell 0
  have k1 := (rackGetSP (n := 0) h2 cmpV_strings k)
  cases hg : getL cmpS k es with
  | none =>
    have k1 := k1.mono (R' := fun e W2 => e = .returned (.tuple #[.pointer none, .bool false]) ∧ Upd (fun _ => False) W W2) (by
      rintro e W2 ⟨rfl, u⟩
      refine ⟨?_, u⟩
      rw [mapV_get, hg]; rfl)
    have hfin := Lib.hid fun W1 (hu : Upd (fun _ => False) W W1) cb G0 hc hG0 => h0.push hg hl (W1 := W1) hu (cb := cb) (x := (0, [])) (G0 := G0) hc hG0
    replace k1 := Lib.hid k1
    clear h0 h1 h2 h3 h4 h5
    refine callsIn_any (n := 0) (callsIn_of_wp Try.func25 rfl trivial ?_)
    simp only [Try.ntmps25, List.size_toArray, List.length_cons, List.length_nil, Nat.reduceAdd, Nat.reduceSub, Array.replicate_succ, Array.replicate_zero, List.push_toArray, List.append_toArray, List.nil_append, List.cons_append]
    gi_wp2_with (first | refine (⟨trivial, rfl, ?_⟩ : Fence.wide.fn _ ∧ Fence.wide.depth = none ∧ _) | (gi_at_call 38; (with_reducible refine k1.out.mono ?_); rintro e W2 ⟨rfl, u2⟩; (skip)) | (gi_at_call 43; (with_reducible refine (rackNewIB (c := cmpI)).mono ?_); rintro e W3 ⟨rfl, ra, ua⟩; (have hz2 : ∀ j, (j = W3.heap.size ∨ j = W2.heap.size) → W.heap.size ≤ j := news2 u2 ua); (obtain ⟨rb, p0, kP⟩ := hfin.out _ ((u2.trans' ua).stepAlloc _) _ _ (newCame ra) hz2); (replace kP := Lib.hid kP); (clear ra)) | (gi_at_call 45; (with_reducible refine kP.out.mono ?_); rintro e W4 ⟨b, rfl, fin⟩; (replace fin := Lib.hid fin)) | refine (⟨trivial, ?_⟩ : Fence.wide.fn _ ∧ _))
    go_ret
    obtain ⟨F2, r1, r2, r3⟩ := fin.out
    refine ⟨_, _, F2, rfl, r1, ?_, fun v => ?_, r2, r3⟩
    · rw [getL_put ordrS hri, mapV_get, hg]; rfl
    · rw [mapV_put, putL_put ordrS (by simpa [mapV, Rise, List.pairwise_map] using hri)]
  | some y =>
    obtain ⟨cb, x⟩ := y
    have k1 := k1.mono (R' := fun e W2 => e = .returned (.tuple #[.pointer (some ⟨cb, 0, none⟩), .bool true]) ∧ Upd (fun _ => False) W W2) (by
      rintro e W2 ⟨rfl, u⟩
      refine ⟨?_, u⟩
      rw [mapV_get, hg]; rfl)
    replace k1 := Lib.hid k1
    replace h0 := Lib.hid h0
    clear h1 h2 h3 h4 h5
    refine callsIn_any (n := 0) (callsIn_of_wp Try.func25 rfl trivial ?_)
    simp only [Try.ntmps25, List.size_toArray, List.length_cons, List.length_nil, Nat.reduceAdd, Nat.reduceSub, Array.replicate_succ, Array.replicate_zero, List.push_toArray, List.append_toArray, List.nil_append, List.cons_append]
    gi_wp2_with (first | refine (⟨trivial, rfl, ?_⟩ : Fence.wide.fn _ ∧ Fence.wide.depth = none ∧ _) | (gi_at_call 38; (with_reducible refine k1.out.mono ?_); rintro e W2 ⟨rfl, u2⟩; (skip)) | refine (⟨trivial, ?_⟩ : Fence.wide.fn _ ∧ _))
    go_ret
    exact ⟨cb, es, F, rfl, h0.out.upd u2 fun _ _ => id, by rw [mapV_get, hg]; rfl, fun _ => rfl, fun j hj => .inl hj, u2.mono fun _ _ h => h.elim⟩
/-- What is behind a noted number. -/
def NoteFin (sb : Nat) (k : KSP) (q : Int) (es : Ents) (F : Nat → Prop) (W W2 : World) : Prop :=
  ∃ es' F', SeenI sb es' F' W2 ∧ mapV (·.2) es' = putL cmpS k (noteS q ((getL cmpS k (mapV (·.2) es)).getD (0, []))) (mapV (·.2) es) ∧ (∀ j, F' j → F j ∨ W.heap.size ≤ j) ∧ Upd F W W2
theorem noteNo_c {n : Nat} (h : SeenI sb es F W) (k : KSP) (q : Int) (hc : canN k q es ≠ 0) : CallsIn Fence.wide n Try.prog 10 #[.pointer (some ⟨sb, 0, none⟩), .string k, .int .i64 q] W fun e W2 => e = .returned (.int .i64 (canN k q es)) ∧ Upd (fun _ => False) W W2 := by
  have k1 := Lib.hid (seenCan_c (n := 0) h k q)
  clear h
  generalize canN k q es = c at *
  refine callsIn_any (n := 0) (callsIn_of_wp Try.func10 rfl trivial ?_)
  simp only [Try.ntmps10, List.size_toArray, List.length_cons, List.length_nil, Nat.reduceAdd, Nat.reduceSub, Array.replicate_succ, Array.replicate_zero, List.push_toArray, List.append_toArray, List.nil_append, List.cons_append]
  gi_wp2_with (first | refine (⟨trivial, rfl, ?_⟩ : Fence.wide.fn _ ∧ Fence.wide.depth = none ∧ _) | (gi_at_call 22; (with_reducible refine k1.out.mono ?_); rintro e W2 ⟨rfl, u2⟩; (skip)) | refine (⟨trivial, ?_⟩ : Fence.wide.fn _ ∧ _))
  go_ret
  exact ⟨rfl, u2⟩
set_option maxRecDepth 100000 in
set_option maxHeartbeats 4000000 in
theorem note_c {n : Nat} (h : SeenI sb es F W) (hl : es.length < 100000) (hls : ∀ y ∈ es, y.2.2.2.length ≤ 32) (k : KSP) (q : Int) (hc : canN k q es = 0) : CallsIn Fence.wide n Try.prog 10 #[.pointer (some ⟨sb, 0, none⟩), .string k, .int .i64 q] W fun e W2 => e = .returned (.int .i64 0) ∧ NoteFin sb k q es F W W2 := by
  obtain ⟨f, s, hx⟩ : ∃ f s, (getL cmpS k (mapV (·.2) es)).getD (0, []) = (f, s) := ⟨_, _, rfl⟩
  have hsl : s.length ≤ 32 := by
    rw [mapV_get] at hx
    cases hg : getL cmpS k es with
    | none => rw [hg] at hx; simp at hx; simp [hx.2]
    | some y =>
      rw [hg] at hx
      simp at hx
      have := hls _ (get_mem ordrS hg)
      simp only [hx] at this
      exact this
  have hil := insI_len_le q s
  have k1 := (seenCan_c (n := 0) h k q).mono (R' := fun e W1 => e = .returned (.int .i64 0) ∧ CallsIn Fence.wide 0 Try.prog 25 #[.pointer (some ⟨sb, 0, none⟩), .string k] W1 fun e W2 => ∃ cb qb, e = .returned (.pointer (some ⟨cb, 0, none⟩)) ∧
      W2.cell? ⟨cb, 1, none⟩ = some (.pointer (some ⟨qb, 0, none⟩)) ∧ CallsIn Fence.wide 0 Try.prog 26 #[.pointer (some ⟨qb, 0, none⟩), .int .i64 q, .bool true] W2 fun e W3 => ∃ b, e = .returned (.bool b) ∧ W3.cell? ⟨cb, 1, none⟩ = some (.pointer (some ⟨qb, 0, none⟩)) ∧
        (CallsIn Fence.wide 0 Try.prog 27 #[.pointer (some ⟨qb, 0, none⟩)] W3 fun e W4 => e = .returned (.int .i64 (insI q s).length) ∧ W4 = W3) ∧ (¬ 32 < (insI q s).length → NoteFin sb k q es F W W3) ∧
        (32 < (insI q s).length → CallsIn Fence.wide 0 Try.prog 28 #[.pointer (some ⟨qb, 0, none⟩), .int .i64 0] W3 fun e W4 => ∃ b c, e = .returned (.tuple #[.int .i64 ((insI q s).headD 0), .bool b, .bool c]) ∧
          (W4.cell? ⟨cb, 0, none⟩ = some (.int .i64 f) ∧ W4.frozen? ⟨cb, 0, none⟩ = false ∧ cb < W4.heap.size) ∧ ((W4.setCell ⟨cb, 0, none⟩ (.int .i64 ((insI q s).headD 0))).drew.cell? ⟨cb, 0, none⟩ = some (.int .i64 ((insI q s).headD 0)) ∧ (W4.setCell ⟨cb, 0, none⟩ (.int .i64 ((insI q s).headD 0))).drew.cell? ⟨cb, 1, none⟩ = some (.pointer (some ⟨qb, 0, none⟩))) ∧
            CallsIn Fence.wide 0 Try.prog 29 #[.pointer (some ⟨qb, 0, none⟩), .int .i64 ((insI q s).headD 0)] (W4.setCell ⟨cb, 0, none⟩ (.int .i64 ((insI q s).headD 0))).drew fun e W5 => ∃ b, e = .returned (.bool b) ∧ (W5.cell? ⟨cb, 0, none⟩ = some (.int .i64 ((insI q s).headD 0)) ∧ W5.cell? ⟨cb, 1, none⟩ = some (.pointer (some ⟨qb, 0, none⟩))) ∧ NoteFin sb k q es F W W5)) (by
    rintro e W1 ⟨rfl, u1⟩
    refine ⟨by rw [hc], (of_c (h.upd u1 fun _ _ => id) hl k).mono ?_⟩
    rintro e W2 ⟨cb, es', F', rfl, hS, hg, hput, hF', u2⟩
    rw [hx] at hg
    obtain ⟨G, ⟨qb, t, g1, g2, g3, g4⟩, hGF, hback⟩ := hS.focus hg
    have z1 := u1.size
    have z2 := u2.size
    have fin : ∀ W3 x2 G2, CameI cb x2 G2 W3 → (∀ j, G2 j → G j ∨ W2.heap.size ≤ j) → Upd G W2 W3 → x2 = noteS q (f, s) → NoteFin sb k q es F W W3 := fun W3 x2 G2 hc2 hG2 hu3 hx2 => by
      obtain ⟨F2, r1, r2⟩ := hback W3 x2 G2 hc2 hG2 hu3
      refine ⟨_, F2, r1, ?_, ?_, ?_⟩
      · rw [mapV_put, hput, hx, hx2]
      · intro j hj
        rcases r2 j hj with h | h
        · rcases hF' j h with h | h
          · exact .inl h
          · exact .inr (by omega)
        · exact .inr (by omega)
      · refine ((u1.mono fun _ _ h => h.elim).trans u2 fun j hj => .inl hj).trans hu3 fun j hj => ?_
        rcases hF' j (hGF j hj).1 with h | h
        · exact .inl h
        · exact .inr (by omega)
    refine ⟨cb, qb, rfl, g1.cell 1, (rackPutIB (n := 0) cmpV_int (v := true) g2 (by simp only [List.length_map]; omega)).mono ?_⟩
    rintro e W3 ⟨rfl, t3, p1, p2, p3⟩
    rw [tru_put] at p1
    have b3 := g1.upd p3 g4
    have hG3 : ∀ j, (j = cb ∨ j = qb ∨ t3.has j) → G j ∨ W2.heap.size ≤ j := by
      rintro j (h | h | h)
      · exact .inl ((g3 j).2 (.inl h))
      · exact .inl ((g3 j).2 (.inr (.inl h)))
      · rcases p2 j h with h | h
        · exact .inl ((g3 j).2 (.inr (.inr h)))
        · exact .inr h
    have hu3 : Upd G W2 W3 := p3.mono fun j _ hj => (g3 j).2 (.inr hj)
    have hn3 : ¬ (cb = qb ∨ t3.has cb) := by
      rintro (h | h)
      · exact g4 (.inl h)
      · rcases p2 _ h with h | h
        · exact g4 (.inr h)
        · have := g1.lt; omega
    refine ⟨_, rfl, b3.cell 1, ?_, fun hlt => fin W3 (f, insI q s) _ ⟨qb, t3, b3, p1, fun j => Iff.rfl, hn3⟩ hG3 hu3 (by simp only [noteS, if_neg hlt]), fun hgt => ?_⟩
    · have := rackLenIB (n := 0) p1
      rw [List.length_map] at this
      exact this
    · obtain ⟨y, ys, hys⟩ : ∃ y ys, insI q s = y :: ys := by
        cases hi : insI q s with
        | nil => rw [hi] at hgt; simp at hgt
        | cons y ys => exact ⟨y, ys, rfl⟩
      have e0 : (insI q s).headD 0 = y := by rw [hys]; rfl
      rw [e0]
      refine (rackAtIB (n := 0) p1 0 (by simp only [List.length_map]; omega) (by omega)).mono ?_
      rintro e W4 ⟨rfl, u4⟩
      have b4 := b3.upd u4 id
      have b5 := (b4.set 0 (.int .i64 y)).upd (Upd.drew (fun _ => False) _) id
      have e1 : atL (tru (insI q s)) 0 = some (y, true) := by rw [hys]; rfl
      have u5 : Upd (fun j => j = cb) W4 (W4.setCell ⟨cb, 0, none⟩ (.int .i64 y)).drew := ((Upd.refl (fun j => j = cb) _).stepSet (p := ⟨cb, 0, none⟩) (.inl rfl) _).stepDrew
      have p5 : RackIB cmpI cmpIn #[] #[] qb t3 (tru (insI q s)) (W4.setCell ⟨cb, 0, none⟩ (.int .i64 y)).drew := (p1.upd u4 fun _ _ => id).upd u5 fun j hj e => hn3 (e ▸ hj)
      refine ⟨true, true, by rw [e1]; rfl, ⟨b4.cell 0, b4.frozen 0, b4.lt⟩, ⟨b5.cell 0, b5.cell 1⟩, (rackDropIB (n := 0) cmpV_int p5 (by simp only [List.length_map]; omega)).mono ?_⟩
      rintro e W6 ⟨rfl, t6, v1, v2, v3⟩
      refine ⟨_, rfl, ⟨by simpa [e0] using (b5.upd v3 hn3).cell 0, by simpa using (b5.upd v3 hn3).cell 1⟩, fin W6 (y, ys) (fun j => j = cb ∨ j = qb ∨ t6.has j) ⟨qb, t6, by simpa using b5.upd v3 hn3, ?_, fun j => Iff.rfl, ?_⟩ ?_ ?_ ?_⟩
      · rw [hys, tru_drop y ys (by have := p5.rise; rwa [hys] at this)] at v1
        exact v1
      · rintro (h | h)
        · exact g4 (.inl h)
        · rcases v2 _ h with h | h
          · exact hn3 (.inr h)
          · have := b5.lt; omega
      · rintro j (h | h | h)
        · exact hG3 j (.inl h)
        · exact hG3 j (.inr (.inl h))
        · rcases v2 j h with h | h
          · exact hG3 j (.inr (.inr h))
          · have := (hu3.trans (u4.mono (M' := G) fun _ _ h => h.elim) fun j hj => .inl hj).size
            have := u5.size
            exact .inr (by omega)
      · refine ((hu3.trans (u4.mono (M' := G) fun _ _ h => h.elim) fun j hj => .inl hj).trans u5 fun j hj => hG3 j (.inl hj)).trans v3 fun j hj => hG3 j (.inr hj)
      · rw [hys] at hgt
        simp only [noteS, hys, if_pos hgt, List.tail_cons, List.headD_cons])
  replace k1 := Lib.hid k1
  clear h hls hx hsl
  generalize hY : (insI q s).headD 0 = y at *
  clear hY
  generalize hI : insI q s = m at *
  clear hI
  refine callsIn_any (n := 0) (callsIn_of_wp Try.func10 rfl trivial ?_)
  simp only [Try.ntmps10, List.size_toArray, List.length_cons, List.length_nil, Nat.reduceAdd, Nat.reduceSub, Array.replicate_succ, Array.replicate_zero, List.push_toArray, List.append_toArray, List.nil_append, List.cons_append]
  by_cases hm : 32 < m.length
  · skip
    gi_wp2_with (first | refine (⟨trivial, rfl, ?_⟩ : Fence.wide.fn _ ∧ Fence.wide.depth = none ∧ _) | (gi_at_call 22; (with_reducible refine k1.out.mono ?_); rintro e W1 ⟨rfl, k2⟩; (replace k2 := Lib.hid k2)) | (gi_at_call 25; (with_reducible refine k2.out.mono ?_); rintro e W2 ⟨cb, qb, rfl, c1, k3⟩; (replace k3 := Lib.hid k3)) | (gi_at_call 26; (with_reducible refine k3.out.mono ?_); rintro e W3 ⟨b, rfl, c3, k4, _, k5⟩; (replace k4 := Lib.hid k4); (replace k5 := Lib.hid (k5 hm))) | (gi_at_call 27; (with_reducible refine k4.out.mono ?_); rintro e W4 ⟨rfl, rfl⟩) | (gi_at_call 28; (with_reducible refine k5.out.mono ?_); rintro e W5 ⟨b5, b6, rfl, ⟨d0, d1, d2⟩, ⟨e0, e1⟩, k6⟩; (replace k6 := Lib.hid k6)) | refine (⟨trivial, ?_⟩ : Fence.wide.fn _ ∧ _))
    refine wpIn_eager [(0, true), (1, true), (2, true), (3, true), (4, true), (5, true), (6, true), (7, true), (8, false)] (fun V => V.cell? ⟨cb, 0, none⟩ = some (.int .i64 y) ∧ V.cell? ⟨cb, 1, none⟩ = some (.pointer (some ⟨qb, 0, none⟩))) (by kernel_rfl) (by kernel_rfl) ⟨e0, e1⟩ ?_
    repeat (first | (refine wpE_fl rfl rfl (fun _ _ => rfl) ?_; go_simp) | (refine wpE_sk rfl rfl ?_; go_simp) | (refine wpE_fl (v := ?_) rfl rfl ?_ ?_; rotate_left; (intro W' h'; (try dsimp only at h'); go_simp; exact rfl); go_simp) | (refine wpE_ef rfl ?_; go_simp; gi_wp2_with (first | refine (⟨trivial, rfl, ?_⟩ : Fence.wide.fn _ ∧ Fence.wide.depth = none ∧ _) | refine (⟨trivial, trivial, rfl, ?_⟩ : Fence.wide.fn _ ∧ Fence.wide.fn _ ∧ Fence.wide.depth = none ∧ _) | (gi_at_call 29; (with_reducible refine k6.out.mono ?_); rintro e W6 ⟨b7, rfl, hh6, fin⟩; (replace fin := Lib.hid fin)) | refine (⟨trivial, ?_⟩ : Fence.wide.fn _ ∧ _)); (first | refine ⟨by first | exact hh6, ?_⟩ | skip)))
    refine wpE_nil ?_
    gi_wp2_with (first | refine (⟨trivial, rfl, ?_⟩ : Fence.wide.fn _ ∧ Fence.wide.depth = none ∧ _) | refine (⟨trivial, ?_⟩ : Fence.wide.fn _ ∧ _))
    go_ret
    exact ⟨rfl, fin.out⟩
  · skip
    gi_wp2_with (first | refine (⟨trivial, rfl, ?_⟩ : Fence.wide.fn _ ∧ Fence.wide.depth = none ∧ _) | (gi_at_call 22; (with_reducible refine k1.out.mono ?_); rintro e W1 ⟨rfl, k2⟩; (replace k2 := Lib.hid k2)) | (gi_at_call 25; (with_reducible refine k2.out.mono ?_); rintro e W2 ⟨cb, qb, rfl, c1, k3⟩; (replace k3 := Lib.hid k3)) | (gi_at_call 26; (with_reducible refine k3.out.mono ?_); rintro e W3 ⟨b, rfl, c3, k4, k5, _⟩; (replace k4 := Lib.hid k4); (replace k5 := Lib.hid (k5 hm))) | (gi_at_call 27; (with_reducible refine k4.out.mono ?_); rintro e W4 ⟨rfl, rfl⟩) | refine (⟨trivial, ?_⟩ : Fence.wide.fn _ ∧ _))
    go_ret
    exact ⟨rfl, k5.out⟩
end
end Go.Proofs.Ytgleiajmdbekiaa

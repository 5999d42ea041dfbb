/- seen: the state of numbers that came; New, Can. -/
import Derived.Test.YtgleiajmdbekiaaProg
import Derived.Test.YtgleiajmdbekiaaBase
import Derived.Test.YtgleiajmdbekiaaTrL
import Derived.Test.YtgleiajmdbekiaaRkCmpL
import Derived.Test.YtgleiajmdbekiaaRkSPE
import Derived.Test.YtgleiajmdbekiaaRkSPC
import Derived.Test.YtgleiajmdbekiaaRkIBE
import Derived.Test.YtgleiajmdbekiaaRkIBD
namespace Go.Proofs.Ytgleiajmdbekiaa
open Go.RowKit Go.Shelf
attribute [local go_sem] Oper.semAt_some

section mapv
variable {α β γ : Type} {c : α → α → Int} (f : β → γ)
/-- With other values. -/
def mapV (l : List (α × β)) : List (α × γ) := l.map fun x => (x.1, f x.2)
theorem mapV_len (l : List (α × β)) : (mapV f l).length = l.length := by simp [mapV]
theorem mapV_had (k : α) (l : List (α × β)) : hadL c k (mapV f l) = hadL c k l := by simp [hadL, mapV, Function.comp_def]
theorem mapV_get (k : α) (l : List (α × β)) : getL c k (mapV f l) = (getL c k l).map f := by
  induction l with
  | nil => rfl
  | cons x l ih =>
    simp only [getL, mapV, List.map_cons, List.find?_cons] at ih ⊢
    cases decide (c k x.1 = 0) <;> simp_all
theorem mapV_filter (p : α → Bool) (l : List (α × β)) : (mapV f l).filter (fun x => p x.1) = mapV f (l.filter fun x => p x.1) := by
  induction l with
  | nil => rfl
  | cons x l ih =>
    simp only [mapV, List.map_cons, List.filter_cons] at ih ⊢
    cases p x.1 <;> simp_all
theorem mapV_put (k : α) (v : β) (l : List (α × β)) : mapV f (putL c k v l) = putL c k (f v) (mapV f l) := by
  simp only [putL]
  rw [mapV_filter f (fun y => decide (0 < c k y)), mapV_filter f (fun y => decide (c k y < 0))]
  simp [mapV]
end mapv

abbrev cmpSe : Fn := .func 21
abbrev cmpIn : Fn := .func 44
/-- A source: its floor, its numbers. -/
abbrev Src := Int × List Int
abbrev Srcs := List (ByteArray × Src)
abbrev Ents := List (ByteArray × (Nat × Src))
abbrev tru (s : List Int) : List (KIB × VIB) := s.map fun n => (n, true)
/-- A source's block cb; G: its blocks. -/
def CameI (cb : Nat) (x : Src) (G : Nat → Prop) (W : World) : Prop :=
  ∃ qb t, Blk W cb #[.int .i64 x.1, .pointer (some ⟨qb, 0, none⟩)] 65 ∧ RackIB cmpI cmpIn #[] #[] qb t (tru x.2) W ∧ (∀ j, G j ↔ (j = cb ∨ j = qb ∨ t.has j)) ∧ ¬ (cb = qb ∨ t.has cb)
abbrev ptrs (es : Ents) : List (KSP × VSP) := mapV (fun y : Nat × Src => (some (⟨y.1, 0, none⟩ : Addr))) es
/-- All sources; F: their blocks. -/
def SeenI (sb : Nat) (es : Ents) (F : Nat → Prop) (W : World) : Prop :=
  ∃ rb t, ∃ G : Nat → Nat → Prop, Blk W sb #[.pointer (some ⟨rb, 0, none⟩)] 59 ∧ RackSP cmpS cmpSe #[] #[] rb t (ptrs es) W ∧ (∀ x ∈ es, CameI x.2.1 x.2.2 (G x.2.1) W) ∧
    (∀ j, F j ↔ (j = sb ∨ j = rb ∨ t.has j ∨ ∃ x ∈ es, G x.2.1 j)) ∧ ¬ (sb = rb ∨ t.has sb) ∧ (∀ x ∈ es, ∀ j, G x.2.1 j → ¬ (j = sb ∨ j = rb ∨ t.has j)) ∧ ∀ x ∈ es, ∀ y ∈ es, x.1 ≠ y.1 → ∀ j, G x.2.1 j → ¬ G y.2.1 j
section
variable {sb cb : Nat} {es : Ents} {F G : Nat → Prop} {W W2 : World} {x : Src}
theorem CameI.agree (h : CameI cb x G W) (ha : Agree G W W2) : CameI cb x G W2 := by
  obtain ⟨qb, t, h1, h2, h3, h4⟩ := h
  exact ⟨qb, t, h1.agree ha ((h3 _).2 (.inl rfl)), h2.agree (ha.mono fun j hj => (h3 j).2 (.inr hj)), h3, h4⟩
theorem CameI.lt (h : CameI cb x G W) : ∀ j, G j → j < W.heap.size := by
  obtain ⟨qb, t, h1, h2, h3, h4⟩ := h
  intro j hj
  rcases (h3 j).1 hj with rfl | h
  · exact h1.lt
  · exact h2.lt j h
theorem CameI.upd (h : CameI cb x G W) {M : Nat → Prop} (hu : Upd M W W2) (hM : ∀ j, G j → ¬ M j) : CameI cb x G W2 := h.agree (hu.agree fun j hj => ⟨h.lt j hj, hM j hj⟩)
theorem CameI.self (h : CameI cb x G W) : G cb := by
  obtain ⟨qb, t, h1, h2, h3, h4⟩ := h
  exact (h3 cb).2 (.inl rfl)
theorem CameI.rise (h : CameI cb x G W) : Rise cmpI (tru x.2) := by
  obtain ⟨qb, t, h1, h2, h3, h4⟩ := h
  exact h2.rise
theorem SeenI.agree (h : SeenI sb es F W) (ha : Agree F W W2) : SeenI sb es F W2 := by
  obtain ⟨rb, t, G, h1, h2, h3, h4, h5⟩ := h
  exact ⟨rb, t, G, h1.agree ha ((h4 _).2 (.inl rfl)), h2.agree (ha.mono fun j hj => (h4 j).2 (.inr (hj.elim .inl fun h => .inr (.inl h)))), fun x hx => (h3 x hx).agree (ha.mono fun j hj => (h4 j).2 (.inr (.inr (.inr ⟨x, hx, hj⟩)))), h4, h5⟩
theorem SeenI.lt (h : SeenI sb es F W) : ∀ j, F j → j < W.heap.size := by
  obtain ⟨rb, t, G, h1, h2, h3, h4, h5⟩ := h
  intro j hj
  rcases (h4 j).1 hj with rfl | h | h | ⟨x, hx, h⟩
  · exact h1.lt
  · exact h2.lt j (.inl h)
  · exact h2.lt j (.inr h)
  · exact (h3 x hx).lt j h
theorem SeenI.upd (h : SeenI sb es F W) {M : Nat → Prop} (hu : Upd M W W2) (hM : ∀ j, F j → ¬ M j) : SeenI sb es F W2 := h.agree (hu.agree fun j hj => ⟨h.lt j hj, hM j hj⟩)
theorem SeenI.rise (h : SeenI sb es F W) : Rise cmpS es := by
  obtain ⟨rb, t, G, h1, h2, _⟩ := h
  have := h2.rise
  simpa [ptrs, mapV, Rise, List.pairwise_map] using this
theorem get_mem {α β : Type} {c : α → α → Int} (ho : Ordr c) {k : α} {v : β} {l : List (α × β)} (h : getL c k l = some v) : (k, v) ∈ l := by
  simp only [getL, Option.map_eq_some_iff] at h
  obtain ⟨y, hy, rfl⟩ := h
  have h1 := List.find?_some hy
  simp only [decide_eq_true_eq] at h1
  have h2 := (ho.eq _ _).1 h1
  subst h2
  exact List.mem_of_find?_eq_some hy
theorem get_of_mem {α β : Type} {c : α → α → Int} (ho : Ordr c) {l : List (α × β)} (hr : Rise c l) {x : α × β} (hx : x ∈ l) : getL c x.1 l = some x.2 := by
  obtain ⟨i, hi, rfl⟩ := List.getElem_of_mem hx
  have h1 : hadL c l[i].1 l = true := (hadL_iff ho).2 ⟨_, hx, rfl⟩
  obtain ⟨hlt, e⟩ := get_at ho hr h1
  rw [e]
  congr 2
  congr 1
  exact rank_own ho hr hi

/-- May a number come? -/
def canN (k : ByteArray) (q : Int) (es : Ents) : Int :=
  match getL cmpS k es with
  | none => if 8 ≤ es.length then 16 else 0
  | some (_, f, s) => if q ∈ s ∨ q ≤ f then 13 else 0
theorem tru_get (q : Int) (s : List Int) : (getL cmpI q (tru s)).isSome = decide (q ∈ s) := by
  rw [get_had, Bool.eq_iff_iff, hadL_iff ordrI]
  simp [tru]
set_option maxRecDepth 100000 in
set_option maxHeartbeats 4000000 in
theorem seenNew_c {n : Nat} : CallsIn Fence.wide n Try.prog 7 #[] W fun e W2 => ∃ sb F, e = .returned (.pointer (some ⟨sb, 0, none⟩)) ∧ SeenI sb [] F W2 ∧ (∀ j, F j → W.heap.size ≤ j) ∧ Upd (fun _ => False) W W2 := by
  refine callsIn_any (n := 0) (callsIn_of_wp Try.func7 rfl trivial ?_)
  simp only [Try.ntmps7, List.size_toArray, List.length_cons, List.length_nil, Nat.reduceAdd, Nat.reduceSub, Array.replicate_succ, Array.replicate_zero, List.push_toArray, List.append_toArray, List.nil_append, List.cons_append]
  gi_wp2_with (first | refine (⟨trivial, rfl, ?_⟩ : Fence.wide.fn _ ∧ Fence.wide.depth = none ∧ _) | (gi_at_call 20; (with_reducible refine (rackNewSP (c := cmpS)).mono ?_); rintro e W2 ⟨rfl, ra, ua⟩; (replace ra := Lib.hid ra); (replace ua := Lib.hid ua)) | refine (⟨trivial, ?_⟩ : Fence.wide.fn _ ∧ _))
  go_ret
  have z := ua.out.size
  have zr := ra.out.blk.lt
  refine ⟨W2.heap.size, fun j => j = W2.heap.size ∨ j = W.heap.size, rfl, ⟨W.heap.size, .nil, fun _ _ => False, Blk.new _ _ _, ra.out.upd (Upd.alloc (fun _ => False) _ _) (fun _ _ => id), fun x hx => by simp at hx, fun j => ⟨fun h => h.elim .inl fun h => .inr (.inl h), ?_⟩, ?_, fun x hx => by simp at hx, fun x hx => by simp at hx⟩, fun j hj => by rcases hj with h | h <;> omega, ua.out.stepAlloc _⟩
  · rintro (h | h | h | ⟨x, hx, _⟩)
    · exact .inl h
    · exact .inr h
    · exact h.elim
    · simp at hx
  · rintro (h | h)
    · omega
    · exact h
set_option maxRecDepth 100000 in
set_option maxHeartbeats 4000000 in
theorem seenCan_c {n : Nat} (h : SeenI sb es F W) (k : KSP) (q : Int) : CallsIn Fence.wide n Try.prog 22 #[.pointer (some ⟨sb, 0, none⟩), .string k, .int .i64 q] W fun e W2 => e = .returned (.int .i64 (canN k q es)) ∧ Upd (fun _ => False) W W2 := by
  obtain ⟨rb, t, G, h1, h2, h3, h4, h5⟩ := h
  have c0 : W.cell? ⟨sb, 0, none⟩ = some (.pointer (some ⟨rb, 0, none⟩)) := h1.cell 0
  have k1 := (rackGetSP (n := 0) h2 cmpV_strings k)
  cases hg : getL cmpS k es with
  | none =>
    have k1 := k1.mono (R' := fun e W2 => e = .returned (.tuple #[.pointer none, .bool false]) ∧ W2.cell? ⟨sb, 0, none⟩ = some (.pointer (some ⟨rb, 0, none⟩)) ∧ Upd (fun _ => False) W W2 ∧
      CallsIn Fence.wide 0 Try.prog 41 #[.pointer (some ⟨rb, 0, none⟩)] W2 fun e W4 => e = .returned (.int .i64 es.length) ∧ W4 = W2) (by
      rintro e W2 ⟨rfl, u⟩
      refine ⟨?_, (h1.upd u id).cell 0, u, ?_⟩
      · rw [mapV_get, hg]; rfl
      · have := rackLenSP (n := 0) (h2.upd u fun _ _ => id)
        rw [mapV_len] at this
        exact this)
    replace k1 := Lib.hid k1
    clear h1 h2 h3 h4 h5
    refine callsIn_any (n := 0) (callsIn_of_wp Try.func22 rfl trivial ?_)
    simp only [Try.ntmps22, List.size_toArray, List.length_cons, List.length_nil, Nat.reduceAdd, Nat.reduceSub, Array.replicate_succ, Array.replicate_zero, List.push_toArray, List.append_toArray, List.nil_append, List.cons_append]
    by_cases hl : 8 ≤ es.length
    all_goals
      gi_wp2_with (first | refine (⟨trivial, rfl, ?_⟩ : Fence.wide.fn _ ∧ Fence.wide.depth = none ∧ _) | (gi_at_call 38; (with_reducible refine k1.out.mono ?_); rintro e W2 ⟨rfl, c4, u2, kk⟩; (replace kk := Lib.hid kk)) | (gi_at_call 41; (with_reducible refine kk.out.mono ?_); rintro e W4 ⟨rfl, rfl⟩) | refine (⟨trivial, ?_⟩ : Fence.wide.fn _ ∧ _))
      go_ret
      exact ⟨by simp [canN, hg, hl], u2⟩
  | some y =>
    obtain ⟨cb, f, s⟩ := y
    have hm := get_mem ordrS hg
    obtain ⟨qb, tq, g1, g2, g3, g4⟩ := h3 _ hm
    have k1 := k1.mono (R' := fun e W2 => e = .returned (.tuple #[.pointer (some ⟨cb, 0, none⟩), .bool true]) ∧ (W2.cell? ⟨cb, 0, none⟩ = some (.int .i64 f) ∧ W2.cell? ⟨cb, 1, none⟩ = some (.pointer (some ⟨qb, 0, none⟩))) ∧
      CallsIn Fence.wide 0 Try.prog 42 #[.pointer (some ⟨qb, 0, none⟩), .int .i64 q] W2 fun e W4 => ∃ b, e = .returned (.tuple #[.bool b, .bool (decide (q ∈ s))]) ∧ W4.cell? ⟨cb, 0, none⟩ = some (.int .i64 f) ∧ Upd (fun _ => False) W W4) (by
      rintro e W2 ⟨rfl, u⟩
      have g1' := g1.upd u id
      refine ⟨?_, ⟨g1'.cell 0, g1'.cell 1⟩, (rackGetIB (n := 0) (g2.upd u fun _ _ => id) cmpV_int q).mono ?_⟩
      · rw [mapV_get, hg]; rfl
      · rintro e W4 ⟨rfl, u4⟩
        exact ⟨_, by rw [tru_get], (g1'.upd u4 id).cell 0, u.trans' u4⟩)
    replace k1 := Lib.hid k1
    clear h1 h2 h3 h4 h5 g1 g2 g3 g4 hm
    refine callsIn_any (n := 0) (callsIn_of_wp Try.func22 rfl trivial ?_)
    simp only [Try.ntmps22, List.size_toArray, List.length_cons, List.length_nil, Nat.reduceAdd, Nat.reduceSub, Array.replicate_succ, Array.replicate_zero, List.push_toArray, List.append_toArray, List.nil_append, List.cons_append]
    by_cases hq : q ∈ s
    · have hqd : decide (q ∈ s) = true := by simpa using hq
      rw [hqd] at k1
      clear hqd
      gi_wp2_with (first | refine (⟨trivial, rfl, ?_⟩ : Fence.wide.fn _ ∧ Fence.wide.depth = none ∧ _) | (gi_at_call 38; (with_reducible refine k1.out.mono ?_); rintro e W2 ⟨rfl, ⟨d0, d1⟩, kk⟩; (replace kk := Lib.hid kk)) | (gi_at_call 42; (with_reducible refine kk.out.mono ?_); rintro e W4 ⟨b, rfl, e0, u4⟩; (skip)) | refine (⟨trivial, ?_⟩ : Fence.wide.fn _ ∧ _))
      go_ret
      exact ⟨by simp [canN, hg, hq], u4⟩
    · have hqd : decide (q ∈ s) = false := by simpa using hq
      rw [hqd] at k1
      clear hqd
      by_cases hf : q ≤ f
      all_goals
        gi_wp2_with (first | refine (⟨trivial, rfl, ?_⟩ : Fence.wide.fn _ ∧ Fence.wide.depth = none ∧ _) | (gi_at_call 38; (with_reducible refine k1.out.mono ?_); rintro e W2 ⟨rfl, ⟨d0, d1⟩, kk⟩; (replace kk := Lib.hid kk)) | (gi_at_call 42; (with_reducible refine kk.out.mono ?_); rintro e W4 ⟨b, rfl, e0, u4⟩; (skip)) | refine (⟨trivial, ?_⟩ : Fence.wide.fn _ ∧ _))
        go_ret
        exact ⟨by simp [canN, hg, hq, hf], u4⟩
end
end Go.Proofs.Ytgleiajmdbekiaa

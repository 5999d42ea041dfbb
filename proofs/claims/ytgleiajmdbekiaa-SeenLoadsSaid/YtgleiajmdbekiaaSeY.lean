/- seen: the document's All; what a source's numbers are gone through by. -/
import Derived.Test.YtgleiajmdbekiaaProg
import Derived.Test.YtgleiajmdbekiaaBase
import Derived.Test.YtgleiajmdbekiaaSeQ
namespace Go.Proofs.Ytgleiajmdbekiaa
open Go.RowKit Go.Shelf
attribute [local go_sem] Oper.semAt_some

def seqsS (k : ByteArray) (ls : Srcs) : List Int := match getL cmpS k ls with
  | none => []
  | some (_, s) => s
theorem seqsOf_map (k : ByteArray) (es : Ents) : seqsOf k es = seqsS k (mapV (·.2) es) := by
  simp only [seqsOf, seqsS, mapV_get]
  cases getL cmpS k es <;> rfl
section
variable {rs : List SrcP} {A : Option Addr} {cap : Nat} {W w : World} {k : ByteArray}
set_option maxRecDepth 100000 in
set_option maxHeartbeats 4000000 in
theorem all14_c {n : Nat} (hr : ReadsT w A rs) (hrise : Rise cmpS (rs.map absT)) (hl : rs.length ≤ 100000) (hsz : ∀ r ∈ rs, r.1.size ≤ maxLen) :
    CallsIn Fence.wide n Try.prog 17 #[.slice A rs.length cap, .string k] w fun e w' => ∃ A5 c5, e = .returned (.slice A5 (seqsS k (rs.map absT)).length c5) ∧ Reads1 w' A5 (intsV (seqsS k (rs.map absT))) ∧ (∀ j, blkOf' A5 (seqsS k (rs.map absT)).length j → blkT A rs j) ∧ Upd (fun _ => False) w w' := by
  have kF := Lib.hid (find14_c (n := 0) (cap := cap) (k := k) hr hrise hl hsz)
  have hrw := Lib.hid fun V (u : Upd (fun _ => False) w V) => hr.upd u fun _ _ => id
  cases hh : hadL cmpS k (rs.map absT) with
  | false =>
    have e0 : seqsS k (rs.map absT) = [] := by simp only [seqsS, get_none hh]
    rw [hh] at kF
    rw [e0]
    clear hr hrise hsz hh hrw e0
    refine callsIn_any (n := 0) (callsIn_of_wp Try.func17 rfl trivial ?_)
    simp only [Try.ntmps17, List.size_toArray, List.length_cons, List.length_nil, Nat.reduceAdd, Nat.reduceSub, Array.replicate_succ, Array.replicate_zero, List.push_toArray, List.append_toArray, List.nil_append, List.cons_append]
    gi_wp2_with (first | refine (⟨trivial, rfl, ?_⟩ : Fence.wide.fn _ ∧ Fence.wide.depth = none ∧ _) | (gi_at_call 36; (with_reducible refine kF.out.mono ?_); rintro e W2 ⟨rfl, u2⟩; (skip)) | refine (⟨trivial, ?_⟩ : Fence.wide.fn _ ∧ _))
    go_ret
    exact ⟨none, 0, rfl, fun i v h => by simp [intsV] at h, fun j hj => by simp [blkOf'] at hj, u2⟩
  | true =>
    obtain ⟨h1, h2, h3⟩ := src_at hrise hh
    have hm1 := List.getElem_mem h1
    have hat := Lib.hid fun V (u : Upd (fun _ => False) w V) => (hrw.out V u).at h1
    rw [hh] at kF
    generalize rankL cmpS k (rs.map absT) = a at *
    obtain ⟨x, hx⟩ : ∃ x, rs[a] = x := ⟨_, rfl⟩
    simp only [hx] at hat h3 hm1
    clear hx h2
    obtain ⟨nm, fl, s, A5, c5⟩ := x
    simp only [absT] at hat h3
    have e0 : seqsS k (rs.map absT) = s := by simp only [seqsS, h3]
    have hn := Lib.hid fun V (u : Upd (fun _ => False) w V) => ((hrw.out V u).each _ hm1).1
    rw [e0]
    obtain ⟨g, o, rfl, _⟩ := hat.out w (Upd.refl _ _)
    have hcell := Lib.hid fun V (u : Upd (fun _ => False) w V) => show V.cell? ⟨g, o + a * 3 + 2, none⟩ = some (.slice A5 s.length c5) from by
      obtain ⟨g', o', e, _, _, q2⟩ := hat.out V u
      cases e
      exact q2
    have hblk : Hid (∀ j, blkOf' A5 s.length j → blkT (some ⟨g, o, none⟩) rs j) := Lib.hid fun j hj => .inr ⟨_, hm1, hj⟩
    clear hr hrise hsz hh hrw hat e0 h3 hm1
    refine callsIn_any (n := 0) (callsIn_of_wp Try.func17 rfl trivial ?_)
    simp only [Try.ntmps17, List.size_toArray, List.length_cons, List.length_nil, Nat.reduceAdd, Nat.reduceSub, Array.replicate_succ, Array.replicate_zero, List.push_toArray, List.append_toArray, List.nil_append, List.cons_append]
    gi_wp2_with (first | refine (⟨trivial, rfl, ?_⟩ : Fence.wide.fn _ ∧ Fence.wide.depth = none ∧ _) | (gi_at_call 36; (with_reducible refine kF.out.mono ?_); rintro e W2 ⟨rfl, u2⟩; (have d2 := hcell.out _ u2)) | refine (⟨trivial, ?_⟩ : Fence.wide.fn _ ∧ _))
    go_ret
    exact ⟨A5, c5, rfl, hn.out _ u2, hblk.out, u2⟩
end
abbrev goStepA {α : Type} (most : Int) : Nat → α → Nat × Bool := fun n _ => (n + 1, decide ((n : Int) + 1 < most))
theorem goStepA_go {α : Type} (most : Int) : ∀ (pre : List α) (n s1 : Nat), goF (goStepA most) n pre = (s1, true) → s1 = n + pre.length
  | [], n, s1, h => by simp [goF] at h; simp [h]
  | x :: xs, n, s1, h => by
    simp only [goF] at h
    by_cases hb : (n : Int) + 1 < most
    · simp only [hb, decide_true, if_true] at h
      have a := goStepA_go most xs (n + 1) s1 h
      simp [a]; omega
    · simp [hb] at h
theorem goStepA_end {α : Type} (most : Int) : ∀ (l : List α) (n : Nat), (n : Int) < max most 1 → ((goF (goStepA most) n l).1 : Int) = min (n + l.length : Int) (max most 1)
  | [], n, h => by simp only [goF, List.length_nil]; omega
  | x :: xs, n, h => by
    simp only [goF, List.length_cons]
    by_cases hb : (n : Int) + 1 < most
    · simp only [hb, decide_true, if_true]
      rw [goStepA_end most xs (n + 1) (by omega)]
      push_cast; omega
    · simp only [hb, decide_false, Bool.false_eq_true, if_false]
      push_cast; omega
def HasRep (bok bn : Nat) (n : Nat) (S : Nat → Prop) (W : World) : Prop := (∀ k, (k = bok ∨ k = bn) → S k) ∧ Blk W bok #[.bool true] 4 ∧ Blk W bn #[.int .i64 (n : Nat)] 3
/-- The closure over its four boxes. -/
abbrev loadsF (bok bn bw bm : Nat) : Value := .func (.func 19) #[] #[.pointer (some ⟨bok, 0, none⟩), .pointer (some ⟨bn, 0, none⟩), .pointer (some ⟨bw, 0, none⟩), .pointer (some ⟨bm, 0, none⟩)]
section
variable {W : World} {bok bn bw bm : Nat} {A : Option Addr} {cap : Nat} {most : Int} {s : List Int}
set_option maxRecDepth 100000 in
set_option maxHeartbeats 1000000 in
theorem loads1 {k : Nat} {x : Int} (hok : Blk W bok #[.bool true] 4) (hn : Blk W bn #[.int .i64 k] 3) (ho : Blk W bw #[.slice A s.length cap] 41) (hm : Blk W bm #[.int .i64 most] 3)
    (hk : k < s.length) (hlen : s.length ≤ 100000) (hr : Reads1 W A (intsV s)) (hx : s[k]? = some x)
    (d1 : bok ≠ bn) (d2 : bok ≠ bw) (d4 : bok ≠ bm) (d5 : bn ≠ bw) (d7 : bn ≠ bm) (d8 : ¬ blkOf A bok) :
    CallV Try.prog (loadsF bok bn bw bm) (enc1I x) W
      fun v W' => v = .bool (decide ((k : Int) + 1 < most)) ∧ Blk W' bok #[.bool true] 4 ∧ Blk W' bn #[.int .i64 ((k + 1 : Nat) : Int)] 3 ∧ Upd (fun j => j = bok ∨ j = bn) W W' := by
  refine CallV.of_calls (n := 0) (enters_of Try.func19 (by kernel_rfl) rfl) ?_
  have c1 := hok.cell0
  have c2 := hn.cell0
  have c3 := ho.cell0
  have c5 := hm.cell0
  have f1 := hok.frozen 0
  have f2 := hn.frozen 0
  obtain ⟨g, o, rfl, hc⟩ := reads_at hr (by rw [intsV_len]; omega)
  have he := hc k (.int .i64 x) (by simp [intsV, hx])
  have hw1 : IntKind.i64.wrap ((k : Int) + 1) = (k : Int) + 1 := Go.IntWalk.i64_in _ ⟨by omega, by omega⟩
  clear hr hx hc
  refine callsIn_of_wp Try.func19 rfl trivial ?_
  simp only [Try.ntmps19, List.size_toArray, List.length_cons, List.length_nil, Nat.reduceAdd, Nat.reduceSub, Array.replicate_succ, Array.replicate_zero, List.push_toArray, List.append_toArray, List.nil_append, List.cons_append]
  gi_wp2
  go_ret
  refine ⟨_, rfl, ?_, ?_, ?_, ?_⟩
  · rfl
  · exact (hok.set 0 _).other (p := ⟨bn, 0, none⟩) d1 _
  · exact (hn.other (p := ⟨bok, 0, none⟩) d1.symm _).set 0 _
  · exact ((Upd.refl _ _).stepSet (.inl (.inl rfl)) _).stepSet (.inl (.inr rfl)) _
set_option maxRecDepth 100000 in
set_option maxHeartbeats 1000000 in
theorem loads_run {fv : Value} {D : Nat → Prop} (hseq : SeqO Try.prog fv enc1I (s.map fun x => ((), x)) () () (fun _ _ => True) (fun _ => False) D W)
    (hok : Blk W bok #[.bool true] 4) (hn : Blk W bn #[.int .i64 0] 3) (ho : Blk W bw #[.slice A s.length cap] 41) (hm : Blk W bm #[.int .i64 most] 3)
    (hlen : s.length ≤ 100000) (hr : Reads1 W A (intsV s)) (hD : ¬ D bok ∧ ¬ D bn) (hA : ∀ j, blkOf' A s.length j → j ≠ bok ∧ j ≠ bn) (d1 : bok ≠ bn) (d2 : bok ≠ bw) (d4 : bok ≠ bm) (d5 : bn ≠ bw) (d7 : bn ≠ bm) :
    CallV Try.prog fv #[loadsF bok bn bw bm] W fun _ W' => ∃ N : Nat, (N : Int) = min (s.length : Int) (max most 1) ∧ Blk W' bok #[.bool true] 4 ∧ Blk W' bn #[.int .i64 (N : Nat)] 3 ∧ Blk W' bw #[.slice A s.length cap] 41 ∧ Blk W' bm #[.int .i64 most] 3 ∧ Upd (fun k => k = bok ∨ k = bn) W W' := by
  have hxs : (s.map fun x => ((), x)).map (·.2) = s := by simp [Function.comp_def]
  have zo := hok.lt
  have zn := hn.lt
  have z1 := ho.lt
  have z3 := hm.lt
  refine (hseq.run Nat (goStepA most) (HasRep bok bn) _ 0 (fun k => k = bok ∨ k = bn) W ⟨⟨_, _, _, rfl⟩, Nat.le_refl _, fun _ _ => rfl, ?_, ?_, ?_, ?_⟩ trivial).mono ?_
  · rintro k (rfl | rfl)
    · exact ⟨zo, hD.1, id⟩
    · exact ⟨zn, hD.2, id⟩
  · rintro n S W1 W2 ⟨h1, h2, h4⟩ hA _
    exact ⟨h1, h2.agree hA (h1 _ (.inl rfl)), h4.agree hA (h1 _ (.inr rfl))⟩
  · rintro pre x suf s1 S1 W1 he hgo ⟨h1, h2, h4⟩ hu hS1
    have e1 := goStepA_go most pre 0 s1 hgo
    rw [hxs] at he
    have hk : s1 < s.length := by rw [he, e1]; simp
    have hx : s[s1]? = some x := by rw [he, e1]; simp
    have hne : ∀ k, k ≠ bok → k ≠ bn → ¬ ((k = bok ∨ k = bn) ∨ False) := by
      rintro k h1 h2 ((h | h) | h)
      · exact h1 h
      · exact h2 h
      · exact h
    have hrW := hr.agree' (w' := W1) (hu.agree fun k hk => ⟨hr.lt' k hk, hne k (hA k (by rwa [intsV_len] at hk)).1 (hA k (by rwa [intsV_len] at hk)).2⟩)
    refine (loads1 h2 h4 (ho.upd hu (hne _ d2.symm d5.symm)) (hm.upd hu (hne _ d4.symm d7.symm)) hk hlen hrW hx d1 d2 d4 d5 d7 (fun h => (hA _ ⟨by omega, h⟩).1 rfl)).mono ?_
    rintro v W2 ⟨rfl, g1, g3, g4⟩
    refine ⟨S1, rfl, ⟨h1, g1, g3⟩, g4.mono (fun k _ hk => ?_), fun k hk => ⟨by have := (hS1 k hk).1; have := g4.size; omega, .inl hk⟩⟩
    rcases hk with rfl | rfl
    · exact h1 _ (.inl rfl)
    · exact h1 _ (.inr rfl)
  · exact ⟨fun _ h => h, hok, by simpa using hn⟩
  · rintro v W' ⟨S', ⟨h1, h2, h4⟩, _, hu, hS'⟩
    have hne : ∀ k, k ≠ bok → k ≠ bn → ¬ ((k = bok ∨ k = bn) ∨ False) := by
      rintro k h1 h2 ((h | h) | h)
      · exact h1 h
      · exact h2 h
      · exact h
    refine ⟨(goF (goStepA most) 0 ((s.map fun x => ((), x)).map (·.2))).1, ?_, h2, h4, ho.upd hu (hne _ d2.symm d5.symm), hm.upd hu (hne _ d4.symm d7.symm), hu.mono fun k _ hk => ?_⟩
    · rw [goStepA_end most _ 0 (by simp; omega), hxs]; simp
    · rcases hk with h | h
      · exact h
      · exact h.elim
end
end Go.Proofs.Ytgleiajmdbekiaa

/- MarkRises: the closure; the calls of an act. -/
import Derived.Test.YtpljdckppmobeaaProg
import Derived.Test.YtpljdckppmobeaaBase
import Derived.Test.YtpljdckppmobeaaMkR
import Derived.Test.YtpljdckppmobeaaAppS
import Derived.Test.YtpljdckppmobeaaRowG
namespace Go.Proofs.Ytpljdckppmobeaa
open Go.RowKit Go.Shelf
attribute [local go_sem] Oper.semAt_some

structure Act13 where
  kind : Int
  n : Int
  src : ByteArray
def encC (a : Act13) : List Value := [.int .i64 a.kind, .int .i64 a.n, .string a.src]
theorem acts13_at {W : World} {A : Option Addr} {L : List Act13} (hr : Reads1 W A (L.flatMap encC)) {k : Nat} (hk : k < L.length) :
    ∃ g o, A = some ⟨g, o, none⟩ ∧ W.cell? ⟨g, o + k * 3, none⟩ = some (.int .i64 L[k].kind) ∧ W.cell? ⟨g, o + k * 3 + 1, none⟩ = some (.int .i64 L[k].n) ∧ W.cell? ⟨g, o + k * 3 + 2, none⟩ = some (.string L[k].src) := by
  have hn : ∀ a, (encC a).length = 3 := fun _ => rfl
  have hl : 0 < (L.flatMap encC).length := by rw [flatMap_len hn]; omega
  obtain ⟨g, o, rfl, hc⟩ := reads_at hr hl
  refine ⟨g, o, rfl, hc _ _ (flatMap_at hn L k hk 0 (by omega)), ?_, ?_⟩
  · have := hc _ _ (flatMap_at hn L k hk 1 (by omega)); rwa [← Nat.add_assoc] at this
  · have := hc _ _ (flatMap_at hn L k hk 2 (by omega)); rwa [← Nat.add_assoc] at this

abbrev riseF (bok bl bw : Nat) : Value := .func (.func 15) #[] #[.pointer (some ⟨bok, 0, none⟩), .pointer (some ⟨bl, 0, none⟩), .pointer (some ⟨bw, 0, none⟩)]
/-- What is kept from act to act. -/
def Fin13 (mb : Nat) (idle drain : Int) (w W : World) : Prop := ∃ now low ls F, MkI mb idle drain now low ls F W ∧ MkOk idle drain now low ls ∧ (∀ j, F j → w.heap.size ≤ j) ∧ Upd (fun _ => False) w W
section
variable {W : World} {bok bl bw : Nat} {low was : Int}
set_option maxRecDepth 100000 in
set_option maxHeartbeats 1000000 in
theorem rise1 {x : KSM × Int} (hok : Blk W bok #[.bool true] 4) (hl : Blk W bl #[.int .i64 low] 3) (hw : Blk W bw #[.int .i64 was] 3) (d1 : bok ≠ bl) (d2 : bok ≠ bw) (hx : low = was ∨ low ≤ x.2) :
    CallV Try.prog (riseF bok bl bw) (encAw x) W fun v W' => v = .bool true ∧ Blk W' bok #[.bool true] 4 ∧ Upd (fun j => j = bok) W W' := by
  refine CallV.of_calls (n := 0) (enters_of Try.func15 (by kernel_rfl) rfl) ?_
  have c1 := hok.cell0
  have c2 := hl.cell0
  have c3 := hw.cell0
  have f1 := hok.frozen 0
  refine callsIn_of_wp Try.func15 rfl trivial ?_
  simp only [Try.ntmps15, List.size_toArray, List.length_cons, List.length_nil, Nat.reduceAdd, Nat.reduceSub, Array.replicate_succ, Array.replicate_zero, List.push_toArray, List.append_toArray, List.nil_append, List.cons_append]
  by_cases he : low = was
  · have hb : (low == was) = true := by simpa using he
    gi_wp2
    go_ret
    exact ⟨_, rfl, rfl, hok.set 0 _, Upd.setCell (M := fun j => j = bok) rfl _⟩
  · have hb : (low == was) = false := by simpa using he
    have hx2 : low ≤ x.2 := hx.resolve_left he
    gi_wp2
    go_ret
    exact ⟨_, rfl, rfl, hok.set 0 _, Upd.setCell (M := fun j => j = bok) rfl _⟩
/-- Gone through. -/
theorem rises_run {fv : Value} {D : Nat → Prop} {l : List (KSM × Int)} (hseq : SeqO Try.prog fv encAw (l.map fun x => ((), x)) () () (fun _ _ => True) (fun _ => False) D W) (hx : ∀ x ∈ l, low = was ∨ low ≤ x.2)
    (hok : Blk W bok #[.bool true] 4) (hl : Blk W bl #[.int .i64 low] 3) (hw : Blk W bw #[.int .i64 was] 3) (d1 : bok ≠ bl) (d2 : bok ≠ bw) (hD : ¬ D bok) :
    CallV Try.prog fv #[riseF bok bl bw] W fun _ W' => Blk W' bok #[.bool true] 4 ∧ Blk W' bl #[.int .i64 low] 3 ∧ Blk W' bw #[.int .i64 was] 3 ∧ Upd (fun k => k = bok) W W' := by
  have hxs : (l.map fun x => ((), x)).map (·.2) = l := by simp [Function.comp_def]
  have zo := hok.lt
  refine (hseq.run Unit (fun _ _ => ((), true)) (fun _ S W => S bok ∧ Blk W bok #[.bool true] 4) _ () (fun k => k = bok) W ⟨⟨_, _, _, rfl⟩, Nat.le_refl _, fun _ _ => rfl, ?_, ?_, ?_, ?_⟩ trivial).mono ?_
  · rintro k rfl
    exact ⟨zo, hD, id⟩
  · rintro n S W1 W2 ⟨h1, h2⟩ hA _
    exact ⟨h1, h2.agree hA h1⟩
  · rintro pre x suf s1 S1 W1 he hgo ⟨h1, h2⟩ hu hS1
    rw [hxs] at he
    have hne : ∀ k, k ≠ bok → ¬ ((k = bok) ∨ False) := fun k h => by rintro (h' | h'); exact h h'; exact h'
    refine (rise1 (x := x) h2 (hl.upd hu (hne _ d1.symm)) (hw.upd hu (hne _ d2.symm)) d1 d2 (hx x (by rw [he]; simp))).mono ?_
    rintro v W2 ⟨rfl, g1, g2⟩
    exact ⟨S1, rfl, ⟨h1, g1⟩, g2.mono (fun k _ hk => hk ▸ h1), fun k hk => ⟨by have := (hS1 k hk).1; have := g2.size; omega, .inl hk⟩⟩
  · exact ⟨rfl, hok⟩
  · rintro v W' ⟨S', ⟨h1, h2⟩, _, hu, hS'⟩
    have hne : ∀ k, k ≠ bok → ¬ ((k = bok) ∨ False) := fun k h => by rintro (h' | h'); exact h h'; exact h'
    exact ⟨h2, hl.upd hu (hne _ d1.symm), hw.upd hu (hne _ d2.symm), hu.mono fun k _ hk => hk.elim id fun h => h.elim⟩
end
section
variable {mb ab lb : Nat} {idle drain now low kind nn m : Int} {src : ByteArray} {ls : List (KSM × VSM)} {F : Nat → Prop} {w W : World}
/-- Low is asked once more. -/
def RiseEnd (mb lb : Nat) (idle drain low : Int) (w W : World) : Prop :=
  W.drew.cell? ⟨lb, 0, none⟩ = some (.int .i64 low) ∧ CallsIn Fence.wide 0 Try.prog 9 #[.pointer (some ⟨mb, 0, none⟩)] W.drew fun e W2 => e = .returned (.int .i64 low) ∧ W2.cell? ⟨lb, 0, none⟩ = some (.int .i64 low) ∧ Fin13 mb idle drain w W2
theorem riseEnd (h : MkI mb idle drain now low ls F W) (ho : MkOk idle drain now low ls) (hF : ∀ j, F j → w.heap.size ≤ j) (hu : Upd (fun _ => False) w W) (hL : Blk W lb #[.int .i64 low] 3) : RiseEnd mb lb idle drain low w W := by
  have ud := Upd.drew (fun _ => False) W
  have h' := h.upd ud fun _ _ => id
  have hL' := hL.upd ud id
  refine ⟨hL'.cell0, (markLow_c h').mono ?_⟩
  rintro e W2 ⟨rfl, rfl⟩
  exact ⟨rfl, hL'.cell0, now, low, ls, F, h', ho, hF, hu.stepDrew⟩
/-- An act of kind 1. -/
theorem rise_see (h : MkI mb idle drain now low ls F W) (ho : MkOk idle drain now low ls) (hF : ∀ j, F j → w.heap.size ≤ j) (hu : Upd (fun _ => False) w W) (hA : Blk W ab #[.int .i64 kind, .int .i64 nn, .string src] 29) (hL : Blk W lb #[.int .i64 low] 3) (hnL : ¬ F lb) (hs : src.size ≤ maxLen) :
    CallsIn Fence.wide 0 Try.prog 10 #[.string src] W fun e W2 => (∃ b, e = .returned (.bool b)) ∧ W2.cell? ⟨ab, 1, none⟩ = some (.int .i64 nn) ∧ W2.cell? ⟨ab, 2, none⟩ = some (.string src) ∧ RiseEnd mb lb idle drain low w W2 ∧
      (0 ≤ nn ∧ nn ≤ mxT → CallsIn Fence.wide 0 Try.prog 11 #[.pointer (some ⟨mb, 0, none⟩), .string src, .int .i64 nn] W2 fun e W3 => (∃ v, e = .returned v) ∧ RiseEnd mb lb idle drain low w W3) := by
  refine (wordA_c hs).mono ?_
  rintro e W2 ⟨⟨b, rfl⟩, u⟩
  have h2 := h.upd u fun _ _ => id
  have A2 := hA.upd u id
  have L2 := hL.upd u id
  have z := hu.size
  have z2 := u.size
  refine ⟨⟨b, rfl⟩, A2.cell 1, A2.cell 2, riseEnd h2 ho hF (hu.trans' u) L2, fun hn => (markSee_any h2 ho src hn).mono ?_⟩
  rintro e W3 ⟨rfl, F', g1, g2, g3, g4⟩
  exact ⟨⟨_, rfl⟩, riseEnd g1 g2 (fun j hj => (g3 j hj).elim (hF j) fun h => by omega) ((hu.trans' u).trans g4 fun j hj => .inr (hF j hj)) (L2.upd g4 hnL)⟩
/-- An act of kind 3. -/
theorem rise_tick (h : MkI mb idle drain now low ls F W) (ho : MkOk idle drain now low ls) (hF : ∀ j, F j → w.heap.size ≤ j) (hu : Upd (fun _ => False) w W) (hA : Blk W ab #[.int .i64 kind, .int .i64 nn, .string src] 29) (hL : Blk W lb #[.int .i64 low] 3) (hnL : ¬ F lb) (hnA : ¬ F ab) (hlb : w.heap.size ≤ lb) :
    CallsIn Fence.wide 0 Try.prog 13 #[.pointer (some ⟨mb, 0, none⟩)] W fun e W2 => e = .returned (.int .i64 now) ∧ W2.cell? ⟨ab, 1, none⟩ = some (.int .i64 nn) ∧
      CallsIn Fence.wide 0 Try.prog 12 #[.pointer (some ⟨mb, 0, none⟩), .int .i64 (now + m)] W2 fun e W3 => (∃ v, e = .returned v) ∧ W3.cell? ⟨ab, 1, none⟩ = some (.int .i64 nn) ∧
        CallsIn Fence.wide 0 Try.prog 9 #[.pointer (some ⟨mb, 0, none⟩)] W3 fun e W4 => ∃ l2 : Int, e = .returned (.int .i64 l2) ∧ low ≤ l2 ∧
          CallsIn Fence.wide 0 Try.prog 14 #[.pointer (some ⟨mb, 0, none⟩)] ((W4.alloc (.cells #[.int .i64 l2] 3)).alloc (.cells #[.bool true] 4)) fun e W6 => ∃ bv, e = .returned (.func (.func 31) #[] #[.pointer (some ⟨bv, 0, none⟩)]) ∧
            CallV Try.prog (.func (.func 31) #[] #[.pointer (some ⟨bv, 0, none⟩)]) #[riseF (W4.heap.size + 1) W4.heap.size lb] W6 fun _ W7 => W7.cell? ⟨W4.heap.size, 0, none⟩ = some (.int .i64 l2) ∧ W7.cell? ⟨lb, 0, none⟩ = some (.int .i64 low) ∧ W7.cell? ⟨W4.heap.size + 1, 0, none⟩ = some (.bool true) ∧ Fin13 mb idle drain w W7 := by
  refine (markNow_c h).mono ?_
  rintro e W2 ⟨rfl, rfl⟩
  refine ⟨rfl, hA.cell 1, (markTick_any (now' := now + m) h ho).mono ?_⟩
  rintro e W3 ⟨rfl, n2, l2, hn2, hl2, g1, g2, g3⟩
  have hlow : low ≤ l2 := by rw [hl2]; split; unfold tickLow; omega; omega
  have hrise : ∀ x ∈ awL n2 idle ls, l2 = low ∨ l2 ≤ x.2 := by
    intro x hx
    rw [hl2]
    by_cases hc : now ≤ now + m ∧ now + m ≤ mxT
    · rw [if_pos hc]
      rw [hn2, if_pos hc] at hx
      exact tick_rises hx
    · rw [if_neg hc]; exact .inl rfl
  refine ⟨⟨_, rfl⟩, (hA.upd g3 hnA).cell 1, (markLow_c g1).mono ?_⟩
  rintro e W4 ⟨rfl, rfl⟩
  refine ⟨l2, rfl, hlow, markAwake_c.mono ?_⟩
  rintro e W6 ⟨bv, rfl, q1, q2, q3⟩
  have ua : Upd (fun _ => False) W4 ((W4.alloc (.cells #[.int .i64 l2] 3)).alloc (.cells #[.bool true] 4)) := ((Upd.refl _ _).stepAlloc _).stepAlloc _
  have u6 := ua.trans' q3
  have g6 := g1.upd u6 fun _ _ => id
  have b1 := ((Blk.new W4 #[.int .i64 l2] 3).alloc (.cells #[.bool true] 4)).upd q3 id
  have b2 := (Blk.new (W4.alloc (.cells #[.int .i64 l2] 3)) #[.bool true] 4).upd q3 id
  have b3 := (hL.upd g3 hnL).upd u6 id
  have hlt := (hL.upd g3 hnL).lt
  simp only [World.size_alloc] at b2 q2
  have z1 := hu.size
  have z3 := g3.size
  refine ⟨bv, rfl, (rises_run (awakeSeq g6 g2 q1) hrise b2 b1 b3 (by omega) (by omega) ?_).mono ?_⟩
  · rintro (hb | hb)
    · omega
    · have := g1.lt _ hb; omega
  · rintro v W7 ⟨p1, p2, p3, p4⟩
    have u7 : Upd (fun _ => False) w W7 := ((hu.trans g3 fun j hj => .inr (hF j hj)).trans' u6).trans p4 fun j hj => .inr (by omega)
    refine ⟨p2.cell0, p3.cell0, p1.cell0, n2, l2, ls, F, g6.upd p4 (fun j hj e => by have := g1.lt j hj; omega), g2, hF, u7⟩
end
end Go.Proofs.Ytpljdckppmobeaa

/- MarkPlays: a mark beside the document's; the calls of an act. -/
import Derived.Test.YtpljdckppmobeaaProg
import Derived.Test.YtpljdckppmobeaaBase
import Derived.Test.YtpljdckppmobeaaMkH
import Derived.Test.YtpljdckppmobeaaMkI
import Derived.Test.YtpljdckppmobeaaMkRL
namespace Go.Proofs.Ytpljdckppmobeaa
open Go.RowKit Go.Shelf
attribute [local go_sem] Oper.semAt_some

section
variable {now low : Int} {ls : List (KSM × VSM)} {A : Option Addr} {cap : Nat} {W : World}
set_option maxRecDepth 100000 in
set_option maxHeartbeats 2000000 in
theorem see13No_c {n : Nat} (hr : Reads1 W A (flatS ls)) (hrise : Rise cmpS ls) (hl : ls.length ≤ 100000) (hsz : ∀ e ∈ ls, e.1.size ≤ maxLen) (k : KSM) (time : Int) (hc : canL k ls ≠ 0) :
    CallsIn Fence.wide n Try.prog 34 #[.agg #[.int .i64 now, .int .i64 low, .slice A ls.length cap], .string k, .int .i64 time] W fun e W2 => e = .returned (.tuple #[.agg #[.int .i64 now, .int .i64 low, .slice A ls.length cap], .int .i64 16]) ∧ Upd (fun _ => False) W W2 := by
  have e16 : canL k ls = 16 := by unfold canL at hc ⊢; split at hc <;> simp_all
  obtain ⟨W0, hW0⟩ : ∃ W0, (W.alloc (.cells #[.int .i64 now, .int .i64 low, .slice A ls.length cap] 43)).alloc (.cells #[.int .i64 0, .int .i64 0, .slice none 0 0] 43) = W0 := ⟨_, rfl⟩
  have u0 : Upd (fun _ => False) W W0 := by rw [← hW0]; exact ((Upd.refl _ _).stepAlloc _).stepAlloc _
  have b1 : Blk W0 W.heap.size #[.int .i64 now, .int .i64 low, .slice A ls.length cap] 43 := by rw [← hW0]; exact (Blk.new _ _ _).alloc _
  have b2 : Blk W0 (W.heap.size + 1) #[.int .i64 0, .int .i64 0, .slice none 0 0] 43 := by
    rw [← hW0]
    have := Blk.new (W.alloc (.cells #[.int .i64 now, .int .i64 low, .slice A ls.length cap] 43)) #[.int .i64 0, .int .i64 0, .slice none 0 0] 43
    simpa only [World.size_alloc] using this
  have a0 : W0.cell? ⟨W.heap.size, 0, none⟩ = some (.int .i64 now) := b1.cell 0
  have a1 : W0.cell? ⟨W.heap.size, 1, none⟩ = some (.int .i64 low) := b1.cell 1
  have a2 : W0.cell? ⟨W.heap.size, 2, none⟩ = some (.slice A ls.length cap) := b1.cell 2
  have kC := (can13_c (n := 0) (now := now) (low := low) (cap := cap) (hr.agree' (u0.agree fun j hj => ⟨hr.lt' j hj, id⟩)) hrise hl hsz k).mono (R' := fun e W2 => e = .returned (.int .i64 16) ∧ Blk W2 W.heap.size #[.int .i64 now, .int .i64 low, .slice A ls.length cap] 43 ∧ Blk W2 (W.heap.size + 1) #[.int .i64 0, .int .i64 0, .slice none 0 0] 43 ∧ Upd (fun _ => False) W W2) (by
    rintro e W2 ⟨rfl, u⟩
    exact ⟨by rw [e16], b1.upd u id, b2.upd u id, u0.trans' u⟩)
  replace kC := Lib.hid kC
  clear hr hrise hsz b1 b2 u0 hc e16
  refine callsIn_any (n := 0) (callsIn_of_wp Try.func34 rfl trivial ?_)
  simp only [Try.ntmps34, List.size_toArray, List.length_cons, List.length_nil, Nat.reduceAdd, Nat.reduceSub, Array.replicate_succ, Array.replicate_zero, List.push_toArray, List.append_toArray, List.nil_append, List.cons_append]
  gi_wp2_with (first | refine (⟨trivial, rfl, ?_⟩ : Fence.wide.fn _ ∧ Fence.wide.depth = none ∧ _) | (gi_at_call 33; (with_reducible refine kC.out.mono ?_); rintro e W2 ⟨rfl, c1, c2, u2⟩; (replace c1 := Lib.hid c1); (replace c2 := Lib.hid c2); (replace u2 := Lib.hid u2); (have c1' := c1.out); (have d0 : W2.cell? ⟨W.heap.size, 0, none⟩ = some (.int .i64 now) := c1'.cell 0); (have d1 : W2.cell? ⟨W.heap.size, 1, none⟩ = some (.int .i64 low) := c1'.cell 1); (have d2 : W2.cell? ⟨W.heap.size, 2, none⟩ = some (.slice A ls.length cap) := c1'.cell 2); (have y0 := c2.out.frozen 0); (have y1 := c2.out.frozen 1); (have y2 := c2.out.frozen 2); (have lt2 := c2.out.lt); (have z0 : W2.cell? ⟨W.heap.size + 1, 0, none⟩ = some (.int .i64 0) := c2.out.cell 0); (have z1 : W2.cell? ⟨W.heap.size + 1, 1, none⟩ = some (.int .i64 0) := c2.out.cell 1); (have z2 : W2.cell? ⟨W.heap.size + 1, 2, none⟩ = some (.slice none 0 0) := c2.out.cell 2); (clear c1')) | refine (⟨trivial, ?_⟩ : Fence.wide.fn _ ∧ _))
  have r6 : Hid (Blk (((W2.setCell ⟨W.heap.size + 1, 0, none⟩ (.int .i64 now)).setCell ⟨W.heap.size + 1, 1, none⟩ (.int .i64 low)).setCell ⟨W.heap.size + 1, 2, none⟩ (.slice A ls.length cap)) (W.heap.size + 1) #[.int .i64 now, .int .i64 low, .slice A ls.length cap] 43) := Lib.hid (((c2.out.set 0 (.int .i64 now)).set 1 (.int .i64 low)).set 2 (.slice A ls.length cap))
  refine bodyPost_ret (results_s rfl rfl (r6.out.cell 0) (r6.out.cell 1) (r6.out.cell 2)) rfl ?_
  exact ⟨rfl, ((u2.out.stepSet (.inr (Nat.le_succ _)) _).stepSet (.inr (Nat.le_succ _)) _).stepSet (.inr (Nat.le_succ _)) _⟩
end

/-- The document's state's cells. -/
abbrev D3 (db : Nat) (now low : Int) (v : Value) (V : World) : Prop := V.cell? ⟨db, 0, none⟩ = some (.int .i64 now) ∧ V.cell? ⟨db, 1, none⟩ = some (.int .i64 low) ∧ V.cell? ⟨db, 2, none⟩ = some v
theorem d3 {db : Nat} {now low : Int} {v : Value} {V : World} {t : TypeId} (h : Blk V db #[.int .i64 now, .int .i64 low, v] t) : D3 db now low v V := ⟨h.cell 0, h.cell 1, h.cell 2⟩
/-- A mark in block mb, the document's state in block db; M: what may turn of what was there ahead of it all. -/
structure Py13 (mb db : Nat) (idle drain now low : Int) (ls : List (KSM × VSM)) (F : Nat → Prop) (now2 low2 : Int) (ls2 : List (KSM × VSM)) (A : Option Addr) (cap : Nat) (M : Nat → Prop) (w W : World) : Prop where
  mark : MkI mb idle drain now low ls F W
  ok : MkOk idle drain now low ls
  sz : ∀ e ∈ ls, e.1.size ≤ maxLen
  blk : Blk W db #[.int .i64 now2, .int .i64 low2, .slice A ls2.length cap] 43
  rd : Reads1 W A (flatS ls2)
  hc : ls2.length ≤ cap
  nF : ¬ F db
  nA : ∀ j, blkOf' A (flatS ls2).length j → ¬ F j ∧ j ≠ db
  hF : ∀ j, F j → M j ∨ w.heap.size ≤ j
  hdb : w.heap.size ≤ db
  upd : Upd M w W
section
variable {mb db : Nat} {idle drain now low now2 low2 kind nn t : Int} {src : ByteArray} {ls ls2 : List (KSM × VSM)} {F M : Nat → Prop} {A : Option Addr} {cap : Nat} {w W W2 : World}
theorem Py13.step (h : Py13 mb db idle drain now low ls F now2 low2 ls2 A cap M w W) (hu : Upd (fun _ => False) W W2) : Py13 mb db idle drain now low ls F now2 low2 ls2 A cap M w W2 :=
  ⟨h.mark.upd hu fun _ _ => id, h.ok, h.sz, h.blk.upd hu id, h.rd.agree' (hu.agree fun j hj => ⟨h.rd.lt' j hj, id⟩), h.hc, h.nF, h.nA, h.hF, h.hdb, h.upd.trans hu fun _ h => h.elim⟩
/-- The document's state is stored. -/
theorem Py13.store {now' low' : Int} {ls' : List (KSM × VSM)} {A' : Option Addr} {cap' : Nat} (h : Py13 mb db idle drain now low ls F now2 low2 ls2 A cap M w W) (hr : Reads1 W A' (flatS ls')) (hc : ls'.length ≤ cap') (hn : ∀ j, blkOf' A' (flatS ls').length j → ¬ F j ∧ j ≠ db) :
    Py13 mb db idle drain now low ls F now' low' ls' A' cap' M w (((W.setCell ⟨db, 0, none⟩ (.int .i64 now')).setCell ⟨db, 1, none⟩ (.int .i64 low')).setCell ⟨db, 2, none⟩ (.slice A' ls'.length cap')) := by
  have hu : Upd (fun j => j = db) W (((W.setCell ⟨db, 0, none⟩ (.int .i64 now')).setCell ⟨db, 1, none⟩ (.int .i64 low')).setCell ⟨db, 2, none⟩ (.slice A' ls'.length cap')) :=
    (((Upd.refl (fun j => j = db) W).stepSet (.inl rfl) _).stepSet (.inl rfl) _).stepSet (.inl rfl) _
  have hb : Blk (((W.setCell ⟨db, 0, none⟩ (.int .i64 now')).setCell ⟨db, 1, none⟩ (.int .i64 low')).setCell ⟨db, 2, none⟩ (.slice A' ls'.length cap')) db #[.int .i64 now', .int .i64 low', .slice A' ls'.length cap'] 43 :=
    ((h.blk.set 0 (.int .i64 now')).set 1 (.int .i64 low')).set 2 (.slice A' ls'.length cap')
  exact ⟨h.mark.upd hu fun j hj e => h.nF (e ▸ hj), h.ok, h.sz, hb, hr.agree' (hu.agree fun j hj => ⟨hr.lt' j hj, (hn j hj).2⟩), hc, h.nF, hn, h.hF, h.hdb, h.upd.trans hu fun j hj => .inr (hj ▸ h.hdb)⟩
/-- What is kept from act to act. -/
def Fin13p (mb db : Nat) (idle drain : Int) (M : Nat → Prop) (w W : World) : Prop := ∃ now low ls F A cap, Py13 mb db idle drain now low ls F now low ls A cap M w W
/-- An act's end: all is asked for. -/
def Tail13 (mb db : Nat) (idle drain : Int) (M : Nat → Prop) (w : World) (now low : Int) (v : Value) (W : World) : Prop :=
  D3 db now low v W ∧ CallsIn Fence.wide 0 Try.prog 13 #[.pointer (some ⟨mb, 0, none⟩)] W fun e W1 => e = .returned (.int .i64 now) ∧ D3 db now low v W1 ∧
    CallsIn Fence.wide 0 Try.prog 9 #[.pointer (some ⟨mb, 0, none⟩)] W1 fun e W2 => e = .returned (.int .i64 low) ∧ D3 db now low v W2 ∧
      CallsIn Fence.wide 0 Try.prog 18 #[.pointer (some ⟨mb, 0, none⟩)] W2 fun e W3 => ∃ s, e = .returned s ∧ D3 db now low v W3 ∧
        CallsIn Fence.wide 0 Try.prog 17 #[s] W3 fun e W4 => ∃ r, e = .returned r ∧ D3 db now low v W4 ∧
          CallsIn Fence.wide 0 Try.prog 16 #[r, .agg #[.int .i64 now, .int .i64 low, v]] W4 fun e W5 => e = .returned (.bool true) ∧ D3 db now low v W5 ∧
            CallsIn Fence.wide 0 Try.prog 37 #[.agg #[.int .i64 now, .int .i64 low, v], .int .i64 idle] W5 fun e W6 => ∃ a, e = .returned a ∧ D3 db now low v W6 ∧
              CallsIn Fence.wide 0 Try.prog 36 #[.pointer (some ⟨mb, 0, none⟩), a, .int .i64 20] W6 fun e W7 => e = .returned (.bool true) ∧ D3 db now low v W7 ∧ Fin13p mb db idle drain M w W7
theorem Py13.goes (h : Py13 mb db idle drain now low ls F now low ls A cap M w W) (most : Int) : CallsIn Fence.wide 0 Try.prog 37 #[.agg #[.int .i64 now, .int .i64 low, .slice A ls.length cap], .int .i64 idle] W fun e W6 => ∃ a, e = .returned a ∧ D3 db now low (.slice A ls.length cap) W6 ∧
      CallsIn Fence.wide 0 Try.prog 36 #[.pointer (some ⟨mb, 0, none⟩), a, .int .i64 most] W6 fun e W7 => e = .returned (.bool true) ∧ D3 db now low (.slice A ls.length cap) W7 ∧ Py13 mb db idle drain now low ls F now low ls A cap M w W7 := by
  have hl := h.ok.len
  refine (awake13_c h.rd (by omega) h.ok.nR h.ok.at_).mono ?_
  rintro e W6 ⟨A6, c6, rfl, _, r6, _, u6⟩
  have h6 := h.step u6
  refine ⟨_, rfl, d3 h6.blk, (goes_c h6.mark h6.ok r6 rfl).mono ?_⟩
  rintro e W7 ⟨rfl, u7⟩
  exact ⟨rfl, d3 (h6.step u7).blk, h6.step u7⟩
theorem Py13.tail (h : Py13 mb db idle drain now low ls F now low ls A cap M w W) : Tail13 mb db idle drain M w now low (.slice A ls.length cap) W := by
  have hl := h.ok.len
  refine ⟨d3 h.blk, (markNow_c h.mark).mono ?_⟩
  rintro e W1 ⟨rfl, rfl⟩
  refine ⟨rfl, d3 h.blk, (markLow_c h.mark).mono ?_⟩
  rintro e W2 ⟨rfl, rfl⟩
  refine ⟨rfl, d3 h.blk, (markState_c h.mark (by omega)).mono ?_⟩
  rintro e W3 ⟨A3, c3, rfl, r3, _, u3⟩
  have h3 := h.step u3
  refine ⟨_, rfl, d3 h3.blk, (ref_c r3 (by omega)).mono ?_⟩
  rintro e W4 ⟨A4, c4, rfl, _, r4, _, u4⟩
  have h4 := h3.step u4
  refine ⟨_, rfl, d3 h4.blk, (same_c r4 h4.rd (by omega)).mono ?_⟩
  rintro e W5 ⟨rfl, u5⟩
  have h5 := h4.step u5
  refine ⟨rfl, d3 h5.blk, (h5.goes 20).mono ?_⟩
  rintro e W6 ⟨a, rfl, d6, k⟩
  refine ⟨a, rfl, d6, k.mono ?_⟩
  rintro e W7 ⟨rfl, d7, h7⟩
  exact ⟨rfl, d7, _, _, _, _, _, _, h7⟩
theorem Py13.tailD (h : Py13 mb db idle drain now low ls F now low ls A cap M w W) : Tail13 mb db idle drain M w now low (.slice A ls.length cap) W.drew := (h.step (Upd.drew _ _)).tail
theorem Fin13p.end (h : Fin13p mb db idle drain M w W) : ∃ now low v, D3 db now low v W ∧ CallsIn Fence.wide 0 Try.prog 37 #[.agg #[.int .i64 now, .int .i64 low, v], .int .i64 idle] W fun e W6 => ∃ a, e = .returned a ∧
      CallsIn Fence.wide 0 Try.prog 36 #[.pointer (some ⟨mb, 0, none⟩), a, .int .i64 1] W6 fun e W7 => e = .returned (.bool true) ∧ Upd M w W7 := by
  obtain ⟨now, low, ls, F, A, cap, h⟩ := h
  refine ⟨now, low, _, d3 h.blk, (h.goes 1).mono ?_⟩
  rintro e W6 ⟨a, rfl, _, k⟩
  refine ⟨a, rfl, k.mono ?_⟩
  rintro e W7 ⟨rfl, _, h7⟩
  exact ⟨rfl, h7.upd⟩

/-- The document's answer is stored behind. -/
def Stored (mb db : Nat) (idle drain : Int) (M : Nat → Prop) (w : World) (n l : Int) (v : Value) (W : World) : Prop :=
  (∃ x0 x1 x2 : Value, Blk W db #[x0, x1, x2] 43) ∧ Tail13 mb db idle drain M w n l v (((W.setCell ⟨db, 0, none⟩ (.int .i64 n)).setCell ⟨db, 1, none⟩ (.int .i64 l)).setCell ⟨db, 2, none⟩ v).drew
theorem Py13.stored {now' low' : Int} {ls' : List (KSM × VSM)} {A' : Option Addr} {cap' : Nat} (h : Py13 mb db idle drain now' low' ls' F now2 low2 ls2 A cap M w W) (hr : Reads1 W A' (flatS ls')) (hc : ls'.length ≤ cap') (hn : ∀ j, blkOf' A' (flatS ls').length j → ¬ F j ∧ j ≠ db) :
    Stored mb db idle drain M w now' low' (.slice A' ls'.length cap') W := ⟨⟨_, _, _, h.blk⟩, (h.store hr hc hn).tailD⟩
/-- An act of kind 1. -/
theorem Py13.act1 {ab : Nat} (h : Py13 mb db idle drain now low ls F now low ls A cap M w W) (hA : Blk W ab #[.int .i64 kind, .int .i64 nn, .string src] 29) (hnA : ¬ F ab) (hs : src.size ≤ maxLen) :
    CallsIn Fence.wide 0 Try.prog 10 #[.string src] W fun e W2 => (∃ b, e = .returned (.bool b)) ∧ W2.cell? ⟨ab, 1, none⟩ = some (.int .i64 nn) ∧ Fin13p mb db idle drain M w W2 ∧
      (0 ≤ nn ∧ nn ≤ mxT → (D3 db now low (.slice A ls.length cap) W2.drew ∧ W2.drew.cell? ⟨ab, 2, none⟩ = some (.string src)) ∧
        CallsIn Fence.wide 0 Try.prog 27 #[.pointer (some ⟨mb, 0, none⟩), .string src] W2.drew fun e W3 => ∃ c, e = .returned (.int .i64 c) ∧ (D3 db now low (.slice A ls.length cap) W3 ∧ W3.cell? ⟨ab, 2, none⟩ = some (.string src)) ∧
          CallsIn Fence.wide 0 Try.prog 33 #[.agg #[.int .i64 now, .int .i64 low, .slice A ls.length cap], .string src] W3 fun e W4 => e = .returned (.int .i64 c) ∧ (D3 db now low (.slice A ls.length cap) W4 ∧ W4.cell? ⟨ab, 2, none⟩ = some (.string src)) ∧ W4.cell? ⟨ab, 1, none⟩ = some (.int .i64 nn) ∧
            CallsIn Fence.wide 0 Try.prog 11 #[.pointer (some ⟨mb, 0, none⟩), .string src, .int .i64 nn] W4 fun e W5 => e = .returned (.int .i64 c) ∧ (D3 db now low (.slice A ls.length cap) W5 ∧ W5.cell? ⟨ab, 2, none⟩ = some (.string src)) ∧ W5.cell? ⟨ab, 1, none⟩ = some (.int .i64 nn) ∧
              CallsIn Fence.wide 0 Try.prog 34 #[.agg #[.int .i64 now, .int .i64 low, .slice A ls.length cap], .string src, .int .i64 nn] W5 fun e W6 => ∃ A6 m6 c6, e = .returned (.tuple #[.agg #[.int .i64 now, .int .i64 low, .slice A6 m6 c6], .int .i64 c]) ∧ Stored mb db idle drain M w now low (.slice A6 m6 c6) W6) := by
  have hl := h.ok.len
  refine (wordA_c hs).mono ?_
  rintro e W2 ⟨⟨b, rfl⟩, u2⟩
  have h2 := h.step u2
  have A2 := hA.upd u2 id
  have ud := Upd.drew (fun _ => False) W2
  have h2d := h2.step ud
  have A2d := A2.upd ud id
  refine ⟨⟨b, rfl⟩, A2.cell 1, ⟨_, _, _, _, _, _, h2⟩, fun ht => ⟨⟨d3 h2d.blk, A2d.cell 2⟩, (markCan_c h2d.mark src).mono ?_⟩⟩
  rintro e W3 ⟨rfl, u3⟩
  have h3 := h2d.step u3
  have A3 := A2d.upd u3 id
  refine ⟨_, rfl, ⟨d3 h3.blk, A3.cell 2⟩, (can13_c h3.rd h3.mark.rise (by omega) h3.sz src).mono ?_⟩
  rintro e W4 ⟨rfl, u4⟩
  have h4 := h3.step u4
  have A4 := A3.upd u4 id
  have hrise := h4.mark.rise
  refine ⟨rfl, ⟨d3 h4.blk, A4.cell 2⟩, A4.cell 1, (markSee_any h4.mark h4.ok src ht).mono ?_⟩
  rintro e W5 ⟨rfl, F', g1, g2, g3, g4⟩
  have A5 := A4.upd g4 hnA
  have nF' : ¬ F' db := fun hh => (g3 db hh).elim h4.nF fun hh => by have := h4.blk.lt; omega
  have hF' : ∀ j, F' j → M j ∨ w.heap.size ≤ j := fun j hj => (g3 j hj).elim (h4.hF j) fun hh => .inr (by have := h4.upd.size; omega)
  have nA' : ∀ j, blkOf' A (flatS ls).length j → ¬ F' j ∧ j ≠ db := fun j hj => ⟨fun hh => (g3 j hh).elim (h4.nA j hj).1 fun hh => by have := h4.rd.lt' j hj; omega, (h4.nA j hj).2⟩
  have hb5 := h4.blk.upd g4 h4.nF
  have hr5 := h4.rd.agree' (w' := W5) (g4.agree fun j hj => ⟨h4.rd.lt' j hj, (h4.nA j hj).1⟩)
  have hu5 := h4.upd.trans g4 h4.hF
  refine ⟨rfl, ⟨d3 hb5, A5.cell 2⟩, A5.cell 1, ?_⟩
  by_cases hc : canL src ls = 0
  · rw [if_pos hc] at g1 g2
    have hsz' : ∀ e ∈ putL cmpS src (seeV src nn now ls) ls, e.1.size ≤ maxLen := fun e he => by
      rcases mem_putL.1 he with rfl | ⟨he, _⟩
      · exact hs
      · exact h.sz e he
    have h5 : Py13 mb db idle drain now low (putL cmpS src (seeV src nn now ls) ls) F' now low ls A cap M w W5 := ⟨g1, g2, hsz', hb5, hr5, h.hc, nF', nA', hF', h.hdb, hu5⟩
    refine (see13_c hr5 h.hc hrise (by omega) h.sz src nn hc).mono ?_
    rintro e W6 ⟨A6, c6, rfl, q1, q2, q3, q4⟩
    refine ⟨_, _, _, by rw [hc], (h5.step q4).stored q2 q1 fun j hj => ?_⟩
    have hj2 := (q3 j hj.2).1
    exact ⟨fun hh => by have := g1.lt j hh; omega, fun hh => by have := hb5.lt; omega⟩
  · rw [if_neg hc] at g1 g2
    have e16 : canL src ls = 16 := by unfold canL at hc ⊢; split at hc <;> simp_all
    have h5 : Py13 mb db idle drain now low ls F' now low ls A cap M w W5 := ⟨g1, g2, h.sz, hb5, hr5, h.hc, nF', nA', hF', h.hdb, hu5⟩
    refine (see13No_c hr5 hrise (by omega) h.sz src nn hc).mono ?_
    rintro e W6 ⟨rfl, q4⟩
    have h6 := h5.step q4
    exact ⟨_, _, _, by rw [e16], h6.stored h6.rd h6.hc h6.nA⟩
/-- The clock goes on. -/
theorem Py13.tick (h : Py13 mb db idle drain now low ls F now low ls A cap M w W) {ab : Nat} (hA : Blk W ab #[.int .i64 kind, .int .i64 nn, .string src] 29) (hnA : ¬ F ab) (t : Int) :
    CallsIn Fence.wide 0 Try.prog 12 #[.pointer (some ⟨mb, 0, none⟩), .int .i64 t] W fun e W2 => ∃ c, e = .returned (.int .i64 c) ∧ D3 db now low (.slice A ls.length cap) W2 ∧ W2.cell? ⟨ab, 1, none⟩ = some (.int .i64 nn) ∧
      CallsIn Fence.wide 0 Try.prog 35 #[.agg #[.int .i64 now, .int .i64 low, .slice A ls.length cap], .int .i64 idle, .int .i64 drain, .int .i64 t] W2 fun e W3 => ∃ n l A6 m6 c6, e = .returned (.tuple #[.agg #[.int .i64 n, .int .i64 l, .slice A6 m6 c6], .int .i64 c]) ∧ Stored mb db idle drain M w n l (.slice A6 m6 c6) W3 := by
  refine (markTick_any h.mark h.ok).mono ?_
  rintro e W2 ⟨rfl, n2, l2, hn2, hl2, g1, g2, g3⟩
  have hb2 := h.blk.upd g3 h.nF
  have hr2 := h.rd.agree' (w' := W2) (g3.agree fun j hj => ⟨h.rd.lt' j hj, (h.nA j hj).1⟩)
  have hu2 := h.upd.trans g3 h.hF
  have h2 : Py13 mb db idle drain n2 l2 ls F now low ls A cap M w W2 := ⟨g1, g2, h.sz, hb2, hr2, h.hc, h.nF, h.nA, h.hF, h.hdb, hu2⟩
  refine ⟨_, rfl, d3 hb2, (hA.upd g3 hnA).cell 1, ?_⟩
  by_cases hc : now ≤ t ∧ t ≤ mxT
  · rw [if_pos hc] at hn2 hl2 ⊢
    refine (tick13_c hr2 h.ok hc.1 hc.2).mono ?_
    rintro e W3 ⟨rfl, u3⟩
    have h3 := h2.step u3
    exact ⟨n2, l2, _, _, _, by rw [hn2, hl2], h3.stored h3.rd h3.hc h3.nA⟩
  · rw [if_neg hc] at hn2 hl2 ⊢
    refine (tick13No_c hc).mono ?_
    rintro e W3 ⟨rfl, u3⟩
    have h3 := h2.step u3
    exact ⟨n2, l2, _, _, _, by rw [hn2, hl2], h3.stored h3.rd h3.hc h3.nA⟩
end
end Go.Proofs.Ytpljdckppmobeaa

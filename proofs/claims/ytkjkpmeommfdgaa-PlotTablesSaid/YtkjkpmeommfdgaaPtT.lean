/- plot.Table: the widths. -/
import Derived.Test.YtkjkpmeommfdgaaProg
import Derived.Test.YtkjkpmeommfdgaaBase
import Derived.Test.YtkjkpmeommfdgaaLoops
import Derived.Test.YtkjkpmeommfdgaaPtR
set_option linter.unusedSimpArgs false
set_option linter.unusedVariables false
namespace Go.Proofs.Ytkjkpmeommfdgaa
open Go.RowKit Go.Shelf
attribute [local go_sem] Oper.semAt_some

theorem infoJ : (Try.prog.info? 3).map (fun i => (i.zero, i.size, i.bytes)) = some (some (.int .i64 0), 1, 8) := by kernel_rfl
theorem zJ : (Value.int .i64 0).cells.size = 1 := rfl
/-- A cell of a slice of the call's own is set. -/
theorem own_put {w : World} {base n k : Nat} {e : TypeId} {v : Value} {xs : List Value} (h : w.ownsRow base e 1 v n xs) (hk : k < n) :
    ∃ g cap, v = .slice (some ⟨g, 0, none⟩) n cap ∧ base ≤ g ∧ w.cell? ⟨g, k, none⟩ = xs[k]? ∧ w.frozen? ⟨g, k, none⟩ = false ∧ g < w.heap.size ∧ ∀ u, (w.setCell ⟨g, k, none⟩ u).ownsRow base e 1 v n (xs.set k u) := by
  obtain ⟨hl, h2⟩ := h
  rcases h2 with ⟨_, h0⟩ | ⟨g, cap, cur, rfl, hb, hg, h3, h4, h5, h6⟩
  · omega
  · have hB : Blk w g cur e := hg
    have hc := hB.cell k
    refine ⟨g, cap, rfl, hb, ?_, hB.frozen k, hB.lt, fun u => ⟨by rw [List.length_set]; exact hl, .inr ⟨g, cap, cur.setIfInBounds k u, rfl, hb, hB.set k u, h3, h4, by simpa using h5, ?_⟩⟩⟩
    · rw [hc, ← h6, List.getElem?_take, if_pos (by omega)]
      simp
    · rw [← h6, Array.toList_setIfInBounds, List.take_set]
abbrev intL (ws : List Nat) : List Value := ws.map fun (n : Nat) => Value.int .i64 (n : Int)
/-- The widths so far, in a slice of the call's own. -/
structure WidI (base : Nat) (ls : List (List ByteArray)) (v : Value) (W0 W : World) : Prop where
  ex : ∃ ws : List Nat, W.ownsRow base 3 1 v ws.length (intL ws) ∧ WideI ls ws ∧ ws.length ≤ 12
  upd : Upd (fun _ => False) W0 W
  le : base = W0.heap.size
theorem intL_set (ws : List Nat) (k m : Nat) : (intL ws).set k (.int .i64 (m : Int)) = intL (ws.set k m) := by simp [intL, List.map_set]
section
variable {rows : List SRow} {A : Option Addr} {cap : Nat} {W W0 wr : World} {ls : List (List ByteArray)} {rl : List ByteArray} {v : Value} {k base n : Nat} {ws : List Nat}
/-- A cell's width is noted. -/
theorem WidI.note (h : wr.ownsRow base 3 1 v n (intL ws)) (hw : WideI (ls ++ [rl.take k]) ws) (hn : n = ws.length) (hk : k < rl.length) (hkw : k < ws.length) (hl : ws.length ≤ 12) (hu : Upd (fun _ => False) W0 wr) (hb : base = W0.heap.size) (hs : rl[k].size ≤ 60) (hws : ws[k] ≤ 60) :
    ∃ (g c a : Nat), v = .slice (some ⟨g, 0, none⟩) ws.length c ∧ a ≤ 60 ∧ wr.cell? ⟨g, k, none⟩ = some (.int .i64 (a : Int)) ∧ wr.frozen? ⟨g, k, none⟩ = false ∧ g < wr.heap.size ∧ WidI base (ls ++ [rl.take (k + 1)]) v W0 (wr.setCell ⟨g, k, none⟩ (.int .i64 ((max a rl[k].size : Nat) : Int))) := by
  subst hn
  obtain ⟨g, c, rfl, h1, h2, h3, h4, h5⟩ := own_put h hkw
  refine ⟨g, c, ws[k], rfl, hws, by rw [h2]; simp [hkw], h3, h4, ⟨ws.set k (max ws[k] rl[k].size), ?_, hw.put hk hkw, by rw [List.length_set]; exact hl⟩, hu.stepSet (.inr (by rw [← hb]; exact h1)) _, hb⟩
  have := h5 (.int .i64 ((max ws[k] rl[k].size : Nat) : Int))
  rw [intL_set] at this
  rw [List.length_set]
  exact this
end
end Go.Proofs.Ytkjkpmeommfdgaa

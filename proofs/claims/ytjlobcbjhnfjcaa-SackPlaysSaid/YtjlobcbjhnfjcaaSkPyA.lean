/- SackPlays: whatever is added, dropped and merged, each call answers as the document says. -/
import Derived.Test.YtjlobcbjhnfjcaaProg
import Derived.Test.YtjlobcbjhnfjcaaBase
import Derived.Test.YtjlobcbjhnfjcaaSkPy
namespace Go.Proofs.Ytjlobcbjhnfjcaa
open Go.RowKit Go.Shelf
attribute [local go_sem] Oper.semAt_some

theorem Two.askD {sb : Nat} {L : List Int} {room : Int} {F : Nat → Prop} {A : Option Addr} {cap : Nat} {w W : World} (h : Two sb L L room F A cap w W) {ba : Nat} {k x : Int} (hB : Blk W ba #[.int .i64 k, .int .i64 x] 44) : Ask sb A L.length cap room x ba (Fin06 sb room L.length A cap w) W.drew :=
  (h.upd (Upd.drew (fun _ => False) _)).ask (hB.upd (Upd.drew (fun _ => False) _) id)
section
variable {sb : Nat} {L : List Int} {room : Int} {F : Nat → Prop} {A : Option Addr} {cap : Nat} {w wr W : World} {kind x : Int}
/-- An act of kind 1. -/
theorem act1full (h : Two sb L L room F A cap w W) (hB : Blk W wr.heap.size #[.int .i64 kind, .int .i64 x] 44) (hf : (L.length : Int) = room) :
    CallsIn Fence.wide 0 Try.prog 17 #[.pointer (some ⟨sb, 0, none⟩), .int .i64 x] W fun e W2 => e = .returned (.int .i64 3) ∧ Ask sb A L.length cap room x wr.heap.size (Fin06 sb room L.length A cap w) W2.drew := by
  refine (sackFullI h.sack x hf).mono ?_
  rintro e W2 ⟨rfl, u⟩
  exact ⟨rfl, (h.upd u).askD (hB.upd u id)⟩
theorem act1 (h : Two sb L L room F A cap w W) (hB : Blk W wr.heap.size #[.int .i64 kind, .int .i64 x] 44) (hn : ¬ F wr.heap.size) (hf : (L.length : Int) < room) :
    CallsIn Fence.wide 0 Try.prog 16 #[.slice A L.length cap, .int .i64 x] W fun e W2 => ∃ m' A' cap', e = .returned (.slice A' m' cap') ∧ W2.cell? ⟨wr.heap.size, 1, none⟩ = some (.int .i64 x) ∧
      CallsIn Fence.wide 0 Try.prog 17 #[.pointer (some ⟨sb, 0, none⟩), .int .i64 x] W2 fun e W3 => e = .returned (.int .i64 0) ∧ Ask sb A' m' cap' room x wr.heap.size (Fin06 sb room m' A' cap' w) W3.drew := by
  have hr := h.sack.len_le
  refine (h.addL (by omega) x).mono ?_
  rintro e W2 ⟨A', cap', rfl, g1, g2⟩
  have hB2 := hB.upd g2 id
  refine ⟨_, A', cap', rfl, hB2.cell 1, (g1.addS x hf).mono ?_⟩
  rintro e W3 ⟨rfl, F', g3, g4⟩
  exact ⟨rfl, (g3.sync (fun y => (cnt_addL x y L).symm) (by rw [addL_len]; rfl)).askD (hB2.upd g4 hn)⟩
theorem act2no (h : Two sb L L room F A cap w W) (hB : Blk W wr.heap.size #[.int .i64 kind, .int .i64 x] 44) (hc : cnt cmpI x L = 0) :
    CallsIn Fence.wide 0 Try.prog 14 #[.slice A L.length cap, .int .i64 x] W fun e W1 => e = .returned (.int .i64 0) ∧ W1.cell? ⟨wr.heap.size, 1, none⟩ = some (.int .i64 x) ∧
      CallsIn Fence.wide 0 Try.prog 18 #[.slice A L.length cap, .int .i64 x] W1 fun e W2 => ∃ m' A' cap', e = .returned (.slice A' m' cap') ∧ W2.cell? ⟨wr.heap.size, 1, none⟩ = some (.int .i64 x) ∧
        CallsIn Fence.wide 0 Try.prog 19 #[.pointer (some ⟨sb, 0, none⟩), .int .i64 x] W2 fun e W3 => e = .returned (.int .i64 5) ∧ Ask sb A' m' cap' room x wr.heap.size (Fin06 sb room m' A' cap' w) W3.drew := by
  have hr := h.sack.len_le
  refine (many06_c h.list (by omega)).mono ?_
  rintro e W1 ⟨rfl, rfl⟩
  refine ⟨by rw [hc]; rfl, hB.cell 1, (h.dropL (by omega) x).mono ?_⟩
  rintro e W2 ⟨A', cap', rfl, g1, g2⟩
  have hB2 := hB.upd g2 id
  have hd : dropO x L = L := dropO_no fun h => by rw [idx_iff] at h; omega
  rw [hd] at g1
  refine ⟨_, A', cap', by rw [hd], hB2.cell 1, (sackDropNoI g1.sack x hc).mono ?_⟩
  rintro e W3 ⟨rfl, g3⟩
  exact ⟨rfl, (g1.upd g3).askD (hB2.upd g3 id)⟩
theorem act2 (h : Two sb L L room F A cap w W) (hB : Blk W wr.heap.size #[.int .i64 kind, .int .i64 x] 44) (hn : ¬ F wr.heap.size) (hc : 0 < cnt cmpI x L) :
    CallsIn Fence.wide 0 Try.prog 14 #[.slice A L.length cap, .int .i64 x] W fun e W1 => ∃ c : Nat, e = .returned (.int .i64 c) ∧ ((c : Int) == 0) = false ∧ W1.cell? ⟨wr.heap.size, 1, none⟩ = some (.int .i64 x) ∧
      CallsIn Fence.wide 0 Try.prog 18 #[.slice A L.length cap, .int .i64 x] W1 fun e W2 => ∃ m' A' cap', e = .returned (.slice A' m' cap') ∧ W2.cell? ⟨wr.heap.size, 1, none⟩ = some (.int .i64 x) ∧
        CallsIn Fence.wide 0 Try.prog 19 #[.pointer (some ⟨sb, 0, none⟩), .int .i64 x] W2 fun e W3 => e = .returned (.int .i64 0) ∧ Ask sb A' m' cap' room x wr.heap.size (Fin06 sb room m' A' cap' w) W3.drew := by
  have hr := h.sack.len_le
  refine (many06_c h.list (by omega)).mono ?_
  rintro e W1 ⟨rfl, rfl⟩
  refine ⟨_, rfl, by simp; omega, hB.cell 1, (h.dropL (by omega) x).mono ?_⟩
  rintro e W2 ⟨A', cap', rfl, g1, g2⟩
  have hB2 := hB.upd g2 id
  refine ⟨_, A', cap', rfl, hB2.cell 1, ((h.upd g2).dropS x hc g1).mono ?_⟩
  rintro e W3 ⟨rfl, F', g3, g4⟩
  exact ⟨rfl, g3.askD (hB2.upd g4 hn)⟩
theorem act3full (h : Two sb L L room F A cap w W) (hB : Blk W wr.heap.size #[.int .i64 kind, .int .i64 x] 44) (hf : room < 2 * (L.length : Int)) :
    CallsIn Fence.wide 0 Try.prog 20 #[.pointer (some ⟨sb, 0, none⟩), .pointer (some ⟨sb, 0, none⟩)] W fun e W2 => e = .returned (.int .i64 3) ∧ Ask sb A L.length cap room x wr.heap.size (Fin06 sb room L.length A cap w) W2.drew := by
  refine (sackMergeFullI h.sack h.sack (by omega)).mono ?_
  rintro e W2 ⟨rfl, u⟩
  exact ⟨rfl, (h.upd u).askD (hB.upd u id)⟩
/-- The list doubled first. -/
theorem act3 {D : List Int} {A' : Option Addr} {cap' : Nat} (h : Two sb L L room F A cap w W) (h' : Two sb L D room F A' cap' w W) (hB : Blk W wr.heap.size #[.int .i64 kind, .int .i64 x] 44) (hn : ¬ F wr.heap.size) (hf : 2 * (L.length : Int) ≤ room) (hD : ∀ y, cnt cmpI y D = cnt cmpI y L + cnt cmpI y L) (hDl : D.length = L.length + L.length) :
    CallsIn Fence.wide 0 Try.prog 20 #[.pointer (some ⟨sb, 0, none⟩), .pointer (some ⟨sb, 0, none⟩)] W fun e W2 => e = .returned (.int .i64 0) ∧ Ask sb A' D.length cap' room x wr.heap.size (Fin06 sb room D.length A' cap' w) W2.drew := by
  refine (sackMergeI h'.sack h'.sack h.srt (by omega)).mono ?_
  rintro e W2 ⟨rfl, F', g1, g2, g3⟩
  have h2 := h'.turn g1 g2 g3
  exact ⟨rfl, (h2.sync (fun y => by rw [cnt_append, hD]; congr 1; exact List.countP_reverse) (by simp [hDl])).askD (hB.upd g3 hn)⟩
theorem Fin06.fin {m : Nat} (h : Fin06 sb room m A cap w W) (most : Int) :
    CallsIn Fence.wide 0 Try.prog 25 #[.pointer (some ⟨sb, 0, none⟩)] W fun e W2 => ∃ bv, e = .returned (.func (.func 36) #[] #[.pointer (some ⟨bv, 0, none⟩)]) ∧
      CallsIn Fence.wide 0 Try.prog 24 #[.func (.func 36) #[] #[.pointer (some ⟨bv, 0, none⟩)], .slice A m cap, .int .i64 2000] W2 fun e W3 => e = .returned (.bool true) ∧
        CallsIn Fence.wide 0 Try.prog 25 #[.pointer (some ⟨sb, 0, none⟩)] W3 fun e W4 => ∃ bv, e = .returned (.func (.func 36) #[] #[.pointer (some ⟨bv, 0, none⟩)]) ∧
          CallsIn Fence.wide 0 Try.prog 24 #[.func (.func 36) #[] #[.pointer (some ⟨bv, 0, none⟩)], .slice A m cap, .int .i64 most] W4 fun e W5 => e = .returned (.bool true) ∧ Upd (fun _ => False) w W5 := by
  obtain ⟨L, F, rfl, h⟩ := h
  have hr := h.sack.len_le
  refine sackAllI.mono ?_
  rintro e W2 ⟨bv, rfl, g1, g2, g3⟩
  have h2 := h.upd g3
  refine ⟨bv, rfl, (has_c (allSeqKI h2.sack h2.srt g1) h2.list (by omega)).mono ?_⟩
  rintro e W3 ⟨rfl, u3⟩
  have h3 := h2.upd u3
  refine ⟨rfl, sackAllI.mono ?_⟩
  rintro e W4 ⟨bv', rfl, g1', g2', g3'⟩
  have h4 := h3.upd g3'
  refine ⟨bv', rfl, (has_c (allSeqKI h4.sack h4.srt g1') h4.list (by omega)).mono ?_⟩
  rintro e W5 ⟨rfl, u5⟩
  exact ⟨rfl, h4.base.trans' u5⟩
end
end Go.Proofs.Ytjlobcbjhnfjcaa

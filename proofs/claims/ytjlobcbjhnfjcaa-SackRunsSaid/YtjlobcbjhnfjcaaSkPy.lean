/- A sack beside the document's list; acts of layer 6. -/
import Derived.Test.YtjlobcbjhnfjcaaProg
import Derived.Test.YtjlobcbjhnfjcaaBase
import Derived.Test.YtjlobcbjhnfjcaaSkLaw2
import Derived.Test.YtjlobcbjhnfjcaaSkH
namespace Go.Proofs.Ytjlobcbjhnfjcaa
open Go.RowKit Go.Shelf
attribute [local go_sem] Oper.semAt_some

structure Act06 where
  kind : Int
  x : Int
def encB (a : Act06) : List Value := [.int .i64 a.kind, .int .i64 a.x]
theorem encB_len (a : Act06) : (encB a).length = 2 := rfl
theorem acts6_at {W : World} {A : Option Addr} {L : List Act06} (hr : Reads1 W A (L.flatMap encB)) {k : Nat} (hk : k < L.length) :
    ∃ g o, A = some ⟨g, o, none⟩ ∧ W.cell? ⟨g, o + k * 2, none⟩ = some (.int .i64 L[k].kind) ∧ W.cell? ⟨g, o + k * 2 + 1, none⟩ = some (.int .i64 L[k].x) := by
  have fl : ∀ (L : List Act06) (k : Nat) (h : k < L.length) (q : Nat), q < 2 → (L.flatMap encB)[k * 2 + q]? = (encB L[k])[q]? := by
    intro L
    induction L with
    | nil => intro k h; simp at h
    | cons x L ih =>
      intro k h q hq
      cases k with
      | zero => rw [List.flatMap_cons, Nat.zero_mul, Nat.zero_add, List.getElem?_append_left (by rw [encB_len]; exact hq)]; rfl
      | succ k =>
        rw [List.flatMap_cons, List.getElem?_append_right (by rw [encB_len, Nat.add_mul]; omega), encB_len, show (k + 1) * 2 + q - 2 = k * 2 + q by omega]
        exact ih k (by simpa using h) q hq
  have hl : 0 < (L.flatMap encB).length := by
    cases L with
    | nil => simp at hk
    | cons x L => simp [encB]
  obtain ⟨g, o, rfl, hc⟩ := reads_at hr hl
  refine ⟨g, o, rfl, hc _ _ ((by simpa using fl L k hk 0 (by omega) : (L.flatMap encB)[k * 2]? = (encB L[k])[0]?).trans rfl), ?_⟩
  have := hc _ _ (fl L k hk 1 (by omega)); rwa [← Nat.add_assoc] at this

/-- The sack holds 'bag', the list reads L. -/
structure Two (sb : Nat) (bag L : List Int) (room : Int) (F : Nat → Prop) (A : Option Addr) (cap : Nat) (w W : World) : Prop where
  sack : SkI sb bag room F W
  list : Reads1 W A (intsV L)
  len : L.length ≤ cap
  srt : Srt cmpI L
  new : ∀ j, F j → w.heap.size ≤ j
  own : ∀ j, blkOf A j → w.heap.size ≤ j ∧ j < W.heap.size ∧ ¬ F j
  base : Upd (fun _ => False) w W
section
variable {sb : Nat} {bag L : List Int} {room : Int} {F : Nat → Prop} {A : Option Addr} {cap : Nat} {w W W2 : World}
theorem Two.upd (h : Two sb bag L room F A cap w W) (hu : Upd (fun _ => False) W W2) : Two sb bag L room F A cap w W2 :=
  ⟨h.sack.upd hu fun _ _ => id, h.list.agree (hu.agree fun j hj => ⟨(h.own j hj).2.1, id⟩), h.len, h.srt, h.new, fun j hj => ⟨(h.own j hj).1, by have := (h.own j hj).2.1; have := hu.size; omega, (h.own j hj).2.2⟩, h.base.trans' hu⟩
theorem Two.sync (h : Two sb bag L room F A cap w W) (hc : ∀ x, cnt cmpI x bag = cnt cmpI x L) (hl : bag.length = L.length) : Two sb L L room F A cap w W :=
  ⟨h.sack.same hc hl, h.list, h.len, h.srt, h.new, h.own, h.base⟩
theorem Two.turn {F' : Nat → Prop} {bag' : List Int} (h : Two sb bag L room F A cap w W) (hs : SkI sb bag' room F' W2) (hF : ∀ j, F' j → F j ∨ W.heap.size ≤ j) (hu : Upd F W W2) : Two sb bag' L room F' A cap w W2 := by
  have hz := h.base.size
  refine ⟨hs, h.list.agree (hu.agree fun j hj => ⟨(h.own j hj).2.1, (h.own j hj).2.2⟩), h.len, h.srt, fun j hj => (hF j hj).elim (h.new j) (fun h => by omega), fun j hj => ?_, h.base.trans hu fun j hj => .inr (h.new j hj)⟩
  obtain ⟨h1, h2, h3⟩ := h.own j hj
  exact ⟨h1, by have := hu.size; omega, fun hf => (hF j hf).elim h3 (fun h => by omega)⟩
theorem Two.relist {A' : Option Addr} {cap' : Nat} {L' : List Int} (h : Two sb bag L room F A cap w W) (hu : Upd (fun _ => False) W W2) (hr : Reads1 W2 A' (intsV L')) (hc : L'.length ≤ cap') (hs : Srt cmpI L') (hb : ∀ j, blkOf A' j → blkOf A j ∨ (W.heap.size ≤ j ∧ j < W2.heap.size)) : Two sb bag L' room F A' cap' w W2 := by
  have h2 := h.upd hu
  have hz := h.base.size
  refine ⟨h2.sack, hr, hc, hs, h2.new, fun j hj => ?_, h2.base⟩
  rcases hb j hj with h' | h'
  · exact h2.own j h'
  · exact ⟨by omega, h'.2, fun hf => by have := h.sack.lt j hf; omega⟩
theorem Two.addL {n : Nat} (h : Two sb bag L room F A cap w W) (hl : L.length ≤ 1000) (x : Int) : CallsIn Fence.wide n Try.prog 16 #[.slice A L.length cap, .int .i64 x] W fun e W2 => ∃ A' cap', e = .returned (.slice A' (addL x L).length cap') ∧ Two sb bag (addL x L) room F A' cap' w W2 ∧ Upd (fun _ => False) W W2 := by
  refine (add06_c h.list h.len (by omega)).mono ?_
  rintro e W2 ⟨A', cap', rfl, g1, g2, g3, g4⟩
  exact ⟨A', cap', rfl, h.relist g4 g2 g1 (srt_addL h.srt) fun j hj => .inr ⟨g3 j hj, g2.lt (by rw [intsV_len, addL_len]; omega) j hj⟩, g4⟩
theorem Two.addS {n : Nat} (h : Two sb bag L room F A cap w W) (x : Int) (hf : (bag.length : Int) < room) : CallsIn Fence.wide n Try.prog 17 #[.pointer (some ⟨sb, 0, none⟩), .int .i64 x] W fun e W2 => e = .returned (.int .i64 0) ∧ ∃ F', Two sb (x :: bag) L room F' A cap w W2 ∧ Upd F W W2 := by
  refine (sackAddI h.sack x hf).mono ?_
  rintro e W2 ⟨rfl, F', g1, g2, g3⟩
  exact ⟨rfl, F', h.turn g1 g2 g3, g3⟩
theorem Two.dropL {n : Nat} (h : Two sb bag L room F A cap w W) (hl : L.length ≤ 1000) (x : Int) : CallsIn Fence.wide n Try.prog 18 #[.slice A L.length cap, .int .i64 x] W fun e W2 => ∃ A' cap', e = .returned (.slice A' (dropO x L).length cap') ∧ Two sb bag (dropO x L) room F A' cap' w W2 ∧ Upd (fun _ => False) W W2 := by
  refine (drop06_c h.list h.len (by omega)).mono ?_
  rintro e W2 ⟨A', cap', rfl, g1, g2, g3, g4⟩
  exact ⟨A', cap', rfl, h.relist g4 g2 g1 (srt_dropO h.srt) g3, g4⟩
theorem Two.dropS {n : Nat} (h : Two sb L L room F A cap w W) (x : Int) (hx : 0 < cnt cmpI x L) {A' : Option Addr} {cap' : Nat} (h' : Two sb L (dropO x L) room F A' cap' w W) : CallsIn Fence.wide n Try.prog 19 #[.pointer (some ⟨sb, 0, none⟩), .int .i64 x] W fun e W2 => e = .returned (.int .i64 0) ∧ ∃ F', Two sb (dropO x L) (dropO x L) room F' A' cap' w W2 ∧ Upd F W W2 := by
  have hc := fun y => cnt_dropO hx y
  refine (sackDropI h'.sack x (ls' := dropO x L) (by rw [hc x, if_pos ((cmpI_eq x x).2 rfl)]) (fun y hy => by rw [hc y, if_neg hy]; rfl) ?_).mono ?_
  · have hi := idx_iff.2 hx
    have := idxL_le x L
    rw [dropO_in hi]; simp; omega
  · rintro e W2 ⟨rfl, F', g1, g2, g3⟩
    exact ⟨rfl, F', h'.turn g1 g2 g3, g3⟩
/-- What is asked behind an act. -/
def Ask (sb : Nat) (A : Option Addr) (m cap : Nat) (room x : Int) (ba : Nat) (Fin : World → Prop) (W : World) : Prop :=
  (m : Int) ≤ room ∧ room ≤ 1000 ∧ W.cell? ⟨ba, 1, none⟩ = some (.int .i64 x) ∧ CallsIn Fence.wide 0 Try.prog 21 #[.pointer (some ⟨sb, 0, none⟩)] W fun e W1 => e = .returned (.int .i64 m) ∧ W1.cell? ⟨ba, 1, none⟩ = some (.int .i64 x) ∧
    CallsIn Fence.wide 0 Try.prog 22 #[.pointer (some ⟨sb, 0, none⟩)] W1 fun e W2 => e = .returned (.int .i64 (room - m)) ∧ W2.cell? ⟨ba, 1, none⟩ = some (.int .i64 x) ∧ ∃ c : Int,
      CallsIn Fence.wide 0 Try.prog 23 #[.pointer (some ⟨sb, 0, none⟩), .int .i64 x] W2 fun e W3 => e = .returned (.int .i64 c) ∧ W3.cell? ⟨ba, 1, none⟩ = some (.int .i64 x) ∧
        CallsIn Fence.wide 0 Try.prog 14 #[.slice A m cap, .int .i64 x] W3 fun e W4 => e = .returned (.int .i64 c) ∧ W4.cell? ⟨ba, 1, none⟩ = some (.int .i64 x) ∧ Fin W4
def Fin06 (sb : Nat) (room : Int) (m : Nat) (A : Option Addr) (cap : Nat) (w W : World) : Prop := ∃ L F, L.length = m ∧ Two sb L L room F A cap w W
theorem Two.ask (h : Two sb L L room F A cap w W) {ba : Nat} {k x : Int} (hB : Blk W ba #[.int .i64 k, .int .i64 x] 44) : Ask sb A L.length cap room x ba (Fin06 sb room L.length A cap w) W := by
  have hr := h.sack.len_le
  refine ⟨hr.1, hr.2, hB.cell 1, (sackLenI h.sack).mono ?_⟩
  rintro e W1 ⟨rfl, rfl⟩
  refine ⟨rfl, hB.cell 1, (sackRoomI h.sack).mono ?_⟩
  rintro e W2 ⟨rfl, u2⟩
  have h2 := h.upd u2
  have hB2 := hB.upd u2 id
  refine ⟨rfl, hB2.cell 1, ((cnt cmpI x L : Nat) : Int), (sackManyI h2.sack x).mono ?_⟩
  rintro e W3 ⟨rfl, u3⟩
  have h3 := h2.upd u3
  have hB3 := hB2.upd u3 id
  refine ⟨rfl, hB3.cell 1, (many06_c h3.list (by omega)).mono ?_⟩
  rintro e W4 ⟨rfl, rfl⟩
  exact ⟨rfl, hB3.cell 1, L, F, rfl, h3⟩
end
end Go.Proofs.Ytjlobcbjhnfjcaa

/- MarkTurns: the calls, one after the other. -/
import Derived.Test.YtpljdckppmobeaaProg
import Derived.Test.YtpljdckppmobeaaBase
import Derived.Test.YtpljdckppmobeaaMkU
namespace Go.Proofs.Ytpljdckppmobeaa
open Go.RowKit Go.Shelf
attribute [local go_sem] Oper.semAt_some

theorem infoA : (Try.prog.info? 29).map (fun i => (i.zero, i.size, i.bytes)) = some (some (.agg #[.int .i64 0, .int .i64 0, .string ⟨#[]⟩]), 3, 32) := by kernel_rfl
theorem zA : (Value.agg #[.int .i64 0, .int .i64 0, .string ⟨#[]⟩]).cells.size = 3 := rfl
/-- Two marks, the events so far, in a slice of the call's own; L: what the first mark has seen. -/
structure TurnI (ma mb : Nat) (own L : List Act13) (v : Value) (ls : List (KSM × VSM)) (F G : Nat → Prop) (w W : World) : Prop where
  a : MkI ma 5 7 0 0 ls F W
  ok : MkOk 5 7 0 0 ls
  rep : RepT L ls
  b : MkI mb 5 7 0 0 [] G W
  row : W.ownsRow w.heap.size 29 3 v own.length (own.flatMap encC)
  pos : ∀ a ∈ L, 0 ≤ a.n ∧ a.n ≤ mxT
  dis : ∀ j, F j → ¬ G j
  vd : ∀ j, v.ownBlock = some j → ¬ F j ∧ ¬ G j
  newF : ∀ j, F j → w.heap.size ≤ j
  newG : ∀ j, G j → w.heap.size ≤ j
  base : Upd (fun _ => False) w W
section
variable {ma mb : Nat} {own L : List Act13} {v : Value} {ls : List (KSM × VSM)} {F G : Nat → Prop} {w W W2 : World} {kind nn : Int} {src : ByteArray} {ab : Nat}
theorem TurnI.upd (h : TurnI ma mb own L v ls F G w W) (hu : Upd (fun _ => False) W W2) : TurnI ma mb own L v ls F G w W2 :=
  ⟨h.a.upd hu fun _ _ => id, h.ok, h.rep, h.b.upd hu fun _ _ => id, own_agree h.row (hu.agree fun j hj => ⟨(h.row.lt j hj).2, id⟩), h.pos, h.dis, h.vd, h.newF, h.newG, h.base.trans' hu⟩
/-- Word, See of the first mark. -/
theorem turn_see (h : TurnI ma mb own own v ls F G w W) (hA : Blk W ab #[.int .i64 kind, .int .i64 nn, .string src] 29) (hnA : ¬ F ab) (hs : src.size ≤ maxLen) :
    CallsIn Fence.wide 0 Try.prog 10 #[.string src] W fun e W2 => (∃ b, e = .returned (.bool b)) ∧ W2.cell? ⟨ab, 1, none⟩ = some (.int .i64 nn) ∧ W2.cell? ⟨ab, 2, none⟩ = some (.string src) ∧ TurnI ma mb own own v ls F G w W2 ∧
      (0 ≤ nn ∧ nn ≤ mxT → CallsIn Fence.wide 0 Try.prog 11 #[.pointer (some ⟨ma, 0, none⟩), .string src, .int .i64 nn] W2 fun e W3 => e = .returned (.int .i64 (canL src ls)) ∧ W3.cell? ⟨ab, 0, none⟩ = some (.int .i64 kind) ∧ W3.cell? ⟨ab, 1, none⟩ = some (.int .i64 nn) ∧ W3.cell? ⟨ab, 2, none⟩ = some (.string src) ∧
        (canL src ls = 0 → ∃ ls' F', TurnI ma mb own (own ++ [⟨kind, nn, src⟩]) v ls' F' G w W3) ∧ (canL src ls ≠ 0 → ∃ F', TurnI ma mb own own v ls F' G w W3)) := by
  refine (wordA_c hs).mono ?_
  rintro e W2 ⟨⟨b, rfl⟩, u⟩
  have h2 := h.upd u
  have A2 := hA.upd u id
  refine ⟨⟨b, rfl⟩, A2.cell 1, A2.cell 2, h2, fun hn => (markSee_any h2.a h2.ok src hn).mono ?_⟩
  rintro e W3 ⟨rfl, F', g1, g2, g3, g4⟩
  have A3 := A2.upd g4 hnA
  have z2 := h2.base.size
  have hb' := h2.b.upd g4 fun j hj hF => h2.dis j hF hj
  have hrow := own_agree h2.row (g4.agree fun j hj => ⟨(h2.row.lt j hj).2, (h2.vd j hj).1⟩)
  have hdis : ∀ j, F' j → ¬ G j := fun j hj hG => (g3 j hj).elim (fun h => h2.dis j h hG) fun h => by have := h2.b.lt j hG; omega
  have hvd : ∀ j, v.ownBlock = some j → ¬ F' j ∧ ¬ G j := fun j hj => ⟨fun hF => (g3 j hF).elim (h2.vd j hj).1 fun h => by have := (h2.row.lt j hj).2; omega, (h2.vd j hj).2⟩
  have hnF : ∀ j, F' j → w.heap.size ≤ j := fun j hj => (g3 j hj).elim (h2.newF j) fun h => by omega
  have hbase := h2.base.trans g4 fun j hj => .inr (h2.newF j hj)
  refine ⟨rfl, A3.cell 0, A3.cell 1, A3.cell 2, fun hc => ?_, fun hc => ?_⟩
  · rw [if_pos hc] at g1 g2
    refine ⟨_, F', g1, g2, h2.rep.add (a := ⟨kind, nn, src⟩) hn.1, hb', hrow, fun a ha => ?_, hdis, hvd, hnF, h2.newG, hbase⟩
    rcases List.mem_append.1 ha with ha | ha
    · exact h2.pos a ha
    · simp at ha; rw [ha]; exact hn
  · rw [if_neg hc] at g1 g2
    exact ⟨F', g1, g2, h2.rep, hb', hrow, h2.pos, hdis, hvd, hnF, h2.newG, hbase⟩
/-- One more is gathered. -/
theorem TurnI.push {g cap' : Nat} {x : Act13} (h : TurnI ma mb own (own ++ [x]) v ls F G w W) (h1 : W2.ownsRow w.heap.size 29 3 (.slice (some ⟨g, 0, none⟩) (own.length + 1) cap') (own.length + 1) (own.flatMap encC ++ encC x)) (h2 : Upd (fun j => v.ownBlock = some j) W W2) (h3 : v.ownBlock = some g ∨ W.heap.size ≤ g) (h4 : g < W2.heap.size) :
    TurnI ma mb (own ++ [x]) (own ++ [x]) (.slice (some ⟨g, 0, none⟩) (own.length + 1) cap') ls F G w W2 := by
  have hfl : (own ++ [x]).flatMap encC = own.flatMap encC ++ encC x := by simp
  refine ⟨h.a.upd h2 fun j hj e => (h.vd j e).1 hj, h.ok, h.rep, h.b.upd h2 fun j hj e => (h.vd j e).2 hj, by rw [hfl, List.length_append]; exact h1, h.pos, h.dis, fun j hj => ?_, h.newF, h.newG, h.base.trans h2 fun j hj => .inr (h.row.lt j hj).1⟩
  obtain rfl : g = j := by simpa [Value.ownBlock] using hj
  rcases h3 with h3 | h3
  · exact h.vd g h3
  · exact ⟨fun hF => by have := h.a.lt g hF; omega, fun hG => by have := h.b.lt g hG; omega⟩
/-- The second mark's turn. -/
structure TurnK (ma mb : Nat) (own : List Act13) (t i : Nat) (A : Option Addr) (ls : List (KSM × VSM)) (w W : World) : Prop where
  ok : MkOk 5 7 0 0 ls
  rep : RepT own ls
  st : ∃ F G l2, MkI ma 5 7 0 0 ls F W ∧ MkI mb 5 7 0 0 l2 G W ∧ MkOk 5 7 0 0 l2 ∧ RepT (vis own t i) l2 ∧ (∀ j, F j → ¬ G j) ∧ (∀ j, F j → w.heap.size ≤ j) ∧ (∀ j, G j → w.heap.size ≤ j) ∧ (∀ j, blkOf' A (own.flatMap encC).length j → ¬ G j)
  pos : ∀ a ∈ own, 0 ≤ a.n ∧ a.n ≤ mxT
  reads : Reads1 W A (own.flatMap encC)
  base : Upd (fun _ => False) w W
theorem TurnI.toK {A : Option Addr} {cap t : Nat} (h : TurnI ma mb own own (.slice A own.length cap) ls F G w W) : TurnK ma mb own t 0 A ls w W := by
  obtain ⟨A', cap', e, hn, hr, _, hb⟩ := own_readsS h.row
  cases e
  exact ⟨h.ok, h.rep, ⟨F, G, [], h.a, h.b, ⟨by simp [mxT], by simp [mxT], by simp [mxT], by simp [mxT], by simp, by simp, by simp⟩, RepT.nil, h.dis, h.newF, h.newG, fun j hj => (h.vd j (hb j hj.2)).2⟩, h.pos, hr, h.base⟩
/-- See of the second mark. -/
theorem turn_see2 {t i : Nat} {A : Option Addr} {x : Act13} (h : TurnK ma mb own t i A ls w W) (hx : own[idxT own.length t i]? = some x) : CallsIn Fence.wide 0 Try.prog 11 #[.pointer (some ⟨mb, 0, none⟩), .string x.src, .int .i64 x.n] W fun e W2 => e = .returned (.int .i64 0) ∧ TurnK ma mb own t (i + 1) A ls w W2 := by
  obtain ⟨F, G, l2, h1, h2, h3, h4, h5, h6, h7, h8⟩ := h.st
  have hxm := List.mem_of_getElem? hx
  have hc : canL x.src l2 = 0 := h.rep.room h4 (fun a ha => vis_sub ha) h.ok.len hxm
  refine (markSee_any h2 h3 x.src (h.pos x hxm)).mono ?_
  rintro e W2 ⟨rfl, G', g1, g2, g3, g4⟩
  rw [if_pos hc] at g1 g2
  have hz := h.base.size
  refine ⟨by rw [hc], h.ok, h.rep, ⟨F, G', _, h1.upd g4 fun j hj hG => h5 j hj hG, g1, g2, by rw [vis_succ hx]; exact h4.add (h.pos x hxm).1, fun j hj hG => (g3 j hG).elim (h5 j hj) fun h => by have := h1.lt j hj; omega, h6, fun j hj => (g3 j hj).elim (h7 j) fun h => by omega, fun j hj hG => (g3 j hG).elim (h8 j hj) fun h' => by have := h.reads.lt' j hj; omega⟩, h.pos, h.reads.agree' (g4.agree fun j hj => ⟨h.reads.lt' j hj, h8 j hj⟩), h.base.trans g4 fun j hj => .inr (h7 j hj)⟩
theorem TurnK.upd {t i : Nat} {A : Option Addr} (h : TurnK ma mb own t i A ls w W) (hu : Upd (fun _ => False) W W2) : TurnK ma mb own t i A ls w W2 := by
  obtain ⟨F, G, l2, h1, h2, h3, h4, h5, h6, h7, h8⟩ := h.st
  exact ⟨h.ok, h.rep, ⟨F, G, l2, h1.upd hu fun _ _ => id, h2.upd hu fun _ _ => id, h3, h4, h5, h6, h7, h8⟩, h.pos, h.reads.agree' (hu.agree fun j hj => ⟨h.reads.lt' j hj, id⟩), h.base.trans' hu⟩
/-- The end: both tick, and are asked for their states. -/
theorem turn_end {t : Nat} {A : Option Addr} (h : TurnK ma mb own t own.length A ls w W) :
    CallsIn Fence.wide 0 Try.prog 12 #[.pointer (some ⟨ma, 0, none⟩), .int .i64 3] W fun e W2 => (∃ v, e = .returned v) ∧
      CallsIn Fence.wide 0 Try.prog 12 #[.pointer (some ⟨mb, 0, none⟩), .int .i64 3] W2 fun e W3 => (∃ v, e = .returned v) ∧
        CallsIn Fence.wide 0 Try.prog 18 #[.pointer (some ⟨ma, 0, none⟩)] W3 fun e W4 => ∃ s, e = .returned s ∧
          CallsIn Fence.wide 0 Try.prog 17 #[s] W4 fun e W5 => ∃ r, e = .returned r ∧
            CallsIn Fence.wide 0 Try.prog 18 #[.pointer (some ⟨mb, 0, none⟩)] W5 fun e W6 => ∃ s2, e = .returned s2 ∧
              CallsIn Fence.wide 0 Try.prog 17 #[s2] W6 fun e W7 => ∃ r2, e = .returned r2 ∧
                CallsIn Fence.wide 0 Try.prog 16 #[r, r2] W7 fun e W8 => e = .returned (.bool true) ∧ Upd (fun _ => False) w W8 := by
  obtain ⟨F, G, l2, h1, h2, h3, h4, h5, h6, h7, h8⟩ := h.st
  obtain rfl : ls = l2 := h.rep.same h4 fun a => ⟨fun ha => vis_all ha, fun ha => vis_sub ha⟩
  refine (markTick_c h1 h.ok (by omega) (by simp [mxT])).mono ?_
  rintro e W2 ⟨rfl, g1, g2⟩
  refine ⟨⟨_, rfl⟩, (markTick_c (h2.upd g2 fun j hj hF => h5 j hF hj) h.ok (by omega) (by simp [mxT])).mono ?_⟩
  rintro e W3 ⟨rfl, g3, g4⟩
  have a3 := g1.upd g4 h5
  have u3 : Upd (fun _ => False) w W3 := (h.base.trans g2 fun j hj => .inr (h6 j hj)).trans g4 fun j hj => .inr (h7 j hj)
  have hl := h.ok.len
  refine ⟨⟨_, rfl⟩, (markState_c a3 (by omega)).mono ?_⟩
  rintro e W4 ⟨A1, c1, rfl, r1, _, u4⟩
  refine ⟨_, rfl, (ref_c r1 (by omega)).mono ?_⟩
  rintro e W5 ⟨A2, c2, rfl, _, r2, _, u5⟩
  have b5 := (g3.upd u4 fun _ _ => id).upd u5 fun _ _ => id
  refine ⟨_, rfl, (markState_c b5 (by omega)).mono ?_⟩
  rintro e W6 ⟨A3, c3, rfl, r3, _, u6⟩
  refine ⟨_, rfl, (ref_c r3 (by omega)).mono ?_⟩
  rintro e W7 ⟨A4, c4, rfl, _, r4, _, u7⟩
  have u67 := u6.trans' u7
  have r2' : Reads1 W7 A2 (flatS ls) := r2.agree' (u67.agree fun j hj => ⟨r2.lt' j hj, id⟩)
  refine ⟨_, rfl, (same_c r2' r4 (by omega)).mono ?_⟩
  rintro e W8 ⟨rfl, u8⟩
  exact ⟨rfl, ((((u3.trans' u4).trans' u5).trans' u67).trans' u8)⟩
end
end Go.Proofs.Ytpljdckppmobeaa

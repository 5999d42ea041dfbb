/- RackPlays: whatever is put and dropped, each call answers as the document says; so do All, From and Back. -/
import Derived.Test.YtaenkjeaadmgeaaProg
import Derived.Test.YtaenkjeaadmgeaaBase
import Derived.Test.YtaenkjeaadmgeaaRkPy
namespace Go.Proofs.Ytaenkjeaadmgeaa
open Go.RowKit Go.Shelf
attribute [local go_sem] Oper.semAt_some

theorem slice_inj {A B : Option Addr} {m n c d : Nat} (h : Value.slice A m c = Value.slice B n d) : A = B ∧ m = n ∧ c = d := by cases h; exact ⟨rfl, rfl, rfl⟩
/-- The end: all three ways of going through it. -/
theorem Pl.fin {w W : World} {p : Nat} {l : List Ent} {A : Option Addr} {cap : Nat} {F : Nat → Prop} (h : Pl w p l l (.slice A l.length cap) F W) (hl : l.length ≤ 120) (most : Int) :
    (CallsIn Fence.wide 0 Try.prog 11 #[.pointer (some ⟨p, 0, none⟩)] W fun e W2 => ∃ bv, e = .returned (.func (.func 44) #[] #[.pointer (some ⟨bv, 0, none⟩)]) ∧
      CallsIn Fence.wide 0 Try.prog 14 #[.func (.func 44) #[] #[.pointer (some ⟨bv, 0, none⟩)], .slice A l.length cap, .int .i64 most] W2 fun e W3 => e = .returned (.bool true) ∧ Upd (fun _ => False) W W3) ∧
    (∀ V, Upd (fun _ => False) W V → CallsIn Fence.wide 0 Try.prog 32 #[.pointer (some ⟨p, 0, none⟩)] V fun e W2 => ∃ bv, e = .returned (.func (.func 57) #[] #[.pointer (some ⟨bv, 0, none⟩)]) ∧
      CallsIn Fence.wide 0 Try.prog 33 #[.slice A l.length cap] W2 fun e W3 => ∃ A' cap', e = .returned (.slice A' l.length cap') ∧
        CallsIn Fence.wide 0 Try.prog 14 #[.func (.func 57) #[] #[.pointer (some ⟨bv, 0, none⟩)], .slice A' l.length cap', .int .i64 most] W3 fun e W4 => e = .returned (.bool true) ∧ Upd (fun _ => False) W W4) ∧
    (∀ V key, Upd (fun _ => False) W V → CallsIn Fence.wide 0 Try.prog 34 #[.pointer (some ⟨p, 0, none⟩), .string key] V fun e W2 => ∃ bv bk, e = .returned (.func (.func 59) #[] #[.pointer (some ⟨bv, 0, none⟩), .pointer (some ⟨bk, 0, none⟩)]) ∧
      CallsIn Fence.wide 0 Try.prog 35 #[.slice A l.length cap, .string key] W2 fun e W3 => ∃ rk : Nat, e = .returned (.int .i64 rk) ∧ rk ≤ l.length ∧ ∀ A' cap', (∀ W cells, Reads1 W A cells → cells.length = l.length * 2 → Reads1 W A' (cells.drop (rk * 2))) →
        CallsIn Fence.wide 0 Try.prog 14 #[.func (.func 59) #[] #[.pointer (some ⟨bv, 0, none⟩), .pointer (some ⟨bk, 0, none⟩)], .slice A' (l.length - rk) cap', .int .i64 most] W3 fun e W4 => e = .returned (.bool true) ∧ Upd (fun _ => False) W W4) := by
  obtain ⟨t, h1, h2⟩ := h.rack
  obtain ⟨A0, cap0, e0, hc, hr, hd⟩ := h.list
  cases e0
  have hrw := fun V (hu : Upd (fun _ => False) W V) => hr.agree' (w' := V) (hu.agree fun j hj => ⟨hr.lt' j hj, id⟩)
  refine ⟨?_, fun V hV => ?_, fun V key hV => ?_⟩
  · refine rackAllSI.mono ?_
    rintro e W2 ⟨bv, rfl, g1, g2, g3⟩
    refine ⟨bv, rfl, (goes_c (allSeqSI (h1.upd g3 fun _ _ => id) g1) rfl (hrw _ g3) (by omega)).mono ?_⟩
    rintro e W3 ⟨rfl, hu⟩
    exact ⟨rfl, g3.trans' hu⟩
  · refine rackBackSI.mono ?_
    rintro e W2 ⟨bv, rfl, g1, g2, g3⟩
    refine ⟨bv, rfl, (turned_c (hrw _ (hV.trans' g3)) (by omega)).mono ?_⟩
    rintro e W3 ⟨A', cap', rfl, g4, g5⟩
    refine ⟨A', cap', rfl, (goes_c (backSeqSI ((h1.upd (hV.trans' g3) fun _ _ => id).upd g5 fun _ _ => id) (g1.upd g5 id)) (by simp) g4 (by simp; omega)).mono ?_⟩
    rintro e W4 ⟨rfl, hu⟩
    exact ⟨rfl, ((hV.trans' g3).trans' g5).trans' hu⟩
  · refine rackFromSI.mono ?_
    rintro e W2 ⟨bv, bk, rfl, g1, g2, g3, g4, g5⟩
    refine ⟨bv, bk, rfl, (start_c (hrw _ (hV.trans' g5)) h.rise (by omega) (fun e he => Nat.le_trans (h.size e he) (by decide))).mono ?_⟩
    rintro e W3 ⟨rfl, g6⟩
    refine ⟨_, rfl, rank_le key l, fun A' cap' hA' => ?_⟩
    have hr3 := hA' W3 _ (hrw _ ((hV.trans' g5).trans' g6)) (flat_len l)
    rw [← flat_drop] at hr3
    have hseq := fromSeqSI ((h1.upd (hV.trans' g5) fun _ _ => id).upd g6 fun _ _ => id) (g1.upd g6 id) (g2.upd g6 id) cmpSI
    rw [behind_drop ordrS h.rise] at hseq
    refine (goes_c hseq (by simp) hr3 (by simp; omega)).mono ?_
    rintro e W4 ⟨rfl, hu⟩
    exact ⟨rfl, ((hV.trans' g5).trans' g6).trans' hu⟩

/-- What is asked behind an act, the key being there, or not. -/
theorem Pl.askT {w W : World} {p ba rk : Nat} {l : List Ent} {v : Value} {F : Nat → Prop} {kind val : Int} {key : ByteArray} (h : Pl w p l l v F W) (hl : l.length ≤ 120) (hb : hadL cmpS key l = true) (hr : rankL cmpS key l = rk) (hB : Blk W ba #[.int .i64 kind, .string key, .int .i64 val] 51) :
    ∃ (g o cap m : Nat) (u : Int), v = .slice (some ⟨g, o, none⟩) m cap ∧ rk < m ∧ W.cell? ⟨ba, 1, none⟩ = some (.string key) ∧ CallsIn Fence.wide 0 Try.prog 23 #[.pointer (some ⟨p, 0, none⟩), .string key] W fun e W6 => e = .returned (.tuple #[.int .i64 u, .bool true]) ∧ W6.cell? ⟨ba, 1, none⟩ = some (.string key) ∧
      CallsIn Fence.wide 0 Try.prog 31 #[.slice (some ⟨g, o, none⟩) m cap, .string key] W6 fun e W7 => e = .returned (.tuple #[.int .i64 rk, .bool true]) ∧ W7.cell? ⟨ba, 1, none⟩ = some (.string key) ∧ W7.cell? ⟨g, o + rk * 2 + 1, none⟩ = some (.int .i64 u) ∧
        CallsIn Fence.wide 0 Try.prog 13 #[.pointer (some ⟨p, 0, none⟩)] W7 (fun e W8 => e = .returned (.int .i64 m) ∧ W8 = W7) ∧
        CallsIn Fence.wide 0 Try.prog 30 #[.pointer (some ⟨p, 0, none⟩), .string key] W7 (fun e W8 => e = .returned (.int .i64 rk) ∧ Pl w p l l (.slice (some ⟨g, o, none⟩) m cap) F W8) := by
  have hu := fun W2 (hu : Upd (fun _ => False) W W2) => h.upd hu
  obtain ⟨A, cap, m, b, u, e0, rfl, rfl, k1, k2, k3, k4, k5, k6⟩ := h.asks hl key
  rw [hr] at k2 k4 k5
  rw [hb] at e0
  subst e0
  obtain ⟨hlt, g, o, rfl, hc⟩ := k5 rfl
  refine ⟨g, o, cap, l.length, u, rfl, hlt, hB.cell 1, k1.mono ?_⟩
  rintro e W6 ⟨rfl, u6⟩
  refine ⟨rfl, (hB.upd u6 id).cell 1, (k2 W6 u6).mono ?_⟩
  rintro e W7 ⟨rfl, u7⟩
  refine ⟨rfl, (hB.upd u7 id).cell 1, hc W7 u7, k3 W7 u7, (k4 W7 u7).mono ?_⟩
  rintro e W8 ⟨rfl, u8⟩
  exact ⟨rfl, hu W8 u8⟩

theorem Pl.askF {w W : World} {p ba rk : Nat} {l : List Ent} {v : Value} {F : Nat → Prop} {kind val : Int} {key : ByteArray} (h : Pl w p l l v F W) (hl : l.length ≤ 120) (hb : hadL cmpS key l = false) (hr : rankL cmpS key l = rk) (hB : Blk W ba #[.int .i64 kind, .string key, .int .i64 val] 51) :
    ∃ (A : Option Addr) (cap m : Nat), v = .slice A m cap ∧ W.cell? ⟨ba, 1, none⟩ = some (.string key) ∧ CallsIn Fence.wide 0 Try.prog 23 #[.pointer (some ⟨p, 0, none⟩), .string key] W fun e W6 => e = .returned (.tuple #[.int .i64 0, .bool false]) ∧ W6.cell? ⟨ba, 1, none⟩ = some (.string key) ∧
      CallsIn Fence.wide 0 Try.prog 31 #[.slice A m cap, .string key] W6 fun e W7 => e = .returned (.tuple #[.int .i64 rk, .bool false]) ∧ W7.cell? ⟨ba, 1, none⟩ = some (.string key) ∧
        CallsIn Fence.wide 0 Try.prog 13 #[.pointer (some ⟨p, 0, none⟩)] W7 (fun e W8 => e = .returned (.int .i64 m) ∧ W8 = W7) ∧
        CallsIn Fence.wide 0 Try.prog 30 #[.pointer (some ⟨p, 0, none⟩), .string key] W7 (fun e W8 => e = .returned (.int .i64 rk) ∧ Pl w p l l (.slice A m cap) F W8) := by
  have hu := fun W2 (hu : Upd (fun _ => False) W W2) => h.upd hu
  obtain ⟨A, cap, m, b, u, e0, rfl, rfl, k1, k2, k3, k4, k5, k6⟩ := h.asks hl key
  rw [hr] at k2 k4 k5
  rw [hb] at e0
  subst e0
  obtain rfl := k6 rfl
  refine ⟨A, cap, l.length, rfl, hB.cell 1, k1.mono ?_⟩
  rintro e W6 ⟨rfl, u6⟩
  refine ⟨rfl, (hB.upd u6 id).cell 1, (k2 W6 u6).mono ?_⟩
  rintro e W7 ⟨rfl, u7⟩
  refine ⟨rfl, (hB.upd u7 id).cell 1, k3 W7 u7, (k4 W7 u7).mono ?_⟩
  rintro e W8 ⟨rfl, u8⟩
  exact ⟨rfl, hu W8 u8⟩

set_option maxRecDepth 100000 in
set_option maxHeartbeats 8000000 in
theorem rackPlays_law {n : Nat} {w : World} {AA : Option Addr} {capA : Nat} {L : List ActR} {mo : Nat} (hra : Reads1 w AA (L.flatMap encA)) (hlm : L.length ≤ maxLen) (hmo : mo < 256) :
    CallsIn Fence.wide n Try.prog 7 #[.slice AA L.length capA, .int .u8 mo] w fun e w' => e = .returned (.bool true) ∧ Upd (fun _ => False) w w' := by
  refine callsIn_any (n := 0) (callsIn_of_wp Try.func7 rfl trivial ?_)
  simp only [Try.ntmps7, List.size_toArray, List.length_cons, List.length_nil, Nat.reduceAdd, Nat.reduceSub, Array.replicate_succ, Array.replicate_zero, List.push_toArray, List.append_toArray, List.nil_append, List.cons_append]
  have hrwa := Lib.hid fun W (h : Upd (fun _ => False) w W) => hra.agree' (w' := W) (h.agree fun j hj => ⟨hra.lt' j hj, id⟩)
  have hfew := Lib.hid fun W (h : Upd (fun _ => False) w W) => few_c (n := 0) (cap := capA) (hrwa.out W h) hlm
  clear hra
  cases hf : fewB L with
  | false =>
    rw [hf] at hfew
    clear hf
    gi_wp2_with (first | refine (⟨trivial, rfl, ?_⟩ : Fence.wide.fn _ ∧ Fence.wide.depth = none ∧ _) | (gi_at_call 8; refine new05.mono ?_; rintro e W1 ⟨rfl, ra, ua⟩; clear ra; have uz := Lib.hid ua; clear ua) | (gi_at_call 9; refine awake05.mono ?_; rintro e W4 ⟨rfl, uw⟩; (replace uz := Lib.hid (uz.out.trans' uw)); clear uw) | (gi_at_call 26; refine (hfew.out _ uz.out).mono ?_; rintro e W4 ⟨rfl, uw⟩; (replace uz := Lib.hid (uz.out.trans' uw)); clear uw) | refine (⟨trivial, ?_⟩ : Fence.wide.fn _ ∧ _))
    go_ret
    exact ⟨rfl, uz.out⟩
  | true =>
    rw [hf] at hfew
    simp only [fewB, Bool.and_eq_true, List.all_eq_true, decide_eq_true_eq] at hf
    obtain ⟨hsz, hl⟩ := hf
    replace hsz := Lib.hid hsz
    gi_wp2_with (first | refine (⟨trivial, rfl, ?_⟩ : Fence.wide.fn _ ∧ Fence.wide.depth = none ∧ _) | (gi_at_call 8; refine new05.mono ?_; rintro e W1 ⟨rfl, ra, ua⟩; have uz := Lib.hid ua; (replace ra := Lib.hid ra); clear ua) | (gi_at_call 9; refine awake05.mono ?_; rintro e W4 ⟨rfl, uw⟩; (replace uz := Lib.hid (uz.out.trans' uw)); (replace ra := Lib.hid (ra.out.upd uw fun _ _ => id)); clear uw) | (gi_at_call 26; refine (hfew.out _ uz.out).mono ?_; rintro e W5 ⟨rfl, uw⟩; (replace uz := Lib.hid (uz.out.trans' uw)); (replace ra := Lib.hid (ra.out.upd uw fun _ _ => id)); clear uw) | refine (⟨trivial, ?_⟩ : Fence.wide.fn _ ∧ _))
    have h0 := Pl.new ra.out uz.out (Nat.le_refl _)
    clear ra uz hfew
    gi_loopw [6, 31] (fun v6 u wr => ∃ (k : Nat) (l : List Ent) (F : Nat → Prop), u = .int .i64 k ∧ k ≤ L.length ∧ l.length ≤ k ∧ Pl w w.heap.size l l v6 F wr) (fun _ u _ => L.length - (intOf u).toNat)
    case atStart => exact ⟨0, [], _, rfl, Nat.zero_le _, Nat.le_refl _, h0⟩
    case round =>
      clear h0
      obtain ⟨k, l, F, rfl, hk, hlk, h⟩ := hrel
      by_cases hlt : k < L.length
      · obtain ⟨g, o, rfl, c1, c2, c3⟩ := acts_at (hrwa.out _ h.base) hlt
        have hxs : L[k].key.size ≤ 100 := hsz.out _ (List.getElem_mem hlt)
        have hw5 : IntKind.i64.wrap ((k : Int) + 1) = (k : Int) + 1 := Go.IntWalk.i64_in _ ⟨by omega, by omega⟩
        have hnF : ¬ F wr.heap.size := fun hF => by have := h.lt _ hF; omega
        generalize L[k] = x at *
        obtain ⟨kind, key, val⟩ := x
        simp only at c1 c2 c3 hxs
        have hA := h.upd (Upd.alloc (fun _ => False) wr (.cells #[.int .i64 kind, .string key, .int .i64 val] 51))
        have hB := Blk.new wr #[.int .i64 kind, .string key, .int .i64 val] 51
        have hlen1 := dropL_le (c := cmpS) key l
        have hlen2 := putL_le ordrS (k := key) val h.rise
        clear h
        obtain ⟨rk, hrk⟩ : ∃ rk, rankL cmpS key l = rk := ⟨_, rfl⟩
        have hhad : ∀ v : Int, hadL cmpS key (putL cmpS key v l) = true := fun v => (hadL_put ordrS).2 (.inl rfl)
        have hhad0 : hadL cmpS key (dropL cmpS key l) = false := by
          cases hh : hadL cmpS key (dropL cmpS key l) with
          | false => rfl
          | true => exact absurd rfl ((hadL_drop ordrS).1 hh).1
        have hrk1 : rankL cmpS key (putL cmpS key val l) = rk := (rank_put ordrS).trans hrk
        have hrk0 : rankL cmpS key (dropL cmpS key l) = rk := (rank_drop ordrS).trans hrk
        have kf := hA.sfind key (by omega)
        rw [hrk] at kf
        by_cases hk1 : kind = 1
        · subst hk1
          have k1 : CallsIn Fence.wide 0 Try.prog 31 #[u6, .string key] (wr.alloc (.cells #[.int .i64 1, .string key, .int .i64 val] 51)) fun e W2 => ∃ b, e = .returned (.tuple #[.int .i64 rk, .bool b]) ∧ W2.cell? ⟨wr.heap.size, 0, none⟩ = some (.int .i64 1) ∧ W2.cell? ⟨wr.heap.size, 1, none⟩ = some (.string key) ∧ W2.cell? ⟨wr.heap.size, 2, none⟩ = some (.int .i64 val) ∧
              CallsIn Fence.wide 0 Try.prog 10 #[.pointer (some ⟨w.heap.size, 0, none⟩), .string key, .int .i64 val] W2 fun e W3 => e = .returned (.bool b) ∧ W3.cell? ⟨wr.heap.size, 1, none⟩ = some (.string key) ∧ W3.cell? ⟨wr.heap.size, 2, none⟩ = some (.int .i64 val) ∧
                CallsIn Fence.wide 0 Try.prog 22 #[u6, .string key, .int .i64 val] W3 fun e W4 => ∃ v', e = .returned v' ∧ ∃ (l' : List Ent) (F' : Nat → Prop), l'.length ≤ k + 1 ∧ hadL cmpS key l' = true ∧ rankL cmpS key l' = rk ∧ Pl w w.heap.size l' l' v' F' W4 ∧ Blk W4 wr.heap.size #[.int .i64 1, .string key, .int .i64 val] 51 := by
            refine kf.mono ?_
            rintro e W2 ⟨rfl, g0⟩
            have hB2 := hB.upd g0 id
            refine ⟨_, rfl, hB2.cell 0, hB2.cell 1, hB2.cell 2, ((hA.upd g0).rput key val (by omega)).mono ?_⟩
            rintro e W3 ⟨rfl, F2, g1, g2, g3⟩
            have hB3 := hB2.upd g3 hnF
            refine ⟨rfl, hB3.cell 1, hB3.cell 2, (g1.sput key val (by omega) hxs).mono ?_⟩
            rintro e W4 ⟨v', rfl, g4, g5⟩
            exact ⟨v', rfl, putL cmpS key val l, F2, by omega, hhad _, hrk1, g4, hB3.upd g5 id⟩
          replace k1 := Lib.hid k1
          clear hA hB hlen1 hlen2 hnF hhad hhad0 hrk hrk1 hrk0 kf
          gi_wp2_with (first | refine (⟨trivial, rfl, ?_⟩ : Fence.wide.fn _ ∧ Fence.wide.depth = none ∧ _) | (gi_at_call 31; (with_reducible refine k1.out.mono ?_); rintro e W2 ⟨b, rfl, d0, d1, d2, k2⟩; (replace k2 := Lib.hid k2)) | (gi_at_call 10; (with_reducible refine k2.out.mono ?_); rintro e W3 ⟨rfl, d3, d4, k3⟩; (replace k3 := Lib.hid k3)) | (gi_at_call 22; (with_reducible refine k3.out.mono ?_); rintro e W4 ⟨v', rfl, l', F', hl', q1, q2, q3, q4⟩; (obtain ⟨ga, oa, cap4, m4, u4, rfl, hlt4, d5, t1⟩ := q3.askT (by omega) q1 q2 q4); (replace t1 := Lib.hid t1); (replace q1 := Lib.hid q1); (replace q2 := Lib.hid q2); (replace q3 := Lib.hid q3); (replace q4 := Lib.hid q4)) | (gi_at_call 23; (with_reducible refine t1.out.mono ?_); rintro e W6 ⟨rfl, d6, t2⟩; (replace t2 := Lib.hid t2)) | (gi_at_call 31; (with_reducible refine t2.out.mono ?_); rintro e W7 ⟨rfl, d7, d8, t3, t4⟩; (replace t3 := Lib.hid t3); (replace t4 := Lib.hid t4)) | (gi_at_call 13; (with_reducible refine t3.out.mono ?_); rintro e W8 ⟨rfl, rfl⟩) | (gi_at_call 30; (with_reducible refine t4.out.mono ?_); rintro e W9 ⟨rfl, fin⟩; (replace fin := Lib.hid fin)) | refine (⟨trivial, ?_⟩ : Fence.wide.fn _ ∧ _))
          exact ⟨⟨k + 1, l', F', by go_num, by omega, by omega, fin.out⟩, by simp [intOf]; omega⟩
        · have hk1b : (kind == 1) = false := by simpa using hk1
          by_cases hk2 : kind = 2
          · subst hk2
            have k1 : CallsIn Fence.wide 0 Try.prog 31 #[u6, .string key] (wr.alloc (.cells #[.int .i64 2, .string key, .int .i64 val] 51)) fun e W2 => ∃ b, e = .returned (.tuple #[.int .i64 rk, .bool b]) ∧ W2.cell? ⟨wr.heap.size, 0, none⟩ = some (.int .i64 2) ∧ W2.cell? ⟨wr.heap.size, 1, none⟩ = some (.string key) ∧
              CallsIn Fence.wide 0 Try.prog 24 #[.pointer (some ⟨w.heap.size, 0, none⟩), .string key] W2 fun e W3 => e = .returned (.bool b) ∧ W3.cell? ⟨wr.heap.size, 1, none⟩ = some (.string key) ∧
                CallsIn Fence.wide 0 Try.prog 27 #[u6, .string key] W3 fun e W4 => ∃ v', e = .returned v' ∧ ∃ (l' : List Ent) (F' : Nat → Prop), l'.length ≤ k + 1 ∧ hadL cmpS key l' = false ∧ rankL cmpS key l' = rk ∧ Pl w w.heap.size l' l' v' F' W4 ∧ Blk W4 wr.heap.size #[.int .i64 2, .string key, .int .i64 val] 51 := by
              refine kf.mono ?_
              rintro e W2 ⟨rfl, g0⟩
              have hB2 := hB.upd g0 id
              refine ⟨_, rfl, hB2.cell 0, hB2.cell 1, ((hA.upd g0).rdrop key (by omega)).mono ?_⟩
              rintro e W3 ⟨rfl, F2, g1, g2, g3⟩
              have hB3 := hB2.upd g3 hnF
              refine ⟨rfl, hB3.cell 1, (g1.sdrop key (by omega)).mono ?_⟩
              rintro e W4 ⟨v', rfl, g4, g5⟩
              exact ⟨v', rfl, dropL cmpS key l, F2, by omega, hhad0, hrk0, g4, hB3.upd g5 id⟩
            replace k1 := Lib.hid k1
            clear hA hB hlen1 hlen2 hnF hhad hhad0 hrk hrk1 hrk0 kf hk1 hk1b
            gi_wp2_with (first | refine (⟨trivial, rfl, ?_⟩ : Fence.wide.fn _ ∧ Fence.wide.depth = none ∧ _) | (gi_at_call 31; (with_reducible refine k1.out.mono ?_); rintro e W2 ⟨b, rfl, d0, d1, k2⟩; (replace k2 := Lib.hid k2)) | (gi_at_call 24; (with_reducible refine k2.out.mono ?_); rintro e W3 ⟨rfl, d3, k3⟩; (replace k3 := Lib.hid k3)) | (gi_at_call 27; (with_reducible refine k3.out.mono ?_); rintro e W4 ⟨v', rfl, l', F', hl', q1, q2, q3, q4⟩; (obtain ⟨A4, cap4, m4, rfl, d5, t1⟩ := q3.askF (by omega) q1 q2 q4); (replace t1 := Lib.hid t1); (replace q1 := Lib.hid q1); (replace q2 := Lib.hid q2); (replace q3 := Lib.hid q3); (replace q4 := Lib.hid q4)) | (gi_at_call 23; (with_reducible refine t1.out.mono ?_); rintro e W6 ⟨rfl, d6, t2⟩; (replace t2 := Lib.hid t2)) | (gi_at_call 31; (with_reducible refine t2.out.mono ?_); rintro e W7 ⟨rfl, d7, t3, t4⟩; (replace t3 := Lib.hid t3); (replace t4 := Lib.hid t4)) | (gi_at_call 13; (with_reducible refine t3.out.mono ?_); rintro e W8 ⟨rfl, rfl⟩) | (gi_at_call 30; (with_reducible refine t4.out.mono ?_); rintro e W9 ⟨rfl, fin⟩; (replace fin := Lib.hid fin)) | refine (⟨trivial, ?_⟩ : Fence.wide.fn _ ∧ _))
            exact ⟨⟨k + 1, l', F', by go_num, by omega, by omega, fin.out⟩, by simp [intOf]; omega⟩
          · have hk2b : (kind == 2) = false := by simpa using hk2
            have kz : ∀ b, hadL cmpS key l = b → CallsIn Fence.wide 0 Try.prog 31 #[u6, .string key] (wr.alloc (.cells #[.int .i64 kind, .string key, .int .i64 val] 51)) fun e W2 => e = .returned (.tuple #[.int .i64 rk, .bool b]) ∧ W2.cell? ⟨wr.heap.size, 0, none⟩ = some (.int .i64 kind) ∧ Pl w w.heap.size l l u6 F W2 ∧ Blk W2 wr.heap.size #[.int .i64 kind, .string key, .int .i64 val] 51 := by
              intro b hb
              refine kf.mono ?_
              rintro e W2 ⟨rfl, g0⟩
              exact ⟨by rw [hb], (hB.upd g0 id).cell 0, hA.upd g0, hB.upd g0 id⟩
            cases hb : hadL cmpS key l with
            | true =>
              have k1 := kz true hb
              obtain ⟨A4, cap4, rfl, _⟩ := hA.list
              replace k1 := Lib.hid k1
              replace hb := Lib.hid hb
              replace hrk := Lib.hid hrk
              clear hA hB hlen1 hlen2 hnF hhad hhad0 hrk1 hrk0 kf hk1 hk2 kz
              gi_wp2_with (first | refine (⟨trivial, rfl, ?_⟩ : Fence.wide.fn _ ∧ Fence.wide.depth = none ∧ _) | (gi_at_call 31; (with_reducible refine k1.out.mono ?_); rintro e W2 ⟨rfl, d0, q3, q4⟩; (obtain ⟨ga, oa, cap5, m4, u4, e4, hlt4, d5, t1⟩ := q3.askT (by omega) hb.out hrk.out q4); (obtain ⟨rfl, rfl, rfl⟩ := slice_inj e4); (replace t1 := Lib.hid t1); (replace q3 := Lib.hid q3); (replace q4 := Lib.hid q4)) | (gi_at_call 23; (with_reducible refine t1.out.mono ?_); rintro e W6 ⟨rfl, d6, t2⟩; (replace t2 := Lib.hid t2)) | (gi_at_call 31; (with_reducible refine t2.out.mono ?_); rintro e W7 ⟨rfl, d7, d8, t3, t4⟩; (replace t3 := Lib.hid t3); (replace t4 := Lib.hid t4)) | (gi_at_call 13; (with_reducible refine t3.out.mono ?_); rintro e W8 ⟨rfl, rfl⟩) | (gi_at_call 30; (with_reducible refine t4.out.mono ?_); rintro e W9 ⟨rfl, fin⟩; (replace fin := Lib.hid fin)) | refine (⟨trivial, ?_⟩ : Fence.wide.fn _ ∧ _))
              exact ⟨⟨k + 1, l, F, by go_num, by omega, by omega, fin.out⟩, by simp [intOf]; omega⟩
            | false =>
              have k1 := kz false hb
              obtain ⟨A4, cap4, rfl, _⟩ := hA.list
              replace k1 := Lib.hid k1
              replace hb := Lib.hid hb
              replace hrk := Lib.hid hrk
              clear hA hB hlen1 hlen2 hnF hhad hhad0 hrk1 hrk0 kf hk1 hk2 kz
              gi_wp2_with (first | refine (⟨trivial, rfl, ?_⟩ : Fence.wide.fn _ ∧ Fence.wide.depth = none ∧ _) | (gi_at_call 31; (with_reducible refine k1.out.mono ?_); rintro e W2 ⟨rfl, d0, q3, q4⟩; (obtain ⟨A5, cap5, m4, e4, d5, t1⟩ := q3.askF (by omega) hb.out hrk.out q4); (obtain ⟨rfl, rfl, rfl⟩ := slice_inj e4); (replace t1 := Lib.hid t1); (replace q3 := Lib.hid q3); (replace q4 := Lib.hid q4)) | (gi_at_call 23; (with_reducible refine t1.out.mono ?_); rintro e W6 ⟨rfl, d6, t2⟩; (replace t2 := Lib.hid t2)) | (gi_at_call 31; (with_reducible refine t2.out.mono ?_); rintro e W7 ⟨rfl, d7, t3, t4⟩; (replace t3 := Lib.hid t3); (replace t4 := Lib.hid t4)) | (gi_at_call 13; (with_reducible refine t3.out.mono ?_); rintro e W8 ⟨rfl, rfl⟩) | (gi_at_call 30; (with_reducible refine t4.out.mono ?_); rintro e W9 ⟨rfl, fin⟩; (replace fin := Lib.hid fin)) | refine (⟨trivial, ?_⟩ : Fence.wide.fn _ ∧ _))
              exact ⟨⟨k + 1, l, F, by go_num, by omega, by omega, fin.out⟩, by simp [intOf]; omega⟩
      · have hge : ¬ (k : Int) < L.length := by omega
        have hl2 : l.length ≤ 120 := by omega
        clear hk hlt hlk
        obtain ⟨A, cap, rfl, _⟩ := h.list
        obtain ⟨er, her⟩ : ∃ er, er = mo % 30 := ⟨_, rfl⟩
        have he1 : (mo : Int).tmod 30 = (er : Int) := by rw [Int.tmod_eq_emod_of_nonneg (by omega)]; omega
        have he2 : (mo : Int) % 30 = (er : Int) := by omega
        have he3 : IntKind.u8.wrap (er : Int) = (er : Int) := by simp [IntKind.wrap, IntKind.bits, IntKind.signed]; omega
        have he4 : IntKind.i64.wrap (er : Int) = (er : Int) := Go.IntWalk.i64_in _ ⟨by omega, by omega⟩
        obtain ⟨k1, k2, k3⟩ := h.fin hl2 er
        have hcap : l.length ≤ cap := by obtain ⟨A0, c0, e0, hc, _⟩ := h.list; cases e0; exact hc
        have hb := Lib.hid h.base
        replace k1 := Lib.hid k1
        replace k2 := Lib.hid k2
        replace k3 := Lib.hid k3
        clear h her
        gi_wp2_with (first | refine (⟨trivial, rfl, ?_⟩ : Fence.wide.fn _ ∧ Fence.wide.depth = none ∧ _) | (gi_at_call 11; (with_reducible refine k1.out.mono ?_); rintro e W2 ⟨bv, rfl, k4⟩; (replace k4 := Lib.hid k4)) | (gi_at_call 14; (with_reducible refine k4.out.mono ?_); rintro e W3 ⟨rfl, u3⟩; (have k5 := k2.out W3 u3); (replace k5 := Lib.hid k5)) | (gi_at_call 32; (with_reducible refine k5.out.mono ?_); rintro e W4 ⟨bv4, rfl, k6⟩; (replace k6 := Lib.hid k6)) | (gi_at_call 33; (with_reducible refine k6.out.mono ?_); rintro e W5 ⟨A5, cap5, rfl, k7⟩; (replace k7 := Lib.hid k7)) | (gi_at_call 14; (with_reducible refine k7.out.mono ?_); rintro e W6 ⟨rfl, u6⟩; (have k8 := k3.out W6 ⟨#[109]⟩ u6); (replace k8 := Lib.hid k8)) | (gi_at_call 34; (with_reducible refine k8.out.mono ?_); rintro e W7 ⟨bv7, bk7, rfl, k9⟩; (replace k9 := Lib.hid k9)) | (gi_at_call 35; (with_reducible refine k9.out.mono ?_); rintro e W8 ⟨rk, rfl, hrk, k10⟩; (replace k10 := Lib.hid k10)) | ((with_reducible refine sliceFromG (A := A) (m := l.length) (c := cap) (k := rk) Try.underlying27 infoE ?_ ?_ ?_ ?_ ?_ ?_); rfl; rfl; rfl; omega; omega; intro A1 c1 hc1 hA1 hB1; have k11 := Lib.hid (k10.out A1 c1 hA1); clear hA1 hB1) | (gi_at_call 14; (with_reducible refine k11.out.mono ?_); rintro e W9 ⟨rfl, u9⟩; (replace u9 := Lib.hid u9)) | refine (⟨trivial, ?_⟩ : Fence.wide.fn _ ∧ _))
        go_ret
        exact ⟨rfl, hb.out.trans' u9.out⟩
end Go.Proofs.Ytaenkjeaadmgeaa

/- RackOrders: keys put in any two orders are gone through alike. -/
import Derived.Test.YtaenkjeaadmgeaaProg
import Derived.Test.YtaenkjeaadmgeaaBase
import Derived.Test.YtaenkjeaadmgeaaRkCmp
import Derived.Test.YtaenkjeaadmgeaaRkKeys
import Derived.Test.YtaenkjeaadmgeaaRkG
import Derived.Test.YtaenkjeaadmgeaaRkPush
import Derived.Test.YtaenkjeaadmgeaaRkN
import Derived.Test.YtaenkjeaadmgeaaRkSIE
import Derived.Test.YtaenkjeaadmgeaaRkSIF
namespace Go.Proofs.Ytaenkjeaadmgeaa
open Go.RowKit Go.Shelf
attribute [local go_sem] Oper.semAt_some

/-- A key's length. -/
abbrev lenF (x : ByteArray) : Int := x.size

/-- Two racks side by side, of the call's own. -/
def TwoR (w : World) (p q : Nat) (la lb : List Ent) (W : World) : Prop :=
  ∃ ta tb, RackS p ta la W ∧ RackS q tb lb W ∧ (∀ j, (j = p ∨ ta.has j) → w.heap.size ≤ j ∧ ¬ (j = q ∨ tb.has j)) ∧ (∀ j, (j = q ∨ tb.has j) → w.heap.size ≤ j) ∧ Upd (fun _ => False) w W
theorem TwoR.upd {w : World} {p q : Nat} {la lb : List Ent} {W W2 : World} (h : TwoR w p q la lb W) (hu : Upd (fun _ => False) W W2) : TwoR w p q la lb W2 := by
  obtain ⟨ta, tb, h1, h2, h3, h4, h5⟩ := h
  exact ⟨ta, tb, h1.upd hu fun _ _ => id, h2.upd hu fun _ _ => id, h3, h4, h5.trans' hu⟩
theorem TwoR.putA {w : World} {p q : Nat} {la lb : List Ent} {W : World} (h : TwoR w p q la lb W) (x : ByteArray) (v : Int) (hl : la.length < 100000) :
    CallsIn Fence.wide 0 Try.prog 10 #[.pointer (some ⟨p, 0, none⟩), .string x, .int .i64 v] W fun e W2 => (∃ b, e = .returned (.bool b)) ∧ TwoR w p q (putL cmpS x v la) lb W2 := by
  obtain ⟨ta, tb, h1, h2, h3, h4, h5⟩ := h
  refine (rackPutSI (n := 0) cmpSI (k := x) (v := v) h1 hl).mono ?_
  rintro e W2 ⟨rfl, t', g1, g2, g3⟩
  have hz := h5.size
  refine ⟨⟨_, rfl⟩, t', tb, g1, h2.upd g3 fun j hj hh => (h3 j hh).2 hj, ?_, h4, h5.trans g3 fun j hj => .inr (h3 j hj).1⟩
  rintro j (rfl | hj)
  · exact h3 j (.inl rfl)
  · rcases g2 j hj with h | h
    · exact h3 j (.inr h)
    · exact ⟨by omega, fun hh => by have := h2.lt j hh; omega⟩
theorem TwoR.putB {w : World} {p q : Nat} {la lb : List Ent} {W : World} (h : TwoR w p q la lb W) (x : ByteArray) (v : Int) (hl : lb.length < 100000) :
    CallsIn Fence.wide 0 Try.prog 10 #[.pointer (some ⟨q, 0, none⟩), .string x, .int .i64 v] W fun e W2 => (∃ b, e = .returned (.bool b)) ∧ TwoR w p q la (putL cmpS x v lb) W2 := by
  obtain ⟨ta, tb, h1, h2, h3, h4, h5⟩ := h
  refine (rackPutSI (n := 0) cmpSI (k := x) (v := v) h2 hl).mono ?_
  rintro e W2 ⟨rfl, t', g1, g2, g3⟩
  have hz := h5.size
  refine ⟨⟨_, rfl⟩, ta, t', h1.upd g3 fun j hj => (h3 j hj).2, g1, fun j hj => ⟨(h3 j hj).1, ?_⟩, ?_, h5.trans g3 fun j hj => .inr (h4 j hj)⟩
  · rintro (hh | hh)
    · exact (h3 j hj).2 (.inl hh)
    · rcases g2 j hh with h | h
      · exact (h3 j hj).2 (.inr h)
      · have := h1.lt j hj; omega
  · rintro j (rfl | hj)
    · exact h4 j (.inl rfl)
    · rcases g2 j hj with h | h
      · exact h4 j (.inr h)
      · omega
/-- What All gives of the first one is gathered. -/
theorem TwoR.gath {w : World} {p q : Nat} {la lb : List Ent} {W0 : World} (h0 : TwoR w p q la lb W0) (hl : la.length ≤ 100000) :
    CallsIn Fence.wide 0 Try.prog 11 #[.pointer (some ⟨p, 0, none⟩)] (W0.alloc (.cells #[.slice none 0 0] 27)) fun e W2 => ∃ bv, e = .returned (.func (.func 44) #[] #[.pointer (some ⟨bv, 0, none⟩)]) ∧
      CallV Try.prog (.func (.func 44) #[] #[.pointer (some ⟨bv, 0, none⟩)]) #[.func (.func 12) #[] #[.pointer (some ⟨W0.heap.size, 0, none⟩)]] W2 fun _ W3 =>
        TwoR w p q la lb W3 ∧ ∃ A cap, Blk W3 W0.heap.size #[.slice A la.length cap] 27 ∧ Reads1 W3 A (flat la) ∧ Plain A := by
  obtain ⟨ta, tb, m1, m2, h3, h4, m5⟩ := h0
  have d1 : ¬ (W0.heap.size = p ∨ ta.has W0.heap.size) := fun h => by have := m1.lt _ h; omega
  have d2 : ¬ (W0.heap.size = q ∨ tb.has W0.heap.size) := fun h => by have := m2.lt _ h; omega
  have hge := m5.size
  have hb := Blk.new W0 #[.slice none 0 0] 27
  have h1 := m1.upd (Upd.alloc (fun _ => False) W0 (.cells #[.slice none 0 0] 27)) fun _ _ => id
  have h2 := m2.upd (Upd.alloc (fun _ => False) W0 (.cells #[.slice none 0 0] 27)) fun _ _ => id
  have h5 := m5.trans' (Upd.alloc (fun _ => False) W0 (.cells #[.slice none 0 0] 27))
  clear m1 m2 m5
  generalize hbl : W0.heap.size = bl at *
  clear hbl
  generalize W0.alloc (.cells #[.slice none 0 0] 27) = W at *
  have hz := h5.size
  refine rackAllSI.mono ?_
  rintro e W2 ⟨bv, rfl, g1, g2, g3⟩
  refine ⟨bv, rfl, ?_⟩
  have h1' := h1.upd g3 fun _ _ => id
  have h2' := h2.upd g3 fun _ _ => id
  have hb' := hb.upd g3 id
  have hbW := hb.lt
  refine (gathO (base := w.heap.size) (allSeqSI h1' g1) (Nat.le_refl _) (Agree.refl _ _) (Gath.new hb') (by have := g3.size; omega) ?_ hl).mono ?_
  · rintro k (rfl | hk)
    · rintro (e | e | e)
      · omega
      · exact d1 (.inl e)
      · exact d1 (.inr e)
    · simp [Value.ownBlock] at hk
  · rintro v W3 ⟨v', k1, k2, k3⟩
    obtain ⟨A, cap, rfl, r1, r2, r3⟩ := k1.shape
    have hM : ∀ j, (j = bl ∨ (Value.slice none 0 0).ownBlock = some j) → j = bl := by
      rintro j (h | h)
      · exact h
      · simp [Value.ownBlock] at h
    refine ⟨⟨ta, tb, h1'.upd k2 fun j hj hh => ?_, h2'.upd k2 fun j hj hh => ?_, h3, h4, (h5.trans' g3).trans k2 fun j hj => .inr (by rw [hM j hj]; exact hge)⟩, A, cap, k1.1, r1, r2⟩
    · rw [hM j hh] at hj; exact d1 hj
    · rw [hM j hh] at hj; exact d2 hj

/-- Behind all: both are asked how many, the second one is gone through. -/
theorem TwoR.fin {w : World} {p q : Nat} {L : List Ent} {W : World} {bl cap : Nat} {A : Option Addr} (h : TwoR w p q L L W) (hb : Blk W bl #[.slice A L.length cap] 27) (hr : Reads1 W A (flat L)) (hA : Plain A) (hl : L.length ≤ 100000) :
    (∀ V, Upd (fun _ => False) W V → CallsIn Fence.wide 0 Try.prog 13 #[.pointer (some ⟨p, 0, none⟩)] V fun e V' => e = .returned (.int .i64 L.length) ∧ V' = V) ∧
    (∀ V, Upd (fun _ => False) W V → CallsIn Fence.wide 0 Try.prog 13 #[.pointer (some ⟨q, 0, none⟩)] V fun e V' => e = .returned (.int .i64 L.length) ∧ V' = V) ∧
    (∀ V, Upd (fun _ => False) W V → CallsIn Fence.wide 0 Try.prog 11 #[.pointer (some ⟨q, 0, none⟩)] V fun e V2 => ∃ bv, e = .returned (.func (.func 44) #[] #[.pointer (some ⟨bv, 0, none⟩)]) ∧ V2.cell? ⟨bl, 0, none⟩ = some (.slice A L.length cap) ∧
      CallsIn Fence.wide 0 Try.prog 14 #[.func (.func 44) #[] #[.pointer (some ⟨bv, 0, none⟩)], .slice A L.length cap, .int .i64 ((L.length : Int) + 1)] V2 fun e V3 => e = .returned (.bool true) ∧ V3.cell? ⟨bl, 0, none⟩ = some (.slice A L.length cap) ∧ Upd (fun _ => False) w V3) := by
  obtain ⟨ta, tb, h1, h2, h3, h4, h5⟩ := h
  refine ⟨fun V hu => rackLenSI (h1.upd hu fun _ _ => id), fun V hu => rackLenSI (h2.upd hu fun _ _ => id), fun V hu => ?_⟩
  refine rackAllSI.mono ?_
  rintro e V2 ⟨bv, rfl, g1, g2, g3⟩
  have hu2 := hu.trans' g3
  refine ⟨bv, rfl, (hb.upd hu2 id).cell0, ?_⟩
  refine (goes_c (allSeqSI (h2.upd hu2 fun _ _ => id) g1) rfl (hr.agree' (hu2.agree fun k hk => ⟨hr.lt' k hk, id⟩)) hA hl).mono ?_
  rintro e V3 ⟨rfl, hu3⟩
  exact ⟨rfl, (hb.upd (hu2.trans' hu3) id).cell0, h5.trans' (hu2.trans' hu3)⟩

set_option maxRecDepth 100000 in
set_option maxHeartbeats 2000000 in
theorem rackOrders_law {n : Nat} {w : World} {A : Option Addr} {cap turn : Nat} {K : List ByteArray} (hr : Reads1 w A (K.map Value.string)) (ht : turn < 256) (hcap : K.length ≤ maxLen) :
    CallsIn Fence.wide n Try.prog 3 #[.slice A K.length cap, .int .u8 (turn : Nat)] w fun e w' => e = .returned (.bool true) ∧ Upd (fun _ => False) w w' := by
  unfold maxLen at hcap
  refine callsIn_any (n := 0) (callsIn_of_wp Try.func3 rfl trivial ?_)
  simp only [Try.ntmps3, List.size_toArray, List.length_cons, List.length_nil, Nat.reduceAdd, Nat.reduceSub, Array.replicate_succ, Array.replicate_zero, List.push_toArray, List.append_toArray, List.nil_append, List.cons_append]
  by_cases hlen : K.length ≤ 60
  · skip
    have hgt : ¬ (60 : Int) < K.length := by omega
    gi_wp2_with (first | refine (⟨trivial, rfl, ?_⟩ : Fence.wide.fn _ ∧ Fence.wide.depth = none ∧ _) | (gi_at_call 8; (fail_if_success (have hq := ra)); refine new05.mono ?_; rintro e W1 ⟨rfl, ra, ua⟩; (replace ra := Lib.hid ra); (replace ua := Lib.hid ua)) | (gi_at_call 8; refine new05.mono ?_; rintro e W2 ⟨rfl, rb, ub⟩; (replace rb := Lib.hid rb); (replace ub := Lib.hid ub)) | (gi_at_call 9; (fail_if_success (have hq := uw)); refine awake05.mono ?_; rintro e W3 ⟨rfl, uw⟩; (replace uw := Lib.hid uw)) | (gi_at_call 9; refine awake05.mono ?_; rintro e W4 ⟨rfl, uv⟩; (replace uv := Lib.hid uv)))
    have hp : w.heap.size < W1.heap.size := ra.out.blk.lt
    have h0 : TwoR w w.heap.size W1.heap.size [] [] W3 := by
      have hz := ua.out.size
      have ra2 := (ra.out.upd ub.out fun _ _ => id).upd uw.out fun _ _ => id
      have rb2 := rb.out.upd uw.out fun _ _ => id
      refine ⟨.nil, .nil, ra2, rb2, ?_, ?_, (ua.out.trans' ub.out).trans' uw.out⟩
      · rintro j (rfl | h)
        · exact ⟨Nat.le_refl _, fun h => h.elim (fun e => by omega) id⟩
        · exact h.elim
      · rintro j (rfl | h)
        · exact hz
        · exact h.elim
    clear ra rb ua ub uw
    generalize hq : W1.heap.size = q at *
    clear hq
    gi_loopw [30] (fun i wr => ∃ k : Nat, i = .int .i64 k ∧ k ≤ K.length ∧ TwoR w w.heap.size q (keysF lenF (K.take k) []) (keysF lenF (rotL K turn k) []) wr) (fun i _ => K.length - (intOf i).toNat)
    case atStart => exact ⟨0, rfl, Nat.zero_le _, by simpa [keysF, rotL] using h0⟩
    case round =>
      clear h0
      obtain ⟨k, rfl, hk, h2⟩ := hrel
      have hrw := fun W (h : TwoR w w.heap.size q (keysF lenF (K.take k) []) (keysF lenF (rotL K turn k) []) W) => hr.agree' (w' := W) (by obtain ⟨_, _, _, _, _, _, h5⟩ := h; exact h5.agree fun j hj => ⟨hr.lt' j hj, id⟩)
      by_cases hlt : k < K.length
      · skip
        obtain ⟨a, rfl, c1⟩ := hrw wr h2 k (.string K[k]) (by simp [hlt])
        have hmod : (k + turn) % K.length < K.length := Nat.mod_lt _ (by omega)
        by_cases hbig : (100 : Int) < K[k].size
        · obtain ⟨_, _, _, _, _, _, h5⟩ := h2
          replace h5 := Lib.hid h5
          clear hr hrw
          gi_wp2
          go_ret
          exact ⟨rfl, h5.out⟩
        · skip
          obtain ⟨m, hm⟩ : ∃ m, (k + turn) % K.length = m := ⟨_, rfl⟩
          rw [hm] at hmod
          obtain ⟨z, hz⟩ : ∃ z, K[m] = z := ⟨_, rfl⟩
          have e1 : keysF lenF (K.take (k + 1)) [] = putL cmpS K[k] (lenF K[k]) (keysF lenF (K.take k) []) := by rw [List.take_succ_eq_append_getElem hlt, keysF_snoc]
          have e2 : keysF lenF (rotL K turn (k + 1)) [] = putL cmpS z (lenF z) (keysF lenF (rotL K turn k) []) := by
            rw [rotL_succ, keysF_snoc, hm, List.getD_eq_getElem?_getD, List.getElem?_eq_getElem hmod, hz]
            rfl
          have l1 : (keysF lenF (K.take k) []).length < 100000 := by have := keysF_len lenF (K.take k) (l := []) List.Pairwise.nil; simp at this; omega
          have l2 : (keysF lenF (rotL K turn k) []).length < 100000 := by have := keysF_len lenF (rotL K turn k) (l := []) List.Pairwise.nil; rw [show (rotL K turn k).length = k by simp [rotL]] at this; simp only [List.length_nil, Nat.zero_add] at this; omega
          have ka := Lib.hid (h2.putA K[k] (lenF K[k]) l1)
          have kb : ∀ W, TwoR w w.heap.size q (putL cmpS K[k] (lenF K[k]) (keysF lenF (K.take k) [])) (keysF lenF (rotL K turn k) []) W → W.drew.cell? (a.add (m)) = some (.string z) ∧
              CallsIn Fence.wide 0 Try.prog 10 #[.pointer (some ⟨q, 0, none⟩), .string z, .int .i64 (lenF z)] W.drew fun e W2 => (∃ b, e = .returned (.bool b)) ∧ TwoR w w.heap.size q (keysF lenF (K.take (k + 1)) []) (keysF lenF (rotL K turn (k + 1)) []) W2 ∧ W2.cell? (a.add (m)) = some (.string z) := fun W h => by
            have hag : ∀ V, TwoR w w.heap.size q (putL cmpS K[k] (lenF K[k]) (keysF lenF (K.take k) [])) (keysF lenF (rotL K turn k) []) V ∨ TwoR w w.heap.size q (keysF lenF (K.take (k + 1)) []) (keysF lenF (rotL K turn (k + 1)) []) V → V.cell? (a.add (m)) = some (.string z) := fun V hV => by
              have hu : Upd (fun _ => False) w V := by rcases hV with ⟨_, _, _, _, _, _, h5⟩ | ⟨_, _, _, _, _, _, h5⟩ <;> exact h5
              obtain ⟨a2, ea, hc⟩ := hr.agree' (w' := V) (hu.agree fun j hj => ⟨hr.lt' j hj, id⟩) (m) (.string z) (by simp [hmod, hz])
              obtain rfl := Option.some.inj ea
              exact hc
            have hd := h.upd (Upd.drew _ W)
            refine ⟨hag _ (.inl hd), ?_⟩
            rw [e1, e2]
            refine (hd.putB _ _ l2).mono ?_
            rintro e W2 ⟨g1, g2⟩
            exact ⟨g1, g2, hag _ (.inr (by rw [e1, e2]; exact g2))⟩
          replace kb := Lib.hid kb
          clear hr hrw h2 e1 e2 l1 l2
          obtain ⟨y, hy⟩ : ∃ y, y = K[k] := ⟨_, rfl⟩
          rw [← hy] at c1 hbig ka
          simp only [← hy] at kb
          clear hy hz
          have hw1 : IntKind.i64.wrap ((k : Int) + (turn : Int)) = (k : Int) + (turn : Int) := Go.IntWalk.i64_in _ ⟨by omega, by omega⟩
          have hw2 : ((k : Int) + (turn : Int)).tmod (K.length : Int) = (m : Int) := by rw [← hm]; rw [show (k : Int) + (turn : Int) = ((k + turn : Nat) : Int) by omega, ← Int.ofNat_tmod]
          have hw3 : IntKind.i64.wrap (m : Int) = (m : Int) := Go.IntWalk.i64_in _ ⟨by omega, by omega⟩
          have hw4 : IntKind.i64.wrap (turn : Int) = (turn : Int) := Go.IntWalk.i64_in _ ⟨by omega, by omega⟩
          have hw5 : IntKind.i64.wrap ((k : Int) + 1) = (k : Int) + 1 := Go.IntWalk.i64_in _ ⟨by omega, by omega⟩
          have hn0 : ¬ K.length = 0 := by omega
          clear hm
          gi_wp2_with (first | refine (⟨trivial, rfl, ?_⟩ : Fence.wide.fn _ ∧ Fence.wide.depth = none ∧ _) | (gi_at_call 10; refine ka.out.mono ?_; rintro e W2 ⟨⟨bb, rfl⟩, f1⟩; obtain ⟨c2, kc⟩ := kb.out W2 f1; (replace kc := Lib.hid kc); clear f1))
          refine wpIn_eager [(0, true), (1, true), (2, true), (3, true), (4, true), (5, true), (6, true), (7, true), (8, true), (9, true), (10, true), (11, true), (12, true), (13, true), (14, true), (15, true), (16, true), (17, true), (18, true), (19, true), (20, true), (21, true), (22, false)] (fun V => V.cell? (a.add m) = some (.string z)) (by kernel_rfl) (by kernel_rfl) c2 ?_
          refine wpE_fl rfl rfl (fun _ _ => rfl) ?_
          go_simp
          refine wpE_fl rfl rfl (fun _ _ => rfl) ?_
          go_simp
          refine wpE_fl rfl rfl (fun _ _ => rfl) ?_
          go_simp
          refine wpE_fl rfl rfl (fun _ _ => rfl) ?_
          go_simp
          refine wpE_fl (v := .int .i64 turn) rfl rfl (fun W' h' => ?_) ?_
          · go_simp
          go_simp
          refine wpE_fl (v := .int .i64 ((k : Int) + turn)) rfl rfl (fun W' h' => ?_) ?_
          · go_simp
          go_simp
          refine wpE_fl rfl rfl (fun _ _ => rfl) ?_
          go_simp
          refine wpE_fl (v := .int .i64 K.length) rfl rfl (fun W' h' => ?_) ?_
          · go_simp
          go_simp
          refine wpE_fl (v := .int .i64 m) rfl rfl (fun W' h' => ?_) ?_
          · go_simp
          go_simp
          refine wpE_fl (v := .pointer (some (a.add m))) rfl rfl (fun W' h' => ?_) ?_
          · go_simp
          go_simp
          refine wpE_fl (v := .string z) rfl rfl (fun W' h' => ?_) ?_
          · obtain h1 := h'; go_simp
          go_simp
          refine wpE_fl rfl rfl (fun _ _ => rfl) ?_
          go_simp
          refine wpE_fl rfl rfl (fun _ _ => rfl) ?_
          go_simp
          refine wpE_fl rfl rfl (fun _ _ => rfl) ?_
          go_simp
          refine wpE_fl (v := .int .i64 turn) rfl rfl (fun W' h' => ?_) ?_
          · go_simp
          go_simp
          refine wpE_fl (v := .int .i64 ((k : Int) + turn)) rfl rfl (fun W' h' => ?_) ?_
          · go_simp
          go_simp
          refine wpE_fl rfl rfl (fun _ _ => rfl) ?_
          go_simp
          refine wpE_fl (v := .int .i64 K.length) rfl rfl (fun W' h' => ?_) ?_
          · go_simp
          go_simp
          refine wpE_fl (v := .int .i64 m) rfl rfl (fun W' h' => ?_) ?_
          · go_simp
          go_simp
          refine wpE_fl (v := .pointer (some (a.add m))) rfl rfl (fun W' h' => ?_) ?_
          · go_simp
          go_simp
          refine wpE_fl (v := .string z) rfl rfl (fun W' h' => ?_) ?_
          · obtain h1 := h'; go_simp
          go_simp
          refine wpE_fl (v := .int .i64 z.size) rfl rfl (fun W' h' => ?_) ?_
          · go_simp
          go_simp
          refine wpE_ef rfl ?_
          go_simp
          gi_wp2_with (first | refine (⟨trivial, rfl, ?_⟩ : Fence.wide.fn _ ∧ Fence.wide.depth = none ∧ _) | (gi_at_call 10; refine kc.out.mono ?_; rintro e W3 ⟨⟨b2, rfl⟩, f2, c3⟩; (replace f2 := Lib.hid f2)))
          refine ⟨c3, ?_⟩
          refine wpE_nil ?_
          gi_wp2
          exact ⟨⟨k + 1, by go_num, by omega, f2.out⟩, by simp [intOf]; omega⟩
      · have hk' : k = K.length := by omega
        subst hk'
        rw [List.take_length, ← keysF_same lenF (rotL_mem K turn)] at h2
        have hl := keysF_len lenF K (l := []) List.Pairwise.nil
        simp only [List.length_nil, Nat.zero_add] at hl
        clear hr hrw
        generalize hL : keysF lenF K [] = L at *
        clear hL
        have k1 := h2.gath (by omega)
        replace k1 := Lib.hid k1
        gi_wp2_with (first | refine (⟨trivial, rfl, ?_⟩ : Fence.wide.fn _ ∧ Fence.wide.depth = none ∧ _) | (gi_at_call 11; refine k1.out.mono ?_; rintro e W2 ⟨bv, rfl, kv⟩; (replace kv := Lib.hid kv)) | ((with_reducible refine listV1 kv.out ?_ ?_ ?_); rfl; rfl; rintro v W3 ⟨f3, Ap, capp, b3, r3, p3⟩; (replace f3 := Lib.hid f3); (replace b3 := Lib.hid b3); (replace r3 := Lib.hid r3); (replace p3 := Lib.hid p3)))
        obtain ⟨k2, k3, k4⟩ := f3.out.fin b3.out r3.out p3.out (by omega)
        replace k2 := Lib.hid (k2 _ (Upd.drew _ _))
        replace k3 := Lib.hid (k3 _ (Upd.drew _ _))
        replace k4 := Lib.hid (k4 _ (Upd.drew _ _))
        have c3 := b3.out.cell0
        have c3d : W3.drew.cell? ⟨wr.heap.size, 0, none⟩ = some (.slice Ap L.length capp) := c3
        clear f3 b3 r3 p3 kv k1 hlen h2
        refine wpIn_eager [(0, true), (2, true), (1, false), (3, false), (4, true), (5, true), (6, true), (7, true), (8, true), (9, false), (10, true), (11, true), (12, true), (13, true), (15, true), (16, true), (17, true), (18, true), (14, false), (19, false), (20, true), (21, true), (22, true), (23, true), (24, true), (25, true), (26, true), (27, false), (28, true), (29, true), (30, true), (31, true), (32, false), (33, true), (34, true), (35, true), (36, true)] (fun V => V.cell? ⟨wr.heap.size, 0, none⟩ = some (.slice Ap L.length capp)) (by kernel_rfl) (by kernel_rfl) c3d ?_
        repeat (first | (refine wpE_fl rfl rfl (fun _ _ => rfl) ?_; go_simp) | (refine wpE_sk rfl rfl ?_; go_simp) | (refine wpE_fl (v := ?_) rfl rfl ?_ ?_; rotate_left; (intro W' h'; (try dsimp only at h'); go_simp; exact rfl); go_simp) | (refine wpE_ef rfl ?_; go_simp; gi_wp2_with (first | refine (⟨trivial, rfl, ?_⟩ : Fence.wide.fn _ ∧ Fence.wide.depth = none ∧ _) | refine (⟨trivial, trivial, rfl, ?_⟩ : Fence.wide.fn _ ∧ Fence.wide.fn _ ∧ Fence.wide.depth = none ∧ _) | (gi_at_call 13; (with_reducible refine k2.out.mono ?_); rintro e V ⟨rfl, e2⟩; (subst e2)) | (gi_at_call 13; (with_reducible refine k3.out.mono ?_); rintro e V ⟨rfl, e2⟩; (subst e2)) | (gi_at_call 11; (with_reducible refine k4.out.mono ?_); rintro e V2 ⟨bv, rfl, c4, k5⟩; (replace k5 := Lib.hid k5)) | (gi_at_call 14; (with_reducible refine k5.out.mono ?_); rintro e V3 ⟨rfl, c5, u5⟩; (replace u5 := Lib.hid u5)) | refine (⟨trivial, ?_⟩ : Fence.wide.fn _ ∧ _)); refine ⟨by first | exact c5 | exact c4 | exact c3d, ?_⟩))
        refine wpE_nil ?_
        gi_wp2
        go_ret
        exact ⟨rfl, u5.out⟩
  · have hgt : (60 : Int) < K.length := by omega
    gi_wp2_with (first | refine (⟨trivial, rfl, ?_⟩ : Fence.wide.fn _ ∧ Fence.wide.depth = none ∧ _) | (gi_at_call 8; (fail_if_success (have hq := ra)); refine new05.mono ?_; rintro e W1 ⟨rfl, ra, ua⟩; (replace ra := Lib.hid ra); (replace ua := Lib.hid ua)) | (gi_at_call 8; refine new05.mono ?_; rintro e W2 ⟨rfl, rb, ub⟩; (replace rb := Lib.hid rb); (replace ub := Lib.hid ub)) | (gi_at_call 9; (fail_if_success (have hq := uw)); refine awake05.mono ?_; rintro e W3 ⟨rfl, uw⟩; (replace uw := Lib.hid uw)) | (gi_at_call 9; refine awake05.mono ?_; rintro e W4 ⟨rfl, uv⟩; (replace uv := Lib.hid uv)))
    go_ret
    exact ⟨rfl, ((ua.out.trans' ub.out).trans' uw.out).trans' uv.out⟩
end Go.Proofs.Ytaenkjeaadmgeaa

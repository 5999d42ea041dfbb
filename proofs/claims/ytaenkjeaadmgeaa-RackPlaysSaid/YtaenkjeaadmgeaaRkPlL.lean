/- RackPlaces: each place has its entry, and each entry its rank; the tree isn't too high. -/
import Derived.Test.YtaenkjeaadmgeaaProg
import Derived.Test.YtaenkjeaadmgeaaBase
import Derived.Test.YtaenkjeaadmgeaaRkAct
namespace Go.Proofs.Ytaenkjeaadmgeaa
open Go.RowKit Go.Shelf
attribute [local go_sem] Oper.semAt_some

theorem Pl.tall {w W : World} {p : Nat} {l : List Ent} {v : Value} {F : Nat → Prop} (h : Pl w p l l v F W) (hl : l.length ≤ 120) :
    ∃ (A : Option Addr) (cap m hh d : Nat) (b0 : Bool), v = .slice A m cap ∧ l.length = m ∧ m ≤ 120 ∧ hh ≤ 120 ∧ IntKind.i64.wrap ((m : Int) + 1) = (m : Int) + 1 ∧ IntKind.i64.wrap (2 * (hh : Int)) = 2 * (hh : Int) ∧ IntKind.i64.wrap (3 * (d : Int)) = 3 * (d : Int) ∧ IntKind.i64.wrap (3 * (d : Int) + 2) = 3 * (d : Int) + 2 ∧ ¬ (3 * (d : Int) + 2 < 2 * (hh : Int)) ∧
      (((hh : Int) == 0) = b0) ∧ (((m : Int) == 0) = b0) ∧ CallsIn Fence.wide 0 Try.prog 28 #[.pointer (some ⟨p, 0, none⟩)] W (fun e W2 => e = .returned (.int .i64 hh) ∧ W2 = W) ∧
      (∀ V, CallsIn Fence.wide 0 Try.prog 20 #[.int .i64 ((m : Int) + 1)] V fun e W2 => e = .returned (.int .i64 (d : Nat)) ∧ W2 = V) := by
  obtain ⟨A, cap, rfl, _⟩ := h.list
  obtain ⟨hh, h1, h2, h3, h4⟩ := h.rheight
  have hd := digN_le (l.length + 1)
  refine ⟨A, cap, l.length, hh, digN (l.length + 1), decide (l.length = 0), rfl, rfl, hl, by omega, Go.IntWalk.i64_in _ ⟨by omega, by omega⟩, Go.IntWalk.i64_in _ ⟨by omega, by omega⟩, Go.IntWalk.i64_in _ ⟨by omega, by omega⟩, Go.IntWalk.i64_in _ ⟨by omega, by omega⟩, by omega, ?_, ?_, h4, fun V => ?_⟩
  · rw [Bool.eq_iff_iff]; simp only [beq_iff_eq, decide_eq_true_eq]; omega
  · rw [Bool.eq_iff_iff]; simp only [beq_iff_eq, decide_eq_true_eq]; omega
  · have := digits_c (n := 0) (m := l.length + 1) (w := V) (by omega)
    push_cast at this
    exact this

theorem rank_own {α β : Type} {c : α → α → Int} (ho : Ordr c) {l : List (α × β)} (hr : Rise c l) {k : Nat} (hk : k < l.length) : rankL c l[k].1 l = k := by
  have h1 : ¬ k < rankL c l[k].1 l := by rw [rank_at ho hr k hk]; have := (ho.eq l[k].1 l[k].1).2 rfl; omega
  have h2 := rank_le (c := c) l[k].1 l
  rcases Nat.lt_or_ge (rankL c l[k].1 l) k with h | h
  · exfalso
    have h3 := rank_at ho hr (rankL c l[k].1 l) (by omega) (k := l[k].1)
    have h4 : c l[rankL c l[k].1 l].1 l[k].1 < 0 := List.pairwise_iff_getElem.1 hr _ _ (by omega) hk h
    have := h3.2 h4
    omega
  · omega

set_option maxRecDepth 100000 in
set_option maxHeartbeats 4000000 in
theorem rackPlaces_law {n : Nat} {w : World} {AA : Option Addr} {capA : Nat} {L : List ActR} {i : Int} (hra : Reads1 w AA (L.flatMap encA)) (hlm : L.length ≤ maxLen) (hi : -9223372036854775808 ≤ i ∧ i ≤ 9223372036854775807) :
    CallsIn Fence.wide n Try.prog 6 #[.slice AA L.length capA, .int .i64 i] w fun e w' => e = .returned (.bool true) ∧ Upd (fun _ => False) w w' := by
  refine callsIn_any (n := 0) (callsIn_of_wp Try.func6 rfl trivial ?_)
  simp only [Try.ntmps6, List.size_toArray, List.length_cons, List.length_nil, Nat.reduceAdd, Nat.reduceSub, Array.replicate_succ, Array.replicate_zero, List.push_toArray, List.append_toArray, List.nil_append, List.cons_append]
  have hrwa := Lib.hid fun W (h : Upd (fun _ => False) w W) => hra.agree' (w' := W) (h.agree fun j hj => ⟨hra.lt' j hj, id⟩)
  have hfew := Lib.hid fun W (h : Upd (fun _ => False) w W) => few_c (n := 0) (cap := capA) (hrwa.out W h) hlm
  clear hra
  cases hf : fewB L with
  | false =>
    rw [hf] at hfew
    clear hf
    gi_wp2_with (first | refine (⟨trivial, rfl, ?_⟩ : Fence.wide.fn _ ∧ Fence.wide.depth = none ∧ _) | (gi_at_call 8; refine new05.mono ?_; rintro e W1 ⟨rfl, ra, ua⟩; clear ra; have uz := Lib.hid ua; clear ua) | (gi_at_call 9; refine awake05.mono ?_; rintro e W4 ⟨rfl, uw⟩; (replace uz := Lib.hid (uz.out.trans' uw)); clear uw) | (gi_at_call 26; refine (hfew.out _ uz.out).mono ?_; rintro e W4 ⟨rfl, uw⟩; (replace uz := Lib.hid (uz.out.trans' uw)); clear uw) | refine (⟨trivial, ?_⟩ : Fence.wide.fn _ ∧ _))
    go_ret
    exact ⟨rfl, uz.out⟩
  | true =>
    rw [hf] at hfew
    simp only [fewB, Bool.and_eq_true, List.all_eq_true, decide_eq_true_eq] at hf
    obtain ⟨hsz, hl⟩ := hf
    replace hsz := Lib.hid hsz
    gi_wp2_with (first | refine (⟨trivial, rfl, ?_⟩ : Fence.wide.fn _ ∧ Fence.wide.depth = none ∧ _) | (gi_at_call 8; refine new05.mono ?_; rintro e W1 ⟨rfl, ra, ua⟩; have uz := Lib.hid ua; (replace ra := Lib.hid ra); clear ua) | (gi_at_call 9; refine awake05.mono ?_; rintro e W4 ⟨rfl, uw⟩; (replace uz := Lib.hid (uz.out.trans' uw)); (replace ra := Lib.hid (ra.out.upd uw fun _ _ => id)); clear uw) | (gi_at_call 26; refine (hfew.out _ uz.out).mono ?_; rintro e W5 ⟨rfl, uw⟩; (replace uz := Lib.hid (uz.out.trans' uw)); (replace ra := Lib.hid (ra.out.upd uw fun _ _ => id)); clear uw) | refine (⟨trivial, ?_⟩ : Fence.wide.fn _ ∧ _))
    have h0 := Pl.new ra.out uz.out (Nat.le_refl _)
    clear ra uz hfew
    gi_loopw [6, 32] (fun v6 u wr => ∃ (k : Nat) (l : List Ent) (F : Nat → Prop), u = .int .i64 k ∧ k ≤ L.length ∧ l.length ≤ k ∧ Pl w w.heap.size l l v6 F wr) (fun _ u _ => L.length - (intOf u).toNat)
    case atStart => exact ⟨0, [], _, rfl, Nat.zero_le _, Nat.le_refl _, h0⟩
    case round =>
      clear h0
      obtain ⟨k, l, F, rfl, hk, hlk, h⟩ := hrel
      by_cases hlt : k < L.length
      · obtain ⟨g, o, rfl, c1, c2, c3⟩ := acts_at (hrwa.out _ h.base) hlt
        have hxs : L[k].key.size ≤ 100 := hsz.out _ (List.getElem_mem hlt)
        have hw5 : IntKind.i64.wrap ((k : Int) + 1) = (k : Int) + 1 := Go.IntWalk.i64_in _ ⟨by omega, by omega⟩
        have hnF : ¬ F wr.heap.size := fun hF => by have := h.lt _ hF; omega
        generalize L[k] = x at *
        obtain ⟨kind, key, val⟩ := x
        simp only at c1 c2 c3 hxs
        have hA := h.upd (Upd.alloc (fun _ => False) wr (.cells #[.int .i64 kind, .string key, .int .i64 val] 51))
        have hB := Blk.new wr #[.int .i64 kind, .string key, .int .i64 val] 51
        have hlen1 := dropL_le (c := cmpS) key l
        have hlen2 := putL_le ordrS (k := key) val h.rise
        clear h
        by_cases hkd : kind = 2
        · subst hkd
          have k1 : CallsIn Fence.wide 0 Try.prog 24 #[.pointer (some ⟨w.heap.size, 0, none⟩), .string key] (wr.alloc (.cells #[.int .i64 2, .string key, .int .i64 val] 51)) fun e W2 => (∃ b, e = .returned (.bool b)) ∧ W2.cell? ⟨wr.heap.size, 1, none⟩ = some (.string key) ∧
              CallsIn Fence.wide 0 Try.prog 27 #[u6, .string key] W2 fun e W3 => ∃ v', e = .returned v' ∧ ∃ (l' : List Ent) (F' : Nat → Prop), l'.length ≤ k + 1 ∧ Pl w w.heap.size l' l' v' F' W3 := by
            refine (hA.rdrop key (by omega)).mono ?_
            rintro e W2 ⟨rfl, F2, g1, g2, g3⟩
            refine ⟨⟨_, rfl⟩, (hB.upd g3 hnF).cell 1, (g1.sdrop key (by omega)).mono ?_⟩
            rintro e W3 ⟨v', rfl, g4, _⟩
            exact ⟨v', rfl, dropL cmpS key l, F2, by omega, g4⟩
          replace k1 := Lib.hid k1
          clear hA hB hlen1 hlen2 hnF
          gi_wp2_with (first | refine (⟨trivial, rfl, ?_⟩ : Fence.wide.fn _ ∧ Fence.wide.depth = none ∧ _) | (gi_at_call 24; (with_reducible refine k1.out.mono ?_); rintro e W2 ⟨⟨b1, rfl⟩, c4, k2⟩; (replace k2 := Lib.hid k2)) | (gi_at_call 27; (with_reducible refine k2.out.mono ?_); rintro e W3 ⟨v', rfl, l', F', hl', g4⟩; (obtain ⟨A3, cap3, m3, hh, d, b0, rfl, hm3, hm4, hh4, q1, q2, q3, q4, q5, q6, q7, q8, q9⟩ := g4.tall (by omega)); (replace g4 := Lib.hid g4); (replace q8 := Lib.hid q8); (replace q9 := Lib.hid q9); (replace hm3 := Lib.hid hm3)) | (gi_at_call 28; (with_reducible refine q8.out.mono ?_); rintro e W4 ⟨rfl, rfl⟩) | (gi_at_call 20; (with_reducible refine (q9.out _).mono ?_); rintro e W4 ⟨rfl, rfl⟩) | refine (⟨trivial, ?_⟩ : Fence.wide.fn _ ∧ _))
          exact ⟨⟨k + 1, l', F', by go_num, by omega, by omega, g4.out⟩, by simp [intOf]; omega⟩
        · have hkd2 : (kind == 2) = false := by simpa using hkd
          have k1 : CallsIn Fence.wide 0 Try.prog 10 #[.pointer (some ⟨w.heap.size, 0, none⟩), .string key, .int .i64 val] (wr.alloc (.cells #[.int .i64 kind, .string key, .int .i64 val] 51)) fun e W2 => (∃ b, e = .returned (.bool b)) ∧ W2.cell? ⟨wr.heap.size, 1, none⟩ = some (.string key) ∧ W2.cell? ⟨wr.heap.size, 2, none⟩ = some (.int .i64 val) ∧
              CallsIn Fence.wide 0 Try.prog 22 #[u6, .string key, .int .i64 val] W2 fun e W3 => ∃ v', e = .returned v' ∧ ∃ (l' : List Ent) (F' : Nat → Prop), l'.length ≤ k + 1 ∧ Pl w w.heap.size l' l' v' F' W3 := by
            refine (hA.rput key val (by omega)).mono ?_
            rintro e W2 ⟨rfl, F2, g1, g2, g3⟩
            refine ⟨⟨_, rfl⟩, (hB.upd g3 hnF).cell 1, (hB.upd g3 hnF).cell 2, (g1.sput key val (by omega) hxs).mono ?_⟩
            rintro e W3 ⟨v', rfl, g4, _⟩
            exact ⟨v', rfl, putL cmpS key val l, F2, by omega, g4⟩
          replace k1 := Lib.hid k1
          clear hA hB hlen1 hlen2 hnF hkd
          gi_wp2_with (first | refine (⟨trivial, rfl, ?_⟩ : Fence.wide.fn _ ∧ Fence.wide.depth = none ∧ _) | (gi_at_call 10; (with_reducible refine k1.out.mono ?_); rintro e W2 ⟨⟨b1, rfl⟩, c4, c5, k2⟩; (replace k2 := Lib.hid k2)) | (gi_at_call 22; (with_reducible refine k2.out.mono ?_); rintro e W3 ⟨v', rfl, l', F', hl', g4⟩; (obtain ⟨A3, cap3, m3, hh, d, b0, rfl, hm3, hm4, hh4, q1, q2, q3, q4, q5, q6, q7, q8, q9⟩ := g4.tall (by omega)); (replace g4 := Lib.hid g4); (replace q8 := Lib.hid q8); (replace q9 := Lib.hid q9); (replace hm3 := Lib.hid hm3)) | (gi_at_call 28; (with_reducible refine q8.out.mono ?_); rintro e W4 ⟨rfl, rfl⟩) | (gi_at_call 20; (with_reducible refine (q9.out _).mono ?_); rintro e W4 ⟨rfl, rfl⟩) | refine (⟨trivial, ?_⟩ : Fence.wide.fn _ ∧ _))
          exact ⟨⟨k + 1, l', F', by go_num, by omega, by omega, g4.out⟩, by simp [intOf]; omega⟩
      · have hge : ¬ (k : Int) < L.length := by omega
        have hl2 : l.length ≤ 120 := by omega
        clear hk hlt hlk
        obtain ⟨A, cap, rfl, _⟩ := h.list
        gi_wp2
        gi_loopw [81] (fun u wr => ∃ q : Nat, u = .int .i64 q ∧ q ≤ l.length ∧ Pl w w.heap.size l l (.slice A l.length cap) F wr) (fun u _ => l.length - (intOf u).toNat)
        case atStart => exact ⟨0, rfl, Nat.zero_le _, h⟩
        case round =>
          rename_i wr0 _ _ _ _ _ _ _ _
          clear h
          obtain ⟨q, rfl, hq, h⟩ := hrel
          by_cases hlt : q < l.length
          · obtain ⟨A', cap', e, _, hr, _⟩ := h.list
            cases e
            obtain ⟨g, o, rfl, hc⟩ := reads_at hr (by rw [flat_len]; omega)
            obtain ⟨f1, f2⟩ := flat_get l q hlt
            have c1 : wr.cell? ⟨g, o + q * 2, none⟩ = some (.string l[q].1) := hc _ _ f1
            have c2 : wr.cell? ⟨g, o + q * 2 + 1, none⟩ = some (.int .i64 l[q].2) := hc _ _ f2
            have hrk := rank_own ordrS h.rise hlt
            have hat : atL l (q : Int) = some l[q] := by simp [atL, hlt]
            have hw5 : IntKind.i64.wrap ((q : Int) + 1) = (q : Int) + 1 := Go.IntWalk.i64_in _ ⟨by omega, by omega⟩
            have hA := h.upd (Upd.alloc (fun _ => False) wr (.cells #[.string l[q].1, .int .i64 l[q].2] 32))
            have hB := Blk.new wr #[.string l[q].1, .int .i64 l[q].2] 32
            have k1 := hA.rat (q : Int) (by omega) (by omega)
            rw [hat] at k1
            simp only [Option.map_some, Option.getD_some, Option.isSome_some] at k1
            have k2 : ∀ W, Upd (fun _ => False) (wr.alloc (.cells #[.string l[q].1, .int .i64 l[q].2] 32)) W → W.cell? ⟨wr.heap.size, 0, none⟩ = some (.string l[q].1) ∧ W.cell? ⟨wr.heap.size, 1, none⟩ = some (.int .i64 l[q].2) ∧
                CallsIn Fence.wide 0 Try.prog 30 #[.pointer (some ⟨w.heap.size, 0, none⟩), .string l[q].1] W fun e W2 => e = .returned (.int .i64 q) ∧ Pl w w.heap.size l l (.slice (some ⟨g, o, none⟩) l.length cap) F W2 := fun W hu => by
              refine ⟨(hB.upd hu id).cell 0, (hB.upd hu id).cell 1, ((hA.upd hu).rrank l[q].1 (by omega)).mono ?_⟩
              rintro e W2 ⟨rfl, hu2⟩
              exact ⟨by rw [hrk], (hA.upd hu).upd hu2⟩
            replace k1 := Lib.hid k1
            replace k2 := Lib.hid k2
            clear hr hc f1 f2 hrk hat hA hB h
            generalize l[q] = y at *
            obtain ⟨y1, y2⟩ := y
            simp only at c1 c2
            gi_wp2_with (first | refine (⟨trivial, rfl, ?_⟩ : Fence.wide.fn _ ∧ Fence.wide.depth = none ∧ _) | (gi_at_call 29; (with_reducible refine k1.out.mono ?_); rintro e W2 ⟨rfl, hu2⟩; (obtain ⟨c4, c5, k3⟩ := k2.out W2 hu2); (replace k3 := Lib.hid k3); (clear hu2)) | (gi_at_call 30; (with_reducible refine k3.out.mono ?_); rintro e W3 ⟨rfl, h3⟩; (replace h3 := Lib.hid h3)) | refine (⟨trivial, ?_⟩ : Fence.wide.fn _ ∧ _))
            exact ⟨⟨q + 1, by go_num, by omega, h3.out⟩, by simp [intOf]; omega⟩
          · have k1 := h.rat i (by omega) hi.2
            have hb := h.base
            by_cases hin : 0 ≤ i ∧ i < l.length
            · obtain ⟨hi0, hi1⟩ := hin
              have hat : atL l i = some (l[i.toNat]'(by omega)) := by simp [atL, hi0]
              rw [hat] at k1
              simp only [Option.map_some, Option.getD_some, Option.isSome_some] at k1
              replace k1 := Lib.hid k1
              replace hb := Lib.hid hb
              clear h hat
              gi_wp2_with (first | refine (⟨trivial, rfl, ?_⟩ : Fence.wide.fn _ ∧ Fence.wide.depth = none ∧ _) | (gi_at_call 29; (with_reducible refine k1.out.mono ?_); rintro e W2 ⟨rfl, hu2⟩; (replace hu2 := Lib.hid hu2)) | refine (⟨trivial, ?_⟩ : Fence.wide.fn _ ∧ _))
              go_ret
              exact ⟨rfl, hb.out.trans' hu2.out⟩
            · have hat : atL l i = none := by
                unfold atL
                split
                · exact List.getElem?_eq_none (by omega)
                · rfl
              rw [hat] at k1
              simp only [Option.map_none, Option.getD_none, Option.isSome_none] at k1
              replace k1 := Lib.hid k1
              replace hb := Lib.hid hb
              clear h hat
              by_cases hi0 : 0 ≤ i
              · have hi1 : ¬ i < l.length := fun e => hin ⟨hi0, e⟩
                have hd : decide (i < (l.length : Int)) = false := by simpa using hi1
                clear hin
                gi_wp2_with (first | refine (⟨trivial, rfl, ?_⟩ : Fence.wide.fn _ ∧ Fence.wide.depth = none ∧ _) | (gi_at_call 29; (with_reducible refine k1.out.mono ?_); rintro e W2 ⟨rfl, hu2⟩; (replace hu2 := Lib.hid hu2)) | refine (⟨trivial, ?_⟩ : Fence.wide.fn _ ∧ _))
                go_ret
                exact ⟨rfl, hb.out.trans' hu2.out⟩
              · have hd : decide (0 ≤ i) = false := by simpa using hi0
                clear hin
                gi_wp2_with (first | refine (⟨trivial, rfl, ?_⟩ : Fence.wide.fn _ ∧ Fence.wide.depth = none ∧ _) | (gi_at_call 29; (with_reducible refine k1.out.mono ?_); rintro e W2 ⟨rfl, hu2⟩; (replace hu2 := Lib.hid hu2)) | refine (⟨trivial, ?_⟩ : Fence.wide.fn _ ∧ _))
                go_ret
                exact ⟨rfl, hb.out.trans' hu2.out⟩
end Go.Proofs.Ytaenkjeaadmgeaa

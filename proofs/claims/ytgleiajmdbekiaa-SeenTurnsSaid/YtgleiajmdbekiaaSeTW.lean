/- SeenTurns: the walk. -/
import Derived.Test.YtgleiajmdbekiaaProg
import Derived.Test.YtgleiajmdbekiaaBase
import Derived.Test.YtgleiajmdbekiaaSeT
namespace Go.Proofs.Ytgleiajmdbekiaa
open Go.RowKit Go.Shelf
attribute [local go_sem] Oper.semAt_some

set_option maxRecDepth 100000 in
set_option maxHeartbeats 8000000 in
theorem seenTurns_law {n : Nat} {w : World} {AA : Option Addr} {capA : Nat} {acts : Noted} {turn : Nat} (hra : Reads1 w AA (acts.flatMap encQ)) (hsz : ∀ a ∈ acts, a.1.size ≤ maxLen) (ht : turn < 256) :
    CallsIn Fence.wide n Try.prog 5 #[.slice AA acts.length capA, .int .u8 turn] w fun e w' => e = .returned (.bool true) ∧ Upd (fun _ => False) w w' := by
  have hrwa := Lib.hid fun W (h : Upd (fun _ => False) w W) => hra.agree' (w' := W) (h.agree fun j hj => ⟨hra.lt' j hj, id⟩)
  clear hra
  have k1 := (newA_c (n := 0) (W := w)).mono (R' := fun e W1 => ∃ ma, e = .returned (.pointer (some ⟨ma, 0, none⟩)) ∧ CallsIn Fence.wide 0 Try.prog 7 #[] W1 fun e W2 => ∃ mb, e = .returned (.pointer (some ⟨mb, 0, none⟩)) ∧
      CallsIn Fence.wide 0 Try.prog 8 #[] W2 (fun e W3 => e = .returned (.bool true) ∧ (∃ F G, TurnI ma mb [] [] (.slice none 0 0) [] F G w W3) ∧
        CallsIn Fence.wide 0 Try.prog 8 #[] W3 (fun e W4 => e = .returned (.bool true) ∧ Upd (fun _ => False) w W4))) (by
    rintro e W1 ⟨ma, F, rfl, g1, g2, g3⟩
    refine ⟨ma, rfl, (newA_c (n := 0) (W := W1)).mono ?_⟩
    rintro e W2 ⟨mb, G, rfl, f1, f2, f3⟩
    refine ⟨mb, rfl, (awake_c (n := 0)).mono ?_⟩
    rintro e W3 ⟨rfl, u3⟩
    have z1 := g3.size
    refine ⟨rfl, ⟨F, G, g1.upd (f3.trans' u3) fun _ _ => id, RepS.nil, f1.upd u3 fun _ _ => id, World.ownsRow_nil _ _ _ 2, fun j hj hG => by have := g1.lt j hj; have := f2 j hG; omega, fun j hj => by simp [Value.ownBlock] at hj, g2, fun j hj => by have := f2 j hj; omega, (g3.trans' f3).trans' u3⟩, (awake_c (n := 0)).mono ?_⟩
    rintro e W4 ⟨rfl, u4⟩
    exact ⟨rfl, ((g3.trans' f3).trans' u3).trans' u4⟩)
  replace k1 := Lib.hid k1
  refine callsIn_any (n := 0) (callsIn_of_wp Try.func5 rfl trivial ?_)
  simp only [Try.ntmps5, List.size_toArray, List.length_cons, List.length_nil, Nat.reduceAdd, Nat.reduceSub, Array.replicate_succ, Array.replicate_zero, List.push_toArray, List.append_toArray, List.nil_append, List.cons_append]
  by_cases hl : acts.length ≤ 32
  · skip
    gi_wp2_with (first | refine (⟨trivial, rfl, ?_⟩ : Fence.wide.fn _ ∧ Fence.wide.depth = none ∧ _) | (gi_at_call 7; (with_reducible refine k1.out.mono ?_); rintro e W1 ⟨ma, rfl, k2⟩; (replace k2 := Lib.hid k2)) | (gi_at_call 7; (with_reducible refine k2.out.mono ?_); rintro e W2 ⟨mb, rfl, k3⟩; (replace k3 := Lib.hid k3)) | (gi_at_call 8; (with_reducible refine k3.out.mono ?_); rintro e W3 ⟨rfl, h0, _⟩; (replace h0 := Lib.hid h0)) | refine (⟨trivial, ?_⟩ : Fence.wide.fn _ ∧ _))
    clear k1 k2 k3
    gi_loopw [32, 7] (fun u v wr => ∃ (k : Nat) (own : Noted) (ls : Srcs) (F G : Nat → Prop), u = .int .i64 k ∧ k ≤ acts.length ∧ own.length ≤ k ∧ TurnI ma mb own own v ls F G w wr) (fun u _ _ => acts.length - (intOf u).toNat)
    case atStart =>
      obtain ⟨F, G, h⟩ := h0.out
      exact ⟨0, [], [], F, G, rfl, Nat.zero_le _, Nat.le_refl _, h⟩
    case round =>
      clear h0
      obtain ⟨k, own, ls, F, G, rfl, hk, hok, hI⟩ := hrel
      by_cases hlt : k < acts.length
      · have hsz' := hsz acts[k] (List.getElem_mem _)
        obtain ⟨g, o, rfl, c1, c2⟩ := acts14_at (hrwa.out _ hI.base) hlt
        have hw5 : IntKind.i64.wrap ((k : Int) + 1) = (k : Int) + 1 := Go.IntWalk.i64_in _ ⟨by omega, by omega⟩
        obtain ⟨a, ha⟩ : ∃ a, acts[k] = a := ⟨_, rfl⟩
        rw [ha] at c1 c2 hsz'
        clear ha
        obtain ⟨src, q⟩ := a
        simp only at c1 c2 hsz'
        have uA := Upd.alloc (fun _ => False) wr (.cells #[.string src, .int .i64 q] 27)
        have bA := Blk.new wr #[.string src, .int .i64 q] 27
        have f0 : (wr.alloc (.cells #[.string src, .int .i64 q] 27)).cell? ⟨wr.heap.size, 0, none⟩ = some (.string src) := bA.cell 0
        have kS := Lib.hid (turn_note (hI.upd uA) bA (fun h => by have := hI.a.lt _ h; omega) hsz' (by omega))
        obtain ⟨A3, cap3, rfl⟩ := own_shape hI.row
        have hcc := canS_vals src q ls
        have hzw := hI.base.size
        clear hI uA bA hsz'
        by_cases hq1 : 1 ≤ q
        · by_cases hq2 : q ≤ 1099511627776
          · rcases hcc with hcc | hcc
            · rw [hcc] at kS
              gi_wp2_with (first | refine (⟨trivial, rfl, ?_⟩ : Fence.wide.fn _ ∧ Fence.wide.depth = none ∧ _) | (gi_at_call 9; (with_reducible refine kS.out.mono ?_); rintro e W2 ⟨⟨b, rfl⟩, ⟨x0, x1⟩, hS, kk⟩; (replace kk := Lib.hid (kk hq1)); (replace hS := Lib.hid hS); (cases b)) | (gi_at_call 10; (with_reducible refine kk.out.mono ?_); rintro e W3 ⟨rfl, ⟨y0, y1⟩, kg, kb⟩; (clear kb); (obtain ⟨ls', F', hJ⟩ := kg (by first | rfl | trivial)); (clear kg); (have hrow := hJ.row); (have hzJ := hJ.base.size); (replace hJ := Lib.hid hJ)) | ((with_reducible refine app2 Try.underlying22 infoQ zQ (by omega) hrow ?_ ?_ ?_ ?_ ?_ ?_ ?_); omega; omega; rfl; rfl; rfl; rfl; intro g' cap' w' h1 h2 h3 h4; have hK := Lib.hid (hJ.out.push (x := (src, q)) h1 h2 h3); clear h1 h2 h3 h4) | refine (⟨trivial, ?_⟩ : Fence.wide.fn _ ∧ _))
              all_goals
                first
                  | exact ⟨⟨k + 1, own ++ [(src, q)], ls', F', G, by go_num, by omega, by (simp; omega), by simpa using hK.out⟩, by simp [intOf]; omega⟩
                  | exact ⟨⟨k + 1, own, ls, F, G, by go_num, by omega, by omega, hS.out⟩, by simp [intOf]; omega⟩
            · have hne : canS src q ls ≠ 0 := by omega
              have hnb : (canS src q ls == 0) = false := by simpa using hne
              obtain ⟨cs, hcs⟩ : ∃ cs, canS src q ls = cs := ⟨_, rfl⟩
              rw [hcs] at kS hne hnb
              clear hcs hcc
              gi_wp2_with (first | refine (⟨trivial, rfl, ?_⟩ : Fence.wide.fn _ ∧ Fence.wide.depth = none ∧ _) | (gi_at_call 9; (with_reducible refine kS.out.mono ?_); rintro e W2 ⟨⟨b, rfl⟩, ⟨x0, x1⟩, hS, kk⟩; (replace kk := Lib.hid (kk hq1)); (replace hS := Lib.hid hS); (cases b)) | (gi_at_call 10; (with_reducible refine kk.out.mono ?_); rintro e W3 ⟨rfl, ⟨y0, y1⟩, kg, kb⟩; (clear kg); (obtain ⟨F', hJ⟩ := kb hne); (clear kb); (replace hJ := Lib.hid hJ)) | refine (⟨trivial, ?_⟩ : Fence.wide.fn _ ∧ _))
              all_goals
                first
                  | exact ⟨⟨k + 1, own, ls, F', G, by go_num, by omega, by omega, hJ.out⟩, by simp [intOf]; omega⟩
                  | exact ⟨⟨k + 1, own, ls, F, G, by go_num, by omega, by omega, hS.out⟩, by simp [intOf]; omega⟩
          · clear hcc
            gi_wp2_with (first | refine (⟨trivial, rfl, ?_⟩ : Fence.wide.fn _ ∧ Fence.wide.depth = none ∧ _) | (gi_at_call 9; (with_reducible refine kS.out.mono ?_); rintro e W2 ⟨⟨b, rfl⟩, ⟨x0, x1⟩, hS, kk⟩; (clear kk); (replace hS := Lib.hid hS); (cases b)) | refine (⟨trivial, ?_⟩ : Fence.wide.fn _ ∧ _))
            all_goals exact ⟨⟨k + 1, own, ls, F, G, by go_num, by omega, by omega, hS.out⟩, by simp [intOf]; omega⟩
        · clear hcc
          gi_wp2_with (first | refine (⟨trivial, rfl, ?_⟩ : Fence.wide.fn _ ∧ Fence.wide.depth = none ∧ _) | (gi_at_call 9; (with_reducible refine kS.out.mono ?_); rintro e W2 ⟨⟨b, rfl⟩, ⟨x0, x1⟩, hS, kk⟩; (clear kk); (replace hS := Lib.hid hS); (cases b)) | refine (⟨trivial, ?_⟩ : Fence.wide.fn _ ∧ _))
          all_goals exact ⟨⟨k + 1, own, ls, F, G, by go_num, by omega, by omega, hS.out⟩, by simp [intOf]; omega⟩
      · obtain rfl : k = acts.length := by omega
        obtain ⟨A3, cap3, rfl⟩ := own_shape hI.row
        have hK0 := Lib.hid (hI.toK (t := turn))
        have hwt : IntKind.i64.wrap (turn : Int) = turn := Go.IntWalk.i64_in _ ⟨by omega, by omega⟩
        have hzw := hI.base.size
        clear hI
        gi_wp2
        gi_loopw [65] (fun u wr => ∃ i : Nat, u = .int .i64 i ∧ i ≤ own.length ∧ TurnK ma mb own turn i A3 ls w wr) (fun u _ => own.length - (intOf u).toNat)
        case atStart => exact ⟨0, rfl, Nat.zero_le _, hK0.out⟩
        case round =>
          clear hK0
          obtain ⟨i, rfl, hi, hK⟩ := hrel
          by_cases hli : i < own.length
          · obtain ⟨ix, hix⟩ : ∃ ix, idxT own.length turn i = ix := ⟨_, rfl⟩
            obtain ⟨lm, hlm⟩ : ∃ lm, own.length - 1 = lm := ⟨_, rfl⟩
            obtain ⟨s1, hs1⟩ : ∃ s1, i + turn = s1 := ⟨_, rfl⟩
            obtain ⟨m1, hm1⟩ : ∃ m1, s1 % own.length = m1 := ⟨_, rfl⟩
            have hm2 : m1 < own.length := hm1 ▸ Nat.mod_lt _ (by omega)
            have hxe : lm - m1 = ix := by rw [← hix, idxT, hs1, hm1, hlm]
            have hxl : ix < own.length := by omega
            have q1 : IntKind.i64.wrap ((own.length : Int) - 1) = (lm : Int) := by rw [Go.IntWalk.i64_in _ ⟨by omega, by omega⟩]; omega
            have q2 : IntKind.i64.wrap ((i : Int) + turn) = (s1 : Int) := by rw [Go.IntWalk.i64_in _ ⟨by omega, by omega⟩]; omega
            have q3 : (s1 : Int) % (own.length : Int) = (m1 : Int) := by rw [← hm1]; exact (Int.natCast_emod _ _).symm
            have q4 : (s1 : Int).tmod (own.length : Int) = (m1 : Int) := by rw [Int.tmod_eq_emod_of_nonneg (by omega)]; exact q3
            have q5 : IntKind.i64.wrap (m1 : Int) = (m1 : Int) := Go.IntWalk.i64_in _ ⟨by omega, by omega⟩
            have q6 : IntKind.i64.wrap ((lm : Int) - m1) = (ix : Int) := by rw [Go.IntWalk.i64_in _ ⟨by omega, by omega⟩]; omega
            have q7 : ((own.length : Int) == 0) = false := beq_eq_false_iff_ne.2 (by omega)
            have q8 : ¬ (own.length : Int) = 0 := by omega
            have hw5 : IntKind.i64.wrap ((i : Int) + 1) = (i : Int) + 1 := Go.IntWalk.i64_in _ ⟨by omega, by omega⟩
            obtain ⟨g, o, rfl, c1, c2⟩ := acts14_at hK.reads hxl
            have hgx : own[idxT own.length turn i]? = some own[ix] := by rw [hix]; exact List.getElem?_eq_getElem hxl
            obtain ⟨a, ha⟩ : ∃ a, own[ix] = a := ⟨_, rfl⟩
            rw [ha] at c1 c2 hgx
            clear ha hix hlm hs1 hm1 hxe
            have kS := Lib.hid (turn_note2 (hK.upd (Upd.alloc (fun _ => False) wr (.cells #[.string a.1, .int .i64 a.2] 27))) hli hgx)
            obtain ⟨src, q⟩ := a
            simp only at c1 c2 kS
            have hzw2 := hK.base.size
            clear hK hgx
            gi_wp2_with (first | refine (⟨trivial, rfl, ?_⟩ : Fence.wide.fn _ ∧ Fence.wide.depth = none ∧ _) | (gi_at_call 10; (with_reducible refine kS.out.mono ?_); rintro e W2 ⟨rfl, fin⟩; (replace fin := Lib.hid fin)) | refine (⟨trivial, ?_⟩ : Fence.wide.fn _ ∧ _))
            exact ⟨⟨i + 1, by go_num, by omega, fin.out⟩, by simp [intOf]; omega⟩
          · obtain rfl : i = own.length := by omega
            have k3 := Lib.hid (turn_end hK)
            clear hK
            gi_wp2_with (first | refine (⟨trivial, rfl, ?_⟩ : Fence.wide.fn _ ∧ Fence.wide.depth = none ∧ _) | (gi_at_call 14; (with_reducible refine k3.out.mono ?_); rintro e W4 ⟨s4, rfl, k4⟩; (replace k4 := Lib.hid k4)) | (gi_at_call 13; (with_reducible refine k4.out.mono ?_); rintro e W5 ⟨s5, rfl, k5⟩; (replace k5 := Lib.hid k5)) | (gi_at_call 14; (with_reducible refine k5.out.mono ?_); rintro e W6 ⟨s6, rfl, k6⟩; (replace k6 := Lib.hid k6)) | (gi_at_call 13; (with_reducible refine k6.out.mono ?_); rintro e W7 ⟨s7, rfl, k7⟩; (replace k7 := Lib.hid k7)) | (gi_at_call 12; (with_reducible refine k7.out.mono ?_); rintro e W8 ⟨rfl, u8⟩; (replace u8 := Lib.hid u8)) | refine (⟨trivial, ?_⟩ : Fence.wide.fn _ ∧ _))
            go_ret
            exact ⟨rfl, u8.out⟩
  · have hl' : 32 < acts.length := by omega
    gi_wp2_with (first | refine (⟨trivial, rfl, ?_⟩ : Fence.wide.fn _ ∧ Fence.wide.depth = none ∧ _) | (gi_at_call 7; (with_reducible refine k1.out.mono ?_); rintro e W1 ⟨ma, rfl, k2⟩; (replace k2 := Lib.hid k2)) | (gi_at_call 7; (with_reducible refine k2.out.mono ?_); rintro e W2 ⟨mb, rfl, k3⟩; (replace k3 := Lib.hid k3)) | (gi_at_call 8; (with_reducible refine k3.out.mono ?_); rintro e W3 ⟨rfl, _, k4⟩; (replace k4 := Lib.hid k4)) | (gi_at_call 8; (with_reducible refine k4.out.mono ?_); rintro e W4 ⟨rfl, u4⟩; (replace u4 := Lib.hid u4)) | refine (⟨trivial, ?_⟩ : Fence.wide.fn _ ∧ _))
    go_ret
    exact ⟨rfl, u4.out⟩
end Go.Proofs.Ytgleiajmdbekiaa

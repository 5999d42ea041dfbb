/- SiloAlone: the walk of the law. -/
import Derived.Test.YtadeechoknpjhaaProg
import Derived.Test.YtadeechoknpjhaaBase
import Derived.Test.YtadeechoknpjhaaLoops
import Derived.Test.YtadeechoknpjhaaSlAa
import Derived.Test.YtadeechoknpjhaaSlAb
import Derived.Test.YtadeechoknpjhaaSlW
set_option linter.unusedSimpArgs false
set_option linter.unusedVariables false
namespace Go.Proofs.Ytadeechoknpjhaa
open Go.RowKit Go.Shelf
attribute [local go_sem] Oper.semAt_some

/-- A whole number's rest by 60, as the machine takes it. -/
theorem mod60 (n : Int) : ∃ m : Int, 0 ≤ m ∧ m < 60 ∧ (IntKind.u64.wrap n).tmod 60 = m ∧ (IntKind.u64.wrap n) % 60 = m ∧ IntKind.u64.wrap m = m ∧ IntKind.i64.wrap m = m := by
  have h0 : 0 ≤ IntKind.u64.wrap n := by simp [IntKind.wrap, IntKind.bits, IntKind.signed]; omega
  refine ⟨(IntKind.u64.wrap n) % 60, by omega, by omega, by rw [Int.tmod_eq_emod_of_nonneg h0], rfl, ?_, Go.IntWalk.i64_in _ ⟨by omega, by omega⟩⟩
  have h1 : 0 ≤ (IntKind.u64.wrap n) % 60 := by omega
  have h2 : (IntKind.u64.wrap n) % 60 < 60 := by omega
  generalize (IntKind.u64.wrap n) % 60 = m at *
  simp [IntKind.wrap, IntKind.bits, IntKind.signed]; omega
theorem fieldS1 (x y : Value) (w : World) : (Instr.field 33 (.agg #[x, y]) 1).run Try.prog w = .ok y w := by kernel_rfl
set_option maxRecDepth 100000 in
set_option maxHeartbeats 8000000 in
theorem siloAlone_w {n : Nat} {acts : List Act20} {A : Option Addr} {cap most : Nat} {cut : Int} {W : World} (hr : Reads1 W A (flatA acts)) (hl : acts.length ≤ maxLen) (ht : most < 256) :
    CallsIn Fence.wide n Try.prog 6 #[.slice A acts.length cap, .int .i64 cut, .int .u8 most] W fun e W2 => e = .returned (.bool true) ∧ Upd (fun _ => False) W W2 := by
  have hrW := Lib.hid fun V (u : Upd (fun _ => False) W V) => hr.agree' (w' := V) (u.agree fun j hj => ⟨hr.lt' j hj, id⟩)
  have kFew := Lib.hid fun V (u : Upd (fun _ => False) W V) => few20_c (n := 0) (cap := cap) (hrW.out V u) hl
  have kAw := Lib.hid fun V => awake20_c (n := 0) (W := V)
  have kNew := Lib.hid (siloNew_c (n := 0) (W := W))
  clear hr
  unfold maxLen at hl
  refine callsIn_any (n := 0) (callsIn_of_wp Try.func6 rfl trivial ?_)
  simp only [Try.ntmps6, List.size_toArray, List.length_cons, List.length_nil, Nat.reduceAdd, Nat.reduceSub, Array.replicate_succ, Array.replicate_zero, List.push_toArray, List.append_toArray, List.nil_append, List.cons_append]
  gi_wp2_with (first | refine (⟨trivial, rfl, ?_⟩ : Fence.wide.fn _ ∧ Fence.wide.depth = none ∧ _) | (gi_at_call 8; (with_reducible refine kNew.out.mono ?_); rintro e W1 ⟨sb, F0, rfl, hsi, hF0, hu⟩; (replace hsi := Lib.hid hsi); (replace hF0 := Lib.hid hF0)) | (gi_at_call 9; (with_reducible refine (kAw.out _).mono ?_); rintro e W2 ⟨rfl, u2⟩; (replace hu := hu.trans' u2); (replace hsi := Lib.hid (hsi.out.upd u2 fun _ _ => id))) | ((gi_at_call 10); (refine (kFew.out _ hu).mono ?_); rintro e W3 ⟨b, rfl, hb, u3⟩; (replace hu := hu.trans' u3); (replace hsi := Lib.hid (hsi.out.upd u3 fun _ _ => id)); (replace hb := Lib.hid hb); cases b) | refine (⟨trivial, ?_⟩ : Fence.wide.fn _ ∧ _))
  · go_ret
    exact ⟨rfl, hu⟩
  · obtain ⟨hlen, -⟩ := hb.out (by trivial)
    have hsi0 : SiloV sb 0 [] F0 W3 := hsi.out
    have hF0' := hF0.out
    have hu0 := hu
    clear hb hu hsi hF0 kFew kAw kNew
    refine alo_puts hrW.out hlen hsi0 hF0' hu0 ?_
    rintro d9 d33 d34 d35 d36 d37 d38 d39 d40 d41 d42 d43 d44 d45 d46 d47 d48 d49 d50 d51 d52 d53 V1 ⟨vs, f, F, hvl, hI, hT, hF, hu⟩
    have hvl2 : vs.length ≤ 100 := by omega
    have qf := fun (x y : Value) w => fieldS1 x y w
    have kS := Lib.hid (siloState_c (n := 0) hI (by omega))
    replace hI := Lib.hid hI
    replace hT := Lib.hid hT
    replace hF := Lib.hid hF
    clear hrW hvl hl hlen hsi0 hF0' hu0
    by_cases h0 : vs.length = 0
    · have h0' : ((vs.length : Int) == 0) = true := by simpa using h0
      replace h0 := Lib.hid h0
      gi_wp2_with (first | refine (⟨trivial, rfl, ?_⟩ : Fence.wide.fn _ ∧ Fence.wide.depth = none ∧ _) | (gi_at_call 17; (with_reducible refine kS.out.mono ?_); rintro e W2 ⟨A1, c1, rfl, _, r1, _, u1⟩; (have kR := Lib.hid (ref20_c (n := 0) (f := f) (cap := c1) r1 (by omega))); (clear r1)) | (gi_at_call 16; (with_reducible refine kR.out.mono ?_); rintro e W3 ⟨A2, c2, rfl, _, _, _, u2⟩; (skip)) | refine (⟨trivial, ?_⟩ : Fence.wide.fn _ ∧ _))
      go_ret
      exact ⟨rfl, (hu.trans' u1).trans' u2⟩
    · have h0' : ((vs.length : Int) == 0) = false := by simpa using h0
      obtain ⟨i0, hi0⟩ : ∃ i0, most % vs.length = i0 := ⟨_, rfl⟩
      have hil : i0 < vs.length := hi0 ▸ Nat.mod_lt _ (by omega)
      have q1 : IntKind.i64.wrap (most : Int) = most := Go.IntWalk.i64_in _ ⟨by omega, by omega⟩
      have q3 : (most : Int) % (vs.length : Int) = (i0 : Int) := by rw [← hi0]; exact (Int.natCast_emod _ _).symm
      have q4 : (most : Int).tmod (vs.length : Int) = (i0 : Int) := by rw [Int.tmod_eq_emod_of_nonneg (by omega)]; exact q3
      have q5 : IntKind.i64.wrap (i0 : Int) = (i0 : Int) := Go.IntWalk.i64_in _ ⟨by omega, by omega⟩
      have q8 : ¬ (vs.length : Int) = 0 := by omega
      have hAt := Lib.hid fun V A (h : Reads1 V A (flatE vs)) => atE_at h hil
      clear hi0
      generalize vs[i0] = c at *
      gi_wp2_with (first | refine (⟨trivial, rfl, ?_⟩ : Fence.wide.fn _ ∧ Fence.wide.depth = none ∧ _) | (gi_at_call 17; (with_reducible refine kS.out.mono ?_); rintro e W2 ⟨A1, c1, rfl, _, r1, _, u1⟩; (have kR := Lib.hid (ref20_c (n := 0) (f := f) (cap := c1) r1 (by omega))); (clear r1)) | (gi_at_call 16; (with_reducible refine kR.out.mono ?_); rintro e W3 ⟨A2, c2, rfl, _, r2, g2, u2⟩; (obtain ⟨g, o, rfl, hat⟩ := hAt.out _ _ r2); (obtain ⟨x0, x1, x2, x3, x4, x5, x6, x7, x8, x9, x10, x11, x12, x13, x14, x15⟩ := hat); (have hI3 := Lib.hid ((hI.out.upd u1 fun _ _ => id).upd u2 fun _ _ => id)); (replace r2 := Lib.hid r2); (have hu3 := Lib.hid ((hu.trans' u1).trans' u2)); (clear u1 u2 hu)) | refine (⟨trivial, ?_⟩ : Fence.wide.fn _ ∧ _))
      have hz3 := hu3.out.size
      have hFlt := Lib.hid hI3.out.lt
      have u36 : Upd (fun _ => False) W3 ((W3.alloc (.cells #[.string (c).key, .string (c).pol, .int .i64 (c).kd, .int .i64 (c).st] 24)).alloc (.cells #[.slice none 0 0] 31)) := (Upd.alloc _ _ _).stepAlloc _
      have bC : Blk ((W3.alloc (.cells #[.string (c).key, .string (c).pol, .int .i64 (c).kd, .int .i64 (c).st] 24)).alloc (.cells #[.slice none 0 0] 31)) W3.heap.size #[.string (c).key, .string (c).pol, .int .i64 (c).kd, .int .i64 (c).st] 24 := (Blk.new _ _ _).alloc _
      have bH : Blk ((W3.alloc (.cells #[.string (c).key, .string (c).pol, .int .i64 (c).kd, .int .i64 (c).st] 24)).alloc (.cells #[.slice none 0 0] 31)) (W3.heap.size + 1) #[.slice none 0 0] 31 := Blk.new' (by simp)
      have hz6 : (((W3.alloc (.cells #[.string (c).key, .string (c).pol, .int .i64 (c).kd, .int .i64 (c).st] 24)).alloc (.cells #[.slice none 0 0] 31))).heap.size = W3.heap.size + 2 := by simp
      obtain ⟨V6, hV6⟩ : ∃ V, ((W3.alloc (.cells #[.string (c).key, .string (c).pol, .int .i64 (c).kd, .int .i64 (c).st] 24)).alloc (.cells #[.slice none 0 0] 31)) = V := ⟨_, rfl⟩
      rw [hV6] at u36 bC bH hz6 ⊢
      have hr6 := Lib.hid fun V (u : Upd (fun _ => False) V6 V) => r2.out.agree' (w' := V) ((u36.trans' u).agree fun j hj => ⟨r2.out.lt' j hj, id⟩)
      have hI6 := Lib.hid (hI3.out.upd u36 fun _ _ => id)
      have hu6 := Lib.hid (hu3.out.trans' u36)
      replace bC := Lib.hid bC
      replace bH := Lib.hid bH
      clear hV6 u36 hI3 hu3 r2 g2 hI kS kR hAt x0 x1 x2 x3 x4 x5 x6 x7 x8 x9 x10 x11 x12 x13 x14 x15
      refine alo_key hr6.out bC.out (by omega) ?_
      rintro g15 g73 g74 g75 g76 g77 g78 g79 g80 g81 g82 g83 g84 g85 g86 g87 g88 g89 g90 g91 g92 g93 g94 g95 g96 g97 g98 g99 g100 g101 g102 g103 g104 g105 g106 v9 wr ⟨hO, hu⟩
      obtain ⟨A5, cap5, rfl, hn5, hr5, _, hb5⟩ := own_readsS hO
      have hge := own_ge hO
      have hzV := hu.size
      have hAl : AloI sb W3.heap.size (W3.heap.size + 1) f vs F c A5 [] (.slice none 0 0) W wr := by
        refine ⟨hI6.out.upd hu fun _ _ => id, bC.out.upd hu id, hr5, ⟨bH.out.upd hu id, World.ownsRow_nil _ _ _ 16, by simp [Value.ownBlock]⟩, ?_, ?_, hu6.out.trans' hu⟩
        · rintro j (rfl | hj)
          · exact ⟨fun h => by have := hFlt.out _ h; omega, by omega, fun h => by have := hge _ (hb5 _ h.2); omega⟩
          · simp [Value.ownBlock] at hj
        · rintro j (hj | rfl)
          · exact hF.out j hj
          · omega
      obtain ⟨mid, hm0, hm60, e1, e2, e3, e4⟩ := mod60 cut
      have hcut := Lib.hid (fit_cut (c := c) hm0 hI6.out.rise hT.out)
      have kR1 := Lib.hid (alo_range hAl (by simp; omega) 0 mid)
      have hsl2 : ([] ++ fitL (kyA c 0) mid vs).length + vs.length ≤ 1000000 := by
        have := fitL_len (kyA c 0) mid vs
        rw [List.nil_append]
        omega
      obtain ⟨d0, d1, d2⟩ := hAl.cells
      clear hO hr5 hb5 hge hu hr6 hI6 hu6 bC bH hF hFlt hAl
      gi_wp2_with (first | refine (⟨trivial, rfl, ?_⟩ : Fence.wide.fn _ ∧ Fence.wide.depth = none ∧ _) | (gi_at_call 15; (with_reducible refine kR1.out.mono ?_); rintro e Wa ⟨fc1, rfl, kV1⟩; (replace kV1 := Lib.hid kV1)) | ((with_reducible refine listV1 kV1.out ?_ ?_ ?_); rfl; rfl; rintro v1 Wb ⟨v2, hB⟩; (obtain ⟨b0, b1, b2⟩ := hB.cells); (have kR2 := Lib.hid (alo_range hB hsl2 mid 1099511627777)); (clear hB)) | (gi_at_call 15; (with_reducible refine kR2.out.mono ?_); rintro e Wc ⟨fc2, rfl, kV2⟩; (replace kV2 := Lib.hid kV2)) | ((with_reducible refine listV1 kV2.out ?_ ?_ ?_); rfl; rfl; rintro v3 Wd ⟨v4, hD⟩; (rw [List.nil_append, hcut.out] at hD); (obtain ⟨f0, f1, f2⟩ := hD.cells); (have kE := Lib.hid (alo_end (cap := cap5) hD hT.out (by omega))); (clear hD)) | (gi_at_call 15; (with_reducible refine kE.out.mono ?_); rintro e We ⟨fc3, rfl, kG⟩; (replace kG := Lib.hid kG)) | (gi_at_call 14; (with_reducible refine kG.out.mono ?_); rintro e Wf ⟨rfl, A6, c6, h6, kS6⟩; (replace kS6 := Lib.hid kS6)) | (gi_at_call 18; (with_reducible refine kS6.out.mono ?_); rintro e Wg ⟨rfl, uF⟩; (skip)) | refine (⟨trivial, ?_⟩ : Fence.wide.fn _ ∧ _))
      go_ret
      exact ⟨rfl, uF⟩
end Go.Proofs.Ytadeechoknpjhaa

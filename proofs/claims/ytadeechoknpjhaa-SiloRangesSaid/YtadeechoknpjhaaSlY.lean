/- SiloRanges: the walk of the law, where it goes on. -/
import Derived.Test.YtadeechoknpjhaaProg
import Derived.Test.YtadeechoknpjhaaBase
import Derived.Test.YtadeechoknpjhaaSlX
namespace Go.Proofs.Ytadeechoknpjhaa
open Go.RowKit Go.Shelf
attribute [local go_sem] Oper.semAt_some

set_option maxRecDepth 100000 in
set_option maxHeartbeats 8000000 in
theorem siloRangesYes_w {n : Nat} {acts : List Act20} {A : Option Addr} {cap : Nat} {k : KCE} {to most : Int} {W : World} (hr : Reads1 W A (flatA acts)) (hl : acts.length ≤ maxLen) (hm : 0 ≤ most ∧ most < 256) (h1 : k.1.size ≤ 300) (h2 : k.2.1.size ≤ 300) :
    CallsIn Fence.wide n Try.prog 3 #[.slice A acts.length cap, .agg #[.string (k).1, .string (k).2.1, .int .i64 (k).2.2.1, .int .i64 (k).2.2.2], .agg #[.int .i64 to, .int .u8 most]] W fun e W2 => e = .returned (.bool true) ∧ Upd (fun _ => False) W W2 := by
  obtain ⟨W0, hW0⟩ : ∃ W0, (W.alloc (.cells #[.string (k).1, .string (k).2.1, .int .i64 (k).2.2.1, .int .i64 (k).2.2.2] 24)).alloc (.cells #[.int .i64 to, .int .u8 most] 26) = W0 := ⟨_, rfl⟩
  have u0 : Upd (fun _ => False) W W0 := by rw [← hW0]; exact (Upd.alloc _ _ _).stepAlloc _
  have bk : Blk W0 W.heap.size #[.string (k).1, .string (k).2.1, .int .i64 (k).2.2.1, .int .i64 (k).2.2.2] 24 := by rw [← hW0]; exact (Blk.new _ _ _).alloc _
  have be : Blk W0 (W.heap.size + 1) #[.int .i64 to, .int .u8 most] 26 := by rw [← hW0]; exact Blk.new' (by simp)
  have hz0 : W0.heap.size = W.heap.size + 2 := by rw [← hW0]; simp
  have ud : Upd (fun _ => False) W0 W0.drew := Upd.drew _ _
  have hEn := Lib.hid fun V (u : Upd (fun _ => False) W0 V) => show V.cell? ⟨W.heap.size + 1, 0, none⟩ = some (.int .i64 to) ∧ V.cell? ⟨W.heap.size + 1, 1, none⟩ = some (.int .u8 most) from ⟨(be.upd u id).cell 0, (be.upd u id).cell 1⟩
  have h0 := hEn.out _ ud
  have hK := Lib.hid fun V (u : Upd (fun _ => False) W0 V) => bk.upd u id
  have hKc := Lib.hid fun V (u : Upd (fun _ => False) W0 V) => show (V.cell? ⟨W.heap.size, 0, none⟩ = some (.string (k).1) ∧ V.cell? ⟨W.heap.size, 1, none⟩ = some (.string (k).2.1) ∧ V.cell? ⟨W.heap.size, 2, none⟩ = some (.int .i64 (k).2.2.1) ∧ V.cell? ⟨W.heap.size, 3, none⟩ = some (.int .i64 (k).2.2.2)) from ⟨(bk.upd u id).cell 0, (bk.upd u id).cell 1, (bk.upd u id).cell 2, (bk.upd u id).cell 3⟩
  have kNew := Lib.hid ((siloNew_c (n := 0) (W := W0.drew)).mono (R' := fun e W1 => ∃ sb F, e = .returned (.pointer (some ⟨sb, 0, none⟩)) ∧ SiloI sb 0 [] F W1 ∧ (∀ j, F j → W0.heap.size ≤ j) ∧ Upd (fun _ => False) W0 W1) (by
    rintro e W1 ⟨sb, F, rfl, s1, s2, s3⟩
    exact ⟨sb, F, rfl, s1, s2, ud.trans' s3⟩))
  have kAw := Lib.hid fun V => awake20_c (n := 0) (W := V)
  have hrW := Lib.hid fun V (u : Upd (fun _ => False) W0 V) => hr.agree' (w' := V) ((u0.trans' u).agree fun j hj => ⟨hr.lt' j hj, id⟩)
  have kFew := Lib.hid fun V (u : Upd (fun _ => False) W0 V) => few20_c (n := 0) (cap := cap) (hrW.out V u) hl
  clear bk be hr
  unfold maxLen at hl
  replace u0 := Lib.hid u0
  refine callsIn_any (n := 0) (callsIn_of_wp Try.func3 rfl trivial ?_)
  simp only [Try.ntmps3, List.size_toArray, List.length_cons, List.length_nil, Nat.reduceAdd, Nat.reduceSub, Array.replicate_succ, Array.replicate_zero, List.push_toArray, List.append_toArray, List.nil_append, List.cons_append]
  gi_wp2_with (first | (rw [hW0]; skip))
  refine wpIn_eager [(0, true), (1, true), (2, true), (3, true), (4, true), (5, true)] (fun V => V.cell? ⟨W.heap.size + 1, 0, none⟩ = some (.int .i64 to) ∧ V.cell? ⟨W.heap.size + 1, 1, none⟩ = some (.int .u8 most)) (by kernel_rfl) (by kernel_rfl) h0 ?_
  repeat (first | (refine wpE_fl rfl rfl (fun _ _ => rfl) ?_; go_simp) | (refine wpE_sk rfl rfl ?_; go_simp) | (refine wpE_fl (v := ?_) rfl rfl ?_ ?_; rotate_left; (intro W' h'; (try dsimp only at h'); go_simp; exact rfl); go_simp) | (refine wpE_ef rfl ?_; go_simp; gi_wp2_with (first | refine (⟨trivial, rfl, ?_⟩ : Fence.wide.fn _ ∧ Fence.wide.depth = none ∧ _) | refine (⟨trivial, trivial, rfl, ?_⟩ : Fence.wide.fn _ ∧ Fence.wide.fn _ ∧ Fence.wide.depth = none ∧ _) | refine (⟨trivial, ?_⟩ : Fence.wide.fn _ ∧ _)); (first | refine ⟨by first | exact h0, ?_⟩ | skip)))
  refine wpE_nil ?_
  gi_wp2_with (first | refine (⟨trivial, rfl, ?_⟩ : Fence.wide.fn _ ∧ Fence.wide.depth = none ∧ _) | (gi_at_call 8; (with_reducible refine kNew.out.mono ?_); rintro e W1 ⟨sb, F0, rfl, hsi, hF0, hu⟩; (replace hsi := Lib.hid hsi); (replace hF0 := Lib.hid hF0)) | (gi_at_call 9; (with_reducible refine (kAw.out _).mono ?_); rintro e W2 ⟨rfl, u2⟩; (replace hu := hu.trans' u2); (replace hsi := Lib.hid (hsi.out.upd u2 fun _ _ => id)); (have hkc := hKc.out _ hu)) | ((gi_at_call 10); (refine (kFew.out _ hu).mono ?_); rintro e W3 ⟨b, rfl, hb, u3⟩; (replace hu := hu.trans' u3); (replace hsi := Lib.hid (hsi.out.upd u3 fun _ _ => id)); (have hkc := hKc.out _ hu); (replace hb := Lib.hid hb); cases b) | refine (⟨trivial, ?_⟩ : Fence.wide.fn _ ∧ _))
  · go_ret
    exact ⟨rfl, u0.out.trans' hu⟩
  · obtain ⟨hlen, hsz⟩ := hb.out (by trivial)
    have huA : Upd (fun _ => False) W0 (W3.alloc (.cells #[.int .i64 0, .slice none 0 0] 33)) := hu.stepAlloc _
    have hI0 : RngS sb W3.heap.size 0 [] F0 none 0 (W3.alloc (.cells #[.int .i64 0, .slice none 0 0] 33)) :=
      ⟨hsi.out.upd (Upd.alloc (fun _ => False) _ _) (fun _ _ => id), Blk.new _ _ _, fun i v hv => by simp [flatE] at hv, Nat.le_refl _, fun j hj => by simp [blkOf', flatE] at hj, fun h => by have := hsi.out.lt _ h; omega, fun v hv => by simp at hv⟩
    have hF0' := hF0.out
    have hmb : W0.heap.size ≤ W3.heap.size := hu.size
    clear hb hu hkc hsi hF0
    gi_loopw [46] (fun i wr => ∃ (j : Nat) (vs : List VCE) (f : Int) (F : Nat → Prop) (A' : Option Addr) (cap' : Nat), i = .int .i64 j ∧ j ≤ acts.length ∧ vs.length ≤ j ∧ RngS sb W3.heap.size f vs F A' cap' wr ∧ (∀ b, F b → W0.heap.size ≤ b) ∧ Upd (fun _ => False) W0 wr) (fun i _ => acts.length - (intOf i).toNat)
    case atStart => exact ⟨0, [], 0, F0, none, 0, rfl, Nat.zero_le _, Nat.le_refl _, hI0, hF0', huA⟩
    case round =>
      clear hI0 hF0' huA
      obtain ⟨j, vs, f, F, A', cap', rfl, hj, hvl, hI, hF, hu⟩ := hrel
      by_cases hlt : j < acts.length
      · obtain ⟨g, o, rfl, hat⟩ := atA_at (hrW.out _ hu) hlt
        have hv := hsz _ (List.getElem_mem hlt)
        have hw5 : IntKind.i64.wrap ((j : Int) + 1) = (j : Int) + 1 := Go.IntWalk.i64_in _ ⟨by omega, by omega⟩
        generalize acts[j] = a at *
        obtain ⟨kd, v⟩ := a
        have ua := Upd.alloc (fun _ => False) wr (.cells #[.int .i64 kd, .int .i64 (v).ep, .string (v).key, .string (v).pol, .int .i64 (v).kd, .int .i64 (v).st, .int .i64 (v).rev, .bool (v).fin, .int .i64 (v).rk, .int .i64 (v).cnt, .int .i64 (v).sum, .int .i64 (v).mn, .int .i64 (v).mx, .int .i64 (v).q0, .int .i64 (v).q1, .int .i64 (v).q2, .bool (v).over] 40)
        have bA := Blk.new wr #[.int .i64 kd, .int .i64 (v).ep, .string (v).key, .string (v).pol, .int .i64 (v).kd, .int .i64 (v).st, .int .i64 (v).rev, .bool (v).fin, .int .i64 (v).rk, .int .i64 (v).cnt, .int .i64 (v).sum, .int .i64 (v).mn, .int .i64 (v).mx, .int .i64 (v).q0, .int .i64 (v).q1, .int .i64 (v).q2, .bool (v).over] 40
        have hIA := hI.upd ua fun _ _ => id
        have hlts := hI.lt
        obtain ⟨c0, w0, w1, w2, w3, w4, w5, w6, w7, w8, w9, w10, w11, w12, w13, w14, w15⟩ := hat
        by_cases hk1 : kd = 1
        · as_aux_lemma =>
            have kP := Lib.hid (ranges_put hIA bA (fun h => by have := hlts _ (.inl h); omega) (fun h => by have := hlts _ (.inr (.inl rfl)); omega) hv (by omega))
            have fin : ∀ f' (vs' : List VCE) F' A2 cap2 W2, vs'.length ≤ vs.length + 1 → RngS sb W3.heap.size f' vs' F' A2 cap2 W2 → (∀ b, F' b → F b ∨ (wr.alloc (.cells #[.int .i64 kd, .int .i64 (v).ep, .string (v).key, .string (v).pol, .int .i64 (v).kd, .int .i64 (v).st, .int .i64 (v).rev, .bool (v).fin, .int .i64 (v).rk, .int .i64 (v).cnt, .int .i64 (v).sum, .int .i64 (v).mn, .int .i64 (v).mx, .int .i64 (v).q0, .int .i64 (v).q1, .int .i64 (v).q2, .bool (v).over] 40)).heap.size ≤ b) → Upd (fun b => F b ∨ b = W3.heap.size) (wr.alloc (.cells #[.int .i64 kd, .int .i64 (v).ep, .string (v).key, .string (v).pol, .int .i64 (v).kd, .int .i64 (v).st, .int .i64 (v).rev, .bool (v).fin, .int .i64 (v).rk, .int .i64 (v).cnt, .int .i64 (v).sum, .int .i64 (v).mn, .int .i64 (v).mx, .int .i64 (v).q0, .int .i64 (v).q1, .int .i64 (v).q2, .bool (v).over] 40)) W2 →
                vs'.length ≤ j + 1 ∧ RngS sb W3.heap.size f' vs' F' A2 cap2 W2 ∧ (∀ b, F' b → W0.heap.size ≤ b) ∧ Upd (fun _ => False) W0 W2 := by
              intro f' vs' F' A2 cap2 W2 e1 e2 e3 e4
              have z := (hu.trans' ua).size
              refine ⟨by omega, e2, fun b hb => (e3 b hb).elim (hF b) fun h => by omega, (hu.trans' ua).trans e4 fun b hb => .inr ?_⟩
              rcases hb with h | rfl
              · exact hF b h
              · exact hmb
            replace fin := Lib.hid fin
            subst hk1
            clear hI hIA bA hlts hF hv hu ua
            gi_wp2_with (first | refine (⟨trivial, rfl, ?_⟩ : Fence.wide.fn _ ∧ Fence.wide.depth = none ∧ _) | (gi_at_call 11; (with_reducible refine kP.out.mono ?_); rintro e W4 ⟨c, rfl, ⟨m0, m1⟩, ⟨e0, e1, e2, e3, e4, e5, e6, e7, e8, e9, e10, e11, e12, e13, e14, e15⟩, k2⟩; (replace k2 := Lib.hid k2); clear kP; (as_aux_lemma => (gi_wp2_with (first | refine (⟨trivial, rfl, ?_⟩ : Fence.wide.fn _ ∧ Fence.wide.depth = none ∧ _) | (gi_at_call 12; (with_reducible refine k2.out.mono ?_); rintro e W5 ⟨f', vs', F', A2, cap2, rfl, ⟨n0, n1, f0, f1, l0⟩, e1, e2, e3, e4⟩; (have fn := Lib.hid (fin.out f' vs' F' A2 cap2 _ e1 e2 e3 e4)); clear e1 e2 e3 e4 k2 fin; (as_aux_lemma => (gi_wp2; obtain ⟨q1, q2, q3, q4⟩ := fn.out; exact ⟨⟨j + 1, vs', f', F', A2, cap2, by go_num, by omega, q1, q2, q3, q4⟩, by show acts.length - ((j : Int) + 1).toNat < acts.length - (j : Int).toNat; omega⟩))) | refine (⟨trivial, ?_⟩ : Fence.wide.fn _ ∧ _))))) | refine (⟨trivial, ?_⟩ : Fence.wide.fn _ ∧ _))
        · as_aux_lemma =>
            replace hIA := Lib.hid hIA
            have hu2 := Lib.hid (hu.trans' ua)
            clear hI bA hlts hu ua
            have hk2 : (kd == 1) = false := by simpa using hk1
            gi_wp2
            exact ⟨⟨j + 1, vs, f, F, A', cap', by go_num, by omega, by omega, hIA.out, hF, hu2.out⟩, by show acts.length - ((j : Int) + 1).toNat < acts.length - (j : Int).toNat; omega⟩
      · obtain rfl : j = acts.length := by omega
        as_aux_lemma =>
          have hke := hK.out _ hu
          have hkc := hKc.out _ hu
          have m0 : wr.cell? ⟨W3.heap.size, 0, none⟩ = some (.int .i64 f) := hI.bm.cell 0
          have m1 : wr.cell? ⟨W3.heap.size, 1, none⟩ = some (.slice A' vs.length cap') := hI.bm.cell 1
          have kE := Lib.hid (ranges_end (w := W) (to := to) hI (u0.out.trans' hu) hke (by omega))
          clear hI hke hF hu
          gi_wp2_with (first | refine (⟨trivial, rfl, ?_⟩ : Fence.wide.fn _ ∧ Fence.wide.depth = none ∧ _) | (gi_at_call 13; (with_reducible refine kE.out.mono ?_); rintro e W4 ⟨A2, c2, n2, rfl, hkc, k2⟩; (replace k2 := Lib.hid k2)) | (gi_at_call 15; (with_reducible refine k2.out.mono ?_); rintro e W5 ⟨fk, fc, rfl, k3⟩; (replace k3 := Lib.hid k3)) | (gi_at_call 14; (with_reducible refine (k3.out _).mono ?_); rintro e W6 ⟨rfl, hkc, k4⟩; (replace k4 := Lib.hid k4)) | (gi_at_call 15; (with_reducible refine k4.out.mono ?_); rintro e W7 ⟨fk2, fc2, rfl, k5⟩; (replace k5 := Lib.hid k5)) | (gi_at_call 14; (with_reducible refine (k5.out _).mono ?_); rintro e W8 ⟨rfl, u8⟩; (skip)) | refine (⟨trivial, ?_⟩ : Fence.wide.fn _ ∧ _))
          go_ret
          exact ⟨rfl, u8⟩
theorem siloRanges_w {n : Nat} {acts : List Act20} {A : Option Addr} {cap : Nat} {k : KCE} {to most : Int} {W : World} (hr : Reads1 W A (flatA acts)) (hl : acts.length ≤ maxLen) (hm : 0 ≤ most ∧ most < 256) :
    CallsIn Fence.wide n Try.prog 3 #[.slice A acts.length cap, .agg #[.string (k).1, .string (k).2.1, .int .i64 (k).2.2.1, .int .i64 (k).2.2.2], .agg #[.int .i64 to, .int .u8 most]] W fun e W2 => e = .returned (.bool true) ∧ Upd (fun _ => False) W W2 := by
  by_cases h1 : k.1.size ≤ 300
  · by_cases h2 : k.2.1.size ≤ 300
    · exact siloRangesYes_w hr hl hm h1 h2
    · exact siloRangesNo2_w hr hl hm h1 h2
  · exact siloRangesNo1_w hr hl hm h1
end Go.Proofs.Ytadeechoknpjhaa

/- SackRuns: the walk. -/
import Derived.Test.YtjlobcbjhnfjcaaProg
import Derived.Test.YtjlobcbjhnfjcaaBase
import Derived.Test.YtjlobcbjhnfjcaaSkRu
import Derived.Test.YtjlobcbjhnfjcaaSkMg
namespace Go.Proofs.Ytjlobcbjhnfjcaa
open Go.RowKit Go.Shelf
attribute [local go_sem] Oper.semAt_some

set_option maxRecDepth 100000 in
set_option maxHeartbeats 8000000 in
theorem sackRuns_law {n : Nat} {w : World} {A : Option Addr} {ca : Nat} {l : List Int} {mo : Nat} (hra : Reads1 w A (intsV l)) (hmo : mo < 256) :
    CallsIn Fence.wide n Try.prog 4 #[.slice A l.length ca, .int .u8 mo] w fun e w' => e = .returned (.bool true) ∧ Upd (fun _ => False) w w' := by
  have hrA := Lib.hid fun W (h : Upd (fun _ => False) w W) => hra.agree' (w' := W) (h.agree fun j hj => ⟨hra.lt' j hj, id⟩)
  clear hra
  have k1 := (awake_c (n := 0) (w := w)).mono (R' := fun e W1 => e = .returned (.bool true) ∧ CallsIn Fence.wide 0 Try.prog 7 #[] W1 (fun e W2 => e = .returned (.bool true) ∧ Upd (fun _ => False) w W2) ∧ Upd (fun _ => False) w W1) (by
    rintro e W1 ⟨rfl, u1⟩
    exact ⟨rfl, (awake_c (n := 0)).mono (by rintro e W2 ⟨rfl, u2⟩; exact ⟨rfl, u1.trans' u2⟩), u1⟩)
  replace k1 := Lib.hid k1
  obtain ⟨er, her⟩ : ∃ er, er = mo % 9 := ⟨_, rfl⟩
  have he1 : (mo : Int).tmod 9 = (er : Int) := by rw [Int.tmod_eq_emod_of_nonneg (by omega)]; omega
  have he2 : (mo : Int) % 9 = (er : Int) := by omega
  have he3 : IntKind.u8.wrap (er : Int) = (er : Int) := by simp [IntKind.wrap, IntKind.bits, IntKind.signed]; omega
  have he4 : IntKind.i64.wrap (er : Int) = (er : Int) := Go.IntWalk.i64_in _ ⟨by omega, by omega⟩
  clear her
  refine callsIn_any (n := 0) (callsIn_of_wp Try.func4 rfl trivial ?_)
  simp only [Try.ntmps4, List.size_toArray, List.length_cons, List.length_nil, Nat.reduceAdd, Nat.reduceSub, Array.replicate_succ, Array.replicate_zero, List.push_toArray, List.append_toArray, List.nil_append, List.cons_append]
  by_cases hl : l.length ≤ 60
  · have el := (sortL_rec l).2.1
    have hsr := (sortL_rec l).1
    have kf := Lib.hid fun W1 (u : Upd (fun _ => False) w W1) => (fill_c (n := 0) (cap := ca) (room := 60) (hrA.out _ u) (by omega) (by omega)).mono (R' := fun e W2 => ∃ sb F A1 c1, e = .returned (.tuple #[.pointer (some ⟨sb, 0, none⟩), .slice A1 l.length c1, .bool true]) ∧ Two sb (sortL l) (sortL l) 60 F A1 c1 w W2) (by
      rintro e W2 ⟨sb, F, A1, c1, rfl, f1⟩
      exact ⟨sb, F, A1, c1, rfl, f1.two.from u⟩)
    obtain ⟨L, hL⟩ : ∃ L, sortL l = L := ⟨_, rfl⟩
    rw [hL] at kf el hsr
    clear hL
    gi_wp2_with (first | refine (⟨trivial, rfl, ?_⟩ : Fence.wide.fn _ ∧ Fence.wide.depth = none ∧ _) | (gi_at_call 7; (with_reducible refine k1.out.mono ?_); rintro e W1 ⟨rfl, _, u1⟩; (have k2 := Lib.hid (kf.out _ u1))) | (gi_at_call 8; (with_reducible refine k2.out.mono ?_); rintro e W2 ⟨sb, F, A1, c1, rfl, h0⟩; (have hT := Lib.hid (fun W (u : Upd (fun _ => False) W2 W) => h0.upd u)); (replace h0 := Lib.hid h0)) | ((with_reducible refine appS (A := A1) (m := l.length) (c := c1) Try.underlying22 infoElI rfl (by omega) (by omega) (own_empty2 W2 _ _ _ 1) ?_ ?_ ?_ ?_ ?_ (hT.out _ ((((Upd.refl _ _).stepAlloc _).stepAlloc _).stepAlloc _)).list ?_ ?_); rfl; rfl; (focus ((try simp); (try omega))); (rw [intsV_len]; omega); omega; exact (ints_one _); intro v3 W3 h3 g3 e3; (simp only [Nat.zero_add, List.nil_append] at h3); have u3 := Lib.hid ((((Upd.refl (fun _ => False) W2).stepAlloc _).stepAlloc _).trans ((Upd.alloc (fun _ => False) _ (.cells #[] 3)).trans g3 (fun j hj => .inr (by simp only [Value.ownBlock, Option.some.injEq] at hj; simp only [World.size_alloc]; omega))) (fun j hj => .inl hj)); have q6 := Lib.hid ((((Blk.new W2 #[.slice A1 l.length c1] 22).alloc _).alloc _).upd g3 (fun h => by simp only [Value.ownBlock, Option.some.injEq] at h; omega)); have q7 := (((Blk.new (W2.alloc _) #[.bool true] 4).alloc _).upd g3 (fun h => by simp only [Value.ownBlock, Option.some.injEq, World.size_alloc] at h; omega)); (simp only [World.size_alloc] at q7); replace q7 := Lib.hid q7; obtain ⟨g, cap3, rfl, hg1, hg2, hg3, hg4, _, _⟩ := Lib.holds_of_ownsRow (enc := fun x : Int => Value.int .i64 x) h3 (by rintro rfl; simp [Value.ownBlock] at e3); have hco := Lib.hid ((compact_c (n := 0) h3).mono (R' := fun e W4 => ∃ once : List Int, Lib.compact L = once ∧ e = .returned (.slice (some ⟨g, 0, none⟩) once.length cap3) ∧ Reads1 W4 (some ⟨g, 0, none⟩) (intsV once) ∧ Upd (fun j => j = g) W3 W4) (by rintro e W4 ⟨rfl, a1, a2⟩; exact ⟨_, rfl, rfl, a1, a2⟩)); replace hg1 := Lib.hid hg1; replace hg2 := Lib.hid hg2; clear g3 e3 h3 hg3 hg4) | (gi_at_call 11; (with_reducible refine hco.out.mono ?_); rintro e W4 ⟨once, honce, rfl, hr4, g4⟩; (replace hr4 := Lib.hid hr4); (replace g4 := Lib.hid g4); (replace honce := Lib.hid honce)) | (gi_at_call 12; (with_reducible refine (sackRunsI (n := 0) (hT.out _ (((((u3.out.trans g4.out (fun j hj => .inr (by have := hg1.out; omega)))).stepAlloc _).stepAlloc _).stepAlloc _)).sack).mono ?_); rintro e W6 ⟨bv, lr, rfl, hbag, hbv, u6, hseq⟩; (have hrun := Lib.hid (runs_fin h0.out u3.out (Eq.mpr (by rw [el]) q6.out) q7.out hg1.out hg2.out g4.out hr4.out honce.out hbag hbv u6 hseq)); (clear hbag hbv u6 hseq)) | ((with_reducible refine listV1 hrun.out ?_ ?_ ?_); rfl; rfl; rintro v W7 ⟨N, hN, d1, d2, d3, d4, u7⟩; (replace hN := Lib.hid hN); (replace u7 := Lib.hid u7)) | refine (⟨trivial, ?_⟩ : Fence.wide.fn _ ∧ _))
    have hN' := hN.out
    refine bodyPost_ret (results_tmp rfl _ _ _) rfl ⟨?_, u7.out⟩
    refine congrArg (fun b => Ending.returned (Value.bool b)) ?_
    simp only [beq_iff_eq]
    exact hN'
  · have hl' : 60 < l.length := by omega
    gi_wp2_with (first | refine (⟨trivial, rfl, ?_⟩ : Fence.wide.fn _ ∧ Fence.wide.depth = none ∧ _) | (gi_at_call 7; (with_reducible refine k1.out.mono ?_); rintro e W1 ⟨rfl, k2, _⟩; (replace k2 := Lib.hid k2)) | (gi_at_call 7; (with_reducible refine k2.out.mono ?_); rintro e W2 ⟨rfl, u2⟩; (replace u2 := Lib.hid u2)) | refine (⟨trivial, ?_⟩ : Fence.wide.fn _ ∧ _))
    go_ret
    exact ⟨rfl, u2.out⟩
end Go.Proofs.Ytjlobcbjhnfjcaa

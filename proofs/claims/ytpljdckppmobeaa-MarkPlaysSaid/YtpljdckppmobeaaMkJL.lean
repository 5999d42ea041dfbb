/- MarkPlays: the walk of the law. -/
import Derived.Test.YtpljdckppmobeaaProg
import Derived.Test.YtpljdckppmobeaaBase
import Derived.Test.YtpljdckppmobeaaMkJW
namespace Go.Proofs.Ytpljdckppmobeaa
open Go.RowKit Go.Shelf
attribute [local go_sem] Oper.semAt_some

set_option maxRecDepth 100000 in
set_option maxHeartbeats 8000000 in
theorem markPlays_law {n : Nat} {w : World} {AA : Option Addr} {capA : Nat} {acts : List Act13} {idle drain : Int} (hra : Reads1 w AA (acts.flatMap encC)) (hsz : ∀ a ∈ acts, a.src.size ≤ maxLen) :
    CallsIn Fence.wide n Try.prog 5 #[.int .i64 idle, .int .i64 drain, .slice AA acts.length capA] w fun e w' => e = .returned (.bool true) ∧ Upd (fun _ => False) w w' := by
  have k1 := (awake_c (n := 0) (w := w)).mono (R' := fun e W1 => e = .returned (.bool true) ∧ CallsIn Fence.wide 0 Try.prog 8 #[] W1 (fun e W2 => e = .returned (.bool true) ∧ Upd (fun _ => False) w W2) ∧
      (¬ (0 ≤ idle ∧ idle ≤ mxT ∧ 0 ≤ drain ∧ drain ≤ mxT) → CallsIn Fence.wide 0 Try.prog 7 #[.int .i64 idle, .int .i64 drain] W1 fun e W2 => e = .returned (.tuple #[.pointer none, .int .i64 1]) ∧ Upd (fun _ => False) w W2) ∧
      ((0 ≤ idle ∧ idle ≤ mxT) → (0 ≤ drain ∧ drain ≤ mxT) → acts.length ≤ 60 → CallsIn Fence.wide 0 Try.prog 7 #[.int .i64 idle, .int .i64 drain] W1 fun e W2 => ∃ mb, e = .returned (.tuple #[.pointer (some ⟨mb, 0, none⟩), .int .i64 0]) ∧
        CallsIn Fence.wide 0 Try.prog 19 #[.pointer (some ⟨mb, 0, none⟩), .agg #[.int .i64 0, .int .i64 0, .slice none 0 0], .int .i64 idle, .int .i64 drain, .slice AA acts.length capA] W2 fun e W3 => e = .returned (.bool true) ∧ Upd (fun _ => False) w W3)) (by
    rintro e W1 ⟨rfl, u1⟩
    refine ⟨rfl, (awake_c (n := 0)).mono ?_, fun h => (markNewNo_c (n := 0) h).mono ?_, fun hi hd hl => (markNew_c (n := 0) hi hd).mono ?_⟩
    · rintro e W2 ⟨rfl, u2⟩
      exact ⟨rfl, u1.trans' u2⟩
    · rintro e W2 ⟨rfl, u2⟩
      exact ⟨rfl, u1.trans' u2⟩
    · rintro e W2 ⟨mb, F, rfl, g1, g2, g3⟩
      have u2 := u1.trans' g3
      have z1 := u1.size
      refine ⟨mb, rfl, (play13_c (n := 0) (ls := []) (A := none) (cap := 0) g1 ⟨hi, hd, by simp [mxT], by simp [mxT], by simp, by simp, by simp⟩ (fun e he => by simp at he) (fun i v hv => by simp [flatS] at hv) (Nat.le_refl _) (fun j hj => by simp [blkOf', flatS] at hj) (hra.agree' (u2.agree fun j hj => ⟨hra.lt' j hj, id⟩)) (fun j hj hF => by have := g2 j hF; have := hra.lt' j hj; omega) hsz (by omega)).mono ?_⟩
      rintro e W3 ⟨rfl, u3⟩
      exact ⟨rfl, u2.trans u3 fun j hj => .inr (by have := g2 j hj; omega)⟩)
  replace k1 := Lib.hid k1
  clear hra hsz
  refine callsIn_any (n := 0) (callsIn_of_wp Try.func5 rfl trivial ?_)
  simp only [Try.ntmps5, List.size_toArray, List.length_cons, List.length_nil, Nat.reduceAdd, Nat.reduceSub, Array.replicate_succ, Array.replicate_zero, List.push_toArray, List.append_toArray, List.nil_append, List.cons_append]
  by_cases hl : acts.length ≤ 60
  · by_cases hi : 0 ≤ idle ∧ idle ≤ mxT
    · by_cases hd : 0 ≤ drain ∧ drain ≤ mxT
      · have hi' := hi
        have hd' := hd
        simp only [mxT] at hi' hd'
        obtain ⟨i0, i1⟩ := hi'
        obtain ⟨d0, d1⟩ := hd'
        gi_wp2_with (first | refine (⟨trivial, rfl, ?_⟩ : Fence.wide.fn _ ∧ Fence.wide.depth = none ∧ _) | (gi_at_call 8; (with_reducible refine k1.out.mono ?_); rintro e W1 ⟨rfl, _, _, k2⟩; (replace k2 := Lib.hid (k2 hi hd hl))) | (gi_at_call 7; (with_reducible refine k2.out.mono ?_); rintro e W2 ⟨mb, rfl, k3⟩; (replace k3 := Lib.hid k3)) | (gi_at_call 19; (with_reducible refine k3.out.mono ?_); rintro e W3 ⟨rfl, u3⟩; (replace u3 := Lib.hid u3)) | refine (⟨trivial, ?_⟩ : Fence.wide.fn _ ∧ _))
        go_ret
        exact ⟨rfl, u3.out⟩
      · have hb : ¬ (0 ≤ idle ∧ idle ≤ mxT ∧ 0 ≤ drain ∧ drain ≤ mxT) := fun h => hd h.2.2
        obtain ⟨i0, i1⟩ := hi
        simp only [mxT] at i1 hd
        by_cases d0 : 0 ≤ drain
        · have d1 : 1099511627776 < drain := by omega
          gi_wp2_with (first | refine (⟨trivial, rfl, ?_⟩ : Fence.wide.fn _ ∧ Fence.wide.depth = none ∧ _) | (gi_at_call 8; (with_reducible refine k1.out.mono ?_); rintro e W1 ⟨rfl, _, k2, _⟩; (replace k2 := Lib.hid (k2 hb))) | (gi_at_call 7; (with_reducible refine k2.out.mono ?_); rintro e W2 ⟨rfl, u3⟩; (replace u3 := Lib.hid u3)) | refine (⟨trivial, ?_⟩ : Fence.wide.fn _ ∧ _))
          go_ret
          exact ⟨rfl, u3.out⟩
        · have d1 : drain < 0 := by omega
          gi_wp2_with (first | refine (⟨trivial, rfl, ?_⟩ : Fence.wide.fn _ ∧ Fence.wide.depth = none ∧ _) | (gi_at_call 8; (with_reducible refine k1.out.mono ?_); rintro e W1 ⟨rfl, _, k2, _⟩; (replace k2 := Lib.hid (k2 hb))) | (gi_at_call 7; (with_reducible refine k2.out.mono ?_); rintro e W2 ⟨rfl, u3⟩; (replace u3 := Lib.hid u3)) | refine (⟨trivial, ?_⟩ : Fence.wide.fn _ ∧ _))
          go_ret
          exact ⟨rfl, u3.out⟩
    · have hb : ¬ (0 ≤ idle ∧ idle ≤ mxT ∧ 0 ≤ drain ∧ drain ≤ mxT) := fun h => hi ⟨h.1, h.2.1⟩
      simp only [mxT] at hi
      by_cases d0 : 0 ≤ idle
      · have d1 : 1099511627776 < idle := by omega
        gi_wp2_with (first | refine (⟨trivial, rfl, ?_⟩ : Fence.wide.fn _ ∧ Fence.wide.depth = none ∧ _) | (gi_at_call 8; (with_reducible refine k1.out.mono ?_); rintro e W1 ⟨rfl, _, k2, _⟩; (replace k2 := Lib.hid (k2 hb))) | (gi_at_call 7; (with_reducible refine k2.out.mono ?_); rintro e W2 ⟨rfl, u3⟩; (replace u3 := Lib.hid u3)) | refine (⟨trivial, ?_⟩ : Fence.wide.fn _ ∧ _))
        go_ret
        exact ⟨rfl, u3.out⟩
      · have d1 : idle < 0 := by omega
        gi_wp2_with (first | refine (⟨trivial, rfl, ?_⟩ : Fence.wide.fn _ ∧ Fence.wide.depth = none ∧ _) | (gi_at_call 8; (with_reducible refine k1.out.mono ?_); rintro e W1 ⟨rfl, _, k2, _⟩; (replace k2 := Lib.hid (k2 hb))) | (gi_at_call 7; (with_reducible refine k2.out.mono ?_); rintro e W2 ⟨rfl, u3⟩; (replace u3 := Lib.hid u3)) | refine (⟨trivial, ?_⟩ : Fence.wide.fn _ ∧ _))
        go_ret
        exact ⟨rfl, u3.out⟩
  · have hl' : 60 < acts.length := by omega
    gi_wp2_with (first | refine (⟨trivial, rfl, ?_⟩ : Fence.wide.fn _ ∧ Fence.wide.depth = none ∧ _) | (gi_at_call 8; (with_reducible refine k1.out.mono ?_); rintro e W1 ⟨rfl, k2, _, _⟩; (replace k2 := Lib.hid k2)) | (gi_at_call 8; (with_reducible refine k2.out.mono ?_); rintro e W2 ⟨rfl, u3⟩; (replace u3 := Lib.hid u3)) | refine (⟨trivial, ?_⟩ : Fence.wide.fn _ ∧ _))
    go_ret
    exact ⟨rfl, u3.out⟩
end Go.Proofs.Ytpljdckppmobeaa

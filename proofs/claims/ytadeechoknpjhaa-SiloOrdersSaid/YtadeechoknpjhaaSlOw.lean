/- SiloOrders: the walk of the law. -/
import Derived.Test.YtadeechoknpjhaaProg
import Derived.Test.YtadeechoknpjhaaBase
import Derived.Test.YtadeechoknpjhaaLoops
import Derived.Test.YtadeechoknpjhaaSlOb
import Derived.Test.YtadeechoknpjhaaSlOc
import Derived.Test.YtadeechoknpjhaaSlW
set_option linter.unusedSimpArgs false
set_option linter.unusedVariables false
namespace Go.Proofs.Ytadeechoknpjhaa
open Go.RowKit Go.Shelf
attribute [local go_sem] Oper.semAt_some

set_option maxRecDepth 100000 in
set_option maxHeartbeats 8000000 in
theorem siloOrders_w {n : Nat} {acts : List Act20} {A : Option Addr} {cap turn : Nat} {W : World} (hr : Reads1 W A (flatA acts)) (hl : acts.length ≤ maxLen) (ht : turn < 256) :
    CallsIn Fence.wide n Try.prog 4 #[.slice A acts.length cap, .int .u8 turn] W fun e W2 => e = .returned (.bool true) ∧ Upd (fun _ => False) W W2 := by
  have hrW := Lib.hid fun V (u : Upd (fun _ => False) W V) => hr.agree' (w' := V) (u.agree fun j hj => ⟨hr.lt' j hj, id⟩)
  have kFew := Lib.hid fun V (u : Upd (fun _ => False) W V) => few20_c (n := 0) (cap := cap) (hrW.out V u) hl
  have kAw := Lib.hid fun V => awake20_c (n := 0) (W := V)
  clear hr
  have k1 := (siloNew_c (n := 0) (W := W)).mono (R' := fun e W1 => ∃ sa, e = .returned (.pointer (some ⟨sa, 0, none⟩)) ∧ CallsIn Fence.wide 0 Try.prog 8 #[] W1 fun e W2 => ∃ sb, e = .returned (.pointer (some ⟨sb, 0, none⟩)) ∧
      CallsIn Fence.wide 0 Try.prog 9 #[] W2 (fun e W3 => e = .returned (.bool true) ∧ Upd (fun _ => False) W W3 ∧ ∃ F G, OrdI sa sb [] (.slice none 0 0) F G W W3)) (by
    rintro e W1 ⟨sa, F, rfl, g1, g2, g3⟩
    refine ⟨sa, rfl, (siloNew_c (n := 0) (W := W1)).mono ?_⟩
    rintro e W2 ⟨sb, G, rfl, f1, f2, f3⟩
    refine ⟨sb, rfl, (awake20_c (n := 0)).mono ?_⟩
    rintro e W3 ⟨rfl, u3⟩
    have z1 := g3.size
    have u13 := (g3.trans' f3).trans' u3
    exact ⟨rfl, u13, F, G, g1.upd (f3.trans' u3) fun _ _ => id, f1.upd u3 fun _ _ => id, World.ownsRow_nil _ _ _ 15, fun j hj hG => by have := g1.lt j hj; have := f2 j hG; omega, fun j hj => by simp [Value.ownBlock] at hj, g2, fun j hj => by have := f2 j hj; omega, u13⟩)
  replace k1 := Lib.hid k1
  unfold maxLen at hl
  refine callsIn_any (n := 0) (callsIn_of_wp Try.func4 rfl trivial ?_)
  simp only [Try.ntmps4, List.size_toArray, List.length_cons, List.length_nil, Nat.reduceAdd, Nat.reduceSub, Array.replicate_succ, Array.replicate_zero, List.push_toArray, List.append_toArray, List.nil_append, List.cons_append]
  gi_wp2_with (first | refine (⟨trivial, rfl, ?_⟩ : Fence.wide.fn _ ∧ Fence.wide.depth = none ∧ _) | (gi_at_call 8; (with_reducible refine k1.out.mono ?_); rintro e W1 ⟨sa, rfl, k2⟩; (replace k2 := Lib.hid k2)) | (gi_at_call 8; (with_reducible refine k2.out.mono ?_); rintro e W2 ⟨sb, rfl, k3⟩; (replace k3 := Lib.hid k3)) | (gi_at_call 9; (with_reducible refine k3.out.mono ?_); rintro e W3 ⟨rfl, hu, h0⟩; (replace h0 := Lib.hid h0)) | ((gi_at_call 10); (refine (kFew.out _ hu).mono ?_); rintro e W4 ⟨b, rfl, hb, u4⟩; (replace hu := hu.trans' u4); (replace hb := Lib.hid hb); cases b) | (gi_at_call 9; (with_reducible refine (kAw.out _).mono ?_); rintro e W5 ⟨rfl, u5⟩; (replace hu := hu.trans' u5)) | refine (⟨trivial, ?_⟩ : Fence.wide.fn _ ∧ _))
  · go_ret
    exact ⟨rfl, hu⟩
  · obtain ⟨hlen, -⟩ := hb.out (by trivial)
    have hI0 : ∃ F G, OrdI sa sb [] (.slice none 0 0) F G W W4 := by
      obtain ⟨F, G, h⟩ := h0.out
      exact ⟨F, G, h.upd u4⟩
    clear hb hu h0 k1 k2 k3 u4 kFew kAw
    refine ord_own hrW.out hlen hI0 ?_
    rintro d9 d10 d12 d37 d38 d39 d40 d41 d42 d43 d44 d45 d46 d47 d48 d49 d50 d51 d52 d53 d54 d55 d56 d57 d58 d59 d60 d61 d62 d63 d64 d65 d66 d67 d68 d69 d70 d71 d72 v9 V1 ⟨own, F, G, hok, hUn, hI⟩
    obtain ⟨A3, cap3, rfl⟩ := own_shape hI.row
    have hK0 := Lib.hid (hI.toS (t := turn))
    have hol : own.length ≤ 100 := by omega
    replace hUn := Lib.hid hUn
    clear hI hI0 hrW
    gi_wp2
    refine ord_puts hK0.out hol ht ?_
    rintro e13 e14 e75 e76 e77 e78 e79 e80 e81 e82 e83 e84 e85 e86 e87 e88 e89 e90 e91 e92 e93 e94 e95 e96 e97 e98 e99 e100 e101 e102 e103 e104 V2 hK
    have k3 := Lib.hid (ord_end hK hUn.out hol)
    clear hK hK0
    gi_wp2_with (first | refine (⟨trivial, rfl, ?_⟩ : Fence.wide.fn _ ∧ Fence.wide.depth = none ∧ _) | (gi_at_call 17; (with_reducible refine k3.out.mono ?_); rintro e W4 ⟨s4, rfl, k4⟩; (replace k4 := Lib.hid k4)) | (gi_at_call 16; (with_reducible refine k4.out.mono ?_); rintro e W5 ⟨f, m, A1, c1, rfl, k5⟩; (replace k5 := Lib.hid k5)) | (gi_at_call 17; (with_reducible refine (k5.out _ (Upd.refl _ _)).mono ?_); rintro e W6 ⟨s6, rfl, k6⟩; (replace k6 := Lib.hid k6)) | (gi_at_call 16; (with_reducible refine k6.out.mono ?_); rintro e W7 ⟨A2, c2, rfl, u7, k7⟩; (replace k7 := Lib.hid k7); (clear u7)) | (gi_at_call 18; (with_reducible refine (k7.out _ ((Upd.alloc _ _ _).stepAlloc _)).mono ?_); rintro e W8 ⟨rfl, u8, uF⟩; (have m0 : W8.cell? ⟨W7.heap.size, 0, none⟩ = some (.int .i64 f) := (((Blk.new W7 #[.int .i64 f, .slice A1 m c1] 33).alloc _).upd u8 id).cell 0); (have m1 : W8.cell? ⟨W7.heap.size + 1, 0, none⟩ = some (.int .i64 f) := ((Blk.new' (w := W7.alloc (.cells #[.int .i64 f, .slice A1 m c1] 33)) (b := W7.heap.size + 1) (cs := #[.int .i64 f, .slice A2 m c2]) (t := 33) (by simp)).upd u8 id).cell 0)) | refine (⟨trivial, ?_⟩ : Fence.wide.fn _ ∧ _))
    go_ret
    exact ⟨rfl, uF⟩
end Go.Proofs.Ytadeechoknpjhaa

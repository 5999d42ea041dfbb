/- SiloAlone: the puts. -/
import Derived.Test.YtadeechoknpjhaaProg
import Derived.Test.YtadeechoknpjhaaBase
import Derived.Test.YtadeechoknpjhaaLoops
import Derived.Test.YtadeechoknpjhaaSlAl
import Derived.Test.YtadeechoknpjhaaSlT
set_option linter.unusedSimpArgs false
set_option linter.unusedVariables false
namespace Go.Proofs.Ytadeechoknpjhaa
open Go.RowKit Go.Shelf
attribute [local go_sem] Oper.semAt_some

theorem time_c {n : Nat} {W : World} {x : Int} : CallsIn Fence.wide n Try.prog 20 #[.int .i64 x] W fun e W2 => e = .returned (.bool (decide (0 ≤ x ∧ x ≤ mxE))) ∧ W2 = W := by
  refine callsIn_any (n := 0) (callsIn_of_wp Try.func20 rfl trivial ?_)
  simp only [Try.ntmps20, List.size_toArray, List.length_cons, List.length_nil, Nat.reduceAdd, Nat.reduceSub, Array.replicate_succ, Array.replicate_zero, List.push_toArray, List.append_toArray, List.nil_append, List.cons_append]
  by_cases h1 : 0 ≤ x <;> by_cases h2 : x ≤ 1099511627776
  all_goals
    gi_wp2_with (first | refine (⟨trivial, rfl, ?_⟩ : Fence.wide.fn _ ∧ Fence.wide.depth = none ∧ _) | refine (⟨trivial, ?_⟩ : Fence.wide.fn _ ∧ _))
    go_ret
    exact ⟨by simp [h1, h2, mxE], rfl⟩
section
variable {sb : Nat} {f : Int} {vs : List VCE} {F : Nat → Prop} {V : World} {v : VCE}
theorem one_put (h : SiloV sb f vs F V) (ht : timeL vs) (hl : vs.length ≤ 50000) (hv : 0 ≤ v.st ∧ v.st ≤ mxE) : CallsIn Fence.wide 0 Try.prog 11 #[.pointer (some ⟨sb, 0, none⟩), .int .i64 v.ep, .agg #[.string (v).key, .string (v).pol, .int .i64 (v).kd, .int .i64 (v).st, .int .i64 (v).rev, .bool (v).fin, .int .i64 (v).rk, .int .i64 (v).cnt, .int .i64 (v).sum, .int .i64 (v).mn, .int .i64 (v).mx, .int .i64 (v).q0, .int .i64 (v).q1, .int .i64 (v).q2, .bool (v).over]] V fun e W2 => ∃ c, e = .returned (.int .i64 c) ∧
    ∃ f' vs' F', SiloV sb f' vs' F' W2 ∧ timeL vs' ∧ vs'.length ≤ vs.length + 1 ∧ (∀ j, F' j → F j ∨ V.heap.size ≤ j) ∧ Upd F V W2 := by
  have hri := h.rise
  by_cases hc : codeP f (vs.map prE) v.ep v = 0
  · refine (siloPutYes_c h (by simp; omega) hc).mono ?_
    rintro e W2 ⟨rfl, F', p1, p2, p3⟩
    rw [putV_pr hri] at p1
    exact ⟨_, rfl, _, _, F', p1, timeL_put ht hv, putV_len hri, p2, p3⟩
  · refine (siloPutNo_c h hc).mono ?_
    rintro e W2 ⟨rfl, u⟩
    exact ⟨_, rfl, _, _, F, h.upd u fun _ _ => id, ht, by omega, fun j hj => .inl hj, u.mono fun _ _ h => h.elim⟩
end
noncomputable def alo_putsBody : Code := (((Try.f6.body.map allLoops).getD []).drop 0).headD .skip
set_option maxRecDepth 1000000 in
set_option maxHeartbeats 16000000 in
theorem alo_puts {acts : List Act20} {A : Option Addr} {cap sb : Nat} {F0 : Nat → Prop} {W V : World} {Q : Exit → Act → World → Prop} {c0 c1 c2 c3 c4 c5 c6 c8 c9 c10 c11 c12 c13 c14 c15 c16 c17 c18 c19 c20 c21 c22 c23 c24 c25 c26 c27 c28 c29 c30 c34 c35 c36 c37 c38 c39 c40 c41 c42 c43 c44 c45 c46 c47 c48 c49 c50 c51 c52 c53 c54 c55 c56 c57 c58 c59 c60 c61 c62 c63 c64 c65 c66 c67 c68 c69 c70 c71 c72 c73 c74 c75 c76 c77 c78 c79 c80 c81 c82 c83 c84 c85 c86 c87 c88 c89 c90 c91 c92 c93 c94 c95 c96 c97 c98 c99 c100 c101 c102 c103 c104 c105 c106 c107 c108 c109 c110 c111 c112 c113 c114 c115 c116 c117 c118 c119 c120 c121 c122 c123 c124 c125 c126 c127 c128 c129 c130 c131 c132 c133 c134 c135 c136 c137 c138 c139 c140 c141 c142 c143 c144 c145 c146 c147 c148 : Value} (hrW : ∀ V, Upd (fun _ => False) W V → Reads1 V A (flatA acts)) (hlen : acts.length ≤ 100) (hsi0 : SiloV sb 0 [] F0 V) (hF0' : ∀ j, F0 j → W.heap.size ≤ j) (hu0 : Upd (fun _ => False) W V)
    (hF : ∀ (d9 d33 d34 d35 d36 d37 d38 d39 d40 d41 d42 d43 d44 d45 d46 d47 d48 d49 d50 d51 d52 d53 : Value) w', (∃ (vs : List VCE) (f : Int) (F : Nat → Prop), vs.length ≤ acts.length ∧ SiloV sb f vs F w' ∧ timeL vs ∧ (∀ b, F b → W.heap.size ≤ b) ∧ Upd (fun _ => False) W w') → Q (.exit 0) ⟨#[c0, c1, c2, c3, c4, c5, c6, .pointer (some ⟨sb, 0, none⟩), c8, d9, c10, c11, c12, c13, c14, c15, c16, c17, c18, c19, c20, c21, c22, c23, c24, c25, c26, c27, c28, c29, c30, .slice A acts.length cap, .int .i64 acts.length, d33, d34, d35, d36, d37, d38, d39, d40, d41, d42, d43, d44, d45, d46, d47, d48, d49, d50, d51, d52, d53, c54, c55, c56, c57, c58, c59, c60, c61, c62, c63, c64, c65, c66, c67, c68, c69, c70, c71, c72, c73, c74, c75, c76, c77, c78, c79, c80, c81, c82, c83, c84, c85, c86, c87, c88, c89, c90, c91, c92, c93, c94, c95, c96, c97, c98, c99, c100, c101, c102, c103, c104, c105, c106, c107, c108, c109, c110, c111, c112, c113, c114, c115, c116, c117, c118, c119, c120, c121, c122, c123, c124, c125, c126, c127, c128, c129, c130, c131, c132, c133, c134, c135, c136, c137, c138, c139, c140, c141, c142, c143, c144, c145, c146, c147, c148], []⟩ w') :
    Code.wpIn Fence.wide 0 Try.prog (.loop alo_putsBody) Q ⟨#[c0, c1, c2, c3, c4, c5, c6, .pointer (some ⟨sb, 0, none⟩), c8, c9, c10, c11, c12, c13, c14, c15, c16, c17, c18, c19, c20, c21, c22, c23, c24, c25, c26, c27, c28, c29, c30, .slice A acts.length cap, .int .i64 acts.length, .int .i64 0, c34, c35, c36, c37, c38, c39, c40, c41, c42, c43, c44, c45, c46, c47, c48, c49, c50, c51, c52, c53, c54, c55, c56, c57, c58, c59, c60, c61, c62, c63, c64, c65, c66, c67, c68, c69, c70, c71, c72, c73, c74, c75, c76, c77, c78, c79, c80, c81, c82, c83, c84, c85, c86, c87, c88, c89, c90, c91, c92, c93, c94, c95, c96, c97, c98, c99, c100, c101, c102, c103, c104, c105, c106, c107, c108, c109, c110, c111, c112, c113, c114, c115, c116, c117, c118, c119, c120, c121, c122, c123, c124, c125, c126, c127, c128, c129, c130, c131, c132, c133, c134, c135, c136, c137, c138, c139, c140, c141, c142, c143, c144, c145, c146, c147, c148], []⟩ V := by
  dsimp only at hF
  dsimp only
  conv => arg 4; arg 1; whnf
  replace hrW := Lib.hid hrW
  replace hF := Lib.hid hF
  gi_loopw [33] (fun i wr => ∃ (j : Nat) (vs : List VCE) (f : Int) (F : Nat → Prop), i = .int .i64 j ∧ j ≤ acts.length ∧ vs.length ≤ j ∧ SiloV sb f vs F wr ∧ timeL vs ∧ (∀ b, F b → W.heap.size ≤ b) ∧ Upd (fun _ => False) W wr) (fun i _ => acts.length - (intOf i).toNat)
  case atStart => exact ⟨0, [], 0, F0, rfl, Nat.zero_le _, Nat.le_refl _, hsi0, fun y hy => by simp at hy, hF0', hu0⟩
  case round =>
    clear hsi0 hF0' hu0
    obtain ⟨j, vs, f, F, rfl, hj, hvl, hI, hT, hFb, hu⟩ := hrel
    by_cases hlt : j < acts.length
    · obtain ⟨g, o, rfl, hat⟩ := atA_at (hrW.out _ hu) hlt
      have hw5 : IntKind.i64.wrap ((j : Int) + 1) = (j : Int) + 1 := Go.IntWalk.i64_in _ ⟨by omega, by omega⟩
      generalize acts[j] = a at *
      obtain ⟨kd, v⟩ := a
      have ua := Upd.alloc (fun _ => False) wr (.cells #[.int .i64 kd, .int .i64 (v).ep, .string (v).key, .string (v).pol, .int .i64 (v).kd, .int .i64 (v).st, .int .i64 (v).rev, .bool (v).fin, .int .i64 (v).rk, .int .i64 (v).cnt, .int .i64 (v).sum, .int .i64 (v).mn, .int .i64 (v).mx, .int .i64 (v).q0, .int .i64 (v).q1, .int .i64 (v).q2, .bool (v).over] 40)
      have hst := hI.upd ua fun _ _ => id
      have huA := hu.trans' ua
      obtain ⟨c0, w0, w1, w2, w3, w4, w5, w6, w7, w8, w9, w10, w11, w12, w13, w14, w15⟩ := hat
      have kT := Lib.hid fun V => time_c (n := 0) (x := v.st) (W := V)
      have hkeep := Lib.hid (show ∃ (vs' : List VCE) (f' : Int) (F' : Nat → Prop), vs'.length ≤ j + 1 ∧ SiloV sb f' vs' F' (wr.alloc (.cells #[.int .i64 kd, .int .i64 (v).ep, .string (v).key, .string (v).pol, .int .i64 (v).kd, .int .i64 (v).st, .int .i64 (v).rev, .bool (v).fin, .int .i64 (v).rk, .int .i64 (v).cnt, .int .i64 (v).sum, .int .i64 (v).mn, .int .i64 (v).mx, .int .i64 (v).q0, .int .i64 (v).q1, .int .i64 (v).q2, .bool (v).over] 40)) ∧ timeL vs' ∧ (∀ b, F' b → W.heap.size ≤ b) ∧ Upd (fun _ => False) W (wr.alloc (.cells #[.int .i64 kd, .int .i64 (v).ep, .string (v).key, .string (v).pol, .int .i64 (v).kd, .int .i64 (v).st, .int .i64 (v).rev, .bool (v).fin, .int .i64 (v).rk, .int .i64 (v).cnt, .int .i64 (v).sum, .int .i64 (v).mn, .int .i64 (v).mx, .int .i64 (v).q0, .int .i64 (v).q1, .int .i64 (v).q2, .bool (v).over] 40)) from ⟨vs, f, F, by omega, hst, hT, hFb, huA⟩)
      by_cases hk1 : kd = 1
      · subst hk1
        by_cases hv : 0 ≤ v.st ∧ v.st ≤ mxE
        · simp only [decide_eq_true hv] at kT
          have kP := Lib.hid ((one_put hst hT (by omega) hv).mono (R' := fun e W2 => ∃ c, e = .returned (.int .i64 c) ∧ ∃ (vs' : List VCE) (f' : Int) (F' : Nat → Prop), vs'.length ≤ j + 1 ∧ SiloV sb f' vs' F' W2 ∧ timeL vs' ∧ (∀ b, F' b → W.heap.size ≤ b) ∧ Upd (fun _ => False) W W2) (by
            rintro e W2 ⟨c, rfl, f', vs', F', p1, p2, p3, p4, p5⟩
            have hz := huA.size
            exact ⟨c, rfl, vs', f', F', by omega, p1, p2, fun b hb => (p4 b hb).elim (hFb b) fun h => by omega, huA.trans p5 fun k hk => .inr (hFb k hk)⟩))
          clear hI hT hFb hu ua hst huA hkeep hv
          as_aux_lemma =>
            gi_wp2_with (first | refine (⟨trivial, rfl, ?_⟩ : Fence.wide.fn _ ∧ Fence.wide.depth = none ∧ _) | (gi_at_call 20; (with_reducible refine (kT.out _).mono ?_); rintro e W1 ⟨rfl, hW1⟩; (replace hW1 := hW1.symm); (subst hW1)) | (gi_at_call 11; (with_reducible refine kP.out.mono ?_); rintro e W2 ⟨c, rfl, fin⟩; (replace fin := Lib.hid fin)) | refine (⟨trivial, ?_⟩ : Fence.wide.fn _ ∧ _))
            obtain ⟨vs', f', F', p1, p2, p3, p4, p5⟩ := fin.out
            exact ⟨⟨j + 1, vs', f', F', by go_num, by omega, by omega, p2, p3, p4, p5⟩, by show acts.length - ((j : Int) + 1).toNat < acts.length - (j : Int).toNat; omega⟩
        · simp only [decide_eq_false hv] at kT
          clear hI hT hFb hu ua hst huA hv
          as_aux_lemma =>
            gi_wp2_with (first | refine (⟨trivial, rfl, ?_⟩ : Fence.wide.fn _ ∧ Fence.wide.depth = none ∧ _) | (gi_at_call 20; (with_reducible refine (kT.out _).mono ?_); rintro e W1 ⟨rfl, hW1⟩; (replace hW1 := hW1.symm); (subst hW1)) | refine (⟨trivial, ?_⟩ : Fence.wide.fn _ ∧ _))
            obtain ⟨vs', f', F', p1, p2, p3, p4, p5⟩ := hkeep.out
            exact ⟨⟨j + 1, vs', f', F', by go_num, by omega, by omega, p2, p3, p4, p5⟩, by show acts.length - ((j : Int) + 1).toNat < acts.length - (j : Int).toNat; omega⟩
      · have hkb : (kd == 1) = false := by simpa using hk1
        clear hI hT hFb hu ua hst huA hk1
        as_aux_lemma =>
          gi_wp2_with (first | refine (⟨trivial, rfl, ?_⟩ : Fence.wide.fn _ ∧ Fence.wide.depth = none ∧ _) | refine (⟨trivial, ?_⟩ : Fence.wide.fn _ ∧ _))
          obtain ⟨vs', f', F', p1, p2, p3, p4, p5⟩ := hkeep.out
          exact ⟨⟨j + 1, vs', f', F', by go_num, by omega, by omega, p2, p3, p4, p5⟩, by show acts.length - ((j : Int) + 1).toNat < acts.length - (j : Int).toNat; omega⟩
    · obtain rfl : j = acts.length := by omega
      gi_wp2
      exact hF.out _ _ _ _ _ _ _ _ _ _ _ _ _ _ _ _ _ _ _ _ _ _ _ ⟨vs, f, F, hvl, hI, hT, hFb, hu⟩
end Go.Proofs.Ytadeechoknpjhaa

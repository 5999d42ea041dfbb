/- SiloAlone: those of the key. -/
import Derived.Test.YtadeechoknpjhaaProg
import Derived.Test.YtadeechoknpjhaaBase
import Derived.Test.YtadeechoknpjhaaLoops
import Derived.Test.YtadeechoknpjhaaSlAm
set_option linter.unusedSimpArgs false
set_option linter.unusedVariables false
namespace Go.Proofs.Ytadeechoknpjhaa
open Go.RowKit Go.Shelf
attribute [local go_sem] Oper.semAt_some

noncomputable def alo_keyBody : Code := (((Try.f6.body.map allLoops).getD []).drop 1).headD .skip
set_option maxRecDepth 1000000 in
set_option maxHeartbeats 16000000 in
theorem alo_key {vs : List VCE} {A2 : Option Addr} {kc cb : Nat} {c : VCE} {V : World} {Q : Exit → Act → World → Prop} {c0 c1 c2 c3 c4 c5 c6 c7 c8 c9 c10 c13 c14 c15 c16 c17 c18 c19 c20 c21 c22 c23 c24 c25 c26 c27 c28 c29 c30 c31 c32 c33 c34 c35 c36 c37 c38 c39 c40 c41 c42 c43 c44 c45 c46 c47 c48 c49 c50 c51 c52 c53 c54 c55 c56 c57 c58 c59 c60 c61 c62 c63 c64 c65 c66 c67 c68 c69 c70 c74 c75 c76 c77 c78 c79 c80 c81 c82 c83 c84 c85 c86 c87 c88 c89 c90 c91 c92 c93 c94 c95 c96 c97 c98 c99 c100 c101 c102 c103 c104 c105 c106 c107 c108 c109 c110 c111 c112 c113 c114 c115 c116 c117 c118 c119 c120 c121 c122 c123 c124 c125 c126 c127 c128 c129 c130 c131 c132 c133 c134 c135 c136 c137 c138 c139 c140 c141 c142 c143 c144 c145 c146 c147 c148 : Value} (hr6 : ∀ V', Upd (fun _ => False) V V' → Reads1 V' A2 (flatE vs)) (bC : Blk V cb #[.string (c).key, .string (c).pol, .int .i64 (c).kd, .int .i64 (c).st] 24) (hvl : vs.length ≤ 100000)
    (hF : ∀ (d15 d73 d74 d75 d76 d77 d78 d79 d80 d81 d82 d83 d84 d85 d86 d87 d88 d89 d90 d91 d92 d93 d94 d95 d96 d97 d98 d99 d100 d101 d102 d103 d104 d105 d106 : Value) (v9 : Value) w', (w'.ownsRow V.heap.size 61 16 v9 (keyL c vs).length (flatE (keyL c vs)) ∧ Upd (fun _ => False) V w') → Q (.exit 2) ⟨#[c0, c1, c2, c3, c4, c5, c6, c7, c8, c9, c10, .pointer (some ⟨cb, 0, none⟩), v9, c13, c14, d15, c16, c17, c18, c19, c20, c21, c22, c23, c24, c25, c26, c27, c28, c29, c30, c31, c32, c33, c34, c35, c36, c37, c38, c39, c40, c41, c42, c43, c44, c45, c46, c47, c48, c49, c50, c51, c52, c53, c54, c55, c56, c57, c58, c59, c60, c61, c62, c63, c64, c65, c66, c67, c68, c69, c70, .slice A2 vs.length kc, .int .i64 vs.length, d73, d74, d75, d76, d77, d78, d79, d80, d81, d82, d83, d84, d85, d86, d87, d88, d89, d90, d91, d92, d93, d94, d95, d96, d97, d98, d99, d100, d101, d102, d103, d104, d105, d106, c107, c108, c109, c110, c111, c112, c113, c114, c115, c116, c117, c118, c119, c120, c121, c122, c123, c124, c125, c126, c127, c128, c129, c130, c131, c132, c133, c134, c135, c136, c137, c138, c139, c140, c141, c142, c143, c144, c145, c146, c147, c148], []⟩ w') :
    Code.wpIn Fence.wide 0 Try.prog (.loop alo_keyBody) Q ⟨#[c0, c1, c2, c3, c4, c5, c6, c7, c8, c9, c10, .pointer (some ⟨cb, 0, none⟩), .slice none 0 0, c13, c14, c15, c16, c17, c18, c19, c20, c21, c22, c23, c24, c25, c26, c27, c28, c29, c30, c31, c32, c33, c34, c35, c36, c37, c38, c39, c40, c41, c42, c43, c44, c45, c46, c47, c48, c49, c50, c51, c52, c53, c54, c55, c56, c57, c58, c59, c60, c61, c62, c63, c64, c65, c66, c67, c68, c69, c70, .slice A2 vs.length kc, .int .i64 vs.length, .int .i64 0, c74, c75, c76, c77, c78, c79, c80, c81, c82, c83, c84, c85, c86, c87, c88, c89, c90, c91, c92, c93, c94, c95, c96, c97, c98, c99, c100, c101, c102, c103, c104, c105, c106, c107, c108, c109, c110, c111, c112, c113, c114, c115, c116, c117, c118, c119, c120, c121, c122, c123, c124, c125, c126, c127, c128, c129, c130, c131, c132, c133, c134, c135, c136, c137, c138, c139, c140, c141, c142, c143, c144, c145, c146, c147, c148], []⟩ V := by
  dsimp only at hF
  dsimp only
  conv => arg 4; arg 1; whnf
  have hc6 := Lib.hid fun V' (u : Upd (fun _ => False) V V') => show V'.cell? ⟨cb, 0, none⟩ = some (.string c.key) ∧ V'.cell? ⟨cb, 1, none⟩ = some (.string c.pol) ∧ V'.cell? ⟨cb, 2, none⟩ = some (.int .i64 c.kd) from ⟨(bC.upd u id).cell 0, (bC.upd u id).cell 1, (bC.upd u id).cell 2⟩
  replace hr6 := Lib.hid hr6
  replace hF := Lib.hid hF
  clear bC
  gi_loopw [73, 12] (fun i v wr => ∃ k : Nat, i = .int .i64 k ∧ k ≤ vs.length ∧ wr.ownsRow V.heap.size 61 16 v (keyL c (vs.take k)).length (flatE (keyL c (vs.take k))) ∧ Upd (fun _ => False) V wr) (fun i _ _ => vs.length - (intOf i).toNat)
  case atStart => exact ⟨0, rfl, Nat.zero_le _, World.ownsRow_nil _ _ _ 16, Upd.refl _ _⟩
  case round =>
    obtain ⟨k, rfl, hk, hO, hu⟩ := hrel
    by_cases hlt : k < vs.length
    · obtain ⟨g', o', rfl, hat⟩ := atE_at (hr6.out _ hu) hlt
      have hw5 : IntKind.i64.wrap ((k : Int) + 1) = (k : Int) + 1 := Go.IntWalk.i64_in _ ⟨by omega, by omega⟩
      have htk := keyL_take (c := c) hlt
      obtain ⟨s, hs⟩ : ∃ s, keyL c (vs.take k) = s := ⟨_, rfl⟩
      have hsl : s.length ≤ 100000 := by
        rw [← hs]
        have h1 := keyL_len c (vs.take k)
        rw [List.length_take] at h1
        omega
      rw [hs] at hO htk
      clear hs
      obtain ⟨x, hx⟩ : ∃ x, vs[k] = x := ⟨_, rfl⟩
      rw [hx] at hat htk
      clear hx
      have ua := Upd.alloc (fun _ => False) wr (.cells #[.int .i64 (x).ep, .string (x).key, .string (x).pol, .int .i64 (x).kd, .int .i64 (x).st, .int .i64 (x).rev, .bool (x).fin, .int .i64 (x).rk, .int .i64 (x).cnt, .int .i64 (x).sum, .int .i64 (x).mn, .int .i64 (x).mx, .int .i64 (x).q0, .int .i64 (x).q1, .int .i64 (x).q2, .bool (x).over] 61)
      obtain ⟨A3, cap3, rfl⟩ := own_shape hO
      have hO' := own_agree hO (w' := wr.alloc (.cells #[.int .i64 (x).ep, .string (x).key, .string (x).pol, .int .i64 (x).kd, .int .i64 (x).st, .int .i64 (x).rev, .bool (x).fin, .int .i64 (x).rk, .int .i64 (x).cnt, .int .i64 (x).sum, .int .i64 (x).mn, .int .i64 (x).mx, .int .i64 (x).q0, .int .i64 (x).q1, .int .i64 (x).q2, .bool (x).over] 61)) (ua.agree fun j hj => ⟨(hO.lt j hj).2, id⟩)
      have huA := hu.trans' ua
      have hz := huA.size
      obtain ⟨m0, m1, m2⟩ := hc6.out _ huA
      obtain ⟨w0, w1, w2, w3, w4, w5, w6, w7, w8, w9, w10, w11, w12, w13, w14, w15⟩ := hat
      clear hO hu ua
      by_cases hcc : fitK c x
      · rw [if_pos hcc] at htk
        have fin : ∀ g' cap' w', w'.ownsRow V.heap.size 61 16 (.slice (some ⟨g', 0, none⟩) (s.length + 1) cap') (s.length + 1) (flatE s ++ cellsE x) → Upd (fun j => (Value.slice A3 s.length cap3).ownBlock = some j) (wr.alloc (.cells #[.int .i64 (x).ep, .string (x).key, .string (x).pol, .int .i64 (x).kd, .int .i64 (x).st, .int .i64 (x).rev, .bool (x).fin, .int .i64 (x).rk, .int .i64 (x).cnt, .int .i64 (x).sum, .int .i64 (x).mn, .int .i64 (x).mx, .int .i64 (x).q0, .int .i64 (x).q1, .int .i64 (x).q2, .bool (x).over] 61)) w' →
            w'.ownsRow V.heap.size 61 16 (.slice (some ⟨g', 0, none⟩) (s.length + 1) cap') (keyL c (vs.take (k + 1))).length (flatE (keyL c (vs.take (k + 1)))) ∧ Upd (fun _ => False) V w' := by
          intro g' cap' w' h1 h2
          have hge : ∀ j, (Value.slice A3 s.length cap3).ownBlock = some j → V.heap.size ≤ j := fun j hj => own_ge hO' j hj
          refine ⟨?_, huA.trans h2 fun j hj => .inr (by have := hge j hj; omega)⟩
          rw [htk, flatE_append, List.length_append]
          have e1 : flatE [x] = cellsE x := by simp [flatE]
          rw [e1]
          exact h1
        replace fin := Lib.hid fin
        obtain ⟨d1, d2, d3⟩ := hcc
        have t1 : (x.key.toList == c.key.toList) = true := by rw [d1]; simp
        have t2 : (x.pol.toList == c.pol.toList) = true := by rw [d2]; simp
        have t3 : (x.kd == c.kd) = true := by rw [d3]; simp
        clear htk d1 d2 d3 huA
        gi_wp2_with (first | ((with_reducible refine app16 (y := x) Try.underlying31 infoE zE (by omega) hO' ?_ ?_ ?_ ?_ ?_); exact hz; omega; rfl; (rw [World.size_alloc]; rfl); intro g' cap' w' h1 h2 h3 h4; have kk := Lib.hid (fin.out g' cap' w' h1 h2); clear h1 h2 h3 h4))
        obtain ⟨p1, p2⟩ := kk.out
        exact ⟨⟨k + 1, by go_num, by omega, p1, p2⟩, by show vs.length - ((k : Int) + 1).toNat < vs.length - (k : Int).toNat; omega⟩
      · rw [if_neg hcc] at htk
        have fin := Lib.hid (show (wr.alloc (.cells #[.int .i64 (x).ep, .string (x).key, .string (x).pol, .int .i64 (x).kd, .int .i64 (x).st, .int .i64 (x).rev, .bool (x).fin, .int .i64 (x).rk, .int .i64 (x).cnt, .int .i64 (x).sum, .int .i64 (x).mn, .int .i64 (x).mx, .int .i64 (x).q0, .int .i64 (x).q1, .int .i64 (x).q2, .bool (x).over] 61)).ownsRow V.heap.size 61 16 (.slice A3 s.length cap3) (keyL c (vs.take (k + 1))).length (flatE (keyL c (vs.take (k + 1)))) ∧ Upd (fun _ => False) V (wr.alloc (.cells #[.int .i64 (x).ep, .string (x).key, .string (x).pol, .int .i64 (x).kd, .int .i64 (x).st, .int .i64 (x).rev, .bool (x).fin, .int .i64 (x).rk, .int .i64 (x).cnt, .int .i64 (x).sum, .int .i64 (x).mn, .int .i64 (x).mx, .int .i64 (x).q0, .int .i64 (x).q1, .int .i64 (x).q2, .bool (x).over] 61)) from ⟨by rw [htk]; exact hO', huA⟩)
        have dn : (x.key.toList == c.key.toList) = decide (x.key = c.key) := by rw [Bool.eq_iff_iff, beq_iff_eq, toList_inj, decide_eq_true_eq]
        have dm : (x.pol.toList == c.pol.toList) = decide (x.pol = c.pol) := by rw [Bool.eq_iff_iff, beq_iff_eq, toList_inj, decide_eq_true_eq]
        clear hO' htk huA
        by_cases d1 : x.key = c.key
        · rw [decide_eq_true d1] at dn
          by_cases d2 : x.pol = c.pol
          · rw [decide_eq_true d2] at dm
            have t3 : (x.kd == c.kd) = false := beq_eq_false_iff_ne.2 fun d3 => hcc ⟨d1, d2, d3⟩
            clear hcc d1 d2
            gi_wp2
            obtain ⟨p1, p2⟩ := fin.out
            exact ⟨⟨k + 1, by go_num, by omega, p1, p2⟩, by show vs.length - ((k : Int) + 1).toNat < vs.length - (k : Int).toNat; omega⟩
          · rw [decide_eq_false d2] at dm
            clear hcc d1 d2
            gi_wp2
            obtain ⟨p1, p2⟩ := fin.out
            exact ⟨⟨k + 1, by go_num, by omega, p1, p2⟩, by show vs.length - ((k : Int) + 1).toNat < vs.length - (k : Int).toNat; omega⟩
        · rw [decide_eq_false d1] at dn
          clear hcc d1 dm
          gi_wp2
          obtain ⟨p1, p2⟩ := fin.out
          exact ⟨⟨k + 1, by go_num, by omega, p1, p2⟩, by show vs.length - ((k : Int) + 1).toNat < vs.length - (k : Int).toNat; omega⟩
    · obtain rfl : k = vs.length := by omega
      rw [List.take_length] at hO
      gi_wp2
      exact hF.out _ _ _ _ _ _ _ _ _ _ _ _ _ _ _ _ _ _ _ _ _ _ _ _ _ _ _ _ _ _ _ _ _ _ _ _ _ ⟨hO, hu⟩
end Go.Proofs.Ytadeechoknpjhaa

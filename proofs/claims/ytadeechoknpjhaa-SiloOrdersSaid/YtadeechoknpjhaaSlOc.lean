/- SiloOrders: the puts. -/
import Derived.Test.YtadeechoknpjhaaProg
import Derived.Test.YtadeechoknpjhaaBase
import Derived.Test.YtadeechoknpjhaaLoops
import Derived.Test.YtadeechoknpjhaaSlOr
set_option linter.unusedSimpArgs false
set_option linter.unusedVariables false
namespace Go.Proofs.Ytadeechoknpjhaa
open Go.RowKit Go.Shelf
attribute [local go_sem] Oper.semAt_some

noncomputable def ord_putsBody : Code := (((Try.f4.body.map allLoops).getD []).drop 2).headD .skip
set_option maxRecDepth 1000000 in
set_option maxHeartbeats 16000000 in
theorem ord_puts {own : List VCE} {A3 : Option Addr} {cap3 sa sb turn : Nat} {W V : World} {Q : Exit → Act → World → Prop} {c0 c2 c3 c4 c8 c9 c10 c11 c12 c13 c14 c15 c16 c17 c18 c19 c20 c21 c22 c23 c24 c25 c26 c27 c28 c29 c30 c31 c32 c33 c34 c35 c36 c37 c38 c39 c40 c41 c42 c43 c44 c45 c46 c47 c48 c49 c50 c51 c52 c53 c54 c55 c56 c57 c58 c59 c60 c61 c62 c63 c64 c65 c66 c67 c68 c69 c70 c71 c72 c73 c76 c77 c78 c79 c80 c81 c82 c83 c84 c85 c86 c87 c88 c89 c90 c91 c92 c93 c94 c95 c96 c97 c98 c99 c100 c101 c102 c103 c104 c105 c106 c107 c108 c109 c110 c111 c112 c113 c114 c115 c116 c117 c118 c119 c120 c121 c122 : Value} (hK0 : OrdS sa sb own turn 0 0 A3 W V) (hol : own.length ≤ 100) (ht : turn < 256)
    (hF : ∀ (d13 d14 d75 d76 d77 d78 d79 d80 d81 d82 d83 d84 d85 d86 d87 d88 d89 d90 d91 d92 d93 d94 d95 d96 d97 d98 d99 d100 d101 d102 d103 d104 : Value) w', OrdS sa sb own turn own.length own.length A3 W w' → Q (.exit 4) ⟨#[c0, .int .u8 turn, c2, c3, c4, .pointer (some ⟨sa, 0, none⟩), .pointer (some ⟨sb, 0, none⟩), .slice A3 own.length cap3, c8, c9, c10, c11, c12, d13, d14, c15, c16, c17, c18, c19, c20, c21, c22, c23, c24, c25, c26, c27, c28, c29, c30, c31, c32, c33, c34, c35, c36, c37, c38, c39, c40, c41, c42, c43, c44, c45, c46, c47, c48, c49, c50, c51, c52, c53, c54, c55, c56, c57, c58, c59, c60, c61, c62, c63, c64, c65, c66, c67, c68, c69, c70, c71, c72, c73, .int .i64 own.length, d75, d76, d77, d78, d79, d80, d81, d82, d83, d84, d85, d86, d87, d88, d89, d90, d91, d92, d93, d94, d95, d96, d97, d98, d99, d100, d101, d102, d103, d104, c105, c106, c107, c108, c109, c110, c111, c112, c113, c114, c115, c116, c117, c118, c119, c120, c121, c122], []⟩ w') :
    Code.wpIn Fence.wide 0 Try.prog (.loop ord_putsBody) Q ⟨#[c0, .int .u8 turn, c2, c3, c4, .pointer (some ⟨sa, 0, none⟩), .pointer (some ⟨sb, 0, none⟩), .slice A3 own.length cap3, c8, c9, c10, c11, c12, c13, c14, c15, c16, c17, c18, c19, c20, c21, c22, c23, c24, c25, c26, c27, c28, c29, c30, c31, c32, c33, c34, c35, c36, c37, c38, c39, c40, c41, c42, c43, c44, c45, c46, c47, c48, c49, c50, c51, c52, c53, c54, c55, c56, c57, c58, c59, c60, c61, c62, c63, c64, c65, c66, c67, c68, c69, c70, c71, c72, c73, .int .i64 own.length, .int .i64 0, c76, c77, c78, c79, c80, c81, c82, c83, c84, c85, c86, c87, c88, c89, c90, c91, c92, c93, c94, c95, c96, c97, c98, c99, c100, c101, c102, c103, c104, c105, c106, c107, c108, c109, c110, c111, c112, c113, c114, c115, c116, c117, c118, c119, c120, c121, c122], []⟩ V := by
  dsimp only at hF
  dsimp only
  conv => arg 4; arg 1; whnf
  replace hK0 := Lib.hid hK0
  replace hF := Lib.hid hF
  have hwt : IntKind.i64.wrap (turn : Int) = turn := Go.IntWalk.i64_in _ ⟨by omega, by omega⟩
  gi_loopw [75] (fun u wr => ∃ i : Nat, u = .int .i64 i ∧ i ≤ own.length ∧ OrdS sa sb own turn i i A3 W wr) (fun u _ => own.length - (intOf u).toNat)
  case atStart => exact ⟨0, rfl, Nat.zero_le _, hK0.out⟩
  case round =>
    clear hK0
    obtain ⟨i, rfl, hi, hK⟩ := hrel
    by_cases hli : i < own.length
    · obtain ⟨ix, hix⟩ : ∃ ix, idxT own.length turn i = ix := ⟨_, rfl⟩
      obtain ⟨lm, hlm⟩ : ∃ lm, own.length - 1 = lm := ⟨_, rfl⟩
      obtain ⟨s1, hs1⟩ : ∃ s1, i + turn = s1 := ⟨_, rfl⟩
      obtain ⟨m1, hm1⟩ : ∃ m1, s1 % own.length = m1 := ⟨_, rfl⟩
      have hm2 : m1 < own.length := hm1 ▸ Nat.mod_lt _ (by omega)
      have hxe : lm - m1 = ix := by rw [← hix, idxT, hs1, hm1, hlm]
      have hxl : ix < own.length := by omega
      have q1 : IntKind.i64.wrap ((own.length : Int) - 1) = (lm : Int) := by rw [Go.IntWalk.i64_in _ ⟨by omega, by omega⟩]; omega
      have q2 : IntKind.i64.wrap ((i : Int) + turn) = (s1 : Int) := by rw [Go.IntWalk.i64_in _ ⟨by omega, by omega⟩]; omega
      have q3 : (s1 : Int) % (own.length : Int) = (m1 : Int) := by rw [← hm1]; exact (Int.natCast_emod _ _).symm
      have q4 : (s1 : Int).tmod (own.length : Int) = (m1 : Int) := by rw [Int.tmod_eq_emod_of_nonneg (by omega)]; exact q3
      have q5 : IntKind.i64.wrap (m1 : Int) = (m1 : Int) := Go.IntWalk.i64_in _ ⟨by omega, by omega⟩
      have q6 : IntKind.i64.wrap ((lm : Int) - m1) = (ix : Int) := by rw [Go.IntWalk.i64_in _ ⟨by omega, by omega⟩]; omega
      have q7 : ((own.length : Int) == 0) = false := beq_eq_false_iff_ne.2 (by omega)
      have q8 : ¬ (own.length : Int) = 0 := by omega
      have hw5 : IntKind.i64.wrap ((i : Int) + 1) = (i : Int) + 1 := Go.IntWalk.i64_in _ ⟨by omega, by omega⟩
      obtain ⟨g, o, rfl, hat⟩ := atM_at hK.reads hli
      have kA := Lib.hid (ord_a hK hol hli)
      have hgx : own[idxT own.length turn i]? = some own[ix] := by rw [hix]; exact List.getElem?_eq_getElem hxl
      have hRd := Lib.hid fun V (h : OrdS sa sb own turn (i + 1) i (some ⟨g, o, none⟩) W V) => show AtM V g (o + ix * 15) own[ix] from by
        obtain ⟨g3, o3, e3, hat3⟩ := atM_at h.reads hxl
        cases e3
        exact hat3
      generalize own[i] = x at *
      generalize own[ix] = y at *
      replace hgx := Lib.hid hgx
      clear hix hlm hs1 hm1 hxe hK
      obtain ⟨x0, x1, x2, x3, x4, x5, x6, x7, x8, x9, x10, x11, x12, x13, x14⟩ := hat
      gi_wp2_with (first | refine (⟨trivial, rfl, ?_⟩ : Fence.wide.fn _ ∧ Fence.wide.depth = none ∧ _) | (gi_at_call 11; (with_reducible refine kA.out.mono ?_); rintro e W2 ⟨⟨c1, rfl⟩, hA1⟩; (obtain ⟨y0, y1, y2, y3, y4, y5, y6, y7, y8, y9, y10, y11, y12, y13, y14⟩ := hRd.out _ hA1); (have hz1 := hA1.base.size); (have kB := Lib.hid (ord_bx hA1 hol hli hgx.out)); (clear hA1)) | (gi_at_call 11; (with_reducible refine kB.out.mono ?_); rintro e W3 ⟨⟨c2, rfl⟩, hB1, bX⟩; (have hX : W3.cell? ⟨W2.heap.size, 0, none⟩ = some (.string (y).key) ∧ W3.cell? ⟨W2.heap.size, 1, none⟩ = some (.string (y).pol) ∧ W3.cell? ⟨W2.heap.size, 2, none⟩ = some (.int .i64 (y).kd) ∧ W3.cell? ⟨W2.heap.size, 3, none⟩ = some (.int .i64 (y).st) ∧ W3.cell? ⟨W2.heap.size, 4, none⟩ = some (.int .i64 (y).rev) ∧ W3.cell? ⟨W2.heap.size, 5, none⟩ = some (.bool (y).fin) ∧ W3.cell? ⟨W2.heap.size, 6, none⟩ = some (.int .i64 (y).rk) ∧ W3.cell? ⟨W2.heap.size, 7, none⟩ = some (.int .i64 (y).cnt) ∧ W3.cell? ⟨W2.heap.size, 8, none⟩ = some (.int .i64 (y).sum) ∧ W3.cell? ⟨W2.heap.size, 9, none⟩ = some (.int .i64 (y).mn) ∧ W3.cell? ⟨W2.heap.size, 10, none⟩ = some (.int .i64 (y).mx) ∧ W3.cell? ⟨W2.heap.size, 11, none⟩ = some (.int .i64 (y).q0) ∧ W3.cell? ⟨W2.heap.size, 12, none⟩ = some (.int .i64 (y).q1) ∧ W3.cell? ⟨W2.heap.size, 13, none⟩ = some (.int .i64 (y).q2) ∧ W3.cell? ⟨W2.heap.size, 14, none⟩ = some (.bool (y).over) := ⟨bX.cell 0, bX.cell 1, bX.cell 2, bX.cell 3, bX.cell 4, bX.cell 5, bX.cell 6, bX.cell 7, bX.cell 8, bX.cell 9, bX.cell 10, bX.cell 11, bX.cell 12, bX.cell 13, bX.cell 14⟩); (obtain ⟨z0, z1, z2, z3, z4, z5, z6, z7, z8, z9, z10, z11, z12, z13, z14⟩ := hX); (have kC := Lib.hid (ord_b2 hB1 hgx.out)); (clear hB1 bX)) | (gi_at_call 11; (with_reducible refine kC.out.mono ?_); rintro e W4 ⟨⟨c3, rfl⟩, fin⟩; (replace fin := Lib.hid fin)) | refine (⟨trivial, ?_⟩ : Fence.wide.fn _ ∧ _))
      exact ⟨⟨i + 1, by go_num, by omega, fin.out⟩, by show own.length - ((i : Int) + 1).toNat < own.length - (i : Int).toNat; omega⟩
    · obtain rfl : i = own.length := by omega
      gi_wp2
      exact hF.out _ _ _ _ _ _ _ _ _ _ _ _ _ _ _ _ _ _ _ _ _ _ _ _ _ _ _ _ _ _ _ _ _ hK
end Go.Proofs.Ytadeechoknpjhaa

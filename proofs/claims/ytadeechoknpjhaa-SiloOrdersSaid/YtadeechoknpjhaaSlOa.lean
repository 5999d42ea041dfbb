/- SiloOrders: is an emission there already? -/
import Derived.Test.YtadeechoknpjhaaProg
import Derived.Test.YtadeechoknpjhaaBase
import Derived.Test.YtadeechoknpjhaaLoops
import Derived.Test.YtadeechoknpjhaaSlOr
set_option linter.unusedSimpArgs false
set_option linter.unusedVariables false
namespace Go.Proofs.Ytadeechoknpjhaa
open Go.RowKit Go.Shelf
attribute [local go_sem] Oper.semAt_some

noncomputable def ord_twiceBody : Code := (((Try.f4.body.map allLoops).getD []).drop 1).headD .skip
set_option maxRecDepth 1000000 in
set_option maxHeartbeats 16000000 in
theorem ord_twice {v : VCE} {own : List VCE} {kd : Int} {A3 : Option Addr} {cap3 ba : Nat} {V : World} {Q : Exit → Act → World → Prop} {c0 c1 c2 c3 c4 c5 c6 c7 c8 c11 c12 c13 c14 c15 c16 c17 c18 c19 c20 c21 c22 c23 c24 c25 c26 c27 c28 c29 c30 c31 c32 c33 c34 c35 c36 c37 c38 c39 c40 c44 c45 c46 c47 c48 c49 c50 c51 c52 c53 c54 c55 c56 c57 c58 c59 c60 c61 c62 c63 c64 c65 c66 c67 c68 c69 c70 c71 c72 c73 c74 c75 c76 c77 c78 c79 c80 c81 c82 c83 c84 c85 c86 c87 c88 c89 c90 c91 c92 c93 c94 c95 c96 c97 c98 c99 c100 c101 c102 c103 c104 c105 c106 c107 c108 c109 c110 c111 c112 c113 c114 c115 c116 c117 c118 c119 c120 c121 c122 : Value} (hrd : ∀ V', Upd (fun _ => False) V V' → Reads1 V' A3 (flatM own)) (bA : Blk V ba #[.int .i64 kd, .int .i64 (v).ep, .string (v).key, .string (v).pol, .int .i64 (v).kd, .int .i64 (v).st, .int .i64 (v).rev, .bool (v).fin, .int .i64 (v).rk, .int .i64 (v).cnt, .int .i64 (v).sum, .int .i64 (v).mn, .int .i64 (v).mx, .int .i64 (v).q0, .int .i64 (v).q1, .int .i64 (v).q2, .bool (v).over] 40) (hl : own.length ≤ 100000)
    (hF : ∀ (d12 d43 d44 d45 d46 d47 d48 d49 d50 d51 d52 d53 d54 d55 d56 d57 d58 d59 d60 d61 d62 d63 d64 : Value) w', Upd (fun _ => False) V w' → Q (.exit 2) ⟨#[c0, c1, c2, c3, c4, c5, c6, c7, c8, .pointer (some ⟨ba, 0, none⟩), .bool (tw v own), c11, d12, c13, c14, c15, c16, c17, c18, c19, c20, c21, c22, c23, c24, c25, c26, c27, c28, c29, c30, c31, c32, c33, c34, c35, c36, c37, c38, c39, c40, .slice A3 own.length cap3, .int .i64 own.length, d43, d44, d45, d46, d47, d48, d49, d50, d51, d52, d53, d54, d55, d56, d57, d58, d59, d60, d61, d62, d63, d64, c65, c66, c67, c68, c69, c70, c71, c72, c73, c74, c75, c76, c77, c78, c79, c80, c81, c82, c83, c84, c85, c86, c87, c88, c89, c90, c91, c92, c93, c94, c95, c96, c97, c98, c99, c100, c101, c102, c103, c104, c105, c106, c107, c108, c109, c110, c111, c112, c113, c114, c115, c116, c117, c118, c119, c120, c121, c122], []⟩ w') :
    Code.wpIn Fence.wide 0 Try.prog (.loop ord_twiceBody) Q ⟨#[c0, c1, c2, c3, c4, c5, c6, c7, c8, .pointer (some ⟨ba, 0, none⟩), .bool false, c11, c12, c13, c14, c15, c16, c17, c18, c19, c20, c21, c22, c23, c24, c25, c26, c27, c28, c29, c30, c31, c32, c33, c34, c35, c36, c37, c38, c39, c40, .slice A3 own.length cap3, .int .i64 own.length, .int .i64 0, c44, c45, c46, c47, c48, c49, c50, c51, c52, c53, c54, c55, c56, c57, c58, c59, c60, c61, c62, c63, c64, c65, c66, c67, c68, c69, c70, c71, c72, c73, c74, c75, c76, c77, c78, c79, c80, c81, c82, c83, c84, c85, c86, c87, c88, c89, c90, c91, c92, c93, c94, c95, c96, c97, c98, c99, c100, c101, c102, c103, c104, c105, c106, c107, c108, c109, c110, c111, c112, c113, c114, c115, c116, c117, c118, c119, c120, c121, c122], []⟩ V := by
  dsimp only at hF
  dsimp only
  conv => arg 4; arg 1; whnf
  replace hrd := Lib.hid hrd
  replace bA := Lib.hid bA
  replace hF := Lib.hid hF
  gi_loopw [43, 10] (fun i t wr3 => ∃ m : Nat, i = .int .i64 m ∧ m ≤ own.length ∧ t = .bool (tw v (own.take m)) ∧ Upd (fun _ => False) V wr3) (fun i _ _ => own.length - (intOf i).toNat)
  case atStart => exact ⟨0, rfl, Nat.zero_le _, rfl, Upd.refl _ _⟩
  case round =>
    obtain ⟨m, rfl, hm, rfl, hu3⟩ := hrel
    obtain ⟨wr3, rfl⟩ : ∃ w, w = wr := ⟨wr, rfl⟩
    by_cases hlm : m < own.length
    · obtain ⟨g2, o2, rfl, hat2⟩ := atM_at (hrd.out _ hu3) hlm
      have hw6 : IntKind.i64.wrap ((m : Int) + 1) = (m : Int) + 1 := Go.IntWalk.i64_in _ ⟨by omega, by omega⟩
      have htt := tw_take (v := v) hlm
      generalize own[m] = y at *
      have ua5 := Upd.alloc (fun _ => False) wr3 (.cells #[.string (y).key, .string (y).pol, .int .i64 (y).kd, .int .i64 (y).st, .int .i64 (y).rev, .bool (y).fin, .int .i64 (y).rk, .int .i64 (y).cnt, .int .i64 (y).sum, .int .i64 (y).mn, .int .i64 (y).mx, .int .i64 (y).q0, .int .i64 (y).q1, .int .i64 (y).q2, .bool (y).over] 38)
      have bA5 := (bA.out.upd hu3 id).upd ua5 id
      have hX5 : (wr3.alloc (.cells #[.string (y).key, .string (y).pol, .int .i64 (y).kd, .int .i64 (y).st, .int .i64 (y).rev, .bool (y).fin, .int .i64 (y).rk, .int .i64 (y).cnt, .int .i64 (y).sum, .int .i64 (y).mn, .int .i64 (y).mx, .int .i64 (y).q0, .int .i64 (y).q1, .int .i64 (y).q2, .bool (y).over] 38)).cell? ⟨ba, 1, none⟩ = some (.int .i64 (v).ep) ∧ (wr3.alloc (.cells #[.string (y).key, .string (y).pol, .int .i64 (y).kd, .int .i64 (y).st, .int .i64 (y).rev, .bool (y).fin, .int .i64 (y).rk, .int .i64 (y).cnt, .int .i64 (y).sum, .int .i64 (y).mn, .int .i64 (y).mx, .int .i64 (y).q0, .int .i64 (y).q1, .int .i64 (y).q2, .bool (y).over] 38)).cell? ⟨ba, 1 + 1, none⟩ = some (.string (v).key) ∧ (wr3.alloc (.cells #[.string (y).key, .string (y).pol, .int .i64 (y).kd, .int .i64 (y).st, .int .i64 (y).rev, .bool (y).fin, .int .i64 (y).rk, .int .i64 (y).cnt, .int .i64 (y).sum, .int .i64 (y).mn, .int .i64 (y).mx, .int .i64 (y).q0, .int .i64 (y).q1, .int .i64 (y).q2, .bool (y).over] 38)).cell? ⟨ba, 1 + 2, none⟩ = some (.string (v).pol) ∧ (wr3.alloc (.cells #[.string (y).key, .string (y).pol, .int .i64 (y).kd, .int .i64 (y).st, .int .i64 (y).rev, .bool (y).fin, .int .i64 (y).rk, .int .i64 (y).cnt, .int .i64 (y).sum, .int .i64 (y).mn, .int .i64 (y).mx, .int .i64 (y).q0, .int .i64 (y).q1, .int .i64 (y).q2, .bool (y).over] 38)).cell? ⟨ba, 1 + 3, none⟩ = some (.int .i64 (v).kd) ∧ (wr3.alloc (.cells #[.string (y).key, .string (y).pol, .int .i64 (y).kd, .int .i64 (y).st, .int .i64 (y).rev, .bool (y).fin, .int .i64 (y).rk, .int .i64 (y).cnt, .int .i64 (y).sum, .int .i64 (y).mn, .int .i64 (y).mx, .int .i64 (y).q0, .int .i64 (y).q1, .int .i64 (y).q2, .bool (y).over] 38)).cell? ⟨ba, 1 + 4, none⟩ = some (.int .i64 (v).st) ∧ (wr3.alloc (.cells #[.string (y).key, .string (y).pol, .int .i64 (y).kd, .int .i64 (y).st, .int .i64 (y).rev, .bool (y).fin, .int .i64 (y).rk, .int .i64 (y).cnt, .int .i64 (y).sum, .int .i64 (y).mn, .int .i64 (y).mx, .int .i64 (y).q0, .int .i64 (y).q1, .int .i64 (y).q2, .bool (y).over] 38)).cell? ⟨ba, 1 + 5, none⟩ = some (.int .i64 (v).rev) ∧ (wr3.alloc (.cells #[.string (y).key, .string (y).pol, .int .i64 (y).kd, .int .i64 (y).st, .int .i64 (y).rev, .bool (y).fin, .int .i64 (y).rk, .int .i64 (y).cnt, .int .i64 (y).sum, .int .i64 (y).mn, .int .i64 (y).mx, .int .i64 (y).q0, .int .i64 (y).q1, .int .i64 (y).q2, .bool (y).over] 38)).cell? ⟨ba, 1 + 6, none⟩ = some (.bool (v).fin) ∧ (wr3.alloc (.cells #[.string (y).key, .string (y).pol, .int .i64 (y).kd, .int .i64 (y).st, .int .i64 (y).rev, .bool (y).fin, .int .i64 (y).rk, .int .i64 (y).cnt, .int .i64 (y).sum, .int .i64 (y).mn, .int .i64 (y).mx, .int .i64 (y).q0, .int .i64 (y).q1, .int .i64 (y).q2, .bool (y).over] 38)).cell? ⟨ba, 1 + 7, none⟩ = some (.int .i64 (v).rk) ∧ (wr3.alloc (.cells #[.string (y).key, .string (y).pol, .int .i64 (y).kd, .int .i64 (y).st, .int .i64 (y).rev, .bool (y).fin, .int .i64 (y).rk, .int .i64 (y).cnt, .int .i64 (y).sum, .int .i64 (y).mn, .int .i64 (y).mx, .int .i64 (y).q0, .int .i64 (y).q1, .int .i64 (y).q2, .bool (y).over] 38)).cell? ⟨ba, 1 + 8, none⟩ = some (.int .i64 (v).cnt) ∧ (wr3.alloc (.cells #[.string (y).key, .string (y).pol, .int .i64 (y).kd, .int .i64 (y).st, .int .i64 (y).rev, .bool (y).fin, .int .i64 (y).rk, .int .i64 (y).cnt, .int .i64 (y).sum, .int .i64 (y).mn, .int .i64 (y).mx, .int .i64 (y).q0, .int .i64 (y).q1, .int .i64 (y).q2, .bool (y).over] 38)).cell? ⟨ba, 1 + 9, none⟩ = some (.int .i64 (v).sum) ∧ (wr3.alloc (.cells #[.string (y).key, .string (y).pol, .int .i64 (y).kd, .int .i64 (y).st, .int .i64 (y).rev, .bool (y).fin, .int .i64 (y).rk, .int .i64 (y).cnt, .int .i64 (y).sum, .int .i64 (y).mn, .int .i64 (y).mx, .int .i64 (y).q0, .int .i64 (y).q1, .int .i64 (y).q2, .bool (y).over] 38)).cell? ⟨ba, 1 + 10, none⟩ = some (.int .i64 (v).mn) ∧ (wr3.alloc (.cells #[.string (y).key, .string (y).pol, .int .i64 (y).kd, .int .i64 (y).st, .int .i64 (y).rev, .bool (y).fin, .int .i64 (y).rk, .int .i64 (y).cnt, .int .i64 (y).sum, .int .i64 (y).mn, .int .i64 (y).mx, .int .i64 (y).q0, .int .i64 (y).q1, .int .i64 (y).q2, .bool (y).over] 38)).cell? ⟨ba, 1 + 11, none⟩ = some (.int .i64 (v).mx) ∧ (wr3.alloc (.cells #[.string (y).key, .string (y).pol, .int .i64 (y).kd, .int .i64 (y).st, .int .i64 (y).rev, .bool (y).fin, .int .i64 (y).rk, .int .i64 (y).cnt, .int .i64 (y).sum, .int .i64 (y).mn, .int .i64 (y).mx, .int .i64 (y).q0, .int .i64 (y).q1, .int .i64 (y).q2, .bool (y).over] 38)).cell? ⟨ba, 1 + 12, none⟩ = some (.int .i64 (v).q0) ∧ (wr3.alloc (.cells #[.string (y).key, .string (y).pol, .int .i64 (y).kd, .int .i64 (y).st, .int .i64 (y).rev, .bool (y).fin, .int .i64 (y).rk, .int .i64 (y).cnt, .int .i64 (y).sum, .int .i64 (y).mn, .int .i64 (y).mx, .int .i64 (y).q0, .int .i64 (y).q1, .int .i64 (y).q2, .bool (y).over] 38)).cell? ⟨ba, 1 + 13, none⟩ = some (.int .i64 (v).q1) ∧ (wr3.alloc (.cells #[.string (y).key, .string (y).pol, .int .i64 (y).kd, .int .i64 (y).st, .int .i64 (y).rev, .bool (y).fin, .int .i64 (y).rk, .int .i64 (y).cnt, .int .i64 (y).sum, .int .i64 (y).mn, .int .i64 (y).mx, .int .i64 (y).q0, .int .i64 (y).q1, .int .i64 (y).q2, .bool (y).over] 38)).cell? ⟨ba, 1 + 14, none⟩ = some (.int .i64 (v).q2) ∧ (wr3.alloc (.cells #[.string (y).key, .string (y).pol, .int .i64 (y).kd, .int .i64 (y).st, .int .i64 (y).rev, .bool (y).fin, .int .i64 (y).rk, .int .i64 (y).cnt, .int .i64 (y).sum, .int .i64 (y).mn, .int .i64 (y).mx, .int .i64 (y).q0, .int .i64 (y).q1, .int .i64 (y).q2, .bool (y).over] 38)).cell? ⟨ba, 1 + 15, none⟩ = some (.bool (v).over) := ⟨bA5.cell (0 + 1), bA5.cell (1 + 1), bA5.cell (2 + 1), bA5.cell (3 + 1), bA5.cell (4 + 1), bA5.cell (5 + 1), bA5.cell (6 + 1), bA5.cell (7 + 1), bA5.cell (8 + 1), bA5.cell (9 + 1), bA5.cell (10 + 1), bA5.cell (11 + 1), bA5.cell (12 + 1), bA5.cell (13 + 1), bA5.cell (14 + 1), bA5.cell (15 + 1)⟩
      obtain ⟨z0, z1, z2, z3, z4, z5, z6, z7, z8, z9, z10, z11, z12, z13, z14, z15⟩ := hX5
      obtain ⟨x0, x1, x2, x3, x4, x5, x6, x7, x8, x9, x10, x11, x12, x13, x14⟩ := hat2
      have hu5 := Lib.hid (hu3.trans' ua5)
      have q2 := guardC
      have q1 := fun w => eqlC1 (cellE y) (cellE v) w
      obtain ⟨tb, htb⟩ : ∃ b, tw v (own.take m) = b := ⟨_, rfl⟩
      rw [htb] at htt ⊢
      clear bA5 ua5 hu3 htb
      cases tb
      · rw [Bool.false_or] at htt
        by_cases hcell : cellE y = cellE v
        · rw [decide_eq_true hcell, Bool.true_and] at htt
          simp only [decide_eq_true hcell] at q1
          clear hcell
          by_cases hrv : y.rev = v.rev
          · rw [decide_eq_true hrv] at htt
            replace htt := Lib.hid htt
            have hrb : (y.rev == v.rev) = true := beq_iff_eq.2 hrv
            clear hrv
            gi_wp2
            exact ⟨⟨m + 1, by go_num, by omega, by rw [htt.out], hu5.out⟩, by show own.length - ((m : Int) + 1).toNat < own.length - (m : Int).toNat; omega⟩
          · rw [decide_eq_false hrv] at htt
            replace htt := Lib.hid htt
            have hrb : (y.rev == v.rev) = false := beq_eq_false_iff_ne.2 hrv
            clear hrv
            gi_wp2
            exact ⟨⟨m + 1, by go_num, by omega, by rw [htt.out], hu5.out⟩, by show own.length - ((m : Int) + 1).toNat < own.length - (m : Int).toNat; omega⟩
        · rw [decide_eq_false hcell, Bool.false_and] at htt
          simp only [decide_eq_false hcell] at q1
          replace htt := Lib.hid htt
          clear hcell
          gi_wp2
          exact ⟨⟨m + 1, by go_num, by omega, by rw [htt.out], hu5.out⟩, by show own.length - ((m : Int) + 1).toNat < own.length - (m : Int).toNat; omega⟩
      · rw [Bool.true_or] at htt
        replace htt := Lib.hid htt
        gi_wp2
        exact ⟨⟨m + 1, by go_num, by omega, by rw [htt.out], hu5.out⟩, by show own.length - ((m : Int) + 1).toNat < own.length - (m : Int).toNat; omega⟩
    · obtain rfl : m = own.length := by omega
      rw [List.take_length]
      gi_wp2
      exact hF.out _ _ _ _ _ _ _ _ _ _ _ _ _ _ _ _ _ _ _ _ _ _ _ _ hu3
end Go.Proofs.Ytadeechoknpjhaa

/- SiloRises: a round's two inner loops. -/
import Derived.Test.YtadeechoknpjhaaProg
import Derived.Test.YtadeechoknpjhaaBase
import Derived.Test.YtadeechoknpjhaaSlRf
import Derived.Test.YtadeechoknpjhaaSlRi
import Derived.Test.YtadeechoknpjhaaLoops
set_option linter.unusedSimpArgs false
set_option linter.unusedVariables false
namespace Go.Proofs.Ytadeechoknpjhaa
open Go.RowKit Go.Shelf
attribute [local go_sem] Oper.semAt_some

def thB (x : VCE) (l : List VCE) : Bool := l.any fun y => decide (cellE y = cellE x)
theorem thB_take {x : VCE} {l : List VCE} {i : Nat} (h : i < l.length) : thB x (l.take (i + 1)) = (thB x (l.take i) || decide (cellE l[i] = cellE x)) := by
  rw [thB, List.take_succ_eq_append_getElem h, List.any_append]; simp [thB]
noncomputable def riseBody : Code := (((Try.f5.body.map allLoops).getD []).drop 1).headD .skip
set_option maxRecDepth 1000000 in
set_option maxHeartbeats 16000000 in
theorem rise_tail {vs ws : List VCE} {A1 A2 : Option Addr} {kc1 kc2 b8 : Nat} {V : World} {K : Act → World → Prop} {Q' : Exit → Act → World → Prop} {c0 c1 c2 c3 c4 c5 c6 c7 c9 c10 c11 c12 c13 c14 c15 c16 c17 c18 c19 c20 c21 c22 c23 c24 c25 c26 c27 c28 c29 c30 c31 c32 c33 c34 c35 c36 c37 c38 c39 c40 c41 c42 c43 c44 c45 c46 c47 c48 c49 c50 c51 c52 c53 c54 c55 c56 c57 c58 c59 c60 c61 c62 c63 c64 c65 c66 c67 c68 c69 c70 c71 c72 c73 c74 c75 c76 c77 c78 c79 c83 c84 c85 c86 c87 c88 c89 c90 c91 c92 c93 c94 c95 c96 c97 c98 c99 c100 c101 c102 c103 c104 c105 c106 c107 c108 c109 c110 c111 c112 c113 c114 c115 c116 c117 c118 c119 c120 c121 c122 c123 : Value}
    (hMem : ∀ V', Upd (fun _ => False) V V' → Reads1 V' A1 (flatE vs) ∧ Reads1 V' A2 (flatE ws) ∧ V'.cell? ⟨b8, 1, none⟩ = some (.slice A2 ws.length kc2)) (hris : risesB vs ws) (hvl : vs.length ≤ 100000) (hwl : ws.length ≤ 100000)
    (hF : ∀ (d2 d10 d11 d13 d82 d83 d84 d85 d86 d87 d88 d89 d90 d91 d92 d93 d94 d95 d96 d97 d98 d99 d100 d101 d102 d103 d104 d105 d106 d107 d108 d109 d110 d111 d112 d113 d114 d115 d116 d117 d118 d119 d120 d121 d122 : Value) w', Upd (fun _ => False) V w' → K ⟨#[c0, c1, d2, c3, c4, c5, c6, c7, .pointer (some ⟨b8, 0, none⟩), c9, d10, d11, c12, d13, c14, c15, c16, c17, c18, c19, c20, c21, c22, c23, c24, c25, c26, c27, c28, c29, c30, c31, c32, c33, c34, c35, c36, c37, c38, c39, c40, c41, c42, c43, c44, c45, c46, c47, c48, c49, c50, c51, c52, c53, c54, c55, c56, c57, c58, c59, c60, c61, c62, c63, c64, c65, c66, c67, c68, c69, c70, c71, c72, c73, c74, c75, c76, c77, c78, c79, .slice A1 vs.length kc1, .int .i64 vs.length, d82, d83, d84, d85, d86, d87, d88, d89, d90, d91, d92, d93, d94, d95, d96, d97, d98, d99, d100, d101, d102, d103, d104, d105, d106, d107, d108, d109, d110, d111, d112, d113, d114, d115, d116, d117, d118, d119, d120, d121, d122, c123], []⟩ w') :
    Code.wpIn Fence.wide 0 Try.prog (.loop riseBody) (Exit.inBlock 3 (Exit.inBlock 1 (Exit.then K Q'))) ⟨#[c0, c1, c2, c3, c4, c5, c6, c7, .pointer (some ⟨b8, 0, none⟩), c9, c10, c11, c12, c13, c14, c15, c16, c17, c18, c19, c20, c21, c22, c23, c24, c25, c26, c27, c28, c29, c30, c31, c32, c33, c34, c35, c36, c37, c38, c39, c40, c41, c42, c43, c44, c45, c46, c47, c48, c49, c50, c51, c52, c53, c54, c55, c56, c57, c58, c59, c60, c61, c62, c63, c64, c65, c66, c67, c68, c69, c70, c71, c72, c73, c74, c75, c76, c77, c78, c79, .slice A1 vs.length kc1, .int .i64 vs.length, .int .i64 0, c83, c84, c85, c86, c87, c88, c89, c90, c91, c92, c93, c94, c95, c96, c97, c98, c99, c100, c101, c102, c103, c104, c105, c106, c107, c108, c109, c110, c111, c112, c113, c114, c115, c116, c117, c118, c119, c120, c121, c122, c123], []⟩ V := by
  dsimp only at hF
  dsimp only
  conv => arg 4; arg 1; whnf
  replace hMem := Lib.hid hMem
  replace hris := Lib.hid hris
  replace hF := Lib.hid hF
  gi_loopw [82] (fun i wr2 => ∃ m : Nat, i = .int .i64 m ∧ m ≤ vs.length ∧ Upd (fun _ => False) V wr2) (fun i _ => vs.length - (intOf i).toNat)
  case atStart => exact ⟨0, rfl, Nat.zero_le _, Upd.refl _ _⟩
  case round =>
    obtain ⟨m, rfl, hm, hu2⟩ := hrel
    obtain ⟨wr2, rfl⟩ : ∃ w, w = wr := ⟨wr, rfl⟩
    by_cases hlm : m < vs.length
    · obtain ⟨hr1, _, _⟩ := hMem.out _ hu2
      obtain ⟨g1, o1, rfl, hat1⟩ := atE_at hr1 hlm
      have hx := hris.out _ (List.getElem_mem hlm)
      have hw6 : IntKind.i64.wrap ((m : Int) + 1) = (m : Int) + 1 := Go.IntWalk.i64_in _ ⟨by omega, by omega⟩
      generalize vs[m] = x at *
      obtain ⟨hex, hall⟩ := hx
      have hth : thB x ws = true := by
        obtain ⟨y, hy, he⟩ := hex
        exact List.any_eq_true.2 ⟨y, hy, decide_eq_true he⟩
      have ua2 := Upd.alloc (fun _ => False) wr2 (.cells #[.int .i64 (x).ep, .string (x).key, .string (x).pol, .int .i64 (x).kd, .int .i64 (x).st, .int .i64 (x).rev, .bool (x).fin, .int .i64 (x).rk, .int .i64 (x).cnt, .int .i64 (x).sum, .int .i64 (x).mn, .int .i64 (x).mx, .int .i64 (x).q0, .int .i64 (x).q1, .int .i64 (x).q2, .bool (x).over] 61)
      have bX := Blk.new wr2 #[.int .i64 (x).ep, .string (x).key, .string (x).pol, .int .i64 (x).kd, .int .i64 (x).st, .int .i64 (x).rev, .bool (x).fin, .int .i64 (x).rk, .int .i64 (x).cnt, .int .i64 (x).sum, .int .i64 (x).mn, .int .i64 (x).mx, .int .i64 (x).q0, .int .i64 (x).q1, .int .i64 (x).q2, .bool (x).over] 61
      have hu3 := hu2.trans' ua2
      have hnb := (hMem.out _ hu3).2.2
      obtain ⟨w0, w1, w2, w3, w4, w5, w6, w7, w8, w9, w10, w11, w12, w13, w14, w15⟩ := hat1
      replace hall := Lib.hid hall
      replace hth := Lib.hid hth
      replace hu3 := Lib.hid hu3
      replace bX := Lib.hid bX
      clear hr1 hex hu2 ua2
      as_aux_lemma =>
        gi_wp2
        gi_loopw [89, 11] (fun i t wr3 => ∃ k : Nat, i = .int .i64 k ∧ k ≤ ws.length ∧ t = .bool (thB x (ws.take k)) ∧ Upd (fun _ => False) (wr2.alloc (.cells #[.int .i64 (x).ep, .string (x).key, .string (x).pol, .int .i64 (x).kd, .int .i64 (x).st, .int .i64 (x).rev, .bool (x).fin, .int .i64 (x).rk, .int .i64 (x).cnt, .int .i64 (x).sum, .int .i64 (x).mn, .int .i64 (x).mx, .int .i64 (x).q0, .int .i64 (x).q1, .int .i64 (x).q2, .bool (x).over] 61)) wr3) (fun i _ _ => ws.length - (intOf i).toNat)
        case atStart => exact ⟨0, rfl, Nat.zero_le _, rfl, Upd.refl _ _⟩
        case round =>
          obtain ⟨k, rfl, hk, rfl, hu4⟩ := hrel
          obtain ⟨wr3, rfl⟩ : ∃ w, w = wr := ⟨wr, rfl⟩
          by_cases hlk : k < ws.length
          · obtain ⟨_, hr2, _⟩ := hMem.out _ (hu3.out.trans' hu4)
            obtain ⟨g2, o2, rfl, hat2⟩ := atE_at hr2 hlk
            have hw7 : IntKind.i64.wrap ((k : Int) + 1) = (k : Int) + 1 := Go.IntWalk.i64_in _ ⟨by omega, by omega⟩
            have htt := thB_take (x := x) hlk
            have hyx := hall.out _ (List.getElem_mem hlk)
            generalize ws[k] = y at *
            have ua5 := Upd.alloc (fun _ => False) wr3 (.cells #[.int .i64 (y).ep, .string (y).key, .string (y).pol, .int .i64 (y).kd, .int .i64 (y).st, .int .i64 (y).rev, .bool (y).fin, .int .i64 (y).rk, .int .i64 (y).cnt, .int .i64 (y).sum, .int .i64 (y).mn, .int .i64 (y).mx, .int .i64 (y).q0, .int .i64 (y).q1, .int .i64 (y).q2, .bool (y).over] 61)
            have bX5 := (bX.out.upd hu4 id).upd ua5 id
            have hX5 : (wr3.alloc (.cells #[.int .i64 (y).ep, .string (y).key, .string (y).pol, .int .i64 (y).kd, .int .i64 (y).st, .int .i64 (y).rev, .bool (y).fin, .int .i64 (y).rk, .int .i64 (y).cnt, .int .i64 (y).sum, .int .i64 (y).mn, .int .i64 (y).mx, .int .i64 (y).q0, .int .i64 (y).q1, .int .i64 (y).q2, .bool (y).over] 61)).cell? ⟨wr2.heap.size, 0, none⟩ = some (.int .i64 (x).ep) ∧ (wr3.alloc (.cells #[.int .i64 (y).ep, .string (y).key, .string (y).pol, .int .i64 (y).kd, .int .i64 (y).st, .int .i64 (y).rev, .bool (y).fin, .int .i64 (y).rk, .int .i64 (y).cnt, .int .i64 (y).sum, .int .i64 (y).mn, .int .i64 (y).mx, .int .i64 (y).q0, .int .i64 (y).q1, .int .i64 (y).q2, .bool (y).over] 61)).cell? ⟨wr2.heap.size, 1, none⟩ = some (.string (x).key) ∧ (wr3.alloc (.cells #[.int .i64 (y).ep, .string (y).key, .string (y).pol, .int .i64 (y).kd, .int .i64 (y).st, .int .i64 (y).rev, .bool (y).fin, .int .i64 (y).rk, .int .i64 (y).cnt, .int .i64 (y).sum, .int .i64 (y).mn, .int .i64 (y).mx, .int .i64 (y).q0, .int .i64 (y).q1, .int .i64 (y).q2, .bool (y).over] 61)).cell? ⟨wr2.heap.size, 2, none⟩ = some (.string (x).pol) ∧ (wr3.alloc (.cells #[.int .i64 (y).ep, .string (y).key, .string (y).pol, .int .i64 (y).kd, .int .i64 (y).st, .int .i64 (y).rev, .bool (y).fin, .int .i64 (y).rk, .int .i64 (y).cnt, .int .i64 (y).sum, .int .i64 (y).mn, .int .i64 (y).mx, .int .i64 (y).q0, .int .i64 (y).q1, .int .i64 (y).q2, .bool (y).over] 61)).cell? ⟨wr2.heap.size, 3, none⟩ = some (.int .i64 (x).kd) ∧ (wr3.alloc (.cells #[.int .i64 (y).ep, .string (y).key, .string (y).pol, .int .i64 (y).kd, .int .i64 (y).st, .int .i64 (y).rev, .bool (y).fin, .int .i64 (y).rk, .int .i64 (y).cnt, .int .i64 (y).sum, .int .i64 (y).mn, .int .i64 (y).mx, .int .i64 (y).q0, .int .i64 (y).q1, .int .i64 (y).q2, .bool (y).over] 61)).cell? ⟨wr2.heap.size, 4, none⟩ = some (.int .i64 (x).st) ∧ (wr3.alloc (.cells #[.int .i64 (y).ep, .string (y).key, .string (y).pol, .int .i64 (y).kd, .int .i64 (y).st, .int .i64 (y).rev, .bool (y).fin, .int .i64 (y).rk, .int .i64 (y).cnt, .int .i64 (y).sum, .int .i64 (y).mn, .int .i64 (y).mx, .int .i64 (y).q0, .int .i64 (y).q1, .int .i64 (y).q2, .bool (y).over] 61)).cell? ⟨wr2.heap.size, 5, none⟩ = some (.int .i64 (x).rev) ∧ (wr3.alloc (.cells #[.int .i64 (y).ep, .string (y).key, .string (y).pol, .int .i64 (y).kd, .int .i64 (y).st, .int .i64 (y).rev, .bool (y).fin, .int .i64 (y).rk, .int .i64 (y).cnt, .int .i64 (y).sum, .int .i64 (y).mn, .int .i64 (y).mx, .int .i64 (y).q0, .int .i64 (y).q1, .int .i64 (y).q2, .bool (y).over] 61)).cell? ⟨wr2.heap.size, 6, none⟩ = some (.bool (x).fin) ∧ (wr3.alloc (.cells #[.int .i64 (y).ep, .string (y).key, .string (y).pol, .int .i64 (y).kd, .int .i64 (y).st, .int .i64 (y).rev, .bool (y).fin, .int .i64 (y).rk, .int .i64 (y).cnt, .int .i64 (y).sum, .int .i64 (y).mn, .int .i64 (y).mx, .int .i64 (y).q0, .int .i64 (y).q1, .int .i64 (y).q2, .bool (y).over] 61)).cell? ⟨wr2.heap.size, 7, none⟩ = some (.int .i64 (x).rk) ∧ (wr3.alloc (.cells #[.int .i64 (y).ep, .string (y).key, .string (y).pol, .int .i64 (y).kd, .int .i64 (y).st, .int .i64 (y).rev, .bool (y).fin, .int .i64 (y).rk, .int .i64 (y).cnt, .int .i64 (y).sum, .int .i64 (y).mn, .int .i64 (y).mx, .int .i64 (y).q0, .int .i64 (y).q1, .int .i64 (y).q2, .bool (y).over] 61)).cell? ⟨wr2.heap.size, 8, none⟩ = some (.int .i64 (x).cnt) ∧ (wr3.alloc (.cells #[.int .i64 (y).ep, .string (y).key, .string (y).pol, .int .i64 (y).kd, .int .i64 (y).st, .int .i64 (y).rev, .bool (y).fin, .int .i64 (y).rk, .int .i64 (y).cnt, .int .i64 (y).sum, .int .i64 (y).mn, .int .i64 (y).mx, .int .i64 (y).q0, .int .i64 (y).q1, .int .i64 (y).q2, .bool (y).over] 61)).cell? ⟨wr2.heap.size, 9, none⟩ = some (.int .i64 (x).sum) ∧ (wr3.alloc (.cells #[.int .i64 (y).ep, .string (y).key, .string (y).pol, .int .i64 (y).kd, .int .i64 (y).st, .int .i64 (y).rev, .bool (y).fin, .int .i64 (y).rk, .int .i64 (y).cnt, .int .i64 (y).sum, .int .i64 (y).mn, .int .i64 (y).mx, .int .i64 (y).q0, .int .i64 (y).q1, .int .i64 (y).q2, .bool (y).over] 61)).cell? ⟨wr2.heap.size, 10, none⟩ = some (.int .i64 (x).mn) ∧ (wr3.alloc (.cells #[.int .i64 (y).ep, .string (y).key, .string (y).pol, .int .i64 (y).kd, .int .i64 (y).st, .int .i64 (y).rev, .bool (y).fin, .int .i64 (y).rk, .int .i64 (y).cnt, .int .i64 (y).sum, .int .i64 (y).mn, .int .i64 (y).mx, .int .i64 (y).q0, .int .i64 (y).q1, .int .i64 (y).q2, .bool (y).over] 61)).cell? ⟨wr2.heap.size, 11, none⟩ = some (.int .i64 (x).mx) ∧ (wr3.alloc (.cells #[.int .i64 (y).ep, .string (y).key, .string (y).pol, .int .i64 (y).kd, .int .i64 (y).st, .int .i64 (y).rev, .bool (y).fin, .int .i64 (y).rk, .int .i64 (y).cnt, .int .i64 (y).sum, .int .i64 (y).mn, .int .i64 (y).mx, .int .i64 (y).q0, .int .i64 (y).q1, .int .i64 (y).q2, .bool (y).over] 61)).cell? ⟨wr2.heap.size, 12, none⟩ = some (.int .i64 (x).q0) ∧ (wr3.alloc (.cells #[.int .i64 (y).ep, .string (y).key, .string (y).pol, .int .i64 (y).kd, .int .i64 (y).st, .int .i64 (y).rev, .bool (y).fin, .int .i64 (y).rk, .int .i64 (y).cnt, .int .i64 (y).sum, .int .i64 (y).mn, .int .i64 (y).mx, .int .i64 (y).q0, .int .i64 (y).q1, .int .i64 (y).q2, .bool (y).over] 61)).cell? ⟨wr2.heap.size, 13, none⟩ = some (.int .i64 (x).q1) ∧ (wr3.alloc (.cells #[.int .i64 (y).ep, .string (y).key, .string (y).pol, .int .i64 (y).kd, .int .i64 (y).st, .int .i64 (y).rev, .bool (y).fin, .int .i64 (y).rk, .int .i64 (y).cnt, .int .i64 (y).sum, .int .i64 (y).mn, .int .i64 (y).mx, .int .i64 (y).q0, .int .i64 (y).q1, .int .i64 (y).q2, .bool (y).over] 61)).cell? ⟨wr2.heap.size, 14, none⟩ = some (.int .i64 (x).q2) ∧ (wr3.alloc (.cells #[.int .i64 (y).ep, .string (y).key, .string (y).pol, .int .i64 (y).kd, .int .i64 (y).st, .int .i64 (y).rev, .bool (y).fin, .int .i64 (y).rk, .int .i64 (y).cnt, .int .i64 (y).sum, .int .i64 (y).mn, .int .i64 (y).mx, .int .i64 (y).q0, .int .i64 (y).q1, .int .i64 (y).q2, .bool (y).over] 61)).cell? ⟨wr2.heap.size, 15, none⟩ = some (.bool (x).over) := ⟨bX5.cell 0, bX5.cell 1, bX5.cell 2, bX5.cell 3, bX5.cell 4, bX5.cell 5, bX5.cell 6, bX5.cell 7, bX5.cell 8, bX5.cell 9, bX5.cell 10, bX5.cell 11, bX5.cell 12, bX5.cell 13, bX5.cell 14, bX5.cell 15⟩
            obtain ⟨z0, z1, z2, z3, z4, z5, z6, z7, z8, z9, z10, z11, z12, z13, z14, z15⟩ := hX5
            obtain ⟨w0, w1, w2, w3, w4, w5, w6, w7, w8, w9, w10, w11, w12, w13, w14, w15⟩ := hat2
            have hu5 := Lib.hid (hu4.trans' ua5)
            have q2 := guardC
            have q3 := guardE
            have q1 := fun w => eqlC1 (cellE y) (cellE x) w
            have q4 := fun w => eqlE1 y x w
            clear hr2 bX5 ua5 hu4
            by_cases hcell : cellE y = cellE x
            · have hor := hyx hcell
              rw [decide_eq_true hcell, Bool.or_true] at htt
              simp only [decide_eq_true hcell] at q1
              replace htt := Lib.hid htt
              clear hyx hcell
              by_cases hyxe : y = x
              · simp only [decide_eq_true hyxe] at q4
                clear hor hyxe
                as_aux_lemma =>
                  gi_wp2
                  exact ⟨⟨k + 1, by go_num, by omega, by rw [htt.out], hu5.out⟩, by show ws.length - ((k : Int) + 1).toNat < ws.length - (k : Int).toNat; omega⟩
              · obtain ⟨hep, hrev⟩ := hor.resolve_left hyxe
                simp only [decide_eq_false hyxe] at q4
                clear hor hyxe
                as_aux_lemma =>
                  gi_wp2
                  exact ⟨⟨k + 1, by go_num, by omega, by rw [htt.out], hu5.out⟩, by show ws.length - ((k : Int) + 1).toNat < ws.length - (k : Int).toNat; omega⟩
            · rw [decide_eq_false hcell, Bool.or_false] at htt
              simp only [decide_eq_false hcell] at q1
              replace htt := Lib.hid htt
              clear hyx hcell q4
              as_aux_lemma =>
                gi_wp2
                exact ⟨⟨k + 1, by go_num, by omega, by rw [htt.out], hu5.out⟩, by show ws.length - ((k : Int) + 1).toNat < ws.length - (k : Int).toNat; omega⟩
          · obtain rfl : k = ws.length := by omega
            rw [List.take_length, hth.out]
            have hu6 := Lib.hid (hu3.out.trans' hu4)
            clear hu4
            as_aux_lemma =>
              gi_wp2
              exact ⟨⟨m + 1, by go_num, by omega, hu6.out⟩, by show vs.length - ((m : Int) + 1).toNat < vs.length - (m : Int).toNat; omega⟩
    · gi_wp2
      exact hF.out _ _ _ _ _ _ _ _ _ _ _ _ _ _ _ _ _ _ _ _ _ _ _ _ _ _ _ _ _ _ _ _ _ _ _ _ _ _ _ _ _ _ _ _ _ _ hu2
end Go.Proofs.Ytadeechoknpjhaa

/- SiloOrders: those that are unlike are gathered. -/
import Derived.Test.YtadeechoknpjhaaProg
import Derived.Test.YtadeechoknpjhaaBase
import Derived.Test.YtadeechoknpjhaaLoops
import Derived.Test.YtadeechoknpjhaaSlOa
set_option linter.unusedSimpArgs false
set_option linter.unusedVariables false
namespace Go.Proofs.Ytadeechoknpjhaa
open Go.RowKit Go.Shelf
attribute [local go_sem] Oper.semAt_some

noncomputable def ord_ownBody : Code := (((Try.f4.body.map allLoops).getD []).drop 0).headD .skip
set_option maxRecDepth 1000000 in
set_option maxHeartbeats 16000000 in
theorem ord_own {acts : List Act20} {A : Option Addr} {cap sa sb : Nat} {W V : World} {Q : Exit → Act → World → Prop} {c1 c2 c3 c4 c5 c6 c8 c9 c10 c11 c12 c13 c14 c15 c16 c17 c18 c19 c20 c21 c22 c23 c24 c25 c26 c27 c28 c29 c30 c31 c32 c33 c34 c38 c39 c40 c41 c42 c43 c44 c45 c46 c47 c48 c49 c50 c51 c52 c53 c54 c55 c56 c57 c58 c59 c60 c61 c62 c63 c64 c65 c66 c67 c68 c69 c70 c71 c72 c73 c74 c75 c76 c77 c78 c79 c80 c81 c82 c83 c84 c85 c86 c87 c88 c89 c90 c91 c92 c93 c94 c95 c96 c97 c98 c99 c100 c101 c102 c103 c104 c105 c106 c107 c108 c109 c110 c111 c112 c113 c114 c115 c116 c117 c118 c119 c120 c121 c122 : Value} (hrW : ∀ V, Upd (fun _ => False) W V → Reads1 V A (flatA acts)) (hlen : acts.length ≤ 100) (h0 : ∃ F G, OrdI sa sb [] (.slice none 0 0) F G W V)
    (hF : ∀ (d9 d10 d12 d37 d38 d39 d40 d41 d42 d43 d44 d45 d46 d47 d48 d49 d50 d51 d52 d53 d54 d55 d56 d57 d58 d59 d60 d61 d62 d63 d64 d65 d66 d67 d68 d69 d70 d71 d72 : Value) (v9 : Value) w', (∃ own F G, own.length ≤ acts.length ∧ UniqO own ∧ OrdI sa sb own v9 F G W w') → Q (.exit 0) ⟨#[.slice A acts.length cap, c1, c2, c3, c4, c5, c6, v9, c8, d9, d10, c11, d12, c13, c14, c15, c16, c17, c18, c19, c20, c21, c22, c23, c24, c25, c26, c27, c28, c29, c30, c31, c32, c33, c34, .slice A acts.length cap, .int .i64 acts.length, d37, d38, d39, d40, d41, d42, d43, d44, d45, d46, d47, d48, d49, d50, d51, d52, d53, d54, d55, d56, d57, d58, d59, d60, d61, d62, d63, d64, d65, d66, d67, d68, d69, d70, d71, d72, c73, c74, c75, c76, c77, c78, c79, c80, c81, c82, c83, c84, c85, c86, c87, c88, c89, c90, c91, c92, c93, c94, c95, c96, c97, c98, c99, c100, c101, c102, c103, c104, c105, c106, c107, c108, c109, c110, c111, c112, c113, c114, c115, c116, c117, c118, c119, c120, c121, c122], []⟩ w') :
    Code.wpIn Fence.wide 0 Try.prog (.loop ord_ownBody) Q ⟨#[.slice A acts.length cap, c1, c2, c3, c4, c5, c6, .slice none 0 0, c8, c9, c10, c11, c12, c13, c14, c15, c16, c17, c18, c19, c20, c21, c22, c23, c24, c25, c26, c27, c28, c29, c30, c31, c32, c33, c34, .slice A acts.length cap, .int .i64 acts.length, .int .i64 0, c38, c39, c40, c41, c42, c43, c44, c45, c46, c47, c48, c49, c50, c51, c52, c53, c54, c55, c56, c57, c58, c59, c60, c61, c62, c63, c64, c65, c66, c67, c68, c69, c70, c71, c72, c73, c74, c75, c76, c77, c78, c79, c80, c81, c82, c83, c84, c85, c86, c87, c88, c89, c90, c91, c92, c93, c94, c95, c96, c97, c98, c99, c100, c101, c102, c103, c104, c105, c106, c107, c108, c109, c110, c111, c112, c113, c114, c115, c116, c117, c118, c119, c120, c121, c122], []⟩ V := by
  dsimp only at hF
  dsimp only
  conv => arg 4; arg 1; whnf
  replace hrW := Lib.hid hrW
  replace hF := Lib.hid hF
  gi_loopw [37, 7] (fun i v wr => ∃ (k : Nat) (own : List VCE) (F G : Nat → Prop), i = .int .i64 k ∧ k ≤ acts.length ∧ own.length ≤ k ∧ UniqO own ∧ OrdI sa sb own v F G W wr) (fun i _ _ => acts.length - (intOf i).toNat)
  case atStart =>
    obtain ⟨F, G, h⟩ := h0
    exact ⟨0, [], F, G, rfl, Nat.zero_le _, Nat.le_refl _, fun a ha => by simp at ha, h⟩
  case round =>
    clear h0
    obtain ⟨k, own, F, G, rfl, hk, hok, hUn, hI⟩ := hrel
    by_cases hlt : k < acts.length
    · obtain ⟨g, o, rfl, hat⟩ := atA_at (hrW.out _ hI.base) hlt
      have hw5 : IntKind.i64.wrap ((k : Int) + 1) = (k : Int) + 1 := Go.IntWalk.i64_in _ ⟨by omega, by omega⟩
      generalize acts[k] = a at *
      obtain ⟨kd, v⟩ := a
      obtain ⟨c0, w0, w1, w2, w3, w4, w5, w6, w7, w8, w9, w10, w11, w12, w13, w14, w15⟩ := hat
      obtain ⟨A3, cap3, rfl⟩ := own_shape hI.row
      have ua := Upd.alloc (fun _ => False) wr (.cells #[.int .i64 kd, .int .i64 (v).ep, .string (v).key, .string (v).pol, .int .i64 (v).kd, .int .i64 (v).st, .int .i64 (v).rev, .bool (v).fin, .int .i64 (v).rk, .int .i64 (v).cnt, .int .i64 (v).sum, .int .i64 (v).mn, .int .i64 (v).mx, .int .i64 (v).q0, .int .i64 (v).q1, .int .i64 (v).q2, .bool (v).over] 40)
      have bA := Blk.new wr #[.int .i64 kd, .int .i64 (v).ep, .string (v).key, .string (v).pol, .int .i64 (v).kd, .int .i64 (v).st, .int .i64 (v).rev, .bool (v).fin, .int .i64 (v).rk, .int .i64 (v).cnt, .int .i64 (v).sum, .int .i64 (v).mn, .int .i64 (v).mx, .int .i64 (v).q0, .int .i64 (v).q1, .int .i64 (v).q2, .bool (v).over] 40
      have hIA := hI.upd ua
      obtain ⟨A', cap', eA, hn, hro, _, hbo⟩ := own_readsS hIA.row
      cases eA
      have hroW := Lib.hid fun V (u : Upd (fun _ => False) (wr.alloc (.cells #[.int .i64 kd, .int .i64 (v).ep, .string (v).key, .string (v).pol, .int .i64 (v).kd, .int .i64 (v).st, .int .i64 (v).rev, .bool (v).fin, .int .i64 (v).rk, .int .i64 (v).cnt, .int .i64 (v).sum, .int .i64 (v).mn, .int .i64 (v).mx, .int .i64 (v).q0, .int .i64 (v).q1, .int .i64 (v).q2, .bool (v).over] 40)) V) => hro.agree' (w' := V) (u.agree fun j hj => ⟨hro.lt' j hj, id⟩)
      have hIW := Lib.hid fun V (u : Upd (fun _ => False) (wr.alloc (.cells #[.int .i64 kd, .int .i64 (v).ep, .string (v).key, .string (v).pol, .int .i64 (v).kd, .int .i64 (v).st, .int .i64 (v).rev, .bool (v).fin, .int .i64 (v).rk, .int .i64 (v).cnt, .int .i64 (v).sum, .int .i64 (v).mn, .int .i64 (v).mx, .int .i64 (v).q0, .int .i64 (v).q1, .int .i64 (v).q2, .bool (v).over] 40)) V) => hIA.upd u
      replace bA := Lib.hid bA
      replace hUn := Lib.hid hUn
      clear hI hIA hro hbo ua
      gi_wp2
      refine ord_twice hroW.out bA.out (by omega) ?_
      intro d12 d43 d44 d45 d46 d47 d48 d49 d50 d51 d52 d53 d54 d55 d56 d57 d58 d59 d60 d61 d62 d63 d64 wr3 hu3
      have bA3 := bA.out.upd hu3 id
      have hX3 : wr3.cell? ⟨wr.heap.size, 1, none⟩ = some (.int .i64 (v).ep) ∧ wr3.cell? ⟨wr.heap.size, 1 + 1, none⟩ = some (.string (v).key) ∧ wr3.cell? ⟨wr.heap.size, 1 + 2, none⟩ = some (.string (v).pol) ∧ wr3.cell? ⟨wr.heap.size, 1 + 3, none⟩ = some (.int .i64 (v).kd) ∧ wr3.cell? ⟨wr.heap.size, 1 + 4, none⟩ = some (.int .i64 (v).st) ∧ wr3.cell? ⟨wr.heap.size, 1 + 5, none⟩ = some (.int .i64 (v).rev) ∧ wr3.cell? ⟨wr.heap.size, 1 + 6, none⟩ = some (.bool (v).fin) ∧ wr3.cell? ⟨wr.heap.size, 1 + 7, none⟩ = some (.int .i64 (v).rk) ∧ wr3.cell? ⟨wr.heap.size, 1 + 8, none⟩ = some (.int .i64 (v).cnt) ∧ wr3.cell? ⟨wr.heap.size, 1 + 9, none⟩ = some (.int .i64 (v).sum) ∧ wr3.cell? ⟨wr.heap.size, 1 + 10, none⟩ = some (.int .i64 (v).mn) ∧ wr3.cell? ⟨wr.heap.size, 1 + 11, none⟩ = some (.int .i64 (v).mx) ∧ wr3.cell? ⟨wr.heap.size, 1 + 12, none⟩ = some (.int .i64 (v).q0) ∧ wr3.cell? ⟨wr.heap.size, 1 + 13, none⟩ = some (.int .i64 (v).q1) ∧ wr3.cell? ⟨wr.heap.size, 1 + 14, none⟩ = some (.int .i64 (v).q2) ∧ wr3.cell? ⟨wr.heap.size, 1 + 15, none⟩ = some (.bool (v).over) := ⟨bA3.cell (0 + 1), bA3.cell (1 + 1), bA3.cell (2 + 1), bA3.cell (3 + 1), bA3.cell (4 + 1), bA3.cell (5 + 1), bA3.cell (6 + 1), bA3.cell (7 + 1), bA3.cell (8 + 1), bA3.cell (9 + 1), bA3.cell (10 + 1), bA3.cell (11 + 1), bA3.cell (12 + 1), bA3.cell (13 + 1), bA3.cell (14 + 1), bA3.cell (15 + 1)⟩
      obtain ⟨z0, z1, z2, z3, z4, z5, z6, z7, z8, z9, z10, z11, z12, z13, z14, z15⟩ := hX3
      have hJ := hIW.out _ hu3
      have hrow := hJ.row
      have hzJ := hJ.base.size
      replace hJ := Lib.hid hJ
      obtain ⟨tb, htb⟩ : ∃ b, tw v own = b := ⟨_, rfl⟩
      rw [htb]
      clear bA3 hu3
      cases tb
      · have hU2 := Lib.hid (hUn.out.add htb)
        clear htb
        gi_wp2_with (first | refine (⟨trivial, rfl, ?_⟩ : Fence.wide.fn _ ∧ Fence.wide.depth = none ∧ _) | ((with_reducible refine app15 (y := v) Try.underlying51 infoM zM (by omega) hrow ?_ ?_ ?_ ?_ ?_); exact hzJ; omega; rfl; rfl; intro g' cap' w' h1 h2 h3 h4; have hK := Lib.hid (hJ.out.push (x := v) h1 h2 h3); clear h1 h2 h3 h4) | refine (⟨trivial, ?_⟩ : Fence.wide.fn _ ∧ _))
        exact ⟨⟨k + 1, own ++ [v], F, G, by go_num, by omega, by (simp; omega), hU2.out, by simpa using hK.out⟩, by show acts.length - ((k : Int) + 1).toNat < acts.length - (k : Int).toNat; omega⟩
      · clear htb
        gi_wp2
        exact ⟨⟨k + 1, own, F, G, by go_num, by omega, by omega, hUn.out, hJ.out⟩, by show acts.length - ((k : Int) + 1).toNat < acts.length - (k : Int).toNat; omega⟩
    · obtain rfl : k = acts.length := by omega
      gi_wp2
      exact hF.out _ _ _ _ _ _ _ _ _ _ _ _ _ _ _ _ _ _ _ _ _ _ _ _ _ _ _ _ _ _ _ _ _ _ _ _ _ _ _ _ _ ⟨own, F, G, hok, hUn, hI⟩
end Go.Proofs.Ytadeechoknpjhaa

/- seen: a state as the document has it (Ref), and that two of them are the same (Same). -/
import Derived.Test.YtgleiajmdbekiaaProg
import Derived.Test.YtgleiajmdbekiaaBase
import Derived.Test.YtgleiajmdbekiaaSeE
namespace Go.Proofs.Ytgleiajmdbekiaa
open Go.RowKit Go.Shelf
attribute [local go_sem] Oper.semAt_some

theorem infoT2 : (Try.prog.info? 47).map (fun i => (i.zero, i.size, i.bytes)) = some (some (.agg #[.string ⟨#[]⟩, .int .i64 0, .slice none 0 0]), 3, 48) := by kernel_rfl
theorem cell_upd {W V : World} (u : Upd (fun _ => False) W V) {p : Addr} {v : Value} (h : W.cell? p = some v) : V.cell? p = some v :=
  ((u.agree (D := fun k => k = p.block) fun k hk => ⟨by rw [hk]; exact World.block_lt_of_cell? W _ h, id⟩).cell rfl).trans h
section
variable {rs rs2 : List SrcP} {A A2 : Option Addr} {cap cap2 : Nat} {W : World}
set_option maxRecDepth 100000 in
set_option maxHeartbeats 4000000 in
theorem ref14_c {n : Nat} (hr : ReadsT W A rs) (hl : rs.length ≤ 100000) : CallsIn Fence.wide n Try.prog 13 #[.agg #[.slice A rs.length cap]] W fun e W2 => ∃ A' cap', e = .returned (.slice A' rs.length cap') ∧ rs.length ≤ cap' ∧ ReadsT W2 A' rs ∧ (∀ j, blkOf A' j → W.heap.size ≤ j) ∧ Upd (fun _ => False) W W2 := by
  have u1 := Upd.alloc (fun _ => False) W (.cells #[.slice A rs.length cap] 38)
  have c1 : (W.alloc (.cells #[.slice A rs.length cap] 38)).cell? ⟨W.heap.size, 0, none⟩ = some (.slice A rs.length cap) := (Blk.new _ _ _).cell0
  have hrW := Lib.hid fun V (u : Upd (fun _ => False) W V) => hr.upd u fun _ _ => id
  replace u1 := Lib.hid u1
  clear hr
  refine callsIn_any (n := 0) (callsIn_of_wp Try.func13 rfl trivial ?_)
  simp only [Try.ntmps13, List.size_toArray, List.length_cons, List.length_nil, Nat.reduceAdd, Nat.reduceSub, Array.replicate_succ, Array.replicate_zero, List.push_toArray, List.append_toArray, List.nil_append, List.cons_append]
  gi_wp2
  gi_loopw [9, 3] (fun i v wr => ∃ k : Nat, i = .int .i64 k ∧ k ≤ rs.length ∧ wr.ownsRow W.heap.size 47 3 v k (flatT (rs.take k)) ∧ Upd (fun _ => False) W wr) (fun i _ _ => rs.length - (intOf i).toNat)
  case atStart => exact ⟨0, rfl, Nat.zero_le _, World.ownsRow_nil _ _ _ 3, u1.out⟩
  case round =>
    obtain ⟨k, rfl, hk, ho, hu⟩ := hrel
    by_cases hlt : k < rs.length
    · obtain ⟨g, o, rfl, d0, d1, d2⟩ := (hrW.out _ hu).at hlt
      have hw5 : IntKind.i64.wrap ((k : Int) + 1) = (k : Int) + 1 := Go.IntWalk.i64_in _ ⟨by omega, by omega⟩
      have htk : flatT (rs.take (k + 1)) = flatT (rs.take k) ++ encT rs[k] := by
        rw [List.take_succ_eq_append_getElem hlt, flatT_append]; simp [flatT]
      obtain ⟨x, hx⟩ : ∃ x, rs[k] = x := ⟨_, rfl⟩
      rw [hx] at d0 d1 d2 htk
      clear hx
      obtain ⟨nm, fl, s, A5, c5⟩ := x
      simp only at d0 d1 d2
      obtain ⟨A3, cap3, rfl⟩ := own_shape ho
      have uE := Upd.alloc (fun _ => False) wr (.cells #[.string nm, .int .i64 fl, .slice A5 s.length c5] 43)
      have ho2 := own_agree ho (uE.agree fun j hj => ⟨(ho.lt j hj).2, id⟩)
      have q0 : (wr.alloc (.cells #[.string nm, .int .i64 fl, .slice A5 s.length c5] 43)).cell? ⟨wr.heap.size, 0, none⟩ = some (.string nm) := (Blk.new _ _ _).cell 0
      have q1 : (wr.alloc (.cells #[.string nm, .int .i64 fl, .slice A5 s.length c5] 43)).cell? ⟨wr.heap.size, 1, none⟩ = some (.int .i64 fl) := (Blk.new _ _ _).cell 1
      have q2 : (wr.alloc (.cells #[.string nm, .int .i64 fl, .slice A5 s.length c5] 43)).cell? ⟨wr.heap.size, 2, none⟩ = some (.slice A5 s.length c5) := (Blk.new _ _ _).cell 2
      have hz := hu.size
      have hge := own_base ho
      have fin : ∀ g' cap' w', w'.ownsRow W.heap.size 47 3 (.slice (some ⟨g', 0, none⟩) (k + 1) cap') (k + 1) (flatT (rs.take k) ++ [.string nm, .int .i64 fl, .slice A5 s.length c5]) → Upd (fun j => (Value.slice A3 k cap3).ownBlock = some j) (wr.alloc (.cells #[.string nm, .int .i64 fl, .slice A5 s.length c5] 43)) w' →
          w'.ownsRow W.heap.size 47 3 (.slice (some ⟨g', 0, none⟩) (k + 1) cap') (k + 1) (flatT (rs.take (k + 1))) ∧ Upd (fun _ => False) W w' := fun g' cap' w' h1 h2 =>
        ⟨by rw [htk]; exact h1, (hu.trans' uE).trans h2 fun j hj => .inr (hge j hj)⟩
      replace fin := Lib.hid fin
      have hwb : W.heap.size ≤ (wr.alloc (.cells #[.string nm, .int .i64 fl, .slice A5 s.length c5] 43)).heap.size := by rw [World.size_alloc]; omega
      replace hwb := Lib.hid hwb
      clear ho uE hu htk hge
      gi_wp2_with (first | refine (⟨trivial, rfl, ?_⟩ : Fence.wide.fn _ ∧ Fence.wide.depth = none ∧ _) | ((with_reducible refine app3 Try.underlying34 infoT2 zT (by omega) ho2 ?_ ?_ ?_ ?_ ?_ ?_ ?_ ?_); exact hwb.out; omega; rfl; rfl; rfl; rfl; (first | rfl | (rw [World.size_alloc]; rfl)); intro g' cap' w' h1 h2 h3 h4; have k4 := Lib.hid (fin.out g' cap' w' h1 h2); clear h1 h2 h3 h4) | refine (⟨trivial, ?_⟩ : Fence.wide.fn _ ∧ _))
      exact ⟨⟨k + 1, by go_num, by omega, k4.out.1, k4.out.2⟩, by simp [intOf]; omega⟩
    · obtain rfl : k = rs.length := by omega
      rw [List.take_length] at ho
      obtain ⟨A5, cap5, rfl, hn5, hr5, _, hb5⟩ := own_readsS ho
      have hge := own_base ho
      have hRT := (hrW.out _ hu).each
      replace ho := Lib.hid ho
      replace hu := Lib.hid hu
      gi_wp2_with (first | refine (⟨trivial, rfl, ?_⟩ : Fence.wide.fn _ ∧ Fence.wide.depth = none ∧ _) | refine (⟨trivial, ?_⟩ : Fence.wide.fn _ ∧ _))
      go_ret
      exact ⟨A5, cap5, rfl, hn5, ⟨hr5, hRT⟩, fun j hj => hge j (hb5 j hj), hu.out⟩
set_option maxRecDepth 100000 in
set_option maxHeartbeats 8000000 in
theorem same14_c {n : Nat} (hr : ReadsT W A rs) (hr2 : ReadsT W A2 rs2) (he : rs2.map absT = rs.map absT) (hl : rs.length ≤ 100000) (hs : ∀ r ∈ rs, r.2.2.1.length ≤ 100000) : CallsIn Fence.wide n Try.prog 12 #[.slice A rs.length cap, .slice A2 rs2.length cap2] W fun e W2 => e = .returned (.bool true) ∧ Upd (fun _ => False) W W2 := by
  have hll : rs2.length = rs.length := by simpa using congrArg List.length he
  have hrW := Lib.hid fun V (u : Upd (fun _ => False) W V) => hr.upd u fun _ _ => id
  have hrW2 := Lib.hid fun V (u : Upd (fun _ => False) W V) => hr2.upd u fun _ _ => id
  have heq : ∀ k (h : k < rs.length) (h' : k < rs2.length), absT rs2[k] = absT rs[k] := fun k h h' => by
    have h1 : (rs2.map absT)[k]? = (rs.map absT)[k]? := by rw [he]
    simpa [h, h'] using h1
  rw [hll]
  clear hr hr2 he
  refine callsIn_any (n := 0) (callsIn_of_wp Try.func12 rfl trivial ?_)
  simp only [Try.ntmps12, List.size_toArray, List.length_cons, List.length_nil, Nat.reduceAdd, Nat.reduceSub, Array.replicate_succ, Array.replicate_zero, List.push_toArray, List.append_toArray, List.nil_append, List.cons_append]
  gi_wp2
  gi_loopw [14] (fun i wr => ∃ k : Nat, i = .int .i64 k ∧ k ≤ rs.length ∧ Upd (fun _ => False) W wr) (fun i _ => rs.length - (intOf i).toNat)
  case atStart => exact ⟨0, rfl, Nat.zero_le _, Upd.refl _ _⟩
  case round =>
    obtain ⟨k, rfl, hk, hu⟩ := hrel
    by_cases hlt : k < rs.length
    · have hlt2 : k < rs2.length := by omega
      have hud := Lib.hid hu.stepDrew
      obtain ⟨g, o, hA, c0, c1, c2⟩ := (hrW.out _ hud.out).at hlt
      obtain ⟨g', o', hA2, d0, d1, d2⟩ := (hrW2.out _ hud.out).at hlt2
      have hE := heq k hlt hlt2
      have hsl := hs _ (List.getElem_mem hlt)
      have hm1 := List.getElem_mem hlt
      have hm2 := List.getElem_mem hlt2
      have hw5 : IntKind.i64.wrap ((k : Int) + 1) = (k : Int) + 1 := Go.IntWalk.i64_in _ ⟨by omega, by omega⟩
      obtain ⟨x, hx⟩ : ∃ x, rs[k] = x := ⟨_, rfl⟩
      obtain ⟨y, hy⟩ : ∃ y, rs2[k] = y := ⟨_, rfl⟩
      rw [hx] at c0 c1 c2 hE hsl hm1
      rw [hy] at d0 d1 d2 hE hm2
      clear hx hy
      obtain ⟨nm, fl, s, A5, c5⟩ := x
      obtain ⟨nm', fl', s', A6, c6⟩ := y
      simp only [absT, Prod.mk.injEq] at hE
      obtain ⟨rfl, rfl, rfl⟩ := hE
      simp only at c0 c1 c2 d0 d1 d2 hsl
      have hn1 := Lib.hid fun V (u : Upd (fun _ => False) W V) => ((hrW.out V u).each _ hm1).1
      have hn2 := Lib.hid fun V (u : Upd (fun _ => False) W V) => ((hrW2.out V u).each _ hm2).1
      have hc := Lib.hid fun V (u : Upd (fun _ => False) wr.drew V) => show (V.cell? ⟨g, o + k * 3, none⟩ = some (.string nm') ∧ V.cell? ⟨g, o + k * 3 + 1, none⟩ = some (.int .i64 fl') ∧ V.cell? ⟨g, o + k * 3 + 2, none⟩ = some (.slice A5 s'.length c5)) ∧ (V.cell? ⟨g', o' + k * 3, none⟩ = some (.string nm') ∧ V.cell? ⟨g', o' + k * 3 + 1, none⟩ = some (.int .i64 fl') ∧ V.cell? ⟨g', o' + k * 3 + 2, none⟩ = some (.slice A6 s'.length c6)) from
        ⟨⟨cell_upd u c0, cell_upd u c1, cell_upd u c2⟩, ⟨cell_upd u d0, cell_upd u d1, cell_upd u d2⟩⟩
      subst hA hA2
      clear hu heq hs hm1 hm2 hrW hrW2 c0 c1 c2 d0 d1 d2 hlt2
      have hh := hc.out _ (Upd.refl _ _)
      gi_wp2
      refine wpIn_eager [(0, true), (1, true), (2, true), (3, true), (4, true), (5, true), (6, true), (7, true), (8, true), (9, true), (10, true), (11, true), (12, true), (13, true), (14, true), (15, true), (16, true), (17, true), (18, true), (19, true), (20, true), (21, true), (22, true), (23, true), (24, true), (25, true), (26, true), (27, true), (28, true), (29, true), (30, true), (31, true), (32, true), (33, true), (34, true), (35, true), (36, true), (37, true), (38, true)] (fun V => (V.cell? ⟨g, o + k * 3, none⟩ = some (.string nm') ∧ V.cell? ⟨g, o + k * 3 + 1, none⟩ = some (.int .i64 fl') ∧ V.cell? ⟨g, o + k * 3 + 2, none⟩ = some (.slice A5 s'.length c5)) ∧ (V.cell? ⟨g', o' + k * 3, none⟩ = some (.string nm') ∧ V.cell? ⟨g', o' + k * 3 + 1, none⟩ = some (.int .i64 fl') ∧ V.cell? ⟨g', o' + k * 3 + 2, none⟩ = some (.slice A6 s'.length c6))) (by kernel_rfl) (by kernel_rfl) hh ?_
      repeat (first | (refine wpE_fl rfl rfl (fun _ _ => rfl) ?_; go_simp) | (refine wpE_sk rfl rfl ?_; go_simp) | (refine wpE_fl (v := ?_) rfl rfl ?_ ?_; rotate_left; (intro W' h'; (try dsimp only at h'); go_simp; exact rfl); go_simp) | (refine wpE_ef rfl ?_; go_simp; gi_wp2_with (first | refine (⟨trivial, rfl, ?_⟩ : Fence.wide.fn _ ∧ Fence.wide.depth = none ∧ _) | refine (⟨trivial, trivial, rfl, ?_⟩ : Fence.wide.fn _ ∧ Fence.wide.fn _ ∧ Fence.wide.depth = none ∧ _) | refine (⟨trivial, ?_⟩ : Fence.wide.fn _ ∧ _)); (first | refine ⟨by first | exact hh, ?_⟩ | skip)))
      refine wpE_nil ?_
      obtain ⟨⟨_, _, c2⟩, ⟨_, _, d2⟩⟩ := hh
      gi_wp2
      gi_loopw [62] (fun i wr2 => ∃ j : Nat, i = .int .i64 j ∧ j ≤ s'.length ∧ Upd (fun _ => False) wr.drew wr2) (fun i _ => s'.length - (intOf i).toNat)
      case atStart => exact ⟨0, rfl, Nat.zero_le _, Upd.refl _ _⟩
      case round =>
        obtain ⟨j, rfl, hj, hu2⟩ := hrel
        by_cases hjl : j < s'.length
        · have hcc := hc.out _ hu2.stepDrew
          have hud2 := (hud.out.trans' hu2).stepDrew
          obtain ⟨g5, o5, rfl, n1⟩ := reads_at (hn1.out _ hud2) (by rw [intsV_len]; omega)
          obtain ⟨g6, o6, rfl, n2⟩ := reads_at (hn2.out _ hud2) (by rw [intsV_len]; omega)
          have e1 := n1 j _ (intsV_get s' j hjl)
          have e2 := n2 j _ (intsV_get s' j hjl)
          have hw6 : IntKind.i64.wrap ((j : Int) + 1) = (j : Int) + 1 := Go.IntWalk.i64_in _ ⟨by omega, by omega⟩
          generalize s'[j] = q at *
          have hu3 := Lib.hid hu2.stepDrew
          clear n1 n2 hud2 hu2 hn1 hn2 hc
          gi_wp2
          refine wpIn_eager [(0, true), (1, true), (2, true), (3, true), (4, true), (5, true), (6, true), (7, true), (8, true), (9, true), (10, true), (11, true), (12, true), (13, true), (14, true), (15, true), (16, true)] (fun V => ((V.cell? ⟨g, o + k * 3, none⟩ = some (.string nm') ∧ V.cell? ⟨g, o + k * 3 + 1, none⟩ = some (.int .i64 fl') ∧ V.cell? ⟨g, o + k * 3 + 2, none⟩ = some (.slice (some ⟨g5, o5, none⟩) s'.length c5)) ∧ (V.cell? ⟨g', o' + k * 3, none⟩ = some (.string nm') ∧ V.cell? ⟨g', o' + k * 3 + 1, none⟩ = some (.int .i64 fl') ∧ V.cell? ⟨g', o' + k * 3 + 2, none⟩ = some (.slice (some ⟨g6, o6, none⟩) s'.length c6))) ∧ V.cell? ⟨g5, o5 + j, none⟩ = some (.int .i64 q) ∧ V.cell? ⟨g6, o6 + j, none⟩ = some (.int .i64 q)) (by kernel_rfl) (by kernel_rfl) ⟨hcc, e1, e2⟩ ?_
          repeat (first | (refine wpE_fl rfl rfl (fun _ _ => rfl) ?_; go_simp) | (refine wpE_sk rfl rfl ?_; go_simp) | (refine wpE_fl (v := ?_) rfl rfl ?_ ?_; rotate_left; (intro W' h'; (try dsimp only at h'); go_simp; exact rfl); go_simp) | (refine wpE_ef rfl ?_; go_simp; gi_wp2_with (first | refine (⟨trivial, rfl, ?_⟩ : Fence.wide.fn _ ∧ Fence.wide.depth = none ∧ _) | refine (⟨trivial, trivial, rfl, ?_⟩ : Fence.wide.fn _ ∧ Fence.wide.fn _ ∧ Fence.wide.depth = none ∧ _) | refine (⟨trivial, ?_⟩ : Fence.wide.fn _ ∧ _)); (first | refine ⟨by first | exact ⟨hcc, e1, e2⟩, ?_⟩ | skip)))
          refine wpE_nil ?_
          gi_wp2
          exact ⟨⟨j + 1, by go_num, by omega, hu3.out⟩, by simp [intOf]; omega⟩
        · obtain rfl : j = s'.length := by omega
          replace hu2 := Lib.hid (hud.out.trans' hu2)
          clear hc hn1 hn2
          gi_wp2_with (first | refine (⟨trivial, rfl, ?_⟩ : Fence.wide.fn _ ∧ Fence.wide.depth = none ∧ _) | refine (⟨trivial, ?_⟩ : Fence.wide.fn _ ∧ _))
          exact ⟨⟨k + 1, by go_num, by omega, hu2.out⟩, by simp [intOf]; omega⟩
    · obtain rfl : k = rs.length := by omega
      replace hu := Lib.hid hu
      gi_wp2_with (first | refine (⟨trivial, rfl, ?_⟩ : Fence.wide.fn _ ∧ Fence.wide.depth = none ∧ _) | refine (⟨trivial, ?_⟩ : Fence.wide.fn _ ∧ _))
      go_ret
      exact ⟨rfl, hu.out⟩
end
end Go.Proofs.Ytgleiajmdbekiaa

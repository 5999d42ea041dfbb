/- mark: the document's Awake, Tick. -/
import Derived.Test.YtpljdckppmobeaaProg
import Derived.Test.YtpljdckppmobeaaBase
import Derived.Test.YtpljdckppmobeaaMkF2
namespace Go.Proofs.Ytpljdckppmobeaa
open Go.RowKit Go.Shelf
attribute [local go_sem] Oper.semAt_some

def awS (now idle : Int) (ls : List (KSM × VSM)) : List (KSM × VSM) := ls.filter fun x => decide (now - x.2.2 ≤ idle)
theorem awL_awS (now idle : Int) (ls : List (KSM × VSM)) : awL now idle ls = (awS now idle ls).map fun x => (x.1, x.2.1) := rfl
theorem awS_len (now idle : Int) (ls : List (KSM × VSM)) : (awS now idle ls).length ≤ ls.length := List.length_filter_le _ _
theorem awS_take {now idle : Int} {ls : List (KSM × VSM)} {k : Nat} (h : k < ls.length) : awS now idle (ls.take (k + 1)) = if now - ls[k].2.2 ≤ idle then awS now idle (ls.take k) ++ [ls[k]] else awS now idle (ls.take k) := by
  simp only [awS]
  rw [List.take_succ_eq_append_getElem h, List.filter_append]
  by_cases hc : now - ls[k].2.2 ≤ idle
  · rw [if_pos hc]; simp [List.filter_cons, hc]
  · rw [if_neg hc]; simp [List.filter_cons, hc]
section
variable {now low idle : Int} {ls : List (KSM × VSM)} {A : Option Addr} {cap : Nat} {W : World}
set_option maxRecDepth 100000 in
set_option maxHeartbeats 4000000 in
theorem awake13_c {n : Nat} (hr : Reads1 W A (flatS ls)) (hl : ls.length ≤ 100000) (hn : 0 ≤ now ∧ now ≤ mxT) (hat : ∀ x ∈ ls, 0 ≤ x.2.2 ∧ x.2.2 ≤ now) : CallsIn Fence.wide n Try.prog 37 #[.agg #[.int .i64 now, .int .i64 low, .slice A ls.length cap], .int .i64 idle] W fun e W2 => ∃ A' cap', e = .returned (.slice A' (awS now idle ls).length cap') ∧ (awS now idle ls).length ≤ cap' ∧ Reads1 W2 A' (flatS (awS now idle ls)) ∧ (∀ j, blkOf A' j → W.heap.size ≤ j ∧ j < W2.heap.size) ∧ Upd (fun _ => False) W W2 := by
  have u1 := Upd.alloc (fun _ => False) W (.cells #[.int .i64 now, .int .i64 low, .slice A ls.length cap] 43)
  have b1 := Blk.new W #[.int .i64 now, .int .i64 low, .slice A ls.length cap] 43
  have hrW := Lib.hid fun V (u : Upd (fun _ => False) W V) => hr.agree' (w' := V) (u.agree fun j hj => ⟨hr.lt' j hj, id⟩)
  clear hr
  replace b1 := Lib.hid b1
  replace u1 := Lib.hid u1
  simp only [mxT] at hn
  refine callsIn_any (n := 0) (callsIn_of_wp Try.func37 rfl trivial ?_)
  simp only [Try.ntmps37, List.size_toArray, List.length_cons, List.length_nil, Nat.reduceAdd, Nat.reduceSub, Array.replicate_succ, Array.replicate_zero, List.push_toArray, List.append_toArray, List.nil_append, List.cons_append]
  gi_wp2
  gi_loopw [10, 5] (fun i v wr => ∃ k : Nat, i = .int .i64 k ∧ k ≤ ls.length ∧ Blk wr W.heap.size #[.int .i64 now, .int .i64 low, .slice A ls.length cap] 43 ∧ wr.ownsRow (W.heap.size + 1) 74 3 v (awS now idle (ls.take k)).length (flatS (awS now idle (ls.take k))) ∧ Upd (fun _ => False) W wr) (fun i _ _ => ls.length - (intOf i).toNat)
  case atStart => exact ⟨0, rfl, Nat.zero_le _, b1.out, World.ownsRow_nil _ _ _ 3, u1.out⟩
  case round =>
    obtain ⟨k, rfl, hk, hB, hO, hu⟩ := hrel
    by_cases hlt : k < ls.length
    · obtain ⟨g, o, rfl, hc⟩ := reads_at (hrW.out _ hu.stepDrew) (by rw [flatS_len]; omega)
      have c0 := hc _ _ (flatS_get ls k hlt)
      have c1 := hc _ _ (flatS_get1 ls k hlt)
      have c2 := hc _ _ (flatS_get2 ls k hlt)
      rw [← Nat.add_assoc] at c1 c2
      have hw5 : IntKind.i64.wrap ((k : Int) + 1) = (k : Int) + 1 := Go.IntWalk.i64_in _ ⟨by omega, by omega⟩
      have htk := awS_take (now := now) (idle := idle) hlt
      have hx2 := hat _ (List.getElem_mem hlt)
      obtain ⟨s, hs⟩ : ∃ s, awS now idle (ls.take k) = s := ⟨_, rfl⟩
      have hsl : s.length ≤ 100000 := by
        rw [← hs]
        have h1 := awS_len now idle (ls.take k)
        have h2 : (ls.take k).length ≤ ls.length := by rw [List.length_take]; omega
        omega
      rw [hs] at hO htk
      clear hs
      obtain ⟨x, hx⟩ : ∃ x, ls[k] = x := ⟨_, rfl⟩
      rw [hx] at c0 c1 c2 htk hx2
      clear hx hc
      obtain ⟨nm, tm, at0⟩ := x
      simp only at c0 c1 c2 hx2 htk
      have hw1 : IntKind.i64.wrap (now - at0) = now - at0 := Go.IntWalk.i64_in _ ⟨by omega, by omega⟩
      have ud := Upd.drew (fun _ => False) wr
      have hBd := hB.upd ud id
      have a0 : wr.drew.cell? ⟨W.heap.size, 0, none⟩ = some (.int .i64 now) := hBd.cell 0
      have a2 : wr.drew.cell? ⟨W.heap.size, 2, none⟩ = some (.slice (some ⟨g, o, none⟩) ls.length cap) := hBd.cell 2
      obtain ⟨A3, cap3, rfl⟩ := own_shape hO
      have hO' := own_agree hO (w' := wr.drew) fun _ _ => rfl
      replace hu := hu.stepDrew
      have hz := hu.size
      have hlB := hBd.lt
      obtain ⟨V1, hV⟩ : ∃ V1, wr.drew = V1 := ⟨_, rfl⟩
      rw [hV] at c0 c1 c2 hBd a0 a2 hO' hu hz hlB
      by_cases hcc : now - at0 ≤ idle
      · rw [if_pos hcc] at htk
        have fin : ∀ g' cap' w', w'.ownsRow (W.heap.size + 1) 74 3 (.slice (some ⟨g', 0, none⟩) (s.length + 1) cap') (s.length + 1) (flatS s ++ [.string nm, .int .i64 tm, .int .i64 at0]) → Upd (fun j => (Value.slice A3 s.length cap3).ownBlock = some j) V1 w' →
            Blk w' W.heap.size #[.int .i64 now, .int .i64 low, .slice (some ⟨g, o, none⟩) ls.length cap] 43 ∧ w'.ownsRow (W.heap.size + 1) 74 3 (.slice (some ⟨g', 0, none⟩) (s.length + 1) cap') (awS now idle (ls.take (k + 1))).length (flatS (awS now idle (ls.take (k + 1)))) ∧ Upd (fun _ => False) W w' := by
          intro g' cap' w' h1 h2
          have hge : ∀ j, (Value.slice A3 s.length cap3).ownBlock = some j → W.heap.size + 1 ≤ j := fun j hj => own_ge hO j hj
          refine ⟨hBd.upd h2 fun h => by have := hge _ h; omega, ?_, hu.trans h2 fun j hj => .inr (by have := hge j hj; omega)⟩
          rw [htk, flatS_append, List.length_append]
          exact h1
        replace fin := Lib.hid fin
        clear hB hBd hO htk ud
        gi_wp2
        refine wpIn_eager [(0, true), (1, true), (2, true), (3, true), (4, true), (5, true), (6, true), (7, true), (8, true), (9, true), (10, true)] (fun V => V.cell? ⟨W.heap.size, 0, none⟩ = some (.int .i64 now) ∧ V.cell? ⟨W.heap.size, 2, none⟩ = some (.slice (some ⟨g, o, none⟩) ls.length cap) ∧ V.cell? ⟨g, o + k * 3 + 2, none⟩ = some (.int .i64 at0)) (by kernel_rfl) (by kernel_rfl) (by rw [hV]; exact ⟨a0, a2, c2⟩) ?_
        repeat (first | (refine wpE_fl rfl rfl (fun _ _ => rfl) ?_; go_simp) | (refine wpE_sk rfl rfl ?_; go_simp) | (refine wpE_fl (v := ?_) rfl rfl ?_ ?_; rotate_left; (intro W' h'; (try dsimp only at h'); go_simp; exact rfl); go_simp) | (refine wpE_ef rfl ?_; go_simp; gi_wp2_with (first | refine (⟨trivial, rfl, ?_⟩ : Fence.wide.fn _ ∧ Fence.wide.depth = none ∧ _) | refine (⟨trivial, trivial, rfl, ?_⟩ : Fence.wide.fn _ ∧ Fence.wide.fn _ ∧ Fence.wide.depth = none ∧ _) | refine (⟨trivial, ?_⟩ : Fence.wide.fn _ ∧ _)); (first | refine ⟨by first | exact trivial, ?_⟩ | skip)))
        refine wpE_nil ?_
        gi_wp2_with (first | refine (⟨trivial, rfl, ?_⟩ : Fence.wide.fn _ ∧ Fence.wide.depth = none ∧ _) | ((with_reducible refine app3 Try.underlying41 infoT zS (by omega) hO' ?_ ?_ ?_ ?_ ?_ ?_ ?_ ?_); omega; omega; rfl; rfl; rfl; rfl; rfl; intro g' cap' w' h1 h2 h3 h4; have kk := Lib.hid (fin.out g' cap' w' h1 h2); clear h1 h2 h3 h4) | refine (⟨trivial, ?_⟩ : Fence.wide.fn _ ∧ _))
        obtain ⟨p1, p2, p3⟩ := kk.out
        exact ⟨⟨k + 1, by go_num, by omega, p1, p2, p3⟩, by simp [intOf]; omega⟩
      · rw [if_neg hcc] at htk
        have hcd : (now - at0 ≤ idle) = False := eq_false hcc
        have fin := Lib.hid (show Blk V1 W.heap.size #[.int .i64 now, .int .i64 low, .slice (some ⟨g, o, none⟩) ls.length cap] 43 ∧ V1.ownsRow (W.heap.size + 1) 74 3 (.slice A3 s.length cap3) (awS now idle (ls.take (k + 1))).length (flatS (awS now idle (ls.take (k + 1)))) ∧ Upd (fun _ => False) W V1 from ⟨hBd, by rw [htk]; exact hO', hu⟩)
        clear hB hBd hO hO' htk ud
        gi_wp2
        refine wpIn_eager [(0, true), (1, true), (2, true), (3, true), (4, true), (5, true), (6, true), (7, true), (8, true), (9, true), (10, true)] (fun V => V.cell? ⟨W.heap.size, 0, none⟩ = some (.int .i64 now) ∧ V.cell? ⟨W.heap.size, 2, none⟩ = some (.slice (some ⟨g, o, none⟩) ls.length cap) ∧ V.cell? ⟨g, o + k * 3 + 2, none⟩ = some (.int .i64 at0)) (by kernel_rfl) (by kernel_rfl) (by rw [hV]; exact ⟨a0, a2, c2⟩) ?_
        repeat (first | (refine wpE_fl rfl rfl (fun _ _ => rfl) ?_; go_simp) | (refine wpE_sk rfl rfl ?_; go_simp) | (refine wpE_fl (v := ?_) rfl rfl ?_ ?_; rotate_left; (intro W' h'; (try dsimp only at h'); go_simp; exact rfl); go_simp) | (refine wpE_ef rfl ?_; go_simp; gi_wp2_with (first | refine (⟨trivial, rfl, ?_⟩ : Fence.wide.fn _ ∧ Fence.wide.depth = none ∧ _) | refine (⟨trivial, trivial, rfl, ?_⟩ : Fence.wide.fn _ ∧ Fence.wide.fn _ ∧ Fence.wide.depth = none ∧ _) | refine (⟨trivial, ?_⟩ : Fence.wide.fn _ ∧ _)); (first | refine ⟨by first | exact trivial, ?_⟩ | skip)))
        refine wpE_nil ?_
        gi_wp2_with (first | refine (⟨trivial, rfl, ?_⟩ : Fence.wide.fn _ ∧ Fence.wide.depth = none ∧ _) | refine (⟨trivial, ?_⟩ : Fence.wide.fn _ ∧ _))
        obtain ⟨p1, p2, p3⟩ := fin.out
        exact ⟨⟨k + 1, by go_num, by omega, p1, p2, p3⟩, by simp [intOf]; omega⟩
    · obtain rfl : k = ls.length := by omega
      rw [List.take_length] at hO
      obtain ⟨A5, cap5, rfl, hn5, hr5, _, hb5⟩ := own_readsS hO
      have hb6 := Lib.hid fun j hj => hO.lt j (hb5 j hj)
      replace hr5 := Lib.hid hr5
      replace hu := Lib.hid hu
      clear hB hO hb5
      gi_wp2_with (first | refine (⟨trivial, rfl, ?_⟩ : Fence.wide.fn _ ∧ Fence.wide.depth = none ∧ _) | refine (⟨trivial, ?_⟩ : Fence.wide.fn _ ∧ _))
      go_ret
      exact ⟨A5, cap5, rfl, hn5, hr5.out, fun j hj => ⟨by have := (hb6.out j hj).1; omega, (hb6.out j hj).2⟩, hu.out⟩
end
end Go.Proofs.Ytpljdckppmobeaa

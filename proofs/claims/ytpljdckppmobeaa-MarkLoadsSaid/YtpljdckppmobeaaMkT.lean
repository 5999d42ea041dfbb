/- mark: a state as the document has it (Ref), and that two of them are the same (Same). -/
import Derived.Test.YtpljdckppmobeaaProg
import Derived.Test.YtpljdckppmobeaaBase
import Derived.Test.YtpljdckppmobeaaMkS
import Derived.Test.YtpljdckppmobeaaMkF
namespace Go.Proofs.Ytpljdckppmobeaa
open Go.RowKit Go.Shelf
attribute [local go_sem] Oper.semAt_some

theorem infoT : (Try.prog.info? 74).map (fun i => (i.zero, i.size, i.bytes)) = some (some (.agg #[.string ⟨#[]⟩, .int .i64 0, .int .i64 0]), 3, 32) := by kernel_rfl
section
variable {now low : Int} {l : List (KSM × VSM)} {A : Option Addr} {cap : Nat} {W : World}
set_option maxRecDepth 100000 in
set_option maxHeartbeats 4000000 in
theorem ref_c {n : Nat} (hr : Reads1 W A (flatS l)) (hl : l.length ≤ 100000) : CallsIn Fence.wide n Try.prog 17 #[.agg #[.int .i64 now, .int .i64 low, .slice A l.length cap]] W fun e W2 => ∃ A' cap', e = .returned (.agg #[.int .i64 now, .int .i64 low, .slice A' l.length cap']) ∧ l.length ≤ cap' ∧ Reads1 W2 A' (flatS l) ∧ (∀ j, blkOf A' j → W.heap.size ≤ j ∧ j < W2.heap.size) ∧ Upd (fun _ => False) W W2 := by
  have u1 := Upd.alloc (fun _ => False) W (.cells #[.int .i64 now, .int .i64 low, .slice A l.length cap] 47)
  have u2 := u1.stepAlloc (.cells #[.int .i64 0, .int .i64 0, .slice none 0 0] 43)
  have u3 := u2.stepAlloc (.cells #[.int .i64 now, .int .i64 low, .slice none 0 0] 43)
  have b1 := ((Blk.new W #[.int .i64 now, .int .i64 low, .slice A l.length cap] 47).alloc (.cells #[.int .i64 0, .int .i64 0, .slice none 0 0] 43)).alloc (.cells #[.int .i64 now, .int .i64 low, .slice none 0 0] 43)
  have b2 := (Blk.new (W.alloc (.cells #[.int .i64 now, .int .i64 low, .slice A l.length cap] 47)) #[.int .i64 0, .int .i64 0, .slice none 0 0] 43).alloc (.cells #[.int .i64 now, .int .i64 low, .slice none 0 0] 43)
  have b3 := Blk.new ((W.alloc (.cells #[.int .i64 now, .int .i64 low, .slice A l.length cap] 47)).alloc (.cells #[.int .i64 0, .int .i64 0, .slice none 0 0] 43)) #[.int .i64 now, .int .i64 low, .slice none 0 0] 43
  simp only [World.size_alloc] at b2 b3
  have hrW := Lib.hid fun V (u : Upd (fun _ => False) W V) => hr.agree' (w' := V) (u.agree fun j hj => ⟨hr.lt' j hj, id⟩)
  have g0 : GatS 43 74 (W.heap.size + 1 + 1) W.heap.size (.int .i64 now) (.int .i64 low) [] _ (.slice none 0 0) := ⟨b3, World.ownsRow_nil _ _ _ 3, by simp [Value.ownBlock]⟩
  clear hr u1 u2
  replace g0 := Lib.hid g0
  replace b1 := Lib.hid b1
  replace b2 := Lib.hid b2
  replace u3 := Lib.hid u3
  refine callsIn_any (n := 0) (callsIn_of_wp Try.func17 rfl trivial ?_)
  simp only [Try.ntmps17, List.size_toArray, List.length_cons, List.length_nil, Nat.reduceAdd, Nat.reduceSub, Array.replicate_succ, Array.replicate_zero, List.push_toArray, List.append_toArray, List.nil_append, List.cons_append]
  gi_wp2
  gi_loopw [14] (fun i wr => ∃ (k : Nat) (v : Value), i = .int .i64 k ∧ k ≤ l.length ∧ GatS 43 74 (W.heap.size + 1 + 1) W.heap.size (.int .i64 now) (.int .i64 low) (l.take k) wr v ∧ (∀ j, v.ownBlock = some j → W.heap.size + 1 + 1 < j) ∧ Blk wr (W.heap.size + 1) #[.int .i64 0, .int .i64 0, .slice none 0 0] 43 ∧ Upd (fun _ => False) W wr) (fun i _ => l.length - (intOf i).toNat)
  case atStart => exact ⟨0, _, rfl, Nat.zero_le _, g0.out, fun j hj => by simp [Value.ownBlock] at hj, b2.out, u3.out⟩
  case round =>
    obtain ⟨k, v, rfl, hk, hG, hv, r2, hu⟩ := hrel
    by_cases hlt : k < l.length
    · obtain ⟨g, o, rfl, hc⟩ := reads_at (hrW.out _ hu) (by rw [flatS_len]; omega)
      have c0 := hc _ _ (flatS_get l k hlt)
      have c1 := hc _ _ (flatS_get1 l k hlt)
      have c2 := hc _ _ (flatS_get2 l k hlt)
      rw [← Nat.add_assoc] at c1 c2
      have hw5 : IntKind.i64.wrap ((k : Int) + 1) = (k : Int) + 1 := Go.IntWalk.i64_in _ ⟨by omega, by omega⟩
      have htk : l.take (k + 1) = l.take k ++ [l[k]] := List.take_succ_eq_append_getElem hlt
      have hlk : (l.take k).length = k := by rw [List.length_take]; omega
      obtain ⟨x, hx⟩ : ∃ x, l[k] = x := ⟨_, rfl⟩
      rw [hx] at c0 c1 c2 htk
      clear hx hc
      obtain ⟨s, hs⟩ : ∃ s, l.take k = s := ⟨_, rfl⟩
      rw [hs] at hG hlk htk
      clear hs
      subst hlk
      obtain ⟨nm, tm, at0⟩ := x
      simp only at c0 c1 c2
      obtain ⟨A3, cap3, rfl⟩ := own_shape hG.2.1
      have uE := Upd.alloc (fun _ => False) wr (.cells #[.string nm, .int .i64 tm, .int .i64 at0] 75)
      have hG2 := hG.agree (uE.agree (D := fun j => j = W.heap.size + 1 + 1 ∨ (Value.slice A3 s.length cap3).ownBlock = some j) fun j hj => ⟨by rcases hj with rfl | h; exact hG.1.lt; exact (hG.2.1.lt j h).2, id⟩)
      have cS : (wr.alloc (.cells #[.string nm, .int .i64 tm, .int .i64 at0] 75)).cell? ⟨W.heap.size + 1 + 1, 2, none⟩ = some (.slice A3 s.length cap3) := hG2.1.cell 2
      have hz := hu.size
      have hzE := uE.size
      have r2' := r2.upd uE id
      have hlt3 := hG.1.lt
      have fin : ∀ g' cap' w', w'.ownsRow W.heap.size 74 3 (.slice (some ⟨g', 0, none⟩) (s.length + 1) cap') (s.length + 1) (flatS s ++ [.string nm, .int .i64 tm, .int .i64 at0]) → Upd (fun j => (Value.slice A3 s.length cap3).ownBlock = some j) (wr.alloc (.cells #[.string nm, .int .i64 tm, .int .i64 at0] 75)) w' → ((Value.slice A3 s.length cap3).ownBlock = some g' ∨ (wr.alloc (.cells #[.string nm, .int .i64 tm, .int .i64 at0] 75)).heap.size ≤ g') → g' < w'.heap.size →
          w'.cell? ⟨W.heap.size + 1 + 1, 2, none⟩ = some (.slice A3 s.length cap3) ∧ w'.frozen? ⟨W.heap.size + 1 + 1, 2, none⟩ = false ∧ W.heap.size + 1 + 1 < w'.heap.size ∧
          ∃ v, GatS 43 74 (W.heap.size + 1 + 1) W.heap.size (.int .i64 now) (.int .i64 low) (l.take (s.length + 1)) (w'.setCell ⟨W.heap.size + 1 + 1, 2, none⟩ (.slice (some ⟨g', 0, none⟩) (s.length + 1) cap')) v ∧ (∀ j, v.ownBlock = some j → W.heap.size + 1 + 1 < j) ∧
            Blk (w'.setCell ⟨W.heap.size + 1 + 1, 2, none⟩ (.slice (some ⟨g', 0, none⟩) (s.length + 1) cap')) (W.heap.size + 1) #[.int .i64 0, .int .i64 0, .slice none 0 0] 43 ∧ Upd (fun _ => False) W (w'.setCell ⟨W.heap.size + 1 + 1, 2, none⟩ (.slice (some ⟨g', 0, none⟩) (s.length + 1) cap')) := by
        intro g' cap' w' h1 h2 h3 h4
        obtain ⟨p1, p2, p3, p4, p5, p6⟩ := hG2.push (x := (nm, tm, at0)) h1 h2 h3 h4
        refine ⟨p1, p2, p3, _, by rw [htk]; exact p4, fun j hj => ?_, r2'.upd p5 ?_, (hu.trans' uE).trans p5 fun j hj => .inr ?_⟩
        · rcases (p6 j (.inr hj)).2 with (h | h) | h
          · subst h; exact absurd hj p4.2.2
          · exact hv j h
          · simp only [World.size_alloc] at h; omega
        · rintro (h | h)
          · omega
          · have := hv _ h; omega
        · rcases hj with h | h
          · omega
          · have := hv _ h; omega
      replace fin := Lib.hid fin
      have ho := hG2.2.1
      have hwb : W.heap.size ≤ (wr.alloc (.cells #[.string nm, .int .i64 tm, .int .i64 at0] 75)).heap.size := by omega
      replace hwb := Lib.hid hwb
      clear hG hG2 hv r2 r2' hu uE hzE htk
      gi_wp2_with (first | refine (⟨trivial, rfl, ?_⟩ : Fence.wide.fn _ ∧ Fence.wide.depth = none ∧ _) | ((with_reducible refine app3 Try.underlying41 infoT zS (by omega) ho ?_ ?_ ?_ ?_ ?_ ?_ ?_ ?_); exact hwb.out; omega; rfl; rfl; rfl; rfl; (rw [World.size_alloc]; rfl); intro g' cap' w' h1 h2 h3 h4; obtain ⟨k1, k2, k3, k4⟩ := fin.out g' cap' w' h1 h2 h3 h4; (replace k4 := Lib.hid k4); clear h1 h2 h3 h4) | refine (⟨trivial, ?_⟩ : Fence.wide.fn _ ∧ _))
      obtain ⟨v9, p1, p2, p3, p4⟩ := k4.out
      exact ⟨⟨s.length + 1, v9, by go_num, by omega, p1, p2, p3, p4⟩, by simp [intOf]; omega⟩
    · obtain rfl : k = l.length := by omega
      rw [List.take_length] at hG
      obtain ⟨A5, cap5, rfl, hn5, hr5, _, hb5⟩ := own_readsS hG.2.1
      have c0 : wr.cell? ⟨W.heap.size + 1 + 1, 0, none⟩ = some (.int .i64 now) := hG.1.cell 0
      have c1 : wr.cell? ⟨W.heap.size + 1 + 1, 1, none⟩ = some (.int .i64 low) := hG.1.cell 1
      have c2 : wr.cell? ⟨W.heap.size + 1 + 1, 2, none⟩ = some (.slice A5 l.length cap5) := hG.1.cell 2
      have e0 : wr.cell? ⟨W.heap.size + 1, 0, none⟩ = some (.int .i64 0) := r2.cell 0
      have e1 : wr.cell? ⟨W.heap.size + 1, 1, none⟩ = some (.int .i64 0) := r2.cell 1
      have e2 : wr.cell? ⟨W.heap.size + 1, 2, none⟩ = some (.slice none 0 0) := r2.cell 2
      have f0 := r2.frozen 0
      have f1 := r2.frozen 1
      have f2 := r2.frozen 2
      have l5 := r2.lt
      have hb6 : ∀ j, blkOf A5 j → W.heap.size + 1 + 1 < j ∧ j < wr.heap.size := fun j hj => ⟨hv j (hb5 j hj), (hG.2.1.lt j (hb5 j hj)).2⟩
      have r6 := Lib.hid (((r2.set 0 (.int .i64 now)).set 1 (.int .i64 low)).set 2 (.slice A5 l.length cap5))
      have u6 := Lib.hid (((hu.stepSet (p := ⟨W.heap.size + 1, 0, none⟩) (.inr (Nat.le_succ _)) (.int .i64 now)).stepSet (p := ⟨W.heap.size + 1, 1, none⟩) (.inr (Nat.le_succ _)) (.int .i64 low)).stepSet (p := ⟨W.heap.size + 1, 2, none⟩) (.inr (Nat.le_succ _)) (.slice A5 l.length cap5))
      have hr6 : Reads1 (((wr.setCell ⟨W.heap.size + 1, 0, none⟩ (.int .i64 now)).setCell ⟨W.heap.size + 1, 1, none⟩ (.int .i64 low)).setCell ⟨W.heap.size + 1, 2, none⟩ (.slice A5 l.length cap5)) A5 (flatS l) := hr5.agree' fun k hk => by
        have := (hb6 k hk.2).1
        rw [Below.heap_setCell _ _ _ _ (by dsimp only; omega), Below.heap_setCell _ _ _ _ (by dsimp only; omega), Below.heap_setCell _ _ _ _ (by dsimp only; omega)]
      replace hr6 := Lib.hid hr6
      replace hb6 := Lib.hid hb6
      clear hG hr5 hb5 hv r2 hu
      gi_wp2
      refine bodyPost_ret (results_c3 rfl rfl rfl rfl (r6.out.cell 0) (r6.out.cell 1) (r6.out.cell 2)) rfl ?_
      exact ⟨A5, cap5, rfl, hn5, hr6.out, fun j hj => ⟨by have := (hb6.out j hj).1; omega, by have := (hb6.out j hj).2; simpa using this⟩, u6.out⟩
set_option maxRecDepth 100000 in
set_option maxHeartbeats 4000000 in
theorem same_c {n : Nat} {A2 : Option Addr} {cap2 : Nat} (hr : Reads1 W A (flatS l)) (hr2 : Reads1 W A2 (flatS l)) (hl : l.length ≤ 100000) : CallsIn Fence.wide n Try.prog 16 #[.agg #[.int .i64 now, .int .i64 low, .slice A l.length cap], .agg #[.int .i64 now, .int .i64 low, .slice A2 l.length cap2]] W fun e W2 => e = .returned (.bool true) ∧ Upd (fun _ => False) W W2 := by
  have u1 := Upd.alloc (fun _ => False) W (.cells #[.int .i64 now, .int .i64 low, .slice A l.length cap] 43)
  have u2 := u1.stepAlloc (.cells #[.int .i64 now, .int .i64 low, .slice A2 l.length cap2] 43)
  have b1 := (Blk.new W #[.int .i64 now, .int .i64 low, .slice A l.length cap] 43).alloc (.cells #[.int .i64 now, .int .i64 low, .slice A2 l.length cap2] 43)
  have b2 := Blk.new (W.alloc (.cells #[.int .i64 now, .int .i64 low, .slice A l.length cap] 43)) #[.int .i64 now, .int .i64 low, .slice A2 l.length cap2] 43
  simp only [World.size_alloc] at b2
  have hrW := Lib.hid fun V (u : Upd (fun _ => False) W V) => hr.agree' (w' := V) (u.agree fun j hj => ⟨hr.lt' j hj, id⟩)
  have hrW2 := Lib.hid fun V (u : Upd (fun _ => False) W V) => hr2.agree' (w' := V) (u.agree fun j hj => ⟨hr2.lt' j hj, id⟩)
  clear hr hr2 u1
  replace u2 := Lib.hid u2
  replace b1 := Lib.hid b1
  replace b2 := Lib.hid b2
  refine callsIn_any (n := 0) (callsIn_of_wp Try.func16 rfl trivial ?_)
  simp only [Try.ntmps16, List.size_toArray, List.length_cons, List.length_nil, Nat.reduceAdd, Nat.reduceSub, Array.replicate_succ, Array.replicate_zero, List.push_toArray, List.append_toArray, List.nil_append, List.cons_append]
  gi_wp2
  gi_loopw [30] (fun i wr => ∃ k : Nat, i = .int .i64 k ∧ k ≤ l.length ∧ Blk wr W.heap.size #[.int .i64 now, .int .i64 low, .slice A l.length cap] 43 ∧ Blk wr (W.heap.size + 1) #[.int .i64 now, .int .i64 low, .slice A2 l.length cap2] 43 ∧ Upd (fun _ => False) W wr) (fun i _ => l.length - (intOf i).toNat)
  case atStart => exact ⟨0, rfl, Nat.zero_le _, b1.out, b2.out, u2.out⟩
  case round =>
    obtain ⟨k, rfl, hk, p1, p2, hu⟩ := hrel
    by_cases hlt : k < l.length
    · obtain ⟨g, o, rfl, hc⟩ := reads_at (hrW.out _ hu.stepDrew) (by rw [flatS_len]; omega)
      obtain ⟨g', o', rfl, hc'⟩ := reads_at (hrW2.out _ hu.stepDrew) (by rw [flatS_len]; omega)
      have ud := Upd.drew (fun _ => False) wr
      have p1' := Lib.hid (p1.upd ud id)
      have p2' := Lib.hid (p2.upd ud id)
      have c0 := hc _ _ (flatS_get l k hlt)
      have c1 := hc _ _ (flatS_get1 l k hlt)
      have c2 := hc _ _ (flatS_get2 l k hlt)
      have d0 := hc' _ _ (flatS_get l k hlt)
      have d1 := hc' _ _ (flatS_get1 l k hlt)
      have d2 := hc' _ _ (flatS_get2 l k hlt)
      rw [← Nat.add_assoc] at c1 c2 d1 d2
      have a1 : wr.drew.cell? ⟨W.heap.size, 2, none⟩ = some (.slice (some ⟨g, o, none⟩) l.length cap) := p1'.out.cell 2
      have a2 : wr.drew.cell? ⟨W.heap.size + 1, 2, none⟩ = some (.slice (some ⟨g', o', none⟩) l.length cap2) := p2'.out.cell 2
      have hw5 : IntKind.i64.wrap ((k : Int) + 1) = (k : Int) + 1 := Go.IntWalk.i64_in _ ⟨by omega, by omega⟩
      replace hu := Lib.hid hu.stepDrew
      obtain ⟨x, hx⟩ : ∃ x, l[k] = x := ⟨_, rfl⟩
      rw [hx] at c0 c1 c2 d0 d1 d2
      clear hx hc hc' p1 p2 ud
      obtain ⟨nm, tm, at0⟩ := x
      simp only at c0 c1 c2 d0 d1 d2
      gi_wp2
      refine wpIn_eager [(0, true), (1, true), (2, true), (3, true), (4, true), (5, true), (6, true), (7, true), (8, true), (9, true), (10, true)] (fun V => V.cell? ⟨W.heap.size, 2, none⟩ = some (.slice (some ⟨g, o, none⟩) l.length cap) ∧ V.cell? ⟨W.heap.size + 1, 2, none⟩ = some (.slice (some ⟨g', o', none⟩) l.length cap2) ∧ V.cell? ⟨g, o + k * 3, none⟩ = some (.string nm) ∧ V.cell? ⟨g, o + k * 3 + 1, none⟩ = some (.int .i64 tm) ∧ V.cell? ⟨g, o + k * 3 + 2, none⟩ = some (.int .i64 at0) ∧ V.cell? ⟨g', o' + k * 3, none⟩ = some (.string nm) ∧ V.cell? ⟨g', o' + k * 3 + 1, none⟩ = some (.int .i64 tm) ∧ V.cell? ⟨g', o' + k * 3 + 2, none⟩ = some (.int .i64 at0)) (by kernel_rfl) (by kernel_rfl) ⟨a1, a2, c0, c1, c2, d0, d1, d2⟩ ?_
      repeat (first | (refine wpE_fl rfl rfl (fun _ _ => rfl) ?_; go_simp) | (refine wpE_sk rfl rfl ?_; go_simp) | (refine wpE_fl (v := ?_) rfl rfl ?_ ?_; rotate_left; (intro W' h'; (try dsimp only at h'); go_simp; exact rfl); go_simp) | (refine wpE_ef rfl ?_; go_simp; gi_wp2_with (first | refine (⟨trivial, rfl, ?_⟩ : Fence.wide.fn _ ∧ Fence.wide.depth = none ∧ _) | refine (⟨trivial, trivial, rfl, ?_⟩ : Fence.wide.fn _ ∧ Fence.wide.fn _ ∧ Fence.wide.depth = none ∧ _) | refine (⟨trivial, ?_⟩ : Fence.wide.fn _ ∧ _)); (first | refine ⟨by first | exact trivial, ?_⟩ | skip)))
      refine wpE_nil ?_
      gi_wp2
      exact ⟨⟨k + 1, by go_num, by omega, p1'.out, p2'.out, hu.out⟩, by simp [intOf]; omega⟩
    · obtain rfl : k = l.length := by omega
      replace hu := Lib.hid hu
      clear p1 p2
      gi_wp2_with (first | refine (⟨trivial, rfl, ?_⟩ : Fence.wide.fn _ ∧ Fence.wide.depth = none ∧ _) | refine (⟨trivial, ?_⟩ : Fence.wide.fn _ ∧ _))
      go_ret
      exact ⟨rfl, hu.out⟩
end
end Go.Proofs.Ytpljdckppmobeaa

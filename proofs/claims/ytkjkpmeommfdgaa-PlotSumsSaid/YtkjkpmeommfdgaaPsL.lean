/- PlotSums answers true, whatever its input. -/
import Derived.Test.YtkjkpmeommfdgaaProg
import Derived.Test.YtkjkpmeommfdgaaBase
import Derived.Test.YtkjkpmeommfdgaaWvI
import Derived.Test.YtkjkpmeommfdgaaWvL
import Derived.Test.YtkjkpmeommfdgaaWvH
import Derived.Test.YtkjkpmeommfdgaaWvSH
import Derived.Test.YtkjkpmeommfdgaaPbA
import Derived.Test.YtkjkpmeommfdgaaPsB
namespace Go.Proofs.Ytkjkpmeommfdgaa
open Go.RowKit Go.Shelf
attribute [local go_sem] Oper.semAt_some if_max if_min

theorem notNil (k : FuncId) (cap : Array Value) (W : World) : (binOp .eql 32 (.func (.func k) #[] cap) .nilFunc).run Try.prog W = .ok (.bool false) W := by kernel_rfl

set_option maxRecDepth 100000 in
set_option maxHeartbeats 2000000 in
theorem plotSums_c {n : Nat} {A : Option Addr} {cap : Nat} {xs : List Int} {m : Int} {w : World} (hr : Reads1 w A (xs.map (Value.int .i64))) (hin : ∀ x ∈ xs, -9223372036854775808 ≤ x ∧ x ≤ 9223372036854775807) (hm0 : 0 ≤ m) (hm1 : m < 256) :
    CallsIn Fence.wide n Try.prog 10 #[.slice A xs.length cap, .int .u8 m] w fun e w' => e = .returned (.bool true) ∧ Below w.heap.size w w' := by
  refine callsIn_any (n := 0) (callsIn_of_wp Try.func10 rfl trivial ?_)
  simp only [Try.ntmps10, List.size_toArray, List.length_cons, List.length_nil, Nat.reduceAdd, Nat.reduceSub, Array.replicate_succ, Array.replicate_zero, List.push_toArray, List.append_toArray, List.nil_append, List.cons_append]
  have hA : ∀ k, blkOf' A xs.length k → k < w.heap.size := fun k hk => hr.lt' k (by simpa using hk)
  have hu0 := Upd.alloc (fun _ => False) w (.cells #[.slice A xs.length cap] 22)
  have hbl : Blk (w.alloc (.cells #[.slice A xs.length cap] 22)) w.heap.size #[.slice A xs.length cap] 22 := Blk.new _ _ _
  replace hr := hr.agree' (hu0.agree fun k hk => ⟨hr.lt' k hk, id⟩)
  have clb := hbl.cell0
  have llb := hbl.lt
  by_cases hf : xs.length ≤ 60
  · have hm9 : 0 ≤ m % 70 ∧ m % 70 ≤ 69 := by omega
    replace hr := Lib.hid hr
    replace hin := Lib.hid hin
    gi_wp2_with (first | refine (⟨trivial, rfl, ?_⟩ : Fence.wide.fn _ ∧ Fence.wide.depth = none ∧ _) | (gi_at_call 48; refine awake30_c.mono ?_; rintro e W1 ⟨rfl, hu⟩; (replace hr := Lib.hid (hr.out.agree' (hu.agree fun k hk => ⟨hr.out.lt' k hk, id⟩))); (replace hbl := hbl.upd hu id); (replace clb := hbl.cell0); (replace llb := hbl.lt); (replace hu0 := hu0.trans' hu); clear hu; (have cl3 := Blk.cell0 (((hbl.alloc (.cells #[.int .i64 0] 3)).alloc (.cells #[.int .i64 (m % 70)] 3)).alloc (.cells #[.int .i64 0] 3) |>.alloc (.cells #[.bool true] 4)))))
    have hn : Blk ((((W1.alloc (.cells #[.int .i64 0] 3)).alloc (.cells #[.int .i64 (m % 70)] 3)).alloc (.cells #[.int .i64 0] 3)).alloc (.cells #[.bool true] 4)) W1.heap.size #[.int .i64 0] 3 := Blk.alloc (Blk.alloc (Blk.alloc (Blk.new' rfl) _) _) _
    have hm : Blk ((((W1.alloc (.cells #[.int .i64 0] 3)).alloc (.cells #[.int .i64 (m % 70)] 3)).alloc (.cells #[.int .i64 0] 3)).alloc (.cells #[.bool true] 4)) (W1.heap.size + 1) #[.int .i64 (m % 70)] 3 := Blk.alloc (Blk.alloc (Blk.new' (by simp)) _) _
    have hs : Blk ((((W1.alloc (.cells #[.int .i64 0] 3)).alloc (.cells #[.int .i64 (m % 70)] 3)).alloc (.cells #[.int .i64 0] 3)).alloc (.cells #[.bool true] 4)) (W1.heap.size + 1 + 1) #[.int .i64 0] 3 := Blk.alloc (Blk.new' (by simp)) _
    have hok : Blk ((((W1.alloc (.cells #[.int .i64 0] 3)).alloc (.cells #[.int .i64 (m % 70)] 3)).alloc (.cells #[.int .i64 0] 3)).alloc (.cells #[.bool true] 4)) (W1.heap.size + 1 + 1 + 1) #[.bool true] 4 := Blk.new' (by simp)
    have hu : Upd (fun _ => False) W1 ((((W1.alloc (.cells #[.int .i64 0] 3)).alloc (.cells #[.int .i64 (m % 70)] 3)).alloc (.cells #[.int .i64 0] 3)).alloc (.cells #[.bool true] 4)) := (((Upd.alloc _ _ _).stepAlloc _).stepAlloc _).stepAlloc _
    have hsz : ((((W1.alloc (.cells #[.int .i64 0] 3)).alloc (.cells #[.int .i64 (m % 70)] 3)).alloc (.cells #[.int .i64 0] 3)).alloc (.cells #[.bool true] 4)).heap.size = W1.heap.size + 4 := by simp
    replace hr := hr.out.agree' (hu.agree fun k hk => ⟨hr.out.lt' k hk, id⟩)
    replace hbl := hbl.upd hu id
    replace hu0 := hu0.trans' hu
    clear hu cl3 clb
    have z1 : w.heap.size < W1.heap.size := llb
    generalize ((((W1.alloc (.cells #[.int .i64 0] 3)).alloc (.cells #[.int .i64 (m % 70)] 3)).alloc (.cells #[.int .i64 0] 3)).alloc (.cells #[.bool true] 4)) = WX at *
    clear llb
    generalize W1.heap.size = b at *
    have hz : b + 1 + 1 + 1 < WX.heap.size ∧ b < WX.heap.size ∧ b + 1 + 1 < WX.heap.size := by omega
    clear hsz
    have hnil := notNil
    gi_wp2_with (first | refine (⟨trivial, rfl, ?_⟩ : Fence.wide.fn _ ∧ Fence.wide.depth = none ∧ _) | (gi_at_call 52; refine (sumsP_c hr (by omega)).mono ?_; rintro e W2 ⟨bs, bn2, evs, D, rfl, hev, hseq, hD, hu⟩; (replace hr := hr.agree' (hu.agree fun k hk => ⟨hr.lt' k hk, id⟩)); (replace hbl := hbl.upd hu id); (replace hn := hn.upd hu id); (replace hm := hm.upd hu id); (replace hs := hs.upd hu id); (replace hok := hok.upd hu id); (replace hu0 := hu0.trans' hu); clear hu; (replace hev := Lib.hid hev)) | (gi_at_call 86; refine (sums_run hok hn hbl hm hs (by omega) hr hin.out hev.out hseq hD hz (by omega) (by omega) (by omega) (fun k hk => by have := hA k hk; exact ⟨by omega, by omega, by omega⟩)).2.mono ?_; (rintro e W3 ⟨v, rfl, p1, p2, hu⟩); (have c1 := p1.cell0); (have c2 := p2.cell0); (have c3 := (hbl.upd hu (by rintro (h | h | h) <;> omega)).cell0); (have c4 := (hm.upd hu (by rintro (h | h | h) <;> omega)).cell0); (replace hu0 := hu0.trans (M' := fun k => k = b + 1 + 1 + 1 ∨ k = b ∨ k = b + 1 + 1) hu (fun k hk => .inr (by rcases hk with h | h | h <;> omega))); clear hseq hD hok hn hbl hm hs hr))
    refine bodyPost_ret (results_tmp (t := 4) rfl _ _ _) rfl ⟨congrArg (fun b => Ending.returned (Value.bool b)) ?_, hu0.below (Nat.le_refl _) (fun _ h => h.elim)⟩
    simp only [beq_iff_eq]
    omega
  · clear hr
    gi_wp2_with (first | refine (⟨trivial, rfl, ?_⟩ : Fence.wide.fn _ ∧ Fence.wide.depth = none ∧ _) | (gi_at_call 48; refine awake30_c.mono ?_; rintro e W1 ⟨rfl, hu⟩; (replace hbl := hbl.upd hu id); (replace clb := hbl.cell0); (replace llb := hbl.lt); (replace hu0 := hu0.trans' hu); clear hu))
    exact bodyPost_ret (results_tmp rfl _ _ _) rfl ⟨rfl, hu0.below (Nat.le_refl _) (fun _ h => h.elim)⟩
end Go.Proofs.Ytkjkpmeommfdgaa

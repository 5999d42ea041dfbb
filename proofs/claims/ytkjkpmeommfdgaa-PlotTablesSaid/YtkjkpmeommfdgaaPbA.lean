/- Layer 30's awake; the document's Right and Buckets. -/
import Derived.Test.YtkjkpmeommfdgaaProg
import Derived.Test.YtkjkpmeommfdgaaBase
import Derived.Test.YtkjkpmeommfdgaaWvI
import Derived.Test.YtkjkpmeommfdgaaWvL
import Derived.Test.YtkjkpmeommfdgaaWvH
import Derived.Test.YtkjkpmeommfdgaaWvE
import Derived.Test.YtkjkpmeommfdgaaPbB
set_option linter.unusedSimpArgs false
set_option linter.unusedVariables false
namespace Go.Proofs.Ytkjkpmeommfdgaa
open Go.RowKit Go.Shelf
attribute [local go_sem] Oper.semAt_some

theorem Blk.reads {w : World} {b : Nat} {xs : List Value} {t : TypeId} (h : Blk w b xs.toArray t) : Reads1 w (some ⟨b, 0, none⟩) xs := by
  intro i v hv
  refine ⟨_, rfl, ?_⟩
  have e1 : (⟨b, 0, none⟩ : Addr).add i = ⟨b, i, none⟩ := by unfold Addr.add; split <;> simp_all
  rw [e1, h.cell i]
  simpa using hv

set_option maxRecDepth 100000 in
set_option maxHeartbeats 1000000 in
theorem awake30_c {n : Nat} {w : World} : CallsIn Fence.wide n Try.prog 48 #[] w fun e w' => e = .returned (.bool true) ∧ Upd (fun _ => False) w w' := by
  refine callsIn_any (n := 0) (callsIn_of_wp Try.func48 rfl trivial ?_)
  simp only [Try.ntmps48, List.size_toArray, List.length_nil, Nat.reduceSub, Array.replicate_succ, Array.replicate_zero, List.push_toArray, List.append_toArray, List.nil_append, List.cons_append]
  have hb : Rises [0, 10] ∧ [0, 10].length ≤ 50 := by
    refine ⟨?_, by decide⟩
    intro i j hi hj hij
    simp at hi hj
    obtain rfl : i = 0 := by omega
    obtain rfl : j = 1 := by omega
    show (0 : Int) < 10
    decide
  obtain ⟨WX, hX⟩ : ∃ WX, WX = (w.alloc (.cells #[.int .i64 0, .int .i64 10] 3)).alloc (.cells #[.int .i64 (-1), .int .i64 0, .int .i64 10, .int .i64 11] 3) := ⟨_, rfl⟩
  have hu : Upd (fun _ => False) w WX := by rw [hX]; exact (Upd.alloc _ _ _).stepAlloc _
  have r1 : Reads1 WX (some ⟨w.heap.size, 0, none⟩) ([0, 10].map (Value.int .i64)) := by rw [hX]; exact Blk.reads (Blk.alloc (Blk.new' rfl) _)
  have r2 : Reads1 WX (some ⟨w.heap.size + 1, 0, none⟩) ([-1, 0, 10, 11].map (Value.int .i64)) := by rw [hX]; exact Blk.reads (Blk.new' (by simp))
  gi_wp2_with (first | refine (⟨trivial, rfl, ?_⟩ : Fence.wide.fn _ ∧ Fence.wide.depth = none ∧ _) | (gi_at_call 24; (rw [← hX]); refine values_u.mono ?_; rintro e W2 ⟨bv, rfl, hbv, hu2⟩; (replace r1 := r1.agree' (hu2.agree fun k hk => ⟨r1.lt' k hk, id⟩)); (replace r2 := r2.agree' (hu2.agree fun k hk => ⟨r2.lt' k hk, id⟩)); (replace hu := hu.trans' hu2); clear hu2) | (gi_at_call 49; refine (bucketsGood_c r1 (by decide) hb (by decide) (values_seq hbv r2 (by decide))).mono ?_; rintro e W2 ⟨g, rfl, hg, _, hu2⟩; (replace hu := hu.trans' hu2); clear hu2 r1 r2 hbv) | (gi_at_call 37; refine (equal_c (xs := bkOf [0, 10] [-1, 0, 10, 11]) (ys := [2, 1, 1]) (hg.alloc _).reads (Blk.reads (Blk.new _ _ _)) (by decide) (by decide) (by decide)).mono ?_; rintro e W3 ⟨rfl, hu2⟩; (replace hu := (hu.stepAlloc _).trans' hu2); clear hu2))
  exact bodyPost_ret (results_tmp rfl _ _ _) rfl ⟨rfl, hu⟩

theorem wpStill_sk {P : Program} {ops : Array Oper} {W : World} {Q : Act → Prop} {a a' : Act} {o : Oper} {rest : List Oper} (hw : Region.wanted o (yielded ops a.tmps) = false) (hp : a.put o.dst undef = a') (h : wpStill P ops W Q rest a') : wpStill P ops W Q (o :: rest) a := by
  refine wpStill_step fun K hK => ?_
  rw [if_neg (by rw [hw]; simp), hp]
  exact hK _ h

theorem rises_adj {xs : List Int} : Rises xs ↔ ∀ t (h : t + 1 < xs.length), xs[t] < xs[t + 1] := by
  constructor
  · intro h t ht
    exact h _ _ _ _ (by omega)
  · intro h
    have key : ∀ d i (hi : i < xs.length) (hj : i + d + 1 < xs.length), xs[i] < xs[i + d + 1] := by
      intro d
      induction d with
      | zero => intro i hi hj; exact h i hj
      | succ d ih => intro i hi hj; exact Int.lt_trans (ih i hi (by omega)) (h (i + d + 1) hj)
    intro i j hi hj hij
    have := key (j - i - 1) i hi (by omega)
    simpa [show i + (j - i - 1) + 1 = j by omega] using this

set_option maxRecDepth 100000 in
set_option maxHeartbeats 1000000 in
open Classical in
theorem rightRef_c {n : Nat} {A : Option Addr} {cap : Nat} {xs : List Int} {w : World} (hr : Reads1 w A (xs.map (Value.int .i64))) (hl : xs.length ≤ 900) :
    CallsIn Fence.wide n Try.prog 50 #[.slice A xs.length cap] w fun e w' => e = .returned (.bool (decide (Rises xs ∧ xs.length ≤ 50))) ∧ Upd (fun _ => False) w w' := by
  have hrd := fun (wr : World) (hu : Upd (fun _ => False) w wr) (i : Nat) (h : i < xs.length) => (hr.agree' (w' := wr) (hu.agree fun k hk => ⟨hr.lt' k hk, id⟩)) i (.int .i64 xs[i]) (by simp [h])
  replace hrd := Lib.hid hrd
  clear hr
  refine callsIn_any (n := 0) (callsIn_of_wp Try.func50 rfl trivial ?_)
  simp only [Try.ntmps50, List.size_toArray, List.length_cons, List.length_nil, Nat.reduceAdd, Nat.reduceSub, Array.replicate_succ, Array.replicate_zero, List.push_toArray, List.append_toArray, List.nil_append, List.cons_append]
  gi_wp2
  gi_loopw [6] (fun i wr => ∃ j : Nat, j ≤ xs.length ∧ i = .int .i64 j ∧ (∀ t (h : t + 1 < xs.length), t + 1 < j → xs[t] < xs[t + 1]) ∧ Upd (fun _ => False) w wr) (fun i _ => xs.length - (intOf i).toNat)
  case atStart => exact ⟨0, Nat.zero_le _, rfl, fun t _ ht => absurd ht (by omega), Upd.refl _ _⟩
  case round =>
    obtain ⟨j, hj, rfl, hsame, hu⟩ := hrel
    by_cases hlt : j < xs.length
    · replace hsame := Lib.hid hsame
      by_cases h0 : j = 0
      · have hp0 : ¬ (0 : Int) < (j : Int) := by omega
        replace hu := hu.stepDrew
        gi_wp2
        refine wpIn_eager [(0, true), (1, true), (2, true), (3, true), (4, true), (5, true), (6, true), (7, true), (8, true), (9, true), (10, true), (11, true), (12, true), (13, true)] (fun _ => True) (by kernel_rfl) (by kernel_rfl) trivial ?_
        generalize wr.drew = V at *
        refine wpE_fl rfl rfl (fun _ _ => rfl) ?_
        go_simp
        refine wpE_fl (v := .bool false) rfl rfl (fun W' h' => ?_) ?_
        · go_simp
        go_simp
        refine wpE_fl rfl rfl (fun _ _ => rfl) ?_
        go_simp
        iterate 10 (refine wpE_sk rfl rfl ?_; go_simp)
        refine wpE_fl (v := .bool false) rfl rfl (fun W' h' => ?_) ?_
        · go_simp
        go_simp
        refine wpE_nil ?_
        gi_wp2
        exact ⟨⟨1, by omega, by simp, fun t h ht => by omega, hu⟩, by simp [intOf]; omega⟩
      · obtain ⟨a, rfl, c1⟩ := hrd.out wr.drew hu.stepDrew j hlt
        obtain ⟨a', ea, c2⟩ := hrd.out wr.drew hu.stepDrew (j - 1) (by omega)
        obtain rfl := Option.some.inj ea
        replace hu := hu.stepDrew
        obtain ⟨i, hi⟩ : ∃ i, j - 1 = i := ⟨_, rfl⟩
        have hi2 : i < xs.length := by omega
        have he : xs[j - 1]'(by omega) = xs[i] := by simp [hi]
        rw [he, hi] at c2
        have hp : (0 : Int) < (j : Int) := by omega
        have hw1 : (j : Int) - 1 = (i : Int) := by omega
        have hw2 : IntKind.i64.wrap (i : Int) = (i : Int) := Go.IntWalk.i64_in _ ⟨by omega, by omega⟩
        have hij : j = i + 1 := by omega
        replace hij := Lib.hid hij
        clear he hi
        gi_wp2
        refine wpIn_eager [(0, true), (1, true), (2, true), (3, true), (4, true), (5, true), (6, true), (7, true), (8, true), (9, true), (10, true), (11, true), (12, true), (13, true)] (fun V => V.cell? (a.add i) = some (.int .i64 xs[i]) ∧ V.cell? (a.add j) = some (.int .i64 xs[j])) (by kernel_rfl) (by kernel_rfl) ⟨c2, c1⟩ ?_
        generalize wr.drew = V at *
        refine wpE_fl rfl rfl (fun _ _ => rfl) ?_
        go_simp
        refine wpE_fl (v := .bool true) rfl rfl (fun W' h' => ?_) ?_
        · go_simp; omega
        go_simp
        refine wpE_fl rfl rfl (fun _ _ => rfl) ?_
        go_simp
        refine wpE_fl rfl rfl (fun _ _ => rfl) ?_
        go_simp
        refine wpE_fl rfl rfl (fun _ _ => rfl) ?_
        go_simp
        refine wpE_fl (v := .int .i64 i) rfl rfl (fun W' h' => ?_) ?_
        · go_simp
        go_simp
        refine wpE_fl (v := .pointer (some (a.add i))) rfl rfl (fun W' h' => ?_) ?_
        · go_simp
        go_simp
        refine wpE_fl (v := .int .i64 xs[i]) rfl rfl (fun W' h' => ?_) ?_
        · obtain ⟨h1, h2⟩ := h'; go_simp
        go_simp
        refine wpE_fl rfl rfl (fun _ _ => rfl) ?_
        go_simp
        refine wpE_fl rfl rfl (fun _ _ => rfl) ?_
        go_simp
        refine wpE_fl (v := .pointer (some (a.add j))) rfl rfl (fun W' h' => ?_) ?_
        · go_simp
        go_simp
        refine wpE_fl (v := .int .i64 xs[j]) rfl rfl (fun W' h' => ?_) ?_
        · obtain ⟨h1, h2⟩ := h'; go_simp
        go_simp
        refine wpE_fl (v := .bool (decide (xs[j] ≤ xs[i]))) rfl rfl (fun W' h' => ?_) ?_
        · go_simp
        go_simp
        refine wpE_fl (v := .bool (decide (xs[j] ≤ xs[i]))) rfl rfl (fun W' h' => ?_) ?_
        · go_simp
        go_simp
        refine wpE_nil ?_
        gi_wp2
        · have hb : xs[j] ≤ xs[i] := by first | assumption | simpa using (by assumption : decide (xs[j] ≤ xs[i]) = true)
          refine bodyPost_ret (results_tmp rfl _ _ _) rfl ⟨?_, hu⟩
          have hn : ¬ (Rises xs ∧ xs.length ≤ 50) := fun h => by
            have := h.1 i j hi2 hlt (by have := hij.out; omega)
            omega
          rw [decide_eq_false hn]
          rfl
        · have hb : ¬ xs[j] ≤ xs[i] := by first | assumption | omega
          refine ⟨⟨j + 1, by omega, by go_num, fun t h ht => ?_, hu⟩, by simp [intOf]; omega⟩
          by_cases he : t + 1 < j
          · exact hsame.out t h he
          · have h2 := hij.out
            obtain rfl : t = i := by omega
            subst h2
            omega
    · gi_wp2
      refine bodyPost_ret (results_tmp rfl _ _ _) rfl ⟨?_, hu⟩
      have hri : Rises xs := rises_adj.2 fun t h => hsame t h (by omega)
      exact congrArg (fun b => Ending.returned (Value.bool b)) (decide_eq_decide.2 ⟨fun h => ⟨hri, by omega⟩, fun h => by have := h.2; omega⟩)
end Go.Proofs.Ytkjkpmeommfdgaa

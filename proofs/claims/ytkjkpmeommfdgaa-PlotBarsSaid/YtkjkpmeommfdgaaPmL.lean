/- PlotBars: the law. -/
import Derived.Test.YtkjkpmeommfdgaaProg
import Derived.Test.YtkjkpmeommfdgaaBase
import Derived.Test.YtkjkpmeommfdgaaPmC
import Derived.Test.YtkjkpmeommfdgaaPmR
import Derived.Test.YtkjkpmeommfdgaaPbA
set_option linter.unusedSimpArgs false
set_option linter.unusedVariables false
namespace Go.Proofs.Ytkjkpmeommfdgaa
open Go.RowKit Go.Shelf
attribute [local go_sem] Oper.semAt_some

theorem infoN : (Try.prog.info? 3).map (fun i => (i.zero, i.size, i.bytes)) = some (some (.int .i64 0), 1, 8) := by kernel_rfl
theorem int_one (xs : List Int) : ∀ u ∈ xs.map (Value.int .i64), u.oneCell' = true := by
  intro u hu
  obtain ⟨x, _, rfl⟩ := List.mem_map.1 hu
  rfl
theorem maxN_take {ks : List Nat} {i : Nat} (h : i < ks.length) : maxN (ks.take (i + 1)) = max (maxN (ks.take i)) ks[i] := by
  rw [maxN, List.take_succ_eq_append_getElem h, List.foldl_append]; rfl
theorem cell_keep {W V : World} (u : Upd (fun _ => False) W V) {p : Addr} {v : Value} (h : W.cell? p = some v) : V.cell? p = some v :=
  ((u.agree (D := fun k => k = p.block) fun k hk => ⟨by rw [hk]; exact World.block_lt_of_cell? W _ h, id⟩).cell rfl).trans h
/-- What is copied. -/
theorem own_copy {W5 : World} {base : Nat} {v : Value} {n : Nat} {xs : List Int} (h : W5.ownsRow base 3 1 v (0 + n) ([] ++ xs.map (Value.int .i64))) (hn : n = xs.length) : ∃ A c, v = .slice A xs.length c ∧ Reads1 W5 A (xs.map (Value.int .i64)) := by
  subst hn
  obtain ⟨A, c, rfl, _, r, _, _⟩ := own_readsS h
  refine ⟨A, c, by simp, by simpa using r⟩
section
variable {A : Option Addr} {cap : Nat} {W : World}
set_option maxRecDepth 100000 in
set_option maxHeartbeats 4000000 in
/-- Where something isn't good. -/
theorem plotBarsNo_w {n : Nat} {xs : List Int} {wd : Int} (hr : Reads1 W A (xs.map (Value.int .i64))) (hl : xs.length ≤ 40) (hb : ¬ (1 ≤ wd ∧ wd ≤ 200) ∨ xs.any outB = true) :
    CallsIn Fence.wide n Try.prog 12 #[.slice A xs.length cap, .int .i64 wd] W fun e W2 => e = .returned (.bool true) ∧ Upd (fun _ => False) W W2 := by
  have hrW := Lib.hid fun V (u : Upd (fun _ => False) W V) => hr.agree' (w' := V) (u.agree fun j hj => ⟨hr.lt' j hj, id⟩)
  have kAw := Lib.hid (awake30_c (n := 0) (w := W))
  have hb2 : wd < 1 ∨ 200 < wd ∨ xs.any outB = true := by
    rcases hb with h | h
    · by_cases h1 : wd < 1
      · exact .inl h1
      · exact .inr (.inl (by omega))
    · exact .inr (.inr h)
  have kB := Lib.hid fun V A c (h : Reads1 V A (xs.map (Value.int .i64))) => barsNo_c (n := 0) (cap := c) h (by omega) hb2
  have h40 : ((40 : Int) < xs.length) = False := eq_false (by omega)
  have hend : (decide (1 ≤ wd ∧ wd ≤ 200) && !xs.any outB) = false := by
    rcases hb with h | h
    · rw [decide_eq_false h]; rfl
    · rw [h]; simp
  replace hend := Lib.hid hend
  clear hr hb hb2
  obtain ⟨b0, hb0⟩ : ∃ b0, decide (1 ≤ wd ∧ wd ≤ 200) = b0 := ⟨_, rfl⟩
  rw [hb0] at hend
  have hst : ∀ c : Bool, c = b0 → Value.bool c = .bool (b0 && !(xs.take 0).any outB) := fun c h => by rw [h]; simp
  have h3 : (1 ≤ wd ∧ wd ≤ 200) ∨ (1 ≤ wd ∧ ¬ wd ≤ 200) ∨ (¬ 1 ≤ wd ∧ wd ≤ 200) := by omega
  rcases h3 with ⟨c1, c2⟩ | ⟨c1, c2⟩ | ⟨c1, c2⟩
  all_goals
    simp only [c1, c2, and_self, and_true, and_false, decide_true, decide_false] at hb0
    replace hst := Lib.hid (hst _ hb0)
    clear hb0
    refine callsIn_any (n := 0) (callsIn_of_wp Try.func12 rfl trivial ?_)
    simp only [Try.ntmps12, List.size_toArray, List.length_cons, List.length_nil, Nat.reduceAdd, Nat.reduceSub, Array.replicate_succ, Array.replicate_zero, List.push_toArray, List.append_toArray, List.nil_append, List.cons_append]
    gi_wp2_with (first | refine (⟨trivial, rfl, ?_⟩ : Fence.wide.fn _ ∧ Fence.wide.depth = none ∧ _) | (gi_at_call 48; (with_reducible refine kAw.out.mono ?_); rintro e W1 ⟨rfl, u1⟩; (skip)) | ((with_reducible refine appS (A := A) (m := xs.length) (c := cap) (news := xs.map (Value.int .i64)) Try.underlying22 infoN rfl (by omega) (by omega) (own_emptyS W1 _ 1) ?_ ?_ ?_ ?_ ?_ (hrW.out _ (u1.stepAlloc _)) ?_ ?_); rfl; rfl; (focus simp); (focus simp); omega; exact int_one xs; intro v5 W5 h5 g5 e5; have u5 : Upd (fun _ => False) W W5 := (u1.stepAlloc _).trans g5 (fun j hj => .inr (by simp [Value.ownBlock] at hj; have := u1.size; omega)); obtain ⟨A5, c5, rfl, r5⟩ := own_copy h5 rfl; have kB5 := Lib.hid (kB.out _ _ c5 r5); clear h5 g5 e5 r5) | (gi_at_call 58; (with_reducible refine kB5.out.mono ?_); rintro e W6 ⟨rfl, u6⟩; (skip)) | refine (⟨trivial, ?_⟩ : Fence.wide.fn _ ∧ _))
    gi_loopw [40, 8, 9] (fun i m o wr => ∃ (k : Nat) (mm : Int), i = .int .i64 k ∧ k ≤ xs.length ∧ m = .int .i64 mm ∧ o = .bool (b0 && !(xs.take k).any outB) ∧ Upd (fun _ => False) W wr) (fun i _ _ _ => xs.length - (intOf i).toNat)
    case atStart => exact ⟨0, 0, rfl, Nat.zero_le _, rfl, (by first | exact hst.out | (rw [decide_eq_false (by omega)]; exact hst.out)), u5.trans' u6⟩
    case round =>
      obtain ⟨k, mm, rfl, hk, rfl, rfl, hu⟩ := hrel
      clear hst kB kB5 u5 u6
      by_cases hlt : k < xs.length
      · obtain ⟨ad, rfl, hc⟩ := hrW.out _ hu k (.int .i64 xs[k]) (by simp [hlt])
        have hw5 : IntKind.i64.wrap ((k : Int) + 1) = (k : Int) + 1 := Go.IntWalk.i64_in _ ⟨by omega, by omega⟩
        have ht : (b0 && !(xs.take (k + 1)).any outB) = ((b0 && !(xs.take k).any outB) && !outB xs[k]) := by rw [List.take_succ_eq_append_getElem hlt, List.any_append]; simp [Bool.and_assoc]
        generalize xs[k] = x at *
        obtain ⟨ob, hob⟩ : ∃ ob, (b0 && !(xs.take k).any outB) = ob := ⟨_, rfl⟩
        rw [hob] at ht ⊢
        clear hob
        cases ob
        · rw [Bool.false_and] at ht
          replace ht := Lib.hid ht
          gi_wp2_with (first | refine (⟨trivial, rfl, ?_⟩ : Fence.wide.fn _ ∧ Fence.wide.depth = none ∧ _) | refine (⟨trivial, ?_⟩ : Fence.wide.fn _ ∧ _))
          exact ⟨⟨k + 1, _, by go_num, by omega, rfl, by rw [ht.out], hu⟩, by show xs.length - ((k : Int) + 1).toNat < xs.length - (k : Int).toNat; omega⟩
        · rw [Bool.true_and] at ht
          by_cases d1 : 0 ≤ x
          · by_cases d2 : x ≤ 1125899906842624
            · have ho : outB x = false := by simp [outB]; omega
              rw [ho] at ht
              replace ht := Lib.hid ht
              clear ho
              gi_wp2_with (first | refine (⟨trivial, rfl, ?_⟩ : Fence.wide.fn _ ∧ Fence.wide.depth = none ∧ _) | refine (⟨trivial, ?_⟩ : Fence.wide.fn _ ∧ _))
              exact ⟨⟨k + 1, _, by go_num, by omega, rfl, by rw [ht.out]; rfl, hu⟩, by show xs.length - ((k : Int) + 1).toNat < xs.length - (k : Int).toNat; omega⟩
            · have ho : outB x = true := by simp [outB]; omega
              rw [ho] at ht
              replace ht := Lib.hid ht
              clear ho
              gi_wp2_with (first | refine (⟨trivial, rfl, ?_⟩ : Fence.wide.fn _ ∧ Fence.wide.depth = none ∧ _) | refine (⟨trivial, ?_⟩ : Fence.wide.fn _ ∧ _))
              exact ⟨⟨k + 1, _, by go_num, by omega, rfl, by rw [ht.out]; rfl, hu⟩, by show xs.length - ((k : Int) + 1).toNat < xs.length - (k : Int).toNat; omega⟩
          · have ho : outB x = true := by simp [outB]; omega
            rw [ho] at ht
            replace ht := Lib.hid ht
            clear ho
            gi_wp2_with (first | refine (⟨trivial, rfl, ?_⟩ : Fence.wide.fn _ ∧ Fence.wide.depth = none ∧ _) | refine (⟨trivial, ?_⟩ : Fence.wide.fn _ ∧ _))
            exact ⟨⟨k + 1, _, by go_num, by omega, rfl, by rw [ht.out]; rfl, hu⟩, by show xs.length - ((k : Int) + 1).toNat < xs.length - (k : Int).toNat; omega⟩
      · obtain rfl : k = xs.length := by omega
        rw [List.take_length, hend.out]
        gi_wp2_with (first | refine (⟨trivial, rfl, ?_⟩ : Fence.wide.fn _ ∧ Fence.wide.depth = none ∧ _) | refine (⟨trivial, ?_⟩ : Fence.wide.fn _ ∧ _))
        go_ret
        exact ⟨rfl, hu⟩
set_option maxRecDepth 100000 in
set_option maxHeartbeats 8000000 in
/-- Where all is good. -/
theorem plotBarsYes_w {n width : Nat} {ks : List Nat} (hr : ReadsN W A ks) (hl : ks.length ≤ 40) (hg : ∀ k ∈ ks, k ≤ 1125899906842624) (hw1 : 1 ≤ width) (hw2 : width ≤ 200) :
    CallsIn Fence.wide n Try.prog 12 #[.slice A ks.length cap, .int .i64 width] W fun e W2 => e = .returned (.bool true) ∧ Upd (fun _ => False) W W2 := by
  have hrW := Lib.hid fun V (u : Upd (fun _ => False) W V) => hr.agree' (w' := V) (u.agree fun j hj => ⟨hr.lt' j hj, id⟩)
  have kAw := Lib.hid (awake30_c (n := 0) (w := W))
  have hlen : (castL ks).length = ks.length := by simp
  have kB := Lib.hid fun V A c (h : ReadsN V A ks) => bars_c (n := 0) (cap := c) h (by omega) hg hw1 hw2
  have hcopy := Lib.hid fun W5 base v (h : World.ownsRow W5 base 3 1 v (0 + ks.length) ([] ++ (castL ks).map (Value.int .i64))) => own_copy h hlen.symm
  simp only [hlen] at hcopy
  have h40 : ((40 : Int) < ks.length) = False := eq_false (by omega)
  have c1 : (1 : Int) ≤ width := by omega
  have c2 : (width : Int) ≤ 200 := by omega
  have hgW := Lib.hid hg
  have hmx : ∀ k ∈ ks, k ≤ maxN ks := fun k hk => maxN_ge hk
  have hml : maxN ks ≤ 1125899906842624 := maxN_le hg
  replace hmx := Lib.hid hmx
  replace hlen := Lib.hid hlen
  clear hr hg
  refine callsIn_any (n := 0) (callsIn_of_wp Try.func12 rfl trivial ?_)
  simp only [Try.ntmps12, List.size_toArray, List.length_cons, List.length_nil, Nat.reduceAdd, Nat.reduceSub, Array.replicate_succ, Array.replicate_zero, List.push_toArray, List.append_toArray, List.nil_append, List.cons_append]
  gi_wp2_with (first | refine (⟨trivial, rfl, ?_⟩ : Fence.wide.fn _ ∧ Fence.wide.depth = none ∧ _) | (gi_at_call 48; (with_reducible refine kAw.out.mono ?_); rintro e W1 ⟨rfl, u1⟩; (skip)) | ((with_reducible refine appS (A := A) (m := ks.length) (c := cap) (news := (castL ks).map (Value.int .i64)) Try.underlying22 infoN rfl (by omega) (by omega) (own_emptyS W1 _ 1) ?_ ?_ ?_ ?_ ?_ (hrW.out _ (u1.stepAlloc _)) ?_ ?_); rfl; rfl; (focus simp); (focus simp); omega; exact int_one _; intro v5 W5 h5 g5 e5; have u5 : Upd (fun _ => False) W W5 := (u1.stepAlloc _).trans g5 (fun j hj => .inr (by simp [Value.ownBlock] at hj; have := u1.size; omega)); obtain ⟨A5, c5, rfl, r5⟩ := hcopy.out _ _ _ h5; have kB5 := Lib.hid (kB.out _ _ c5 r5); replace r5 := Lib.hid r5; clear h5 g5 e5) | (gi_at_call 58; (with_reducible refine kB5.out.mono ?_); rintro e W6 ⟨A2, c2', rfl, r6, g6, u6⟩; (replace r6 := Lib.hid r6); (clear g6)) | refine (⟨trivial, ?_⟩ : Fence.wide.fn _ ∧ _))
  have r56 := Lib.hid (r5.out.agree' (w' := W6) (u6.agree fun j hj => ⟨r5.out.lt' j hj, id⟩))
  have hu06 := Lib.hid (u5.trans' u6)
  clear kB kB5 kAw hcopy u1 r5 u5 u6
  gi_loopw [40, 8, 9] (fun i m o wr => ∃ k : Nat, i = .int .i64 k ∧ k ≤ ks.length ∧ m = .int .i64 (maxN (ks.take k)) ∧ o = .bool true ∧ Upd (fun _ => False) W6 wr) (fun i _ _ _ => ks.length - (intOf i).toNat)
  case atStart => exact ⟨0, rfl, Nat.zero_le _, rfl, rfl, Upd.refl _ _⟩
  case round =>
    obtain ⟨k, rfl, hk, rfl, rfl, hu⟩ := hrel
    by_cases hlt : k < ks.length
    · obtain ⟨ad, rfl, hc⟩ := hrW.out _ (hu06.out.trans' hu) k (.int .i64 ks[k]) (by simp [hlt])
      have hw5 : IntKind.i64.wrap ((k : Int) + 1) = (k : Int) + 1 := Go.IntWalk.i64_in _ ⟨by omega, by omega⟩
      have ht := maxN_take hlt
      have hin := hgW.out _ (List.getElem_mem hlt)
      generalize ks[k] = x at *
      obtain ⟨m, hm⟩ : ∃ m, maxN (ks.take k) = m := ⟨_, rfl⟩
      rw [hm] at ht ⊢
      have d1 : (0 : Int) ≤ x := by omega
      have d2 : (x : Int) ≤ 1125899906842624 := by omega
      obtain ⟨mx, hmx2⟩ : ∃ mx : Nat, max m x = mx := ⟨_, rfl⟩
      have q4 : max (m : Int) (x : Int) = (mx : Int) := by omega
      rw [hmx2] at ht
      replace ht := Lib.hid ht
      clear hmx2 hm
      gi_wp2_with (first | refine (⟨trivial, rfl, ?_⟩ : Fence.wide.fn _ ∧ Fence.wide.depth = none ∧ _) | refine (⟨trivial, ?_⟩ : Fence.wide.fn _ ∧ _))
      exact ⟨⟨k + 1, by go_num, by omega, by rw [ht.out], rfl, hu⟩, by show ks.length - ((k : Int) + 1).toNat < ks.length - (k : Int).toNat; omega⟩
    · obtain rfl : k = ks.length := by omega
      rw [List.take_length]
      have kE := Lib.hid (equal_c (n := 0) (ca := c5) (cb := cap) (r56.out.agree' (w' := wr) (hu.agree fun j hj => ⟨r56.out.lt' j hj, id⟩)) (hrW.out _ (hu06.out.trans' hu)) hlen.out.symm hlen.out.symm (by rw [hlen.out]; omega))
      have hdd : decide (castL ks = castL ks) = true := decide_eq_true rfl
      rw [hdd] at kE
      have hrB := Lib.hid fun V (u : Upd (fun _ => False) wr V) => r6.out.agree' (w' := V) ((hu.trans' u).agree fun j hj => ⟨r6.out.lt' j hj, id⟩)
      have hrA := Lib.hid fun V (u : Upd (fun _ => False) wr V) => hrW.out V ((hu06.out.trans' hu).trans' u)
      have huu := Lib.hid (hu06.out.trans' hu)
      clear r56 r6 hu hdd hrW hu06
      gi_wp2_with (first | refine (⟨trivial, rfl, ?_⟩ : Fence.wide.fn _ ∧ Fence.wide.depth = none ∧ _) | (gi_at_call 37; (with_reducible refine kE.out.mono ?_); rintro e W8 ⟨rfl, u8⟩; (replace u8 := Lib.hid u8)) | refine (⟨trivial, ?_⟩ : Fence.wide.fn _ ∧ _))
      gi_loopw [83] (fun u wr2 => ∃ i : Nat, u = .int .i64 i ∧ i ≤ ks.length ∧ Upd (fun _ => False) W8 wr2) (fun u _ => ks.length - (intOf u).toNat)
      case atStart => exact ⟨0, rfl, Nat.zero_le _, Upd.refl _ _⟩
      case round =>
        obtain ⟨i, rfl, hi, hu2⟩ := hrel
        obtain ⟨wr2, rfl⟩ : ∃ w, w = wr := ⟨wr, rfl⟩
        by_cases hli : i < ks.length
        · have hlA : 0 < ((castL ks).map (Value.int .i64)).length := by simp; omega
          have hlB : 0 < ((barsL ks width).map Value.string).length := by simp; omega
          obtain ⟨ga, oa, rfl, ha⟩ := reads_at (hrA.out _ (u8.out.trans' hu2)) hlA
          obtain ⟨gb, ob, rfl, hb⟩ := reads_at (hrB.out _ (u8.out.trans' hu2)) hlB
          have hA1 : ∀ j, (h : j < ks.length) → wr2.cell? ⟨ga, oa + j, none⟩ = some (.int .i64 ks[j]) := fun j h => ha j _ (by simp [h])
          have hB1 : ∀ j, (h : j < ks.length) → wr2.cell? ⟨gb, ob + j, none⟩ = some (.string (hashB (barN ks[j] (maxN ks) width))) := fun j h => hb j _ (by simp [h])
          have hax := hA1 i hli
          have hbx := hB1 i hli
          have hw5 : IntKind.i64.wrap ((i : Int) + 1) = (i : Int) + 1 := Go.IntWalk.i64_in _ ⟨by omega, by omega⟩
          have hmem := List.getElem_mem hli
          have hin := hgW.out _ hmem
          have hxm := hmx.out _ hmem
          have kRB := Lib.hid fun V => refBar_c (n := 0) (W := V) hxm hml hw1 hw2
          have hbw := barN_le hxm hw1
          have hmono := Lib.hid fun y (h : y ≤ ks[i]) => barN_mono (most := maxN ks) (width := width) h
          have hmono2 := Lib.hid fun y (h : ks[i] ≤ y) => barN_mono (most := maxN ks) (width := width) h
          have hH := Lib.hid fun j h V (u : Upd (fun _ => False) wr2 V) => show V.cell? ⟨ga, oa + j, none⟩ = some (.int .i64 ks[j]) ∧ V.cell? ⟨ga, oa + i, none⟩ = some (.int .i64 ks[i]) ∧ V.cell? ⟨gb, ob + j, none⟩ = some (.string (hashB (barN ks[j] (maxN ks) width))) from ⟨cell_keep u (hA1 j h), cell_keep u hax, cell_keep u (hB1 j h)⟩
          generalize ks[i] = x at *
          have hsz := hash_size (barN x (maxN ks) width)
          obtain ⟨b, hbb⟩ : ∃ b, barN x (maxN ks) width = b := ⟨_, rfl⟩
          rw [hbb] at hbx hbw hsz
          simp only [hbb] at kRB hmono hmono2
          have hbw2 : ((width : Int) < (b : Int)) = False := eq_false (by omega)
          replace hu2 := Lib.hid hu2
          clear ha hb hA1 hB1 hbb hmem hin hxm hlA hlB
          gi_wp2_with (first | refine (⟨trivial, rfl, ?_⟩ : Fence.wide.fn _ ∧ Fence.wide.depth = none ∧ _) | (gi_at_call 59; (with_reducible refine (kRB.out _).mono ?_); rintro e W9 ⟨rfl, u9⟩; (replace u9 := Lib.hid u9)) | refine (⟨trivial, ?_⟩ : Fence.wide.fn _ ∧ _))
          gi_loopw [104] (fun u wr3 => ∃ j : Nat, u = .int .i64 j ∧ j ≤ i ∧ Upd (fun _ => False) W9 wr3) (fun u _ => i - (intOf u).toNat)
          case atStart => exact ⟨0, rfl, Nat.zero_le _, Upd.refl _ _⟩
          case round =>
            obtain ⟨j, rfl, hj, hu3⟩ := hrel
            by_cases hlj : j < i
            · have hw6 : IntKind.i64.wrap ((j : Int) + 1) = (j : Int) + 1 := Go.IntWalk.i64_in _ ⟨by omega, by omega⟩
              have hjk : j < ks.length := by omega
              have hh := fun V (u : Upd (fun _ => False) wr2 V) => hH.out j hjk V u
              generalize ks[j] = y at *
              have hsy := hash_size (barN y (maxN ks) width)
              have m1 := hmono.out y
              have m2 := hmono2.out y
              obtain ⟨c, hcc⟩ : ∃ c, barN y (maxN ks) width = c := ⟨_, rfl⟩
              rw [hcc] at hsy
              simp only [hcc] at hh m1 m2
              have h0 := hh _ ((u9.out.trans' hu3).stepDrew)
              have fin := Lib.hid (show (∃ j' : Nat, Value.int .i64 ((j : Int) + 1) = .int .i64 j' ∧ j' ≤ i ∧ Upd (fun _ => False) W9 wr.drew) ∧ i - (intOf (.int .i64 ((j : Int) + 1))).toNat < i - (intOf (.int .i64 (j : Int))).toNat from ⟨⟨j + 1, by go_num, by omega, hu3.stepDrew⟩, by show i - ((j : Int) + 1).toNat < i - (j : Int).toNat; omega⟩)
              clear hcc hu3 hh
              rcases Nat.lt_trichotomy y x with hyx | hyx | hyx
              · have t1 : ((y : Int) ≤ (x : Int)) = True := eq_true (by omega)
                have t2 : ((b : Int) < (c : Int)) = False := eq_false (by have := m1 (by omega); omega)
                have t3 : ((x : Int) ≤ (y : Int)) = False := eq_false (by omega)
                clear m1 m2 hyx
                gi_wp2
                refine wpIn_eager [(0, true), (1, true), (2, true), (3, true), (4, true), (5, true), (6, true), (7, true), (8, true), (9, true), (10, true), (11, true), (12, true), (13, true), (14, true), (15, true), (16, true), (17, true), (18, true), (19, true), (20, true), (21, true), (22, true), (23, true), (24, true), (25, true), (26, true), (27, true), (28, true), (29, true), (30, true), (31, true), (32, true), (33, true), (34, true), (35, true), (36, true), (37, true), (38, true), (39, true)] (fun V => V.cell? ⟨ga, oa + j, none⟩ = some (.int .i64 y) ∧ V.cell? ⟨ga, oa + i, none⟩ = some (.int .i64 x) ∧ V.cell? ⟨gb, ob + j, none⟩ = some (.string (hashB c))) (by kernel_rfl) (by kernel_rfl) h0 ?_
                repeat (first | (refine wpE_fl rfl rfl (fun _ _ => rfl) ?_; go_simp) | (refine wpE_sk rfl rfl ?_; go_simp) | (refine wpE_fl (v := ?_) rfl rfl ?_ ?_; rotate_left; (intro W' h'; (try dsimp only at h'); go_simp; exact rfl); go_simp) | (refine wpE_ef rfl ?_; go_simp; gi_wp2_with (first | refine (⟨trivial, rfl, ?_⟩ : Fence.wide.fn _ ∧ Fence.wide.depth = none ∧ _) | refine (⟨trivial, trivial, rfl, ?_⟩ : Fence.wide.fn _ ∧ Fence.wide.fn _ ∧ Fence.wide.depth = none ∧ _) | refine (⟨trivial, ?_⟩ : Fence.wide.fn _ ∧ _)); (first | refine ⟨by first | exact h0, ?_⟩ | skip)))
                refine wpE_nil ?_
                gi_wp2
                exact fin.out
              · have t1 : ((y : Int) ≤ (x : Int)) = True := eq_true (by omega)
                have t2 : ((b : Int) < (c : Int)) = False := eq_false (by have := m1 (by omega); omega)
                have t3 : ((x : Int) ≤ (y : Int)) = True := eq_true (by omega)
                have t4 : ((c : Int) < (b : Int)) = False := eq_false (by have := m2 (by omega); omega)
                replace hyx := Lib.hid hyx
                clear m1 m2
                gi_wp2
                refine wpIn_eager [(0, true), (1, true), (2, true), (3, true), (4, true), (5, true), (6, true), (7, true), (8, true), (9, true), (10, true), (11, true), (12, true), (13, true), (14, true), (15, true), (16, true), (17, true), (18, true), (19, true), (20, true), (21, true), (22, true), (23, true), (24, true), (25, true), (26, true), (27, true), (28, true), (29, true), (30, true), (31, true), (32, true), (33, true), (34, true), (35, true), (36, true), (37, true), (38, true), (39, true)] (fun V => V.cell? ⟨ga, oa + j, none⟩ = some (.int .i64 y) ∧ V.cell? ⟨ga, oa + i, none⟩ = some (.int .i64 x) ∧ V.cell? ⟨gb, ob + j, none⟩ = some (.string (hashB c))) (by kernel_rfl) (by kernel_rfl) h0 ?_
                repeat (first | (refine wpE_fl rfl rfl (fun _ _ => rfl) ?_; go_simp) | (refine wpE_sk rfl rfl ?_; go_simp) | (refine wpE_fl (v := ?_) rfl rfl ?_ ?_; rotate_left; (intro W' h'; (try dsimp only at h'); go_simp; exact rfl); go_simp) | (refine wpE_ef rfl ?_; go_simp; gi_wp2_with (first | refine (⟨trivial, rfl, ?_⟩ : Fence.wide.fn _ ∧ Fence.wide.depth = none ∧ _) | refine (⟨trivial, trivial, rfl, ?_⟩ : Fence.wide.fn _ ∧ Fence.wide.fn _ ∧ Fence.wide.depth = none ∧ _) | refine (⟨trivial, ?_⟩ : Fence.wide.fn _ ∧ _)); (first | refine ⟨by first | exact h0, ?_⟩ | skip)))
                refine wpE_nil ?_
                gi_wp2
                exact fin.out
              · have t1 : ((y : Int) ≤ (x : Int)) = False := eq_false (by omega)
                have t3 : ((x : Int) ≤ (y : Int)) = True := eq_true (by omega)
                have t4 : ((c : Int) < (b : Int)) = False := eq_false (by have := m2 (by omega); omega)
                clear m1 m2 hyx
                gi_wp2
                refine wpIn_eager [(0, true), (1, true), (2, true), (3, true), (4, true), (5, true), (6, true), (7, true), (8, true), (9, true), (10, true), (11, true), (12, true), (13, true), (14, true), (15, true), (16, true), (17, true), (18, true), (19, true), (20, true), (21, true), (22, true), (23, true), (24, true), (25, true), (26, true), (27, true), (28, true), (29, true), (30, true), (31, true), (32, true), (33, true), (34, true), (35, true), (36, true), (37, true), (38, true), (39, true)] (fun V => V.cell? ⟨ga, oa + j, none⟩ = some (.int .i64 y) ∧ V.cell? ⟨ga, oa + i, none⟩ = some (.int .i64 x) ∧ V.cell? ⟨gb, ob + j, none⟩ = some (.string (hashB c))) (by kernel_rfl) (by kernel_rfl) h0 ?_
                repeat (first | (refine wpE_fl rfl rfl (fun _ _ => rfl) ?_; go_simp) | (refine wpE_sk rfl rfl ?_; go_simp) | (refine wpE_fl (v := ?_) rfl rfl ?_ ?_; rotate_left; (intro W' h'; (try dsimp only at h'); go_simp; exact rfl); go_simp) | (refine wpE_ef rfl ?_; go_simp; gi_wp2_with (first | refine (⟨trivial, rfl, ?_⟩ : Fence.wide.fn _ ∧ Fence.wide.depth = none ∧ _) | refine (⟨trivial, trivial, rfl, ?_⟩ : Fence.wide.fn _ ∧ Fence.wide.fn _ ∧ Fence.wide.depth = none ∧ _) | refine (⟨trivial, ?_⟩ : Fence.wide.fn _ ∧ _)); (first | refine ⟨by first | exact h0, ?_⟩ | skip)))
                refine wpE_nil ?_
                gi_wp2
                exact fin.out
            · obtain rfl : j = i := by omega
              gi_wp2
              exact ⟨⟨j + 1, by go_num, by omega, (hu2.out.trans' u9.out).trans' hu3⟩, by show ks.length - ((j : Int) + 1).toNat < ks.length - (j : Int).toNat; omega⟩
        · obtain rfl : i = ks.length := by omega
          gi_wp2_with (first | refine (⟨trivial, rfl, ?_⟩ : Fence.wide.fn _ ∧ Fence.wide.depth = none ∧ _) | refine (⟨trivial, ?_⟩ : Fence.wide.fn _ ∧ _))
          go_ret
          exact ⟨rfl, (huu.out.trans' u8.out).trans' hu2⟩
end
end Go.Proofs.Ytkjkpmeommfdgaa

/- strings.Repeat by the shelf (its laying is what the kit's lay-plain has written); bar, and what plot.Bars is made of. -/
import Derived.Shelf.Strings.Repeat
import Derived.Test.YtkjkpmeommfdgaaProg
import Derived.Test.YtkjkpmeommfdgaaBase
import Derived.Test.YtkjkpmeommfdgaaWvI
import Derived.Test.YtkjkpmeommfdgaaWvL
import Derived.Lib.OwnBridge
set_option linter.unusedSimpArgs false
set_option linter.unusedVariables false
namespace Go.Proofs
open Go.Shelf
def Try.lays105_ren : Go.Shelf.Ren := ⟨fun | 105 => 93 | 212 => 117 | 99 => 118 | 165 => 119 | 166 => 92 | 170 => 120 | 169 => 95 | 263 => 129 | 264 => 130 | 206 => 131 | 240 => 116 | 241 => 132 | 276 => 128 | 277 => 143 | n => n, fun | 9 => 9 | 3 => 3 | 4 => 4 | 20 => 20 | 0 => 0 | 46 => 123 | 109 => 125 | 5 => 5 | 72 => 105 | 76 => 108 | 51 => 140 | 146 => 141 | 53 => 143 | 148 => 144 | 70 => 102 | 37 => 103 | 75 => 107 | 127 => 130 | 164 => 138 | 80 => 112 | n => n, fun | n => n⟩
theorem Try.lays105 : Go.Proofs.Lays.n105 Try.prog Try.lays105_ren := {
  mixed := by kernel_rfl
  f99 := Try.func118.trans (congrArg some (by kernel_rfl))
  f105 := Try.func93.trans (congrArg some (by kernel_rfl))
  f165 := Try.func119.trans (congrArg some (by kernel_rfl))
  f166 := Try.func92.trans (congrArg some (by kernel_rfl))
  f169 := Try.func95.trans (congrArg some (by kernel_rfl))
  f170 := Try.func120.trans (congrArg some (by kernel_rfl))
  f206 := Try.func131.trans (congrArg some (by kernel_rfl))
  f212 := Try.func117.trans (congrArg some (by kernel_rfl))
  f240 := Try.func116.trans (congrArg some (by kernel_rfl))
  f241 := Try.func132.trans (congrArg some (by kernel_rfl))
  f263 := Try.func129.trans (congrArg some (by kernel_rfl))
  f264 := Try.func130.trans (congrArg some (by kernel_rfl))
  f276 := Try.func128.trans (congrArg some (by kernel_rfl))
  f277 := Try.func143.trans (congrArg some (by kernel_rfl))
  t0 := Try.underlying0
  a0 := Try.isAgg0
  z0 := Try.sizeOf0
  v0 := Try.zeroValue0
  t3 := Try.underlying3
  a3 := Try.isAgg3
  z3 := Try.sizeOf3
  v3 := Try.zeroValue3
  t4 := Try.underlying4
  a4 := Try.isAgg4
  z4 := Try.sizeOf4
  v4 := Try.zeroValue4
  t5 := Try.underlying5
  a5 := Try.isAgg5
  z5 := Try.sizeOf5
  v5 := Try.zeroValue5
  t9 := Try.underlying9
  a9 := Try.isAgg9
  z9 := Try.sizeOf9
  v9 := Try.zeroValue9
  t20 := Try.underlying20
  a20 := Try.isAgg20
  z20 := Try.sizeOf20
  v20 := Try.zeroValue20
  t37 := Try.underlying103
  a37 := Try.isAgg103
  z37 := Try.sizeOf103
  v37 := Try.zeroValue103
  t46 := Try.underlying123
  a46 := Try.isAgg123
  z46 := Try.sizeOf123
  v46 := Try.zeroValue123
  t51 := Try.underlying140
  a51 := Try.isAgg140
  z51 := Try.sizeOf140
  v51 := Try.zeroValue140
  t53 := Try.underlying143
  a53 := Try.isAgg143
  z53 := Try.sizeOf143
  v53 := Try.zeroValue143
  t70 := Try.underlying102
  a70 := Try.isAgg102
  z70 := Try.sizeOf102
  v70 := Try.zeroValue102
  t72 := Try.underlying105
  a72 := Try.isAgg105
  z72 := Try.sizeOf105
  v72 := Try.zeroValue105
  t75 := Try.underlying107
  a75 := Try.isAgg107
  z75 := Try.sizeOf107
  v75 := Try.zeroValue107
  t76 := Try.underlying108
  a76 := Try.isAgg108
  z76 := Try.sizeOf108
  v76 := Try.zeroValue108
  t109 := Try.underlying125
  a109 := Try.isAgg125
  z109 := Try.sizeOf125
  v109 := Try.zeroValue125
  t127 := Try.underlying130
  a127 := Try.isAgg130
  z127 := Try.sizeOf130
  v127 := Try.zeroValue130
  t146 := Try.underlying141
  a146 := Try.isAgg141
  z146 := Try.sizeOf141
  v146 := Try.zeroValue141
  t148 := Try.underlying144
  a148 := Try.isAgg144
  z148 := Try.sizeOf144
  v148 := Try.zeroValue144
  t164 := Try.underlying138
  a164 := Try.isAgg138
  z164 := Try.sizeOf138
  v164 := Try.zeroValue138 }
theorem Try.Builder_Extra_105 : Builder.Extra Try.prog Try.lays105_ren := {
  sizeBuilder := by kernel_rfl
  liesBuilder := by kernel_rfl
  t5 := Try.underlying5
  a5 := Try.isAgg5
  z5 := Try.sizeOf5
  v5 := Try.zeroValue5
  infoByte := by kernel_rfl
  cellsByte := by kernel_rfl
  sizeByte := by kernel_rfl
  neB5 := by decide }
end Go.Proofs
namespace Go.Proofs.Ytkjkpmeommfdgaa
open Go.RowKit Go.Shelf
attribute [local go_sem] Oper.semAt_some

/-- So many signs. -/
def hashB (c : Nat) : ByteArray := ⟨(List.replicate c 35).toArray⟩
theorem repeat_hash : ∀ c, Lib.repeatL [35] c = List.replicate c 35
  | 0 => rfl
  | c + 1 => by rw [Lib.repeatL, repeat_hash c]; rfl
theorem upd_of_below {w w' : World} (h : Below w.heap.size w w') : Upd (fun _ => False) w w' := ⟨h.os, h.tape, h.output, h.size, fun k hk _ => h.block k hk⟩
theorem repeat_c {n : Nat} {c : Nat} {W : World} (hc : c ≤ 1000) : CallsIn Fence.wide n Try.prog 93 #[.string ⟨#[35]⟩, .int .i64 c] W fun e W2 => e = .returned (.string (hashB c)) ∧ Upd (fun _ => False) W W2 := by
  refine callsIn_wide.2 ((Any.strings_Repeat Try.lays105 Try.Builder_Extra_105 ⟨#[35]⟩ c W (by omega) (by show 1 * c ≤ _; omega)).mono ?_)
  rintro e W2 ⟨rfl, hb⟩
  refine ⟨?_, upd_of_below hb⟩
  show Ending.returned (.string ⟨(Lib.repeatL [35] c).toArray⟩) = _
  rw [repeat_hash]; rfl
/-- How long a bar is. -/
def barN (n most width : Nat) : Nat := if n = 0 then 0 else max 1 (n * width / most)
theorem barN_le {n most width : Nat} (h : n ≤ most) (hw : 1 ≤ width) : barN n most width ≤ width := by
  unfold barN
  split
  · omega
  · have : n * width / most ≤ width := Nat.div_le_of_le_mul (by rw [Nat.mul_comm most]; rw [Nat.mul_comm n]; exact Nat.mul_le_mul_left _ h)
    omega
theorem barN_mono {a b most width : Nat} (h : a ≤ b) : barN a most width ≤ barN b most width := by
  unfold barN
  have h2 : a * width / most ≤ b * width / most := Nat.div_le_div_right (Nat.mul_le_mul_right _ h)
  split
  · omega
  · rw [if_neg (by omega)]; omega
set_option maxHeartbeats 1000000 in
theorem bar_c {n : Nat} {k most width : Nat} {W : World} (hk : k ≤ most) (hm : most ≤ 1125899906842624) (hw1 : 1 ≤ width) (hw2 : width ≤ 200) : CallsIn Fence.wide n Try.prog 103 #[.int .i64 k, .int .i64 most, .int .i64 width] W fun e W2 => e = .returned (.string (hashB (barN k most width))) ∧ Upd (fun _ => False) W W2 := by
  by_cases h0 : k = 0
  · subst h0
    refine callsIn_any (n := 0) (callsIn_of_wp Try.func103 rfl trivial ?_)
    simp only [Try.ntmps103, List.size_toArray, List.length_cons, List.length_nil, Nat.reduceAdd, Nat.reduceSub, Array.replicate_succ, Array.replicate_zero, List.push_toArray, List.append_toArray, List.nil_append, List.cons_append]
    gi_wp2_with (first | refine (⟨trivial, rfl, ?_⟩ : Fence.wide.fn _ ∧ Fence.wide.depth = none ∧ _) | refine (⟨trivial, ?_⟩ : Fence.wide.fn _ ∧ _))
    go_ret
    exact ⟨by simp [barN, hashB], Upd.refl _ _⟩
  · have hb0 : ((k : Int) == 0) = false := beq_eq_false_iff_ne.2 (by omega)
    have hmb : ((most : Int) == 0) = false := beq_eq_false_iff_ne.2 (by omega)
    have hm0 : ¬ (most : Int) = 0 := by omega
    obtain ⟨p, hp⟩ : ∃ p, k * width = p := ⟨_, rfl⟩
    obtain ⟨d, hd⟩ : ∃ d, p / most = d := ⟨_, rfl⟩
    have hbn : barN k most width = max 1 d := by unfold barN; rw [if_neg h0, hp, hd]
    have hp2 : p ≤ 225179981368524800 := by
      rw [← hp]
      calc k * width ≤ 1125899906842624 * 200 := Nat.mul_le_mul (by omega) hw2
        _ = 225179981368524800 := by decide
    have hdl : d ≤ p := by rw [← hd]; exact Nat.div_le_self _ _
    have hb2 := barN_le hk hw1
    have q1 : IntKind.i64.wrap ((k : Int) * width) = (p : Int) := by
      rw [← hp, Int.natCast_mul]
      exact Go.IntWalk.i64_in _ ⟨by rw [← Int.natCast_mul, hp]; omega, by rw [← Int.natCast_mul, hp]; omega⟩
    have q2 : (p : Int).tdiv (most : Int) = (d : Int) := by rw [Int.tdiv_eq_ediv_of_nonneg (by omega), ← hd]; exact (Int.natCast_ediv _ _).symm
    have q3 : IntKind.i64.wrap (d : Int) = (d : Int) := Go.IntWalk.i64_in _ ⟨by omega, by omega⟩
    rw [hbn] at hb2 ⊢
    clear hp hd hbn hdl h0
    obtain ⟨mx, hmx⟩ : ∃ mx : Nat, max 1 d = mx := ⟨_, rfl⟩
    have q4 : max (1 : Int) (d : Int) = (mx : Int) := by omega
    rw [hmx] at hb2 ⊢
    have kr := Lib.hid (repeat_c (n := 0) (c := mx) (W := W) (by omega))
    clear hmx
    refine callsIn_any (n := 0) (callsIn_of_wp Try.func103 rfl trivial ?_)
    simp only [Try.ntmps103, List.size_toArray, List.length_cons, List.length_nil, Nat.reduceAdd, Nat.reduceSub, Array.replicate_succ, Array.replicate_zero, List.push_toArray, List.append_toArray, List.nil_append, List.cons_append]
    gi_wp2_with (first | refine (⟨trivial, rfl, ?_⟩ : Fence.wide.fn _ ∧ Fence.wide.depth = none ∧ _) | (gi_at_call 93; (with_reducible refine kr.out.mono ?_); rintro e W2 ⟨rfl, u⟩; (skip)) | refine (⟨trivial, ?_⟩ : Fence.wide.fn _ ∧ _))
    go_ret
    exact ⟨rfl, u⟩
abbrev outB (x : Int) : Bool := decide (x < 0 ∨ 1125899906842624 < x)
theorem outside_c {x : Int} {W : World} : CallV Try.prog (.func (.func 98) #[] #[]) #[.int .i64 x] W fun v W' => v = .bool (outB x) ∧ W' = W := by
  refine CallV.of_calls (n := 0) (enters_of Try.func98 (by kernel_rfl) rfl) ?_
  refine callsIn_any (n := 0) (callsIn_of_wp Try.func98 rfl trivial ?_)
  simp only [Try.ntmps98, List.size_toArray, List.length_cons, List.length_nil, Nat.reduceAdd, Nat.reduceSub, Array.replicate_succ, Array.replicate_zero, List.push_toArray, List.append_toArray, List.nil_append, List.cons_append]
  by_cases h1 : x < 0 <;> by_cases h2 : 1125899906842624 < x
  all_goals
    gi_wp2_with (first | refine (⟨trivial, rfl, ?_⟩ : Fence.wide.fn _ ∧ Fence.wide.depth = none ∧ _) | refine (⟨trivial, ?_⟩ : Fence.wide.fn _ ∧ _))
    go_ret
    exact ⟨_, rfl, by simp [outB, h1, h2], rfl⟩
theorem most_c {x y : Int} {W : World} : CallV Try.prog (.func (.func 100) #[] #[]) #[.int .i64 x, .int .i64 y] W fun v W' => v = .int .i64 (max x y) ∧ W' = W := by
  refine CallV.of_calls (n := 0) (enters_of Try.func100 (by kernel_rfl) rfl) ?_
  refine callsIn_any (n := 0) (callsIn_of_wp Try.func100 rfl trivial ?_)
  simp only [Try.ntmps100, List.size_toArray, List.length_cons, List.length_nil, Nat.reduceAdd, Nat.reduceSub, Array.replicate_succ, Array.replicate_zero, List.push_toArray, List.append_toArray, List.nil_append, List.cons_append]
  gi_wp2_with (first | refine (⟨trivial, rfl, ?_⟩ : Fence.wide.fn _ ∧ Fence.wide.depth = none ∧ _) | refine (⟨trivial, ?_⟩ : Fence.wide.fn _ ∧ _))
  go_ret
  exact ⟨_, rfl, rfl, rfl⟩
theorem bars3_c {k most width : Nat} {bm bw : Nat} {W : World} (hb1 : Blk W bm #[.int .i64 most] 3) (hb2 : Blk W bw #[.int .i64 width] 3) (hk : k ≤ most) (hm : most ≤ 1125899906842624) (hw1 : 1 ≤ width) (hw2 : width ≤ 200) :
    CallV Try.prog (.func (.func 102) #[] #[.pointer (some ⟨bm, 0, none⟩), .pointer (some ⟨bw, 0, none⟩)]) #[.int .i64 k] W fun v W' => v = .string (hashB (barN k most width)) ∧ Upd (fun _ => False) W W' := by
  refine CallV.of_calls (n := 0) (enters_of Try.func102 (by kernel_rfl) rfl) ?_
  have c1 := hb1.cell0
  have c2 := hb2.cell0
  have kb := Lib.hid (bar_c (n := 0) (W := W) hk hm hw1 hw2)
  refine callsIn_any (n := 0) (callsIn_of_wp Try.func102 rfl trivial ?_)
  simp only [Try.ntmps102, List.size_toArray, List.length_cons, List.length_nil, Nat.reduceAdd, Nat.reduceSub, Array.replicate_succ, Array.replicate_zero, List.push_toArray, List.append_toArray, List.nil_append, List.cons_append]
  gi_wp2_with (first | refine (⟨trivial, rfl, ?_⟩ : Fence.wide.fn _ ∧ Fence.wide.depth = none ∧ _) | (gi_at_call 103; (with_reducible refine kb.out.mono ?_); rintro e W2 ⟨rfl, u⟩; (skip)) | refine (⟨trivial, ?_⟩ : Fence.wide.fn _ ∧ _))
  go_ret
  exact ⟨_, rfl, rfl, u⟩
set_option maxHeartbeats 1000000 in
/-- Is one outside? -/
theorem indexB_c {n : Nat} {A : Option Addr} {cap : Nat} {xs : List Int} {W : World} (hr : Reads1 W A (xs.map (Value.int .i64))) (hl : xs.length ≤ 100000) :
    CallsIn Fence.wide n Try.prog 121 #[.slice A xs.length cap, .func (.func 98) #[] #[]] W fun e W2 => ∃ r : Int, e = .returned (.int .i64 r) ∧ decide (0 ≤ r) = xs.any outB ∧ Upd (fun _ => False) W W2 := by
  have ko := Lib.hid fun x V => outside_c (x := x) (W := V)
  have hrW := Lib.hid fun V (u : Upd (fun _ => False) W V) => hr.agree' (w' := V) (u.agree fun j hj => ⟨hr.lt' j hj, id⟩)
  clear hr
  refine callsIn_any (n := 0) (callsIn_of_wp Try.func121 rfl trivial ?_)
  simp only [Try.ntmps121, List.size_toArray, List.length_cons, List.length_nil, Nat.reduceAdd, Nat.reduceSub, Array.replicate_succ, Array.replicate_zero, List.push_toArray, List.append_toArray, List.nil_append, List.cons_append]
  gi_wp2_with (first | refine (⟨trivial, rfl, ?_⟩ : Fence.wide.fn _ ∧ Fence.wide.depth = none ∧ _) | refine (⟨trivial, ?_⟩ : Fence.wide.fn _ ∧ _))
  gi_loopw [8] (fun i wr => ∃ k : Nat, i = .int .i64 k ∧ k ≤ xs.length ∧ Hid ((xs.take k).any outB = false) ∧ Upd (fun _ => False) W wr) (fun i _ => xs.length - (intOf i).toNat)
  case atStart => exact ⟨0, rfl, Nat.zero_le _, Lib.hid (by simp), Upd.refl _ _⟩
  case round =>
    obtain ⟨k, rfl, hk, hT, hu⟩ := hrel
    by_cases hlt : k < xs.length
    · obtain ⟨ad, rfl, hc⟩ := hrW.out _ hu k (.int .i64 xs[k]) (by simp [hlt])
      have hw5 : IntKind.i64.wrap ((k : Int) + 1) = (k : Int) + 1 := Go.IntWalk.i64_in _ ⟨by omega, by omega⟩
      have ht : (xs.take (k + 1)).any outB = ((xs.take k).any outB || outB xs[k]) := by rw [List.take_succ_eq_append_getElem hlt, List.any_append]; simp
      have hmem := List.getElem_mem hlt
      have kk := Lib.hid (ko.out xs[k] wr)
      generalize xs[k] = x at *
      cases hb : outB x
      · rw [hT.out, hb] at ht
        rw [hb] at kk
        replace ht := Lib.hid ht
        clear hb
        gi_wp2_with (first | refine (⟨trivial, rfl, ?_⟩ : Fence.wide.fn _ ∧ Fence.wide.depth = none ∧ _) | ((with_reducible refine listV1 kk.out ?_ ?_ ?_); rfl; rfl; rintro v W2 ⟨rfl, hW2⟩; (replace hW2 := hW2.symm); (subst hW2)) | refine (⟨trivial, ?_⟩ : Fence.wide.fn _ ∧ _))
        exact ⟨⟨k + 1, by go_num, by omega, Lib.hid (by simpa using ht.out), hu⟩, by show xs.length - ((k : Int) + 1).toNat < xs.length - (k : Int).toNat; omega⟩
      · have hany : xs.any outB = true := List.any_eq_true.2 ⟨x, hmem, hb⟩
        rw [hb] at kk
        replace hany := Lib.hid hany
        clear hb ht
        gi_wp2_with (first | refine (⟨trivial, rfl, ?_⟩ : Fence.wide.fn _ ∧ Fence.wide.depth = none ∧ _) | ((with_reducible refine listV1 kk.out ?_ ?_ ?_); rfl; rfl; rintro v W2 ⟨rfl, hW2⟩; (replace hW2 := hW2.symm); (subst hW2)) | refine (⟨trivial, ?_⟩ : Fence.wide.fn _ ∧ _))
        go_ret
        exact ⟨_, rfl, by rw [hany.out]; simp, hu⟩
    · obtain rfl : k = xs.length := by omega
      have hany := hT.out
      rw [List.take_length] at hany
      replace hany := Lib.hid hany
      gi_wp2_with (first | refine (⟨trivial, rfl, ?_⟩ : Fence.wide.fn _ ∧ Fence.wide.depth = none ∧ _) | refine (⟨trivial, ?_⟩ : Fence.wide.fn _ ∧ _))
      go_ret
      exact ⟨_, rfl, by rw [hany.out]; simp, hu⟩
theorem contB_c {n : Nat} {A : Option Addr} {cap : Nat} {xs : List Int} {W : World} (hr : Reads1 W A (xs.map (Value.int .i64))) (hl : xs.length ≤ 100000) :
    CallsIn Fence.wide n Try.prog 99 #[.slice A xs.length cap, .func (.func 98) #[] #[]] W fun e W2 => e = .returned (.bool (xs.any outB)) ∧ Upd (fun _ => False) W W2 := by
  have ki := Lib.hid (indexB_c (n := 0) (cap := cap) hr hl)
  clear hr
  refine callsIn_any (n := 0) (callsIn_of_wp Try.func99 rfl trivial ?_)
  simp only [Try.ntmps99, List.size_toArray, List.length_cons, List.length_nil, Nat.reduceAdd, Nat.reduceSub, Array.replicate_succ, Array.replicate_zero, List.push_toArray, List.append_toArray, List.nil_append, List.cons_append]
  gi_wp2_with (first | refine (⟨trivial, rfl, ?_⟩ : Fence.wide.fn _ ∧ Fence.wide.depth = none ∧ _) | (gi_at_call 121; (with_reducible refine ki.out.mono ?_); rintro e W2 ⟨r, rfl, h, u⟩; (replace h := Lib.hid h)) | refine (⟨trivial, ?_⟩ : Fence.wide.fn _ ∧ _))
  go_ret
  rw [← h.out]
  exact ⟨rfl, u⟩
end Go.Proofs.Ytkjkpmeommfdgaa

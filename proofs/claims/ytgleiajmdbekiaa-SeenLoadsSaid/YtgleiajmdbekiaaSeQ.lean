/- seen: which states are right: the program's test of one source. -/
import Derived.Test.YtgleiajmdbekiaaProg
import Derived.Test.YtgleiajmdbekiaaBase
import Derived.Test.YtgleiajmdbekiaaMkV
import Derived.Test.YtgleiajmdbekiaaSeH
namespace Go.Proofs.Ytgleiajmdbekiaa
open Go.RowKit Go.Shelf
attribute [local go_sem] Oper.semAt_some

abbrev mxT : Int := 1099511627776
theorem boolP {b : Bool} {p : Prop} {e : Ending} (he : SaysB p e) (hb : b = true ↔ p) : e = .returned (.bool b) := by
  obtain ⟨b', rfl, h⟩ := he
  rw [show b' = b from Bool.eq_iff_iff.2 (h.trans hb.symm)]
/-- A number of a source is right, at its place. -/
def numOk (s : List Int) (f : Int) (i : Nat) (h : i < s.length) : Prop := f < s[i] ∧ s[i] ≤ mxT ∧ (∀ _ : 0 < i, s[i - 1]'(by omega) < s[i])
def numsP (s : List Int) (f : Int) : Prop := ∀ i (h : i < s.length), numOk s f i h
def numsTo (s : List Int) (f : Int) (n : Nat) : Prop := ∀ i (h : i < s.length), i < n → numOk s f i h
def srcP (x : ByteArray × Src) : Prop := wordP x.1 ∧ (0 ≤ x.2.1 ∧ x.2.1 ≤ mxT) ∧ (1 ≤ x.2.2.length ∧ x.2.2.length ≤ 32) ∧ numsP x.2.2 x.2.1
def rowR (rs : List SrcP) (i : Nat) (h : i < rs.length) : Prop := srcP (absT rs[i]) ∧ (∀ _ : 0 < i, cmpS (rs[i - 1]'(by omega)).1 rs[i].1 < 0)
def rightR (rs : List SrcP) : Prop := (∀ i (h : i < rs.length), rowR rs i h) ∧ rs.length ≤ 8
def rowsTo (rs : List SrcP) (n : Nat) : Prop := ∀ i (h : i < rs.length), i < n → rowR rs i h
theorem nums_succ {s : List Int} {f : Int} {k : Nat} (hu : numsTo s f k) (h : k < s.length) (hn : numOk s f k h) : numsTo s f (k + 1) := fun i hi hlt => by
  by_cases e : i = k
  · subst e; exact hn
  · exact hu i hi (by omega)
theorem rows_succ {rs : List SrcP} {k : Nat} (hu : rowsTo rs k) (h : k < rs.length) (hn : rowR rs k h) : rowsTo rs (k + 1) := fun i hi hlt => by
  by_cases e : i = k
  · subst e; exact hn
  · exact hu i hi (by omega)
theorem nums_sorted {s : List Int} {f : Int} (h : numsP s f) : s.Pairwise (· < ·) := by
  have step : ∀ d i (hi : i + d + 1 < s.length), s[i]'(by omega) < s[i + d + 1] := by
    intro d
    induction d with
    | zero =>
      intro i hi
      have := (h (i + 1) hi).2.2 (by omega)
      simpa using this
    | succ d ih =>
      intro i hi
      have h1 := ih i (by omega)
      have h2 := (h (i + d + 1 + 1) hi).2.2 (by omega)
      simp only [Nat.add_sub_cancel] at h2
      have e : i + (d + 1) + 1 = i + d + 1 + 1 := by omega
      simp only [e]
      omega
  refine List.pairwise_iff_getElem.2 fun i j hi hj hij => ?_
  have := step (j - i - 1) i (by omega)
  have e : i + (j - i - 1) + 1 = j := by omega
  simpa only [e] using this
theorem rightR.rise {rs : List SrcP} (h : ∀ i (h : i < rs.length), rowR rs i h) : Rise cmpS (rs.map absT) := by
  have step : ∀ d i (hi : i + d + 1 < rs.length), cmpS (rs[i]'(by omega)).1 rs[i + d + 1].1 < 0 := by
    intro d
    induction d with
    | zero =>
      intro i hi
      have := (h (i + 1) hi).2 (by omega)
      simpa using this
    | succ d ih =>
      intro i hi
      have h1 := ih i (by omega)
      have h2 := (h (i + d + 1 + 1) hi).2 (by omega)
      simp only [Nat.add_sub_cancel] at h2
      have e : i + (d + 1) + 1 = i + d + 1 + 1 := by omega
      simp only [e]
      exact ordrS.trans _ _ _ h1 h2
  unfold Rise
  rw [List.pairwise_map]
  refine List.pairwise_iff_getElem.2 fun i j hi hj hij => ?_
  have := step (j - i - 1) i (by omega)
  have e : i + (j - i - 1) + 1 = j := by omega
  simp only [e] at this
  exact this
theorem rightR.ok {rs : List SrcP} (h : rightR rs) : OkS (rs.map absT) := by
  refine ⟨rightR.rise h.1, by rw [abs_len]; exact h.2, fun y hy => ?_⟩
  obtain ⟨r, hr, rfl⟩ := List.mem_map.1 hy
  obtain ⟨i, hi, rfl⟩ := List.getElem_of_mem hr
  obtain ⟨h1, h2, h3, h4⟩ := (h.1 i hi).1
  refine ⟨nums_sorted h4, h3.2, fun n hn => ?_⟩
  obtain ⟨j, hj, rfl⟩ := List.getElem_of_mem hn
  exact (h4 j hj).1
section
variable {s : List Int} {A5 : Option Addr} {c5 : Nat} {f : Int} {W : World}
set_option maxRecDepth 100000 in
set_option maxHeartbeats 8000000 in
theorem rising_c {n : Nat} (hr : Reads1 W A5 (intsV s)) (hl : s.length ≤ 100000) {g1 : Int} (hg : g1 = f + 1) : CallsIn Fence.wide n Try.prog 57 #[.slice A5 s.length c5, .int .i64 g1, .int .i64 1099511627776] W fun e W2 => SaysB (numsP s f) e ∧ W2 = W := by
  have hlf : ∀ n : Int, n < g1 ↔ ¬ f < n := fun n => by omega
  clear hg
  refine callsIn_any (n := 0) (callsIn_of_wp Try.func57 rfl trivial ?_)
  simp only [Try.ntmps57, List.size_toArray, List.length_cons, List.length_nil, Nat.reduceAdd, Nat.reduceSub, Array.replicate_succ, Array.replicate_zero, List.push_toArray, List.append_toArray, List.nil_append, List.cons_append]
  gi_wp2
  gi_loopw [11] (fun i wr => wr = W ∧ ∃ k : Nat, i = .int .i64 k ∧ k ≤ s.length ∧ Hid (numsTo s f k)) (fun i _ => s.length - (intOf i).toNat)
  case atStart => exact ⟨rfl, 0, rfl, Nat.zero_le _, Lib.hid fun i h hi => by omega⟩
  case round =>
    obtain ⟨hw, k, rfl, hk, hT⟩ := hrel
    subst hw
    by_cases hlt : k < s.length
    · obtain ⟨g, o, rfl, hc⟩ := reads_at hr (by rw [intsV_len]; omega)
      have c0 := hc _ _ (intsV_get s k hlt)
      have hw5 : IntKind.i64.wrap ((k : Int) + 1) = (k : Int) + 1 := Go.IntWalk.i64_in _ ⟨by omega, by omega⟩
      obtain ⟨j, hj⟩ : ∃ j, k - 1 = j := ⟨_, rfl⟩
      have hjl : j < s.length := by omega
      have c1 := hc _ _ (intsV_get s j hjl)
      have hwj : 0 < k → IntKind.i64.wrap ((k : Int) - 1) = (j : Int) := fun h => by rw [Go.IntWalk.i64_in _ ⟨by omega, by omega⟩]; omega
      have hno : ¬ numOk s f k hlt → (false = true ↔ numsP s f) := fun hn => ⟨fun h => (by cases h), fun hp => (hn (hp k hlt)).elim⟩
      have hyes := nums_succ hT.out hlt
      unfold numOk at hno hyes
      obtain ⟨p, hp⟩ : ∃ p, s[j] = p := ⟨_, rfl⟩
      have hpe : ∀ h : k - 1 < s.length, s[k - 1] = p := fun h => by simp only [hj]; exact hp
      simp only [hpe] at hno hyes
      rw [hp] at c1
      clear hp hpe
      have hlf2 := hlf s[k]
      generalize s[k] = x at *
      replace hno := Lib.hid hno
      replace hyes := Lib.hid hyes
      clear hc hr hT hlf hj
      by_cases h1 : f < x
      · have h1' : ¬ x < g1 := by omega
        clear hlf2
        by_cases h2 : x ≤ 1099511627776
        · by_cases hk0 : 0 < k
          · have hwj := hwj hk0
            by_cases h3 : p < x
            · skip
              gi_wp2_with (first | refine (⟨trivial, rfl, ?_⟩ : Fence.wide.fn _ ∧ Fence.wide.depth = none ∧ _) | refine (⟨trivial, ?_⟩ : Fence.wide.fn _ ∧ _))
              exact ⟨⟨by trivial, k + 1, by go_num, by omega, Lib.hid (hyes.out ⟨h1, h2, fun _ => h3⟩)⟩, by simp [intOf]; omega⟩
            · skip
              gi_wp2_with (first | refine (⟨trivial, rfl, ?_⟩ : Fence.wide.fn _ ∧ Fence.wide.depth = none ∧ _) | refine (⟨trivial, ?_⟩ : Fence.wide.fn _ ∧ _))
              go_ret
              exact ⟨⟨_, rfl, hno.out fun hh => by have := hh.2.2 hk0; omega⟩, by trivial⟩
          · clear hwj
            gi_wp2_with (first | refine (⟨trivial, rfl, ?_⟩ : Fence.wide.fn _ ∧ Fence.wide.depth = none ∧ _) | refine (⟨trivial, ?_⟩ : Fence.wide.fn _ ∧ _))
            exact ⟨⟨by trivial, k + 1, by go_num, by omega, Lib.hid (hyes.out ⟨h1, h2, fun h => absurd h hk0⟩)⟩, by simp [intOf]; omega⟩
        · clear hwj
          gi_wp2_with (first | refine (⟨trivial, rfl, ?_⟩ : Fence.wide.fn _ ∧ Fence.wide.depth = none ∧ _) | refine (⟨trivial, ?_⟩ : Fence.wide.fn _ ∧ _))
          go_ret
          exact ⟨⟨_, rfl, hno.out fun hh => by have := hh.2.1; simp only [mxT] at this; omega⟩, by trivial⟩
      · have h1' : x < g1 := by omega
        clear hlf2 hwj
        gi_wp2_with (first | refine (⟨trivial, rfl, ?_⟩ : Fence.wide.fn _ ∧ Fence.wide.depth = none ∧ _) | refine (⟨trivial, ?_⟩ : Fence.wide.fn _ ∧ _))
        go_ret
        exact ⟨⟨_, rfl, hno.out fun hh => by have := hh.1; omega⟩, by trivial⟩
    · obtain rfl : k = s.length := by omega
      clear hr hlf
      gi_wp2_with (first | refine (⟨trivial, rfl, ?_⟩ : Fence.wide.fn _ ∧ Fence.wide.depth = none ∧ _) | refine (⟨trivial, ?_⟩ : Fence.wide.fn _ ∧ _))
      go_ret
      exact ⟨⟨_, rfl, ⟨fun _ i hi => hT.out i hi hi, fun _ => rfl⟩⟩, by trivial⟩
theorem ff {p : Prop} (h : ¬ p) : (false = true ↔ p) := ⟨fun h => (by cases h), fun hp => (h hp).elim⟩
theorem fz {pA pB pN F1 F2 N1 N2 : Prop} {b3 : Bool} (h1 : True ↔ pA) (h2 : false = true ↔ pB) (f1 : F1) (f2 : F2) (n1 : N1) (n2 : N2) (h3 : b3 = true ↔ pN) : (b3 = true ↔ (pA ∧ ¬ pB) ∧ (F1 ∧ F2) ∧ (N1 ∧ N2) ∧ pN) :=
  ⟨fun h => ⟨⟨h1.1 trivial, fun hB => Bool.false_ne_true (h2.2 hB)⟩, ⟨f1, f2⟩, ⟨n1, n2⟩, h3.1 h⟩, fun h => h3.2 h.2.2.2⟩
set_option maxRecDepth 100000 in
set_option maxHeartbeats 8000000 in
theorem right1_c {n : Nat} {nm : ByteArray} (hr : Reads1 W A5 (intsV s)) (hl : s.length ≤ 100000) (hsz : nm.size ≤ maxLen) : CallsIn Fence.wide n Try.prog 34 #[.agg #[.string nm, .int .i64 f, .slice A5 s.length c5]] W fun e W2 => SaysB (srcP (nm, f, s)) e ∧ Upd (fun _ => False) W W2 := by
  have uA := Upd.alloc (fun _ => False) W (.cells #[.string nm, .int .i64 f, .slice A5 s.length c5] 43)
  have bA := Blk.new W #[.string nm, .int .i64 f, .slice A5 s.length c5] 43
  obtain ⟨V0, hV0⟩ : ∃ V0, W.alloc (.cells #[.string nm, .int .i64 f, .slice A5 s.length c5] 43) = V0 := ⟨_, rfl⟩
  rw [hV0] at uA bA
  have c0 : V0.cell? ⟨W.heap.size, 0, none⟩ = some (.string nm) := bA.cell 0
  have c1 : V0.cell? ⟨W.heap.size, 1, none⟩ = some (.int .i64 f) := bA.cell 1
  have c2 : V0.cell? ⟨W.heap.size, 2, none⟩ = some (.slice A5 s.length c5) := bA.cell 2
  have kN := Lib.hid (tagName_c (n := 0) (s := nm) (w := V0) hsz)
  have kD := Lib.hid (contains_c (n := 0) nm V0)
  have kR := Lib.hid fun g1 (hg : g1 = f + 1) => rising_c (n := 0) (f := f) (c5 := c5) (hr.agree' (w' := V0) (uA.agree fun j hj => ⟨hr.lt' j hj, id⟩)) hl hg
  have hsl : (s.length : Int) = s.length := rfl
  unfold srcP wordP
  simp only
  generalize numsP s f = pN at *
  generalize nameP nm = pA at *
  generalize hasP 46 nm = pB at *
  obtain ⟨sl, hsl2⟩ : ∃ sl, s.length = sl := ⟨_, rfl⟩
  rw [hsl2] at c2 ⊢
  simp only [hsl2] at kR hV0
  clear hr hsz bA hsl hsl2 hl
  replace uA := Lib.hid uA
  refine callsIn_any (n := 0) (callsIn_of_wp Try.func34 rfl trivial ?_)
  simp only [Try.ntmps34, List.size_toArray, List.length_cons, List.length_nil, Nat.reduceAdd, Nat.reduceSub, Array.replicate_succ, Array.replicate_zero, List.push_toArray, List.append_toArray, List.nil_append, List.cons_append]
  by_cases hf0 : 0 ≤ f
  · by_cases hf1 : f ≤ 1099511627776
    · have hx : Hid True := Lib.hid trivial
      have kR2 := Lib.hid (kR.out (f + 1) rfl)
      have hwf : IntKind.i64.wrap (f + 1) = f + 1 := Go.IntWalk.i64_in _ ⟨by omega, by omega⟩
      by_cases hn1 : 1 ≤ sl
      · by_cases hn2 : sl ≤ 32
        · skip
          gi_wp2_with (first | refine (⟨trivial, rfl, ?_⟩ : Fence.wide.fn _ ∧ Fence.wide.depth = none ∧ _) | (rw [hV0]; skip) | (gi_at_call 55; (with_reducible refine kN.out.mono ?_); rintro e W2 ⟨⟨b1, rfl, hb1⟩, e2⟩; (replace e2 := e2.symm); (subst e2); (replace hb1 := Lib.hid hb1); (cases b1)) | (gi_at_call 56; (with_reducible refine kD.out.mono ?_); rintro e W2 ⟨⟨b2, rfl, hb2⟩, e2⟩; (replace e2 := e2.symm); (subst e2); (replace hb2 := Lib.hid hb2); (cases b2)) | (gi_at_call 57; (with_reducible refine kR2.out.mono ?_); rintro e W2 ⟨⟨b3, rfl, hb3⟩, e2⟩; (replace e2 := e2.symm); (subst e2); (replace hb3 := Lib.hid hb3)) | refine (⟨trivial, ?_⟩ : Fence.wide.fn _ ∧ _))
          all_goals
            go_ret
            exact ⟨⟨_, rfl, by first | exact ff fun h => Bool.false_ne_true (hb1.out.2 h.1.1) | exact ff fun h => h.1.2 (hb2.out.1 trivial) | exact ff fun h => hx.out h.2.1.1 | exact ff fun h => hx.out h.2.1.2 | exact ff fun h => hx.out h.2.2.1.1 | exact ff fun h => hx.out h.2.2.1.2 | (refine ff ?_; intro h; (try simp only [mxT] at h); omega) | exact ff id | exact fz hb1.out hb2.out hf0 hf1 hn1 hn2 hb3.out⟩, uA.out⟩
        · have hx := Lib.hid hn2
          gi_wp2_with (first | refine (⟨trivial, rfl, ?_⟩ : Fence.wide.fn _ ∧ Fence.wide.depth = none ∧ _) | (rw [hV0]; skip) | (gi_at_call 55; (with_reducible refine kN.out.mono ?_); rintro e W2 ⟨⟨b1, rfl, hb1⟩, e2⟩; (replace e2 := e2.symm); (subst e2); (replace hb1 := Lib.hid hb1); (cases b1)) | (gi_at_call 56; (with_reducible refine kD.out.mono ?_); rintro e W2 ⟨⟨b2, rfl, hb2⟩, e2⟩; (replace e2 := e2.symm); (subst e2); (replace hb2 := Lib.hid hb2); (cases b2)) | refine (⟨trivial, ?_⟩ : Fence.wide.fn _ ∧ _))
          all_goals
            go_ret
            exact ⟨⟨_, rfl, by first | exact ff fun h => Bool.false_ne_true (hb1.out.2 h.1.1) | exact ff fun h => h.1.2 (hb2.out.1 trivial) | exact ff fun h => hx.out h.2.1.1 | exact ff fun h => hx.out h.2.1.2 | exact ff fun h => hx.out h.2.2.1.1 | exact ff fun h => hx.out h.2.2.1.2 | (refine ff ?_; intro h; (try simp only [mxT] at h); omega) | exact ff id | exact fz hb1.out hb2.out hf0 hf1 hn1 hn2 hb3.out⟩, uA.out⟩
      · have hx := Lib.hid hn1
        gi_wp2_with (first | refine (⟨trivial, rfl, ?_⟩ : Fence.wide.fn _ ∧ Fence.wide.depth = none ∧ _) | (rw [hV0]; skip) | (gi_at_call 55; (with_reducible refine kN.out.mono ?_); rintro e W2 ⟨⟨b1, rfl, hb1⟩, e2⟩; (replace e2 := e2.symm); (subst e2); (replace hb1 := Lib.hid hb1); (cases b1)) | (gi_at_call 56; (with_reducible refine kD.out.mono ?_); rintro e W2 ⟨⟨b2, rfl, hb2⟩, e2⟩; (replace e2 := e2.symm); (subst e2); (replace hb2 := Lib.hid hb2); (cases b2)) | refine (⟨trivial, ?_⟩ : Fence.wide.fn _ ∧ _))
        all_goals
          go_ret
          exact ⟨⟨_, rfl, by first | exact ff fun h => Bool.false_ne_true (hb1.out.2 h.1.1) | exact ff fun h => h.1.2 (hb2.out.1 trivial) | exact ff fun h => hx.out h.2.1.1 | exact ff fun h => hx.out h.2.1.2 | exact ff fun h => hx.out h.2.2.1.1 | exact ff fun h => hx.out h.2.2.1.2 | (refine ff ?_; intro h; (try simp only [mxT] at h); omega) | exact ff id | exact fz hb1.out hb2.out hf0 hf1 hn1 hn2 hb3.out⟩, uA.out⟩
    · have hx := Lib.hid hf1
      gi_wp2_with (first | refine (⟨trivial, rfl, ?_⟩ : Fence.wide.fn _ ∧ Fence.wide.depth = none ∧ _) | (rw [hV0]; skip) | (gi_at_call 55; (with_reducible refine kN.out.mono ?_); rintro e W2 ⟨⟨b1, rfl, hb1⟩, e2⟩; (replace e2 := e2.symm); (subst e2); (replace hb1 := Lib.hid hb1); (cases b1)) | (gi_at_call 56; (with_reducible refine kD.out.mono ?_); rintro e W2 ⟨⟨b2, rfl, hb2⟩, e2⟩; (replace e2 := e2.symm); (subst e2); (replace hb2 := Lib.hid hb2); (cases b2)) | refine (⟨trivial, ?_⟩ : Fence.wide.fn _ ∧ _))
      all_goals
        go_ret
        exact ⟨⟨_, rfl, by first | exact ff fun h => Bool.false_ne_true (hb1.out.2 h.1.1) | exact ff fun h => h.1.2 (hb2.out.1 trivial) | exact ff fun h => hx.out h.2.1.1 | exact ff fun h => hx.out h.2.1.2 | exact ff fun h => hx.out h.2.2.1.1 | exact ff fun h => hx.out h.2.2.1.2 | (refine ff ?_; intro h; (try simp only [mxT] at h); omega) | exact ff id | exact fz hb1.out hb2.out hf0 hf1 hn1 hn2 hb3.out⟩, uA.out⟩
  · have hx := Lib.hid hf0
    gi_wp2_with (first | refine (⟨trivial, rfl, ?_⟩ : Fence.wide.fn _ ∧ Fence.wide.depth = none ∧ _) | (rw [hV0]; skip) | (gi_at_call 55; (with_reducible refine kN.out.mono ?_); rintro e W2 ⟨⟨b1, rfl, hb1⟩, e2⟩; (replace e2 := e2.symm); (subst e2); (replace hb1 := Lib.hid hb1); (cases b1)) | (gi_at_call 56; (with_reducible refine kD.out.mono ?_); rintro e W2 ⟨⟨b2, rfl, hb2⟩, e2⟩; (replace e2 := e2.symm); (subst e2); (replace hb2 := Lib.hid hb2); (cases b2)) | refine (⟨trivial, ?_⟩ : Fence.wide.fn _ ∧ _))
    all_goals
      go_ret
      exact ⟨⟨_, rfl, by first | exact ff fun h => Bool.false_ne_true (hb1.out.2 h.1.1) | exact ff fun h => h.1.2 (hb2.out.1 trivial) | exact ff fun h => hx.out h.2.1.1 | exact ff fun h => hx.out h.2.1.2 | exact ff fun h => hx.out h.2.2.1.1 | exact ff fun h => hx.out h.2.2.1.2 | (refine ff ?_; intro h; (try simp only [mxT] at h); omega) | exact ff id | exact fz hb1.out hb2.out hf0 hf1 hn1 hn2 hb3.out⟩, uA.out⟩
end
end Go.Proofs.Ytgleiajmdbekiaa

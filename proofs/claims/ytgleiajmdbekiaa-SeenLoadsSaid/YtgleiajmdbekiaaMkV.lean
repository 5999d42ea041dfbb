/- Names and words: what the document's tests, and the program's, say. -/
import Derived.Test.YtgleiajmdbekiaaProg
import Derived.Test.YtgleiajmdbekiaaBase
import Derived.Shelf.Strings.Search1
namespace Go.Proofs.Ytgleiajmdbekiaa
open Go.RowKit Go.Shelf
attribute [local go_sem] Oper.semAt_some

theorem bneP (c d : Int) : (Hid (c = d) ∧ (c != d) = false) ∨ (Hid (c ≠ d) ∧ (c != d) = true) := by
  by_cases h : c = d
  · exact .inl ⟨Lib.hid h, by simp [h]⟩
  · exact .inr ⟨Lib.hid h, by simp [h]⟩
theorem beqP (c d : Int) : (Hid (c = d) ∧ (c == d) = true) ∨ (Hid (c ≠ d) ∧ (c == d) = false) := by
  by_cases h : c = d
  · exact .inl ⟨Lib.hid h, by simp [h]⟩
  · exact .inr ⟨Lib.hid h, by simp [h]⟩
/-- It answers, and says whether. -/
def SaysB (p : Prop) (e : Ending) : Prop := ∃ b, e = .returned (.bool b) ∧ (b = true ↔ p)
def SaysC (p : Prop) (e : Ending) : Prop := ∃ a b d, e = .returned (.tuple #[.string a, .string b, .bool d]) ∧ (d = true ↔ p)
/-- A name's byte, at a place. -/
def okc (k : Nat) (c : Int) : Prop := (k = 0 → 97 ≤ c ∧ c ≤ 122) ∧ ((97 ≤ c ∧ c ≤ 122) ∨ (48 ≤ c ∧ c ≤ 57) ∨ c = 95 ∨ c = 46)
def nameP (s : ByteArray) : Prop := 1 ≤ s.size ∧ s.size ≤ 24 ∧ ∀ k (h : k < s.size), okc k (s[k].toNat : Int)
def hasP (c : Int) (s : ByteArray) : Prop := ∃ k, ∃ h : k < s.size, (s[k].toNat : Int) = c
def wordP (s : ByteArray) : Prop := nameP s ∧ ¬ hasP 46 s
theorem notName {s : ByteArray} {k : Nat} {c : Int} (h : k < s.size) (hc : (s[k].toNat : Int) = c) (hn : ¬ okc k c) : (false = true ↔ nameP s) := ⟨fun h => (by cases h), fun hp => (hn (hc ▸ hp.2.2 k h)).elim⟩
/-- So far all are. -/
def upto (s : ByteArray) (n : Nat) : Prop := ∀ k (h : k < s.size), k < n → okc k (s[k].toNat : Int)
theorem upto_succ {s : ByteArray} {n : Nat} {c : Int} (hu : upto s n) (h : n < s.size) (hc : (s[n].toNat : Int) = c) (hn : okc n c) : upto s (n + 1) := fun k hk hlt => by
  by_cases e : k = n
  · subst e; rw [hc]; exact hn
  · exact hu k hk (by omega)
/-- Behind the names' loops. -/
theorem nameEnd {s : ByteArray} (hu : upto s s.size) {b : Bool} (hb : b = true ↔ 1 ≤ s.size ∧ s.size ≤ 24) : b = true ↔ nameP s :=
  ⟨fun h => ⟨(hb.1 h).1, (hb.1 h).2, fun k h => hu k h h⟩, fun h => hb.2 ⟨h.1, h.2.1⟩⟩

set_option maxRecDepth 100000 in
set_option maxHeartbeats 4000000 in
theorem refName_c {n : Nat} {s : ByteArray} {w : World} (hs : s.size ≤ maxLen) : CallsIn Fence.wide n Try.prog 24 #[.string s] w fun e w' => SaysB (nameP s) e ∧ w' = w := by
  unfold maxLen at hs
  refine callsIn_any (n := 0) (callsIn_of_wp Try.func24 rfl trivial ?_)
  simp only [Try.ntmps24, List.size_toArray, List.length_cons, List.length_nil, Nat.reduceAdd, Nat.reduceSub, Array.replicate_succ, Array.replicate_zero, List.push_toArray, List.append_toArray, List.nil_append, List.cons_append]
  gi_wp2
  gi_loopw [3] (fun u wr => ∃ k : Nat, u = .int .i64 k ∧ k ≤ s.size ∧ Hid (upto s k) ∧ wr = w) (fun u _ => s.size - (intOf u).toNat)
  case atStart => exact ⟨0, rfl, Nat.zero_le _, Lib.hid fun k h hk => by omega, rfl⟩
  case round =>
    obtain ⟨k, rfl, hk, hU, hw⟩ := hrel
    (replace hw := hw.symm); subst hw
    by_cases hlt : k < s.size
    · obtain ⟨c, hc⟩ : ∃ c : Int, (s[k].toNat : Int) = c := ⟨_, rfl⟩
      have hw1 : IntKind.i64.wrap ((k : Int) + 1) = (k : Int) + 1 := Go.IntWalk.i64_in _ ⟨by omega, by omega⟩
      have hno := Lib.hid fun hn => notName (s := s) hlt hc hn
      have hyes := Lib.hid fun hn => upto_succ (s := s) hU.out hlt hc hn
      rcases beqP (k : Int) 0 with ⟨h3, hb3⟩ | ⟨h3, hb3⟩ <;> rcases bneP c 95 with ⟨h6, hb6⟩ | ⟨h6, hb6⟩ <;> rcases bneP c 46 with ⟨h7, hb7⟩ | ⟨h7, hb7⟩ <;>
      by_cases h1 : 97 ≤ c <;> by_cases h2 : c ≤ 122 <;> by_cases h4 : c < 48 <;> by_cases h5 : 57 < c <;> first | (exfalso; have := h6.out; have := h7.out; omega) | skip
      all_goals
        gi_wp2
        first
          | (go_ret; refine ⟨⟨_, rfl, hno.out ?_⟩, rfl⟩; (have h3 := h3.out); (have h6 := h6.out); (have h7 := h7.out); unfold okc; omega)
          | exact ⟨⟨k + 1, by go_num, by omega, Lib.hid (hyes.out (by have h3 := h3.out; have h6 := h6.out; have h7 := h7.out; unfold okc; omega)), trivial⟩, by simp [intOf]; omega⟩
    · obtain rfl : k = s.size := by omega
      have hE := Lib.hid fun (b : Bool) (hb : b = true ↔ 1 ≤ s.size ∧ s.size ≤ 24) => nameEnd hU.out hb
      clear hU
      by_cases h1 : 1 ≤ s.size <;> by_cases h2 : s.size ≤ 24 <;> first | (exfalso; omega) | skip
      all_goals
        gi_wp2
        go_ret
        exact ⟨⟨_, rfl, hE.out _ (by simp <;> omega)⟩, rfl⟩
set_option maxRecDepth 100000 in
set_option maxHeartbeats 4000000 in
theorem tagName_c {n : Nat} {s : ByteArray} {w : World} (hs : s.size ≤ maxLen) : CallsIn Fence.wide n Try.prog 55 #[.string s] w fun e w' => SaysB (nameP s) e ∧ w' = w := by
  unfold maxLen at hs
  refine callsIn_any (n := 0) (callsIn_of_wp Try.func55 rfl trivial ?_)
  simp only [Try.ntmps55, List.size_toArray, List.length_cons, List.length_nil, Nat.reduceAdd, Nat.reduceSub, Array.replicate_succ, Array.replicate_zero, List.push_toArray, List.append_toArray, List.nil_append, List.cons_append]
  by_cases hl1 : 1 ≤ s.size
  · by_cases hl2 : s.size ≤ 24
    · obtain ⟨c0, hc0⟩ : ∃ c : Int, (s[0].toNat : Int) = c := ⟨_, rfl⟩
      by_cases g1 : 97 ≤ c0
      · by_cases g2 : c0 ≤ 122
        · gi_wp2
          gi_loopw [25] (fun u wr => ∃ k : Nat, u = .int .i64 k ∧ k ≤ s.size ∧ Hid (upto s k) ∧ wr = w) (fun u _ => s.size - (intOf u).toNat)
          case atStart => exact ⟨0, rfl, Nat.zero_le _, Lib.hid fun k h hk => by omega, rfl⟩
          case round =>
            obtain ⟨k, rfl, hk, hU, hw⟩ := hrel
            (replace hw := hw.symm); subst hw
            by_cases hlt : k < s.size
            · obtain ⟨c, hc⟩ : ∃ c : Int, (s[k].toNat : Int) = c := ⟨_, rfl⟩
              have hw1 : IntKind.i64.wrap ((k : Int) + 1) = (k : Int) + 1 := Go.IntWalk.i64_in _ ⟨by omega, by omega⟩
              have hno := Lib.hid fun hn => notName (s := s) hlt hc hn
              have hyes := Lib.hid fun hn => upto_succ (s := s) hU.out hlt hc hn
              have h0 : Hid (k = 0 → 97 ≤ c ∧ c ≤ 122) := Lib.hid fun e => by subst e; rw [hc] at hc0; omega
              rcases bneP c 95 with ⟨h6, hb6⟩ | ⟨h6, hb6⟩ <;> rcases bneP c 46 with ⟨h7, hb7⟩ | ⟨h7, hb7⟩ <;>
              by_cases h1 : c < 97 <;> by_cases h2 : 122 < c <;> by_cases h4 : c < 48 <;> by_cases h5 : 57 < c <;> first | (exfalso; have := h6.out; have := h7.out; omega) | skip
              all_goals
                gi_wp2
                first
                  | (go_ret; exact ⟨⟨_, rfl, hno.out (by have h0 := h0.out; have h6 := h6.out; have h7 := h7.out; unfold okc; omega)⟩, rfl⟩)
                  | exact ⟨⟨k + 1, by go_num, by omega, Lib.hid (hyes.out (by have h0 := h0.out; have h6 := h6.out; have h7 := h7.out; unfold okc; omega)), trivial⟩, by simp [intOf]; omega⟩
            · obtain rfl : k = s.size := by omega
              have hE := Lib.hid fun (b : Bool) (hb : b = true ↔ 1 ≤ s.size ∧ s.size ≤ 24) => nameEnd hU.out hb
              clear hU
              gi_wp2
              go_ret
              exact ⟨⟨_, rfl, hE.out _ (by simp <;> omega)⟩, rfl⟩
        · gi_wp2
          go_ret
          exact ⟨⟨_, rfl, notName (k := 0) (by omega) hc0 (by unfold okc; omega)⟩, rfl⟩
      · gi_wp2
        go_ret
        exact ⟨⟨_, rfl, notName (k := 0) (by omega) hc0 (by unfold okc; omega)⟩, rfl⟩
    · gi_wp2
      go_ret
      exact ⟨⟨_, rfl, ⟨fun h => (by cases h), fun h => absurd h.2.1 hl2⟩⟩, rfl⟩
  · gi_wp2
    go_ret
    exact ⟨⟨_, rfl, ⟨fun h => (by cases h), fun h => absurd h.1 hl1⟩⟩, rfl⟩

set_option maxRecDepth 100000 in
set_option maxHeartbeats 2000000 in
theorem cut3_c {n : Nat} {s : ByteArray} {c : Int} {w : World} (hs : s.size ≤ maxLen) : CallsIn Fence.wide n Try.prog 23 #[.string s, .int .u8 c] w fun e w' => SaysC (hasP c s) e ∧ Upd (fun _ => False) w w' := by
  unfold maxLen at hs
  refine callsIn_any (n := 0) (callsIn_of_wp Try.func23 rfl trivial ?_)
  simp only [Try.ntmps23, List.size_toArray, List.length_cons, List.length_nil, Nat.reduceAdd, Nat.reduceSub, Array.replicate_succ, Array.replicate_zero, List.push_toArray, List.append_toArray, List.nil_append, List.cons_append]
  gi_wp2
  gi_loopw [7] (fun u wr => ∃ k : Nat, u = .int .i64 k ∧ k ≤ s.size ∧ Hid (∀ i (h : i < s.size), i < k → (s[i].toNat : Int) ≠ c) ∧ wr = w) (fun u _ => s.size - (intOf u).toNat)
  case atStart => exact ⟨0, rfl, Nat.zero_le _, Lib.hid fun i h hi => by omega, rfl⟩
  case round =>
    obtain ⟨k, rfl, hk, hN, hw⟩ := hrel
    (replace hw := hw.symm); subst hw
    by_cases hlt : k < s.size
    · have hw1 : IntKind.i64.wrap ((k : Int) + 1) = (k : Int) + 1 := Go.IntWalk.i64_in _ ⟨by omega, by omega⟩
      by_cases he : (s[k].toNat : Int) = c
      · have hh : Hid (hasP c s) := Lib.hid ⟨k, hlt, he⟩
        gi_wp2
        have hp0 : (0 : Int) ≤ (k : Int) + 1 := by omega
        have hp1 : (k : Int) + 1 ≤ s.size := by omega
        have hp2 : ((k : Int) + 1).toNat = k + 1 := by omega
        refine wpIn_eager [(0, true), (1, true), (2, true), (3, true), (4, true), (5, true), (6, true), (7, true), (8, true), (9, true)] (fun _ => True) (by kernel_rfl) (by kernel_rfl) trivial ?_
        repeat (first | (refine wpE_fl rfl rfl (fun _ _ => rfl) ?_; go_simp) | (refine wpE_sk rfl rfl ?_; go_simp) | (refine wpE_fl (v := ?_) rfl rfl ?_ ?_; rotate_left; (intro W' h'; (try dsimp only at h'); go_simp; exact rfl); go_simp) | (refine wpE_ef rfl ?_; go_simp; gi_wp2_with (first | refine (⟨trivial, rfl, ?_⟩ : Fence.wide.fn _ ∧ Fence.wide.depth = none ∧ _) | refine (⟨trivial, trivial, rfl, ?_⟩ : Fence.wide.fn _ ∧ Fence.wide.fn _ ∧ Fence.wide.depth = none ∧ _) | refine (⟨trivial, ?_⟩ : Fence.wide.fn _ ∧ _)); (first | refine ⟨by first | exact trivial, ?_⟩ | skip)))
        refine wpE_nil ?_
        gi_wp2
        refine bodyPost_ret (results_tmp3 rfl _ _ _) rfl ⟨⟨_, _, _, rfl, ⟨fun _ => hh.out, fun _ => rfl⟩⟩, Upd.drew _ _⟩
      · have hN2 : Hid (∀ i (h : i < s.size), i < k + 1 → (s[i].toNat : Int) ≠ c) := Lib.hid fun i h hi => by
          by_cases e : i = k
          · subst e; exact he
          · exact hN.out i h (by omega)
        gi_wp2
        exact ⟨⟨k + 1, by go_num, by omega, hN2, trivial⟩, by simp [intOf]; omega⟩
    · obtain rfl : k = s.size := by omega
      gi_wp2
      refine bodyPost_ret (results_tmp3 rfl _ _ _) rfl ⟨⟨_, _, _, rfl, ⟨fun h => (by cases h), fun ⟨i, h, e⟩ => (hN.out i h h e).elim⟩⟩, Upd.refl _ _⟩
theorem refWord_c {n : Nat} {s : ByteArray} {w : World} (hs : s.size ≤ maxLen) : CallsIn Fence.wide n Try.prog 9 #[.string s] w fun e w' => SaysB (wordP s) e ∧ Upd (fun _ => False) w w' := by
  have k1 := Lib.hid fun (w : World) => (cut3_c (n := 0) (c := 46) (w := w) hs)
  have k2 := Lib.hid fun (w : World) => (refName_c (n := 0) (w := w) hs)
  refine callsIn_any (n := 0) (callsIn_of_wp Try.func9 rfl trivial ?_)
  simp only [Try.ntmps9, List.size_toArray, List.length_cons, List.length_nil, Nat.reduceAdd, Nat.reduceSub, Array.replicate_succ, Array.replicate_zero, List.push_toArray, List.append_toArray, List.nil_append, List.cons_append]
  gi_wp2_with (first | refine (⟨trivial, rfl, ?_⟩ : Fence.wide.fn _ ∧ Fence.wide.depth = none ∧ _) | (gi_at_call 23; (with_reducible refine (k1.out _).mono ?_); rintro e W1 ⟨⟨a, b, d, rfl, hd⟩, u1⟩; (replace hd := Lib.hid hd)) | (gi_at_call 24; (with_reducible refine (k2.out _).mono ?_); rintro e W2 ⟨⟨b2, rfl, hb2⟩, e2⟩; (replace hb2 := Lib.hid hb2); (replace e2 := e2.symm); (subst e2)) | refine (⟨trivial, ?_⟩ : Fence.wide.fn _ ∧ _))
  all_goals
    cases b2 <;> cases d
  all_goals
    gi_wp2_with (first | refine (⟨trivial, rfl, ?_⟩ : Fence.wide.fn _ ∧ Fence.wide.depth = none ∧ _) | refine (⟨trivial, ?_⟩ : Fence.wide.fn _ ∧ _))
    go_ret
    have hd := hd.out
    have hb2 := hb2.out
    simp only [true_iff, Bool.false_eq_true, false_iff] at hd hb2
    first | (exfalso; simp_all; done) | exact ⟨⟨_, rfl, by simp [wordP, hd, hb2]⟩, u1⟩

/-- A byte is in a list: where it is first. -/
theorem indexByte_mem (l : List UInt8) (c : UInt8) : 0 ≤ Lib.indexByte l c ↔ c ∈ l := by
  induction l with
  | nil => simp [Lib.indexByte]
  | cons b l ih =>
    have hg := Lib.indexByte_ge l c
    unfold Lib.indexByte
    by_cases hb : b = c
    · subst hb; simp
    · have hb' : (b == c) = false := by simpa using hb
      have hc : ¬ c = b := fun e => hb e.symm
      simp only [hb', Bool.false_eq_true, if_false, List.mem_cons, hc, false_or]
      rw [← ih]
      by_cases hm : Lib.indexByte l c = -1
      · simp [hm]
      · have hm' : (Lib.indexByte l c == -1) = false := by simpa using hm
        simp only [hm', Bool.false_eq_true, if_false]
        omega
theorem indexByte_hasP (s : ByteArray) : 0 ≤ Lib.indexByte s.data.toList 46 ↔ hasP 46 s := by
  rw [indexByte_mem]
  unfold hasP
  constructor
  · intro h
    obtain ⟨k, hk, e⟩ := List.getElem_of_mem h
    refine ⟨k, by simpa using hk, ?_⟩
    have : s[k]'(by simpa using hk) = 46 := by rw [← e]; rfl
    rw [this]; rfl
  · rintro ⟨k, hk, e⟩
    have h1 : s[k] = 46 := by
      have h2 : s[k].toNat = 46 := by omega
      exact UInt8.toNat_inj.1 (by rw [h2]; rfl)
    rw [← h1]
    exact List.mem_of_getElem (i := k) (h := by simpa using hk) rfl
def renIB : Ren := ⟨fun f => if f = 217 then 79 else 83, fun t => if t = 3 then 3 else if t = 5 then 5 else 9, fun g => g⟩
set_option maxRecDepth 100000 in
theorem laysIB : Lays.n217 Try.prog renIB where
  mixed := by kernel_rfl
  f217 := by kernel_rfl
  f266 := by kernel_rfl
  t3 := Try.underlying3
  a3 := fun _ => rfl
  z3 := fun _ => rfl
  v3 := fun _ => rfl
  t5 := Try.underlying5
  a5 := fun _ => rfl
  z5 := fun _ => rfl
  v5 := fun _ => rfl
  t9 := Try.underlying9
  a9 := fun _ => rfl
  z9 := fun _ => rfl
  v9 := fun _ => rfl
theorem indexByte_c {n : Nat} (s : ByteArray) (W : World) : CallsIn Fence.wide n Try.prog 79 #[.string s, .int .u8 46] W fun e W2 => e = .returned (.int .i64 (Lib.indexByte s.data.toList 46)) ∧ W2 = W := by
  refine callsIn_wide.2 ((Any.stringslite_IndexByte laysIB s 46 W).mono ?_)
  rintro e W2 ⟨rfl, rfl⟩
  exact ⟨rfl, rfl⟩
set_option maxRecDepth 100000 in
theorem sliteIndex_c {n : Nat} (s : ByteArray) (W : World) : CallsIn Fence.wide n Try.prog 75 #[.string s, .string ⟨#[46]⟩] W fun e W2 => e = .returned (.int .i64 (Lib.indexByte s.data.toList 46)) ∧ W2 = W := by
  have k1 := Lib.hid fun (W : World) => indexByte_c (n := 0) s W
  have h0 : ([46] == s.toList) = true → Lib.indexByte s.data.toList 46 = 0 := fun h => by
    rw [beq_iff_eq, ByteArray.toList_eq] at h
    rw [← h]; rfl
  obtain ⟨r, hr⟩ : ∃ r, Lib.indexByte s.data.toList 46 = r := ⟨_, rfl⟩
  rw [hr] at k1 h0 ⊢
  clear hr
  cases hb : ([46] == s.toList) with
  | true =>
    obtain rfl := h0 hb
    refine callsIn_any (n := 0) (callsIn_of_wp Try.func75 rfl trivial ?_)
    simp only [Try.ntmps75, List.size_toArray, List.length_cons, List.length_nil, Nat.reduceAdd, Nat.reduceSub, Array.replicate_succ, Array.replicate_zero, List.push_toArray, List.append_toArray, List.nil_append, List.cons_append]
    gi_wp2_with (first | refine (⟨trivial, rfl, ?_⟩ : Fence.wide.fn _ ∧ Fence.wide.depth = none ∧ _) | refine (⟨trivial, ?_⟩ : Fence.wide.fn _ ∧ _))
    go_ret
    exact ⟨rfl, rfl⟩
  | false =>
    clear h0
    refine callsIn_any (n := 0) (callsIn_of_wp Try.func75 rfl trivial ?_)
    simp only [Try.ntmps75, List.size_toArray, List.length_cons, List.length_nil, Nat.reduceAdd, Nat.reduceSub, Array.replicate_succ, Array.replicate_zero, List.push_toArray, List.append_toArray, List.nil_append, List.cons_append]
    gi_wp2_with (first | refine (⟨trivial, rfl, ?_⟩ : Fence.wide.fn _ ∧ Fence.wide.depth = none ∧ _) | (gi_at_call 79; refine (k1.out _).mono ?_; rintro e W2 ⟨rfl, rfl⟩) | refine (⟨trivial, ?_⟩ : Fence.wide.fn _ ∧ _))
    go_ret
    exact ⟨rfl, rfl⟩
theorem strIndex_c {n : Nat} (s : ByteArray) (W : World) : CallsIn Fence.wide n Try.prog 69 #[.string s, .string ⟨#[46]⟩] W fun e W2 => e = .returned (.int .i64 (Lib.indexByte s.data.toList 46)) ∧ W2 = W := by
  have k1 := Lib.hid fun (W : World) => sliteIndex_c (n := 0) s W
  obtain ⟨r, hr⟩ : ∃ r, Lib.indexByte s.data.toList 46 = r := ⟨_, rfl⟩
  rw [hr] at k1 ⊢
  clear hr
  refine callsIn_any (n := 0) (callsIn_of_wp Try.func69 rfl trivial ?_)
  simp only [Try.ntmps69, List.size_toArray, List.length_cons, List.length_nil, Nat.reduceAdd, Nat.reduceSub, Array.replicate_succ, Array.replicate_zero, List.push_toArray, List.append_toArray, List.nil_append, List.cons_append]
  gi_wp2_with (first | refine (⟨trivial, rfl, ?_⟩ : Fence.wide.fn _ ∧ Fence.wide.depth = none ∧ _) | (gi_at_call 75; (with_reducible refine (k1.out _).mono ?_); rintro e W2 ⟨rfl, rfl⟩) | refine (⟨trivial, ?_⟩ : Fence.wide.fn _ ∧ _))
  go_ret
  exact ⟨rfl, rfl⟩
/-- strings.Contains of the text of one dot. -/
theorem contains_c {n : Nat} (s : ByteArray) (W : World) : CallsIn Fence.wide n Try.prog 56 #[.string s, .string ⟨#[46]⟩] W fun e W2 => SaysB (hasP 46 s) e ∧ W2 = W := by
  have k1 := Lib.hid fun (W : World) => strIndex_c (n := 0) s W
  have hp := Lib.hid (indexByte_hasP s)
  obtain ⟨r, hr⟩ : ∃ r, Lib.indexByte s.data.toList 46 = r := ⟨_, rfl⟩
  rw [hr] at k1 hp
  clear hr
  refine callsIn_any (n := 0) (callsIn_of_wp Try.func56 rfl trivial ?_)
  simp only [Try.ntmps56, List.size_toArray, List.length_cons, List.length_nil, Nat.reduceAdd, Nat.reduceSub, Array.replicate_succ, Array.replicate_zero, List.push_toArray, List.append_toArray, List.nil_append, List.cons_append]
  by_cases h : 0 ≤ r
  all_goals
    gi_wp2_with (first | refine (⟨trivial, rfl, ?_⟩ : Fence.wide.fn _ ∧ Fence.wide.depth = none ∧ _) | (gi_at_call 69; (with_reducible refine (k1.out _).mono ?_); rintro e W2 ⟨rfl, rfl⟩) | refine (⟨trivial, ?_⟩ : Fence.wide.fn _ ∧ _))
    go_ret
    exact ⟨⟨_, rfl, by rw [← hp.out]; simp [h]⟩, rfl⟩
end Go.Proofs.Ytgleiajmdbekiaa

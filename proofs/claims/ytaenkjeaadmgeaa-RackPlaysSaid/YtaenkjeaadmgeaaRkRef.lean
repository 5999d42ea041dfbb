/- The document's entries in a list: Find, Put, Drop. -/
import Derived.Test.YtaenkjeaadmgeaaProg
import Derived.Test.YtaenkjeaadmgeaaBase
import Derived.Test.YtaenkjeaadmgeaaTr
import Derived.Test.YtaenkjeaadmgeaaRkCmp
import Derived.Test.YtaenkjeaadmgeaaRkKeys
import Derived.Test.YtaenkjeaadmgeaaRkPush
import Derived.Test.YtaenkjeaadmgeaaAppS
import Derived.Test.YtaenkjeaadmgeaaR01
namespace Go.Proofs.Ytaenkjeaadmgeaa
open Go.RowKit Go.Shelf
attribute [local go_sem] Oper.semAt_some

section
variable {α β : Type} {c : α → α → Int}
theorem rank_at (ho : Ordr c) {k : α} : ∀ {l : List (α × β)}, Rise c l → ∀ i (h : i < l.length), i < rankL c k l ↔ c l[i].1 k < 0
  | [], _, _, h => by simp at h
  | x :: l, hr, 0, _ => by
    obtain ⟨h1, h2⟩ := List.pairwise_cons.1 hr
    simp only [rankL, List.countP_cons, List.getElem_cons_zero]
    by_cases hx : c x.1 k < 0
    · simp [hx]
    · have : l.countP (fun y => decide (c y.1 k < 0)) = 0 := List.countP_eq_zero.2 fun y hy => by
        simp only [decide_eq_true_eq]
        exact fun e => hx (ho.trans _ _ _ (h1 y hy) e)
      simp [hx, this]
  | x :: l, hr, i + 1, h => by
    obtain ⟨h1, h2⟩ := List.pairwise_cons.1 hr
    have hi : i < l.length := by simpa using h
    have ih := rank_at ho (k := k) h2 i hi
    have e : rankL c k (x :: l) = rankL c k l + (if c x.1 k < 0 then 1 else 0) := by simp [rankL, List.countP_cons]
    rw [e, List.getElem_cons_succ, ← ih]
    by_cases hx : c x.1 k < 0
    · simp [hx]
    · have hn : ¬ i < rankL c k l := fun hh => hx (ho.trans _ _ _ (h1 _ (List.getElem_mem hi)) (ih.1 hh))
      rw [if_neg hx]
      constructor
      · intro hh; omega
      · intro hh; exact absurd hh hn
theorem had_at (ho : Ordr c) {k : α} {l : List (α × β)} (hr : Rise c l) : hadL c k l = true ↔ ∃ h : rankL c k l < l.length, l[rankL c k l].1 = k := by
  simp only [hadL, List.any_eq_true, decide_eq_true_eq]
  constructor
  · rintro ⟨y, hy, e⟩
    obtain ⟨i, hi, rfl⟩ := List.mem_iff_getElem.1 hy
    have hk := (ho.eq _ _).1 e
    have h1 : ¬ i < rankL c k l := by rw [rank_at ho hr i hi, ← hk]; have := (ho.eq k k).2 rfl; omega
    have h2 : ¬ rankL c k l < i := fun hlt => by
      have h3 : ¬ c l[rankL c k l].1 k < 0 := fun e => by have := (rank_at ho hr (rankL c k l) (by omega) (k := k)).2 e; omega
      have h4 : c l[rankL c k l].1 l[i].1 < 0 := List.pairwise_iff_getElem.1 hr _ _ (by omega) hi hlt
      rw [← hk] at h4
      exact h3 h4
    have : i = rankL c k l := by omega
    subst this
    exact ⟨hi, hk.symm⟩
  · rintro ⟨h, e⟩
    exact ⟨_, List.getElem_mem h, (ho.eq _ _).2 e.symm⟩
/-- The list's parts at a key's place. -/
theorem put_at (ho : Ordr c) {k : α} {v : β} {l : List (α × β)} (hr : Rise c l) : putL c k v l = l.take (rankL c k l) ++ (k, v) :: l.drop (if hadL c k l then rankL c k l + 1 else rankL c k l) := by
  induction l with
  | nil => rfl
  | cons x l ih =>
    obtain ⟨h1, h2⟩ := List.pairwise_cons.1 hr
    have ih := ih h2
    rcases Int.lt_trichotomy (c k x.1) 0 with hx | hx | hx
    · have hall : ∀ y ∈ x :: l, c k y.1 < 0 := by
        intro y hy
        rcases List.mem_cons.1 hy with rfl | hy
        · exact hx
        · exact ho.trans _ _ _ hx (h1 y hy)
      have e1 : rankL c k (x :: l) = 0 := List.countP_eq_zero.2 fun y hy => by have := (ho.flip _ _).1 (hall y hy); simp; omega
      have e2 : hadL c k (x :: l) = false := by simp only [hadL, List.any_eq_false, decide_eq_true_eq]; intro y hy; have := hall y hy; omega
      rw [e1, e2]
      simp only [putL, List.take_zero, Bool.false_eq_true, if_false, List.drop_zero, List.nil_append]
      rw [List.filter_eq_nil_iff.2 (fun y hy => by have := hall y hy; simp; omega), List.filter_eq_self.2 (fun y hy => by simpa using hall y hy)]
      rfl
    · have hk := (ho.eq _ _).1 hx
      have hall : ∀ y ∈ l, c k y.1 < 0 := fun y hy => by rw [hk]; exact h1 y hy
      have e1 : rankL c k (x :: l) = 0 := List.countP_eq_zero.2 fun y hy => by
        rcases List.mem_cons.1 hy with rfl | hy
        · have := (ho.eq y.1 k).2 hk.symm; simp; omega
        · have := (ho.flip _ _).1 (hall y hy); simp; omega
      have e2 : hadL c k (x :: l) = true := by simp [hadL, hx]
      rw [e1, e2]
      simp only [putL, List.take_zero, if_true, Nat.zero_add, List.drop_succ_cons, List.drop_zero, List.nil_append, List.filter_cons, hx, Int.lt_irrefl, decide_false, Bool.false_eq_true, if_false]
      rw [List.filter_eq_nil_iff.2 (fun y hy => by have := hall y hy; simp; omega), List.filter_eq_self.2 (fun y hy => by simpa using hall y hy)]
      rfl
    · have hx2 := (ho.flip _ _).2 hx
      have e1 : rankL c k (x :: l) = rankL c k l + 1 := by simp [rankL, hx2]
      have e2 : hadL c k (x :: l) = hadL c k l := by simp [hadL]; omega
      have e3 : putL c k v (x :: l) = x :: putL c k v l := by simp [putL, List.filter_cons, hx]; omega
      rw [e1, e2, e3, ih]
      cases hadL c k l <;> simp
theorem drop_at (ho : Ordr c) {k : α} {l : List (α × β)} (hr : Rise c l) : dropL c k l = if hadL c k l then l.take (rankL c k l) ++ l.drop (rankL c k l + 1) else l := by
  induction l with
  | nil => rfl
  | cons x l ih =>
    obtain ⟨h1, h2⟩ := List.pairwise_cons.1 hr
    have ih := ih h2
    rcases Int.lt_trichotomy (c k x.1) 0 with hx | hx | hx
    · have hall : ∀ y ∈ x :: l, c k y.1 < 0 := by
        intro y hy
        rcases List.mem_cons.1 hy with rfl | hy
        · exact hx
        · exact ho.trans _ _ _ hx (h1 y hy)
      have e2 : hadL c k (x :: l) = false := by simp only [hadL, List.any_eq_false, decide_eq_true_eq]; intro y hy; have := hall y hy; omega
      rw [e2]
      simp only [Bool.false_eq_true, if_false]
      exact List.filter_eq_self.2 fun y hy => by have := hall y hy; simp; omega
    · have hk := (ho.eq _ _).1 hx
      have hall : ∀ y ∈ l, c k y.1 < 0 := fun y hy => by rw [hk]; exact h1 y hy
      have e1 : rankL c k (x :: l) = 0 := List.countP_eq_zero.2 fun y hy => by
        rcases List.mem_cons.1 hy with rfl | hy
        · have := (ho.eq y.1 k).2 hk.symm; simp; omega
        · have := (ho.flip _ _).1 (hall y hy); simp; omega
      have e2 : hadL c k (x :: l) = true := by simp [hadL, hx]
      rw [e1, e2]
      simp only [if_true, List.take_zero, Nat.zero_add, List.drop_succ_cons, List.drop_zero, List.nil_append, dropL, List.filter_cons, hx, decide_true, Bool.not_true, Bool.false_eq_true, if_false]
      exact List.filter_eq_self.2 fun y hy => by have := hall y hy; simp; omega
    · have hx2 := (ho.flip _ _).2 hx
      have e1 : rankL c k (x :: l) = rankL c k l + 1 := by simp [rankL, hx2]
      have e2 : hadL c k (x :: l) = hadL c k l := by simp [hadL]; omega
      have e3 : dropL c k (x :: l) = x :: dropL c k l := by simp [dropL, List.filter_cons]; omega
      rw [e1, e2, e3, ih]
      cases hadL c k l <;> simp
end

theorem flat_flatMap (l : List Ent) : flat l = l.flatMap fun e => [.string e.1, .int .i64 e.2] := rfl
theorem flat_take (l : List Ent) (k : Nat) : flat (l.take k) = (flat l).take (k * 2) := by
  induction l generalizing k with
  | nil => simp [flat]
  | cons x l ih =>
    cases k with
    | zero => simp [flat]
    | succ k => simp only [List.take_succ_cons, flat, List.flatMap_cons, Nat.add_mul] at ih ⊢; simp [ih]
theorem flat_drop (l : List Ent) (k : Nat) : flat (l.drop k) = (flat l).drop (k * 2) := by
  induction l generalizing k with
  | nil => simp [flat]
  | cons x l ih =>
    cases k with
    | zero => simp
    | succ k => simp only [List.drop_succ_cons, flat, List.flatMap_cons, Nat.add_mul] at ih ⊢; simp [ih]

set_option maxRecDepth 100000 in
set_option maxHeartbeats 1000000 in
theorem find_c {n : Nat} {l : List Ent} {A : Option Addr} {cap : Nat} {k : ByteArray} {w : World} (hr : Reads1 w A (flat l)) (hrise : Rise cmpS l) (hl : l.length ≤ 100000) (hsz : ∀ e ∈ l, e.1.size ≤ maxLen) :
    CallsIn Fence.wide n Try.prog 31 #[.slice A l.length cap, .string k] w fun e w' => e = .returned (.tuple #[.int .i64 (rankL cmpS k l : Nat), .bool (hadL cmpS k l)]) ∧ Upd (fun _ => False) w w' := by
  refine callsIn_any (n := 0) (callsIn_of_wp Try.func31 rfl trivial ?_)
  simp only [Try.ntmps31, List.size_toArray, List.length_cons, List.length_nil, Nat.reduceAdd, Nat.reduceSub, Array.replicate_succ, Array.replicate_zero, List.push_toArray, List.append_toArray, List.nil_append, List.cons_append]
  gi_wp2
  gi_loopw [6] (fun u wr => ∃ a : Nat, u = .int .i64 a ∧ a ≤ rankL cmpS k l ∧ Upd (fun _ => False) w wr) (fun u _ => l.length - (intOf u).toNat)
  case atStart => exact ⟨0, rfl, Nat.zero_le _, Upd.refl _ _⟩
  case round =>
    obtain ⟨a, rfl, ha, hu⟩ := hrel
    have hrl := rank_le (c := cmpS) k l
    by_cases hlt : a < l.length
    · have hra := rank_at ordrS hrise a hlt (k := k)
      have hhad := had_at ordrS hrise (k := k)
      have tx : ∀ V, CallsIn Fence.wide 0 Try.prog 56 #[.string l[a].1, .string k] V fun e w' => e = .returned (.int .i64 (cmpS l[a].1 k)) ∧ Upd (fun _ => False) V w' := fun V => texts_c (hsz _ (List.getElem_mem hlt))
      have hrw := fun V (h : Upd (fun _ => False) w V) => hr.agree' (w' := V) (h.agree fun j hj => ⟨hr.lt' j hj, id⟩)
      have hfl : 0 < (flat l).length := by rw [flat_len]; omega
      obtain ⟨g, o, rfl, _⟩ := reads_at hr hfl
      have hcell : ∀ V, Upd (fun _ => False) w V → V.cell? ⟨g, o + a * 2, none⟩ = some (.string l[a].1) := fun V h => by
        obtain ⟨g', o', e, hc⟩ := reads_at (hrw V h) hfl
        cases e
        exact hc _ _ (flat_get l a hlt).1
      have c0 := hcell wr hu
      replace hcell := Lib.hid hcell
      replace hu := Lib.hid hu
      clear hr hrise hsz hrw hfl
      obtain ⟨x, hx⟩ : ∃ x, x = l[a].1 := ⟨_, rfl⟩
      by_cases hc : cmpS l[a].1 k < 0
      · have hra' := hra.2 hc
        rw [← hx] at hc c0
        simp only [← hx] at tx hcell
        clear hx hra hhad
        replace tx := Lib.hid tx
        gi_wp2_with (first | refine (⟨trivial, rfl, ?_⟩ : Fence.wide.fn _ ∧ Fence.wide.depth = none ∧ _) | (gi_at_call 56; (with_reducible refine (tx.out _).mono ?_); rintro e W2 ⟨rfl, h2⟩; (replace h2 := Lib.hid (hu.out.trans' h2))) | refine (⟨trivial, ?_⟩ : Fence.wide.fn _ ∧ _))
        exact ⟨⟨a + 1, by go_num, by omega, h2.out⟩, by simp [intOf]; omega⟩
      · have har : a = rankL cmpS k l := by have h := fun h => hc (hra.1 h); omega
        have hb : (l[a].1.toList == k.toList) = hadL cmpS k l := by
          rw [Bool.eq_iff_iff, hhad]
          simp only [beq_iff_eq]
          constructor
          · intro e; exact ⟨by omega, by simp only [← har]; exact bytes_ext e⟩
          · rintro ⟨_, e⟩; simp only [← har] at e; rw [e]
        obtain ⟨bb, hbb⟩ : ∃ bb, hadL cmpS k l = bb := ⟨_, rfl⟩
        rw [hbb] at hb
        rw [← hx] at hc c0 hb
        simp only [← hx] at tx hcell
        clear hx hra hhad ha
        replace har := Lib.hid har
        replace hbb := Lib.hid hbb
        replace tx := Lib.hid tx
        gi_wp2_with (first | refine (⟨trivial, rfl, ?_⟩ : Fence.wide.fn _ ∧ Fence.wide.depth = none ∧ _) | (gi_at_call 56; (with_reducible refine (tx.out _).mono ?_); rintro e W2 ⟨rfl, h2⟩; (replace h2 := Lib.hid (hu.out.trans' h2))) | refine (⟨trivial, ?_⟩ : Fence.wide.fn _ ∧ _))
        have c2 := hcell.out _ h2.out.stepDrew
        refine wpIn_eager [(0, true), (1, true), (2, true), (3, true), (4, true), (5, true), (6, true), (7, true), (8, true), (9, true), (10, true), (11, true), (12, true), (13, true), (14, true), (15, true)] (fun V => V.cell? ⟨g, o + a * 2, none⟩ = some (.string x)) (by kernel_rfl) (by kernel_rfl) c2 ?_
        repeat (first | (refine wpE_fl rfl rfl (fun _ _ => rfl) ?_; go_simp) | (refine wpE_sk rfl rfl ?_; go_simp) | (refine wpE_fl (v := ?_) rfl rfl ?_ ?_; rotate_left; (intro W' h'; (try dsimp only at h'); go_simp; exact rfl); go_simp) | (refine wpE_ef rfl ?_; go_simp; gi_wp2_with (first | refine (⟨trivial, rfl, ?_⟩ : Fence.wide.fn _ ∧ Fence.wide.depth = none ∧ _) | refine (⟨trivial, trivial, rfl, ?_⟩ : Fence.wide.fn _ ∧ Fence.wide.fn _ ∧ Fence.wide.depth = none ∧ _) | refine (⟨trivial, ?_⟩ : Fence.wide.fn _ ∧ _)); (first | refine ⟨by first | exact c2, ?_⟩ | skip)))
        refine wpE_nil ?_
        gi_wp2
        refine bodyPost_ret (results_tmp2 rfl _ _ _) rfl ?_
        rw [hbb.out, ← har.out]
        exact ⟨rfl, h2.out.stepDrew⟩
    · have har : rankL cmpS k l = a := by omega
      have hb : hadL cmpS k l = false := by
        cases hh : hadL cmpS k l with
        | false => rfl
        | true => obtain ⟨h1, _⟩ := (had_at ordrS hrise).1 hh; omega
      replace hu := Lib.hid hu
      replace har := Lib.hid har
      replace hb := Lib.hid hb
      clear hr hrise hsz
      have hge : ¬ (a : Int) < l.length := by omega
      gi_wp2_with (first | refine (⟨trivial, rfl, ?_⟩ : Fence.wide.fn _ ∧ Fence.wide.depth = none ∧ _) | refine (⟨trivial, ?_⟩ : Fence.wide.fn _ ∧ _))
      refine wpIn_eager [(0, true), (1, true), (2, true), (3, true), (4, true), (5, true), (6, true), (7, true), (8, true), (9, true), (10, true), (11, true), (12, true), (13, true), (14, true), (15, true)] (fun _ => True) (by kernel_rfl) (by kernel_rfl) trivial ?_
      repeat (first | (refine wpE_fl rfl rfl (fun _ _ => rfl) ?_; go_simp) | (refine wpE_sk rfl rfl ?_; go_simp) | (refine wpE_fl (v := ?_) rfl rfl ?_ ?_; rotate_left; (intro W' h'; (try dsimp only at h'); go_simp; exact rfl); go_simp) | (refine wpE_ef rfl ?_; go_simp; gi_wp2_with (first | refine (⟨trivial, rfl, ?_⟩ : Fence.wide.fn _ ∧ Fence.wide.depth = none ∧ _) | refine (⟨trivial, trivial, rfl, ?_⟩ : Fence.wide.fn _ ∧ Fence.wide.fn _ ∧ Fence.wide.depth = none ∧ _) | refine (⟨trivial, ?_⟩ : Fence.wide.fn _ ∧ _)); (first | refine ⟨by first | exact trivial, ?_⟩ | skip)))
      refine wpE_nil ?_
      gi_wp2
      refine bodyPost_ret (results_tmp2 rfl _ _ _) rfl ?_
      rw [hb.out, har.out]
      exact ⟨rfl, hu.out.stepDrew⟩
end Go.Proofs.Ytaenkjeaadmgeaa

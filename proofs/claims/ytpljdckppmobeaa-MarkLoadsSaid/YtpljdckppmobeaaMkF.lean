/- mark: the document's list of sources: find, Can, See. -/
import Derived.Test.YtpljdckppmobeaaProg
import Derived.Test.YtpljdckppmobeaaBase
import Derived.Test.YtpljdckppmobeaaTrL
import Derived.Test.YtpljdckppmobeaaTr
import Derived.Test.YtpljdckppmobeaaRkCmp
import Derived.Test.YtpljdckppmobeaaMkS
import Derived.Test.YtpljdckppmobeaaAppS
import Derived.Test.YtpljdckppmobeaaRowG
import Derived.Test.YtpljdckppmobeaaR01
namespace Go.Proofs.Ytpljdckppmobeaa
open Go.RowKit Go.Shelf
attribute [local go_sem] Oper.semAt_some

theorem flatS_get (l : List (KSM × VSM)) (i : Nat) (h : i < l.length) : (flatS l)[i * 3]? = some (.string l[i].1) := by
  have := flatMap_at (f := encS) (n := 3) (fun _ => rfl) l i h 0 (by omega); simpa [encS] using this
theorem flatS_get1 (l : List (KSM × VSM)) (i : Nat) (h : i < l.length) : (flatS l)[i * 3 + 1]? = some (.int .i64 l[i].2.1) := by
  have := flatMap_at (f := encS) (n := 3) (fun _ => rfl) l i h 1 (by omega); simpa [encS] using this
theorem flatS_get2 (l : List (KSM × VSM)) (i : Nat) (h : i < l.length) : (flatS l)[i * 3 + 2]? = some (.int .i64 l[i].2.2) := by
  have := flatMap_at (f := encS) (n := 3) (fun _ => rfl) l i h 2 (by omega); simpa [encS] using this
theorem flatS_take (l : List (KSM × VSM)) (k : Nat) : flatS (l.take k) = (flatS l).take (k * 3) := by
  induction l generalizing k with
  | nil => simp [flatS]
  | cons x l ih =>
    cases k with
    | zero => simp [flatS]
    | succ k => simp only [List.take_succ_cons, flatS, List.flatMap_cons, Nat.add_mul] at ih ⊢; simp [ih, encS]
theorem flatS_drop (l : List (KSM × VSM)) (k : Nat) : flatS (l.drop k) = (flatS l).drop (k * 3) := by
  induction l generalizing k with
  | nil => simp [flatS]
  | cons x l ih =>
    cases k with
    | zero => simp
    | succ k => simp only [List.drop_succ_cons, flatS, List.flatMap_cons, Nat.add_mul] at ih ⊢; simp [ih, encS]

set_option maxRecDepth 100000 in
set_option maxHeartbeats 1000000 in
theorem find13_c {n : Nat} {l : List (KSM × VSM)} {A : Option Addr} {cap : Nat} {k : ByteArray} {w : World} (hr : Reads1 w A (flatS l)) (hrise : Rise cmpS l) (hl : l.length ≤ 100000) (hsz : ∀ e ∈ l, e.1.size ≤ maxLen) :
    CallsIn Fence.wide n Try.prog 46 #[.slice A l.length cap, .string k] w fun e w' => e = .returned (.tuple #[.int .i64 (rankL cmpS k l : Nat), .bool (hadL cmpS k l)]) ∧ Upd (fun _ => False) w w' := by
  refine callsIn_any (n := 0) (callsIn_of_wp Try.func46 rfl trivial ?_)
  simp only [Try.ntmps46, List.size_toArray, List.length_cons, List.length_nil, Nat.reduceAdd, Nat.reduceSub, Array.replicate_succ, Array.replicate_zero, List.push_toArray, List.append_toArray, List.nil_append, List.cons_append]
  gi_wp2
  gi_loopw [6] (fun u wr => ∃ a : Nat, u = .int .i64 a ∧ a ≤ rankL cmpS k l ∧ Upd (fun _ => False) w wr) (fun u _ => l.length - (intOf u).toNat)
  case atStart => exact ⟨0, rfl, Nat.zero_le _, Upd.refl _ _⟩
  case round =>
    obtain ⟨a, rfl, ha, hu⟩ := hrel
    have hrl := rank_le (c := cmpS) k l
    by_cases hlt : a < l.length
    · have hra := rank_at ordrS hrise a hlt (k := k)
      have hhad := had_at ordrS hrise (k := k)
      have tx : ∀ V, CallsIn Fence.wide 0 Try.prog 39 #[.string l[a].1, .string k] V fun e w' => e = .returned (.int .i64 (cmpS l[a].1 k)) ∧ Upd (fun _ => False) V w' := fun V => texts_c (hsz _ (List.getElem_mem hlt))
      have hrw := fun V (h : Upd (fun _ => False) w V) => hr.agree' (w' := V) (h.agree fun j hj => ⟨hr.lt' j hj, id⟩)
      have hfl : 0 < (flatS l).length := by rw [flatS_len]; omega
      obtain ⟨g, o, rfl, _⟩ := reads_at hr hfl
      have hcell : ∀ V, Upd (fun _ => False) w V → V.cell? ⟨g, o + a * 3, none⟩ = some (.string l[a].1) := fun V h => by
        obtain ⟨g', o', e, hc⟩ := reads_at (hrw V h) hfl
        cases e
        exact hc _ _ (flatS_get l a hlt)
      have c0 := hcell wr hu
      replace hcell := Lib.hid hcell
      replace hu := Lib.hid hu
      clear hr hrise hsz hrw hfl
      obtain ⟨x, hx⟩ : ∃ x, x = l[a].1 := ⟨_, rfl⟩
      by_cases hc : cmpS l[a].1 k < 0
      · have hra' := hra.2 hc
        rw [← hx] at hc c0
        simp only [← hx] at tx hcell
        clear hx hra hhad
        replace tx := Lib.hid tx
        gi_wp2_with (first | refine (⟨trivial, rfl, ?_⟩ : Fence.wide.fn _ ∧ Fence.wide.depth = none ∧ _) | (gi_at_call 39; (with_reducible refine (tx.out _).mono ?_); rintro e W2 ⟨rfl, h2⟩; (replace h2 := Lib.hid (hu.out.trans' h2))) | refine (⟨trivial, ?_⟩ : Fence.wide.fn _ ∧ _))
        exact ⟨⟨a + 1, by go_num, by omega, h2.out⟩, by simp [intOf]; omega⟩
      · have har : a = rankL cmpS k l := by have h := fun h => hc (hra.1 h); omega
        have hb : (l[a].1.toList == k.toList) = hadL cmpS k l := by
          rw [Bool.eq_iff_iff, hhad]
          simp only [beq_iff_eq]
          constructor
          · intro e; exact ⟨by omega, by simp only [← har]; exact bytes_ext e⟩
          · rintro ⟨_, e⟩; simp only [← har] at e; rw [e]
        obtain ⟨bb, hbb⟩ : ∃ bb, hadL cmpS k l = bb := ⟨_, rfl⟩
        rw [hbb] at hb
        rw [← hx] at hc c0 hb
        simp only [← hx] at tx hcell
        clear hx hra hhad ha
        replace har := Lib.hid har
        replace hbb := Lib.hid hbb
        replace tx := Lib.hid tx
        gi_wp2_with (first | refine (⟨trivial, rfl, ?_⟩ : Fence.wide.fn _ ∧ Fence.wide.depth = none ∧ _) | (gi_at_call 39; (with_reducible refine (tx.out _).mono ?_); rintro e W2 ⟨rfl, h2⟩; (replace h2 := Lib.hid (hu.out.trans' h2))) | refine (⟨trivial, ?_⟩ : Fence.wide.fn _ ∧ _))
        have c2 := hcell.out _ h2.out.stepDrew
        refine wpIn_eager [(0, true), (1, true), (2, true), (3, true), (4, true), (5, true), (6, true), (7, true), (8, true), (9, true), (10, true), (11, true), (12, true), (13, true), (14, true), (15, true)] (fun V => V.cell? ⟨g, o + a * 3, none⟩ = some (.string x)) (by kernel_rfl) (by kernel_rfl) c2 ?_
        repeat (first | (refine wpE_fl rfl rfl (fun _ _ => rfl) ?_; go_simp) | (refine wpE_sk rfl rfl ?_; go_simp) | (refine wpE_fl (v := ?_) rfl rfl ?_ ?_; rotate_left; (intro W' h'; (try dsimp only at h'); go_simp; exact rfl); go_simp) | (refine wpE_ef rfl ?_; go_simp; gi_wp2_with (first | refine (⟨trivial, rfl, ?_⟩ : Fence.wide.fn _ ∧ Fence.wide.depth = none ∧ _) | refine (⟨trivial, trivial, rfl, ?_⟩ : Fence.wide.fn _ ∧ Fence.wide.fn _ ∧ Fence.wide.depth = none ∧ _) | refine (⟨trivial, ?_⟩ : Fence.wide.fn _ ∧ _)); (first | refine ⟨by first | exact c2, ?_⟩ | skip)))
        refine wpE_nil ?_
        gi_wp2
        refine bodyPost_ret (results_tmp2 rfl _ _ _) rfl ?_
        rw [hbb.out, ← har.out]
        exact ⟨rfl, h2.out.stepDrew⟩
    · have har : rankL cmpS k l = a := by omega
      have hb : hadL cmpS k l = false := by
        cases hh : hadL cmpS k l with
        | false => rfl
        | true => obtain ⟨h1, _⟩ := (had_at ordrS hrise).1 hh; omega
      replace hu := Lib.hid hu
      replace har := Lib.hid har
      replace hb := Lib.hid hb
      clear hr hrise hsz
      have hge : ¬ (a : Int) < l.length := by omega
      gi_wp2_with (first | refine (⟨trivial, rfl, ?_⟩ : Fence.wide.fn _ ∧ Fence.wide.depth = none ∧ _) | refine (⟨trivial, ?_⟩ : Fence.wide.fn _ ∧ _))
      refine wpIn_eager [(0, true), (1, true), (2, true), (3, true), (4, true), (5, true), (6, true), (7, true), (8, true), (9, true), (10, true), (11, true), (12, true), (13, true), (14, true), (15, true)] (fun _ => True) (by kernel_rfl) (by kernel_rfl) trivial ?_
      repeat (first | (refine wpE_fl rfl rfl (fun _ _ => rfl) ?_; go_simp) | (refine wpE_sk rfl rfl ?_; go_simp) | (refine wpE_fl (v := ?_) rfl rfl ?_ ?_; rotate_left; (intro W' h'; (try dsimp only at h'); go_simp; exact rfl); go_simp) | (refine wpE_ef rfl ?_; go_simp; gi_wp2_with (first | refine (⟨trivial, rfl, ?_⟩ : Fence.wide.fn _ ∧ Fence.wide.depth = none ∧ _) | refine (⟨trivial, trivial, rfl, ?_⟩ : Fence.wide.fn _ ∧ Fence.wide.fn _ ∧ Fence.wide.depth = none ∧ _) | refine (⟨trivial, ?_⟩ : Fence.wide.fn _ ∧ _)); (first | refine ⟨by first | exact trivial, ?_⟩ | skip)))
      refine wpE_nil ?_
      gi_wp2
      refine bodyPost_ret (results_tmp2 rfl _ _ _) rfl ?_
      rw [hb.out, har.out]
      exact ⟨rfl, hu.out.stepDrew⟩
end Go.Proofs.Ytpljdckppmobeaa

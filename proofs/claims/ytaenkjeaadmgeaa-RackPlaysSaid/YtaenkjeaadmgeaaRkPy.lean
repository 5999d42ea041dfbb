/- RackPlays' parts. -/
import Derived.Test.YtaenkjeaadmgeaaProg
import Derived.Test.YtaenkjeaadmgeaaBase
import Derived.Test.YtaenkjeaadmgeaaRkAct
import Derived.Test.YtaenkjeaadmgeaaRkPlL
namespace Go.Proofs.Ytaenkjeaadmgeaa
open Go.RowKit Go.Shelf
attribute [local go_sem] Oper.semAt_some

section
variable {α β : Type} {c : α → α → Int}
theorem rank_put (ho : Ordr c) {k : α} {v : β} {l : List (α × β)} : rankL c k (putL c k v l) = rankL c k l := by
  have h0 : ¬ c k k < 0 := by have := (ho.eq k k).2 rfl; omega
  simp only [rankL, putL, List.countP_append, List.countP_cons, h0, decide_false, Bool.false_eq_true, if_false, Nat.add_zero, List.countP_filter]
  have e1 : l.countP (fun a => decide (c a.1 k < 0) && decide (c k a.1 < 0)) = 0 := List.countP_eq_zero.2 fun y _ => by
    simp only [Bool.and_eq_true, decide_eq_true_eq, not_and]
    intro h1 h2
    exact h0 (ho.trans _ _ _ h2 h1)
  rw [e1, Nat.add_zero]
  refine List.countP_congr fun y _ => ?_
  simp only [Bool.and_eq_true, decide_eq_true_eq]
  exact ⟨fun h => h.1, fun h => ⟨h, (ho.flip _ _).1 h⟩⟩
theorem rank_drop (ho : Ordr c) {k : α} {l : List (α × β)} : rankL c k (dropL c k l) = rankL c k l := by
  simp only [rankL, dropL, List.countP_filter]
  refine List.countP_congr fun y _ => ?_
  simp only [Bool.and_eq_true, decide_eq_true_eq, Bool.not_eq_true', decide_eq_false_iff_not]
  exact ⟨fun h => h.1, fun h => ⟨h, fun e => by have := (ho.eq _ _).1 e; subst this; have := (ho.eq y.1 y.1).2 rfl; omega⟩⟩
theorem get_at (ho : Ordr c) {k : α} {l : List (α × β)} (hr : Rise c l) (h : hadL c k l = true) : ∃ hlt : rankL c k l < l.length, getL c k l = some l[rankL c k l].2 := by
  obtain ⟨hlt, e⟩ := (had_at ho hr).1 h
  refine ⟨hlt, ?_⟩
  have hs : (getL c k l).isSome = true := by rw [get_had]; exact h
  obtain ⟨u, hu⟩ := Option.isSome_iff_exists.1 hs
  simp only [getL, Option.map_eq_some_iff] at hu ⊢
  obtain ⟨y, hy, rfl⟩ := hu
  have h1 := List.find?_some hy
  simp only [decide_eq_true_eq] at h1
  have h2 := (ho.eq _ _).1 h1
  obtain ⟨i, hi, hyi⟩ := List.mem_iff_getElem.1 (List.mem_of_find?_eq_some hy)
  have h3 : i = rankL c k l := by
    have := rank_own ho hr hi
    rw [hyi, ← h2] at this
    exact this.symm
  subst h3
  exact ⟨y, hy, by rw [hyi]⟩
theorem get_none {k : α} {l : List (α × β)} (h : hadL c k l = false) : getL c k l = none := by
  rw [← get_had (c := c), Option.isSome_eq_false_iff] at h
  simpa using h
theorem behind_drop (ho : Ordr c) {k : α} {l : List (α × β)} (hr : Rise c l) : behindL (fun a => decide (c a k < 0)) l = l.drop (rankL c k l) := by
  unfold behindL
  induction l with
  | nil => rfl
  | cons x l ih =>
    obtain ⟨h1, h2⟩ := List.pairwise_cons.1 hr
    by_cases hx : c x.1 k < 0
    · have e : rankL c k (x :: l) = rankL c k l + 1 := by simp [rankL, hx]
      rw [e, List.drop_succ_cons, ← ih h2]
      simp [hx]
    · have e : rankL c k (x :: l) = 0 := List.countP_eq_zero.2 fun y hy => by
        simp only [decide_eq_true_eq]
        rcases List.mem_cons.1 hy with rfl | hy
        · exact hx
        · exact fun h => hx (ho.trans _ _ _ (h1 y hy) h)
      rw [e, List.drop_zero]
      simp only [List.filter_cons, hx, decide_false, Bool.not_false, if_true]
      congr 1
      exact List.filter_eq_self.2 fun y hy => by
        have hn := fun h => hx (ho.trans _ _ _ (h1 y hy) h)
        simp only [Bool.not_eq_true', decide_eq_false_iff_not]
        exact hn
end

/-- What is asked behind an act. -/
theorem Pl.asks {w W : World} {p : Nat} {l : List Ent} {v : Value} {F : Nat → Prop} (h : Pl w p l l v F W) (hl : l.length ≤ 120) (key : ByteArray) :
    ∃ (A : Option Addr) (cap m : Nat) (b : Bool) (u : Int), b = hadL cmpS key l ∧ v = .slice A m cap ∧ l.length = m ∧ CallsIn Fence.wide 0 Try.prog 23 #[.pointer (some ⟨p, 0, none⟩), .string key] W (fun e W2 => e = .returned (.tuple #[.int .i64 u, .bool b]) ∧ Upd (fun _ => False) W W2) ∧
      (∀ W2, Upd (fun _ => False) W W2 → CallsIn Fence.wide 0 Try.prog 31 #[.slice A m cap, .string key] W2 fun e W3 => e = .returned (.tuple #[.int .i64 (rankL cmpS key l : Nat), .bool b]) ∧ Upd (fun _ => False) W W3) ∧
      (∀ W2, Upd (fun _ => False) W W2 → CallsIn Fence.wide 0 Try.prog 13 #[.pointer (some ⟨p, 0, none⟩)] W2 fun e W3 => e = .returned (.int .i64 m) ∧ W3 = W2) ∧
      (∀ W2, Upd (fun _ => False) W W2 → CallsIn Fence.wide 0 Try.prog 30 #[.pointer (some ⟨p, 0, none⟩), .string key] W2 fun e W3 => e = .returned (.int .i64 (rankL cmpS key l : Nat)) ∧ Upd (fun _ => False) W W3) ∧
      (b = true → rankL cmpS key l < m ∧ ∃ g o, A = some ⟨g, o, none⟩ ∧ ∀ W2, Upd (fun _ => False) W W2 → W2.cell? ⟨g, o + rankL cmpS key l * 2 + 1, none⟩ = some (.int .i64 u)) ∧ (b = false → u = 0) := by
  have hu := fun W2 (hu : Upd (fun _ => False) W W2) => h.upd hu
  obtain ⟨A, cap, rfl, hc, hr, hd⟩ := h.list
  refine ⟨A, cap, l.length, hadL cmpS key l, (getL cmpS key l).getD 0, rfl, rfl, rfl, h.rget key, fun W2 h2 => ?_, fun W2 h2 => (hu W2 h2).rlen, fun W2 h2 => ?_, fun hb => ?_, fun hb => by rw [get_none hb]; rfl⟩
  · refine ((hu W2 h2).sfind key (by omega)).mono ?_
    rintro e W3 ⟨rfl, h3⟩
    exact ⟨rfl, h2.trans' h3⟩
  · refine ((hu W2 h2).rrank key (by omega)).mono ?_
    rintro e W3 ⟨rfl, h3⟩
    exact ⟨rfl, h2.trans' h3⟩
  · obtain ⟨hlt, hg⟩ := get_at ordrS h.rise hb
    have hfl : 0 < (flat l).length := by rw [flat_len]; omega
    obtain ⟨g, o, rfl, _⟩ := reads_at hr hfl
    refine ⟨hlt, g, o, rfl, fun W2 h2 => ?_⟩
    obtain ⟨g', o', e, hc'⟩ := reads_at (hr.agree' (w' := W2) (h2.agree fun j hj => ⟨hr.lt' j hj, id⟩)) hfl
    cases e
    have := hc' _ _ (flat_get l _ hlt).2
    rw [hg]
    rwa [← Nat.add_assoc] at this

set_option maxRecDepth 100000 in
set_option maxHeartbeats 1000000 in
theorem turned_c {n : Nat} {w : World} {A : Option Addr} {cap : Nat} {l : List Ent} (hr : Reads1 w A (flat l)) (hl : l.length ≤ 100000) : CallsIn Fence.wide n Try.prog 33 #[.slice A l.length cap] w fun e w' => ∃ A' cap', e = .returned (.slice A' l.length cap') ∧ Reads1 w' A' (flat l.reverse) ∧ Upd (fun _ => False) w w' := by
  refine callsIn_any (n := 0) (callsIn_of_wp Try.func33 rfl trivial ?_)
  simp only [Try.ntmps33, List.size_toArray, List.length_cons, List.length_nil, Nat.reduceAdd, Nat.reduceSub, Array.replicate_succ, Array.replicate_zero, List.push_toArray, List.append_toArray, List.nil_append, List.cons_append]
  have hw0 : IntKind.i64.wrap ((l.length : Int) - 1) = (l.length : Int) - 1 := Go.IntWalk.i64_in _ ⟨by omega, by omega⟩
  gi_wp2
  gi_loopw [3, 4] (fun v u wr => ∃ k : Nat, u = .int .i64 ((l.length : Int) - 1 - k) ∧ k ≤ l.length ∧ wr.ownsRow w.heap.size 32 2 v k (flat (l.reverse.take k)) ∧ Upd (fun _ => False) w wr) (fun _ u _ => (intOf u + 1).toNat)
  case atStart => exact ⟨0, by simp, Nat.zero_le _, by simpa [flat] using World.ownsRow_nil w w.heap.size _ 2, Upd.refl _ _⟩
  case round =>
    obtain ⟨k, rfl, hk, ho, hu⟩ := hrel
    by_cases hlt : k < l.length
    · obtain ⟨j, hj⟩ : ∃ j : Nat, (l.length : Int) - 1 - k = j := ⟨l.length - 1 - k, by omega⟩
      have hjl : j < l.length := by omega
      have hrev : l.reverse[k]'(by simpa using hlt) = l[j] := by rw [List.getElem_reverse]; congr 1; omega
      have htk : flat (l.reverse.take (k + 1)) = flat (l.reverse.take k) ++ [.string l[j].1, .int .i64 l[j].2] := by
        rw [List.take_succ_eq_append_getElem (by simpa using hlt), hrev, flat_append]; rfl
      obtain ⟨g, o, rfl, hc⟩ := reads_at (hr.agree' (w' := wr) (hu.agree fun j hj => ⟨hr.lt' j hj, id⟩)) (by rw [flat_len]; omega)
      obtain ⟨f1, f2⟩ := flat_get l j hjl
      have c1 : wr.cell? ⟨g, o + j * 2, none⟩ = some (.string l[j].1) := hc _ _ f1
      have c2 : wr.cell? ⟨g, o + j * 2 + 1, none⟩ = some (.int .i64 l[j].2) := hc _ _ f2
      rw [hj]
      have hw5 : IntKind.i64.wrap ((j : Int) - 1) = (j : Int) - 1 := Go.IntWalk.i64_in _ ⟨by omega, by omega⟩
      obtain ⟨A3, cap3, rfl⟩ := own_shape ho
      have fin : ∀ g' cap' w', w'.ownsRow w.heap.size 32 2 (.slice (some ⟨g', 0, none⟩) (k + 1) cap') (k + 1) (flat (l.reverse.take k) ++ [.string l[j].1, .int .i64 l[j].2]) → Upd (fun i => (Value.slice A3 k cap3).ownBlock = some i) wr w' →
          w'.ownsRow w.heap.size 32 2 (.slice (some ⟨g', 0, none⟩) (k + 1) cap') (k + 1) (flat (l.reverse.take (k + 1))) ∧ Upd (fun _ => False) w w' := fun g' cap' w' h1 h2 => by
        rw [htk]
        exact ⟨h1, hu.trans h2 fun i hi => .inr (own_ge ho i hi)⟩
      replace fin := Lib.hid fin
      have hsz := hu.size
      have hj2 : (j : Int) - 1 = (l.length : Int) - 1 - ((k + 1 : Nat) : Int) := by omega
      replace hj2 := Lib.hid hj2
      clear hr hc f1 f2 hrev htk hu hj hw0
      generalize l[j] = y at *
      obtain ⟨y1, y2⟩ := y
      simp only at c1 c2
      gi_wp2_with (first | refine (⟨trivial, rfl, ?_⟩ : Fence.wide.fn _ ∧ Fence.wide.depth = none ∧ _) | ((with_reducible refine app2 Try.underlying27 infoE zEnt (by omega) ho ?_ ?_ ?_ ?_ ?_ ?_ ?_); exact hsz; omega; rfl; rfl; rfl; rfl; intro g' cap' w' h1 h2 _ _; have h3 := Lib.hid (fin.out g' cap' w' h1 h2); clear h1 h2) | refine (⟨trivial, ?_⟩ : Fence.wide.fn _ ∧ _))
      exact ⟨⟨k + 1, by rw [hj2.out], by omega, h3.out.1, h3.out.2⟩, by simp [intOf]⟩
    · obtain rfl : k = l.length := by omega
      have hge : (l.length : Int) - 1 - (l.length : Nat) = -1 := by omega
      rw [hge]
      rw [List.take_of_length_le (by simp)] at ho
      obtain ⟨A3, cap3, rfl, h2, h3, _, _⟩ := own_readsS ho
      replace h3 := Lib.hid h3
      replace hu := Lib.hid hu
      clear hr ho hw0 hlt
      gi_wp2
      go_ret
      exact ⟨A3, cap3, rfl, h3.out, hu.out⟩
theorem start_c {n : Nat} {l : List Ent} {A : Option Addr} {cap : Nat} {k : ByteArray} {w : World} (hr : Reads1 w A (flat l)) (hrise : Rise cmpS l) (hl : l.length ≤ 100000) (hsz : ∀ e ∈ l, e.1.size ≤ maxLen) :
    CallsIn Fence.wide n Try.prog 35 #[.slice A l.length cap, .string k] w fun e w' => e = .returned (.int .i64 (rankL cmpS k l : Nat)) ∧ Upd (fun _ => False) w w' := by
  have hf := Lib.hid (find_c (n := 0) (cap := cap) (k := k) hr hrise hl hsz)
  clear hr hrise hsz
  refine callsIn_any (n := 0) (callsIn_of_wp Try.func35 rfl trivial ?_)
  simp only [Try.ntmps35, List.size_toArray, List.length_cons, List.length_nil, Nat.reduceAdd, Nat.reduceSub, Array.replicate_succ, Array.replicate_zero, List.push_toArray, List.append_toArray, List.nil_append, List.cons_append]
  gi_wp2_with (first | refine (⟨trivial, rfl, ?_⟩ : Fence.wide.fn _ ∧ Fence.wide.depth = none ∧ _) | (gi_at_call 31; (with_reducible refine hf.out.mono ?_); rintro e W2 ⟨rfl, h2⟩; (replace h2 := Lib.hid h2)) | refine (⟨trivial, ?_⟩ : Fence.wide.fn _ ∧ _))
  go_ret
  exact ⟨rfl, h2.out⟩
end Go.Proofs.Ytaenkjeaadmgeaa

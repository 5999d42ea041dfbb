/- ITERATORS OVER LISTS OF INTS: slices.Values, and the sequence of a count that notes how many were asked for; the makers of closures. -/
import Derived.Test.YtkjkpmeommfdgaaProg
import Derived.Test.YtkjkpmeommfdgaaBase
set_option linter.unusedSimpArgs false
set_option linter.unusedVariables false
namespace Go.Proofs.Ytkjkpmeommfdgaa
open Go.RowKit Go.Shelf
attribute [local go_sem] Oper.semAt_some

abbrev encI : Int → Array Value := fun x => #[Value.int .i64 x]

set_option maxRecDepth 100000 in
set_option maxHeartbeats 1000000 in
/-- slices.Values at ints: all elements. -/
theorem values_seq {w : World} {bs : Nat} {A : Option Addr} {cap : Nat} {xs : List Int} (hbs : Blk w bs #[.slice A xs.length cap] 22) (hr : Reads1 w A (xs.map (Value.int .i64))) (hl : xs.length ≤ maxLen) :
    SeqO Try.prog (.func (.func 76) #[] #[.pointer (some ⟨bs, 0, none⟩)]) encI (xs.map fun x => ((), x)) () () (fun _ _ => True) (fun _ => False) (fun k => k = bs ∨ blkOf' A xs.length k) w where
  fn := ⟨_, _, rfl⟩
  dlt := by rintro k (rfl | h); exact ⟨hbs.lt, id⟩; exact ⟨by simpa using hr.lt' k (by simpa using h), id⟩
  elt := fun _ h => h.elim
  stable := fun _ _ _ _ _ => trivial
  run := by
    intro σ step Rep y s S W hx _
    refine CallV.of_calls (n := 0) (enters_of Try.func76 (by kernel_rfl) rfl) ?_
    obtain ⟨yf, ya, yc, rfl⟩ := hx.shape
    have c1 := (hbs.agree hx.agree (.inl rfl)).cell0
    have hL : (xs.map fun x => ((), x)).map (·.2) = xs := by simp [Function.comp_def]
    rw [hL] at hx ⊢
    unfold maxLen at hl
    refine callsIn_of_wp Try.func76 rfl trivial ?_
    simp only [Try.ntmps76, List.size_toArray, List.length_cons, List.length_nil, Nat.reduceAdd, Nat.reduceSub, Array.replicate_succ, Array.replicate_zero, List.push_toArray, List.append_toArray, List.nil_append, List.cons_append]
    gi_wp2
    gi_loopw [7] (fun i wr => ∃ k : Nat, k ≤ xs.length ∧ i = .int .i64 k ∧ LeafRel step Rep s S (fun _ => False) W xs k wr) (fun i _ => xs.length - (intOf i).toNat)
    case atStart => exact ⟨0, Nat.zero_le _, rfl, LeafRel.start hx⟩
    case round =>
      obtain ⟨k, hk, rfl, hrel⟩ := hrel
      by_cases hlt : k < xs.length
      · obtain ⟨ad, rfl, hc⟩ := (hr.agree' (by simpa using (hrel.agree hx (by rintro k (rfl | h); exact ⟨hbs.lt, id⟩; exact ⟨by simpa using hr.lt' k (by simpa using h), id⟩)).mono (fun _ h => .inr h))) k (.int .i64 xs[k]) (by simp [hlt])
        have hcall := Lib.hid (hrel.call hx hlt)
        clear hx hr hbs c1
        gi_wp2_with ((with_reducible refine listV1 hcall.out ?_ ?_ ?_); rfl; rfl; rintro v W2 ⟨b, rfl, hu2, h1, h2⟩; (replace h1 := Lib.hid h1); (replace h2 := Lib.hid h2))
        · exact bodyPost_ret (results_none rfl _ _ _) rfl ⟨_, rfl, h2.out (nb1 (by assumption))⟩
        · exact ⟨⟨k + 1, by omega, by go_num, h1.out (nb0 (by assumption))⟩, by simp [intOf]; omega⟩
      · gi_wp2
        go_end0
        exact ⟨_, rfl, hrel.done (by omega) _⟩

/-- The elements of a list, each with how many have been asked for then. -/
def cntFrom : Nat → List Int → List (Nat × Int)
  | _, [] => []
  | n, x :: xs => (n + 1, x) :: cntFrom (n + 1) xs
abbrev cntEvs (l : List Int) : List (Nat × Int) := cntFrom 0 l
theorem cntFrom_snd : ∀ (l : List Int) (n : Nat), (cntFrom n l).map (·.2) = l
  | [], _ => rfl
  | x :: xs, n => by simp [cntFrom, cntFrom_snd xs]
theorem cntEvs_snd (l : List Int) : (cntEvs l).map (·.2) = l := cntFrom_snd l 0
theorem cntFrom_get : ∀ (l : List Int) (n k : Nat) (h : k < l.length), (cntFrom n l)[k]? = some (n + k + 1, l[k])
  | [], _, _, h => by simp at h
  | x :: xs, n, 0, _ => by simp [cntFrom]
  | x :: xs, n, k + 1, h => by
    simp only [cntFrom, List.getElem?_cons_succ, List.getElem_cons_succ]
    rw [cntFrom_get xs (n + 1) k (by simpa using h)]
    simp; omega
theorem cntEvs_len (l : List Int) : (cntEvs l).length = l.length := by
  have := congrArg List.length (cntEvs_snd l)
  simpa using this
theorem cntEvs_get (l : List Int) (k : Nat) (h : k < l.length) (h' : k < (cntEvs l).length) : (cntEvs l)[k] = (k + 1, l[k]) := by
  have h1 := cntFrom_get l 0 k h
  rw [List.getElem?_eq_getElem h', Nat.zero_add] at h1
  exact Option.some.inj h1

set_option maxRecDepth 100000 in
set_option maxHeartbeats 1000000 in
/-- count's sequence: all elements of its list; n goes up by one ahead of each. -/
theorem count_seq {w : World} {bp bc : Nat} {A : Option Addr} {cap : Nat} {xs : List Int} (hbp : Blk w bp #[.pointer (some ⟨bc, 0, none⟩)] 27) (hbc : Blk w bc #[.slice A xs.length cap, .int .i64 0] 29)
    (hr : Reads1 w A (xs.map (Value.int .i64))) (hl : xs.length ≤ maxLen) (hne : bc ≠ bp) (hnA : ¬ blkOf' A xs.length bc) :
    SeqO Try.prog (.func (.func 74) #[] #[.pointer (some ⟨bp, 0, none⟩)]) encI (cntEvs xs) (0 : Nat) xs.length
      (fun n W => Blk W bc #[.slice A xs.length cap, .int .i64 (n : Nat)] 29) (fun k => k = bc) (fun k => k = bp ∨ blkOf' A xs.length k) w where
  fn := ⟨_, _, rfl⟩
  dlt := by rintro k (rfl | h); exact ⟨hbp.lt, Ne.symm hne⟩; exact ⟨by simpa using hr.lt' k (by simpa using h), fun e => hnA (e ▸ h)⟩
  elt := by rintro k rfl; exact hbc.lt
  stable := fun _ _ _ h ha => h.agree ha rfl
  run := by
    intro σ step Rep y s S W hx hown
    have hD : ∀ k, (k = bp ∨ blkOf' A xs.length k) → k < w.heap.size ∧ ¬ k = bc := by rintro k (rfl | h); exact ⟨hbp.lt, Ne.symm hne⟩; exact ⟨by simpa using hr.lt' k (by simpa using h), fun e => hnA (e ▸ h)⟩
    refine CallV.of_calls (n := 0) (enters_of Try.func74 (by kernel_rfl) rfl) ?_
    obtain ⟨yf, ya, yc, rfl⟩ := hx.shape
    have c1 := (hbp.agree hx.agree (.inl rfl)).cell0
    have c2 : W.cell? ⟨bc, 0, none⟩ = some (.slice A xs.length cap) := hown.cell 0
    unfold maxLen at hl
    refine callsIn_of_wp Try.func74 rfl trivial ?_
    simp only [Try.ntmps74, List.size_toArray, List.length_cons, List.length_nil, Nat.reduceAdd, Nat.reduceSub, Array.replicate_succ, Array.replicate_zero, List.push_toArray, List.append_toArray, List.nil_append, List.cons_append]
    gi_wp2
    gi_loopw [10] (fun i wr => ∃ k : Nat, k ≤ xs.length ∧ i = .int .i64 k ∧ LeafRel step Rep s S (fun k => k = bc) W ((cntEvs xs).map (·.2)) k wr ∧ Blk wr bc #[.slice A xs.length cap, .int .i64 k] 29) (fun i _ => xs.length - (intOf i).toNat)
    case atStart => exact ⟨0, Nat.zero_le _, rfl, LeafRel.start hx, hown⟩
    case round =>
      obtain ⟨k, hk, rfl, hrel, hblk⟩ := hrel
      by_cases hlt : k < xs.length
      · have hag := hrel.agree hx hD
        obtain ⟨ad, rfl, hc⟩ := (hr.agree' (by simpa using hag.mono (fun _ h => .inr h))) k (.int .i64 xs[k]) (by simp [hlt])
        have cp := (hbp.agree hag (.inl rfl)).cell0
        have cn : wr.cell? ⟨bc, 1, none⟩ = some (.int .i64 k) := hblk.cell 1
        have fn := hblk.frozen 1
        have hlt' : k < (cntEvs xs).length := by rw [cntEvs_len]; exact hlt
        have hrel2 := hrel.setE hx (by rintro k rfl; exact hbc.lt) (b := bc) rfl 1 (.int .i64 (k + 1))
        have hblk2 : Blk (wr.setCell ⟨bc, 1, none⟩ (.int .i64 (k + 1))) bc #[.slice (some ad) xs.length cap, .int .i64 ((k + 1 : Nat) : Int)] 29 := hblk.set 1 _
        have hcall := hrel2.callO (fin := xs.length) hx hlt'
        rw [cntEvs_get xs k hlt] at hcall
        have hnS : ¬ S bc ∧ bc < W.heap.size := ⟨fun h => (hx.own bc h).2.2 rfl, by have := hbc.lt; have := hx.size; omega⟩
        replace hcall := Lib.hid hcall
        clear hx hr hbp hbc c1 c2 hrel hrel2 hag hD hown hlt'
        gi_wp2_with ((with_reducible refine listV1 hcall.out ?_ ?_ ?_); rfl; rfl; rintro v W2 ⟨b, rfl, hu2, h1, h2⟩; (replace h1 := Lib.hid h1); (replace h2 := Lib.hid h2))
        · have hblk3 := hblk2.upd hu2 (by rintro (h | h); exact hnS.1 h; omega)
          obtain ⟨e1, e2⟩ := h2.out (nb1 (by assumption))
          exact bodyPost_ret (results_none rfl _ _ _) rfl ⟨_, rfl, e2.own (by rw [e1]; exact hblk3)⟩
        · have hblk3 := hblk2.upd hu2 (by rintro (h | h); exact hnS.1 h; omega)
          exact ⟨⟨k + 1, by omega, by go_num, h1.out (nb0 (by assumption)), hblk3⟩, by simp [intOf]; omega⟩
      · have hk' : k = xs.length := by omega
        subst hk'
        have hdone := hrel.done (by simp [cntEvs_snd]) (.tuple #[])
        have hgo := hrel.doneGo (by simp [cntEvs_snd])
        have hfin := goOwn_done step xs.length (cntEvs xs) s hgo
        clear hx hrel hgo hD
        replace hfin := Lib.hid hfin
        gi_wp2
        go_end0
        exact ⟨_, rfl, hdone.own (by rw [hfin.out]; exact hblk)⟩
end Go.Proofs.Ytkjkpmeommfdgaa

/- The document's more, Table. -/
import Derived.Test.YtkjkpmeommfdgaaProg
import Derived.Test.YtkjkpmeommfdgaaBase
import Derived.Test.YtkjkpmeommfdgaaPtA
import Derived.Test.YtkjkpmeommfdgaaPtP
set_option linter.unusedSimpArgs false
set_option linter.unusedVariables false
namespace Go.Proofs.Ytkjkpmeommfdgaa
open Go.RowKit Go.Shelf
attribute [local go_sem] Oper.semAt_some

abbrev lsOf (rows : List SRow) : List (List ByteArray) := rows.map (·.l)
def bs (l : List UInt8) : ByteArray := ⟨l.toArray⟩
theorem bs_data (s : ByteArray) : bs s.data.toList = s := rfl
theorem bs_cat (l m : List UInt8) : bs l ++ bs m = bs (l ++ m) := by
  apply ByteArray.ext
  apply Array.toList_inj.1
  simp [bs]
theorem bs_size (l : List UInt8) : (bs l).size = l.length := by simp [bs, ByteArray.size]
def strLen : Value → Nat | .string b => b.size | _ => 0
section
variable {rows : List SRow} {A : Option Addr} {cap : Nat} {W : World}
theorem R2.row (h : R2 W A rows) {i : Nat} (hi : i < rows.length) : ∃ g o, A = some ⟨g, o, none⟩ ∧ W.cell? ⟨g, o + i, none⟩ = some (sV rows[i]) := by
  obtain ⟨g, o, rfl, hc⟩ := reads_at h.out (by simp; omega)
  exact ⟨g, o, rfl, hc i _ (by simp [hi])⟩
theorem R2.cell (h : R2 W A rows) {r : SRow} (hr : r ∈ rows) {k : Nat} (hk : k < r.l.length) : ∃ g o, r.a = some ⟨g, o, none⟩ ∧ W.cell? ⟨g, o + k, none⟩ = some (.string r.l[k]) := by
  obtain ⟨g, o, e, hc⟩ := reads_at (h.each r hr) (by simp; omega)
  exact ⟨g, o, e, hc k _ (by simp [hk])⟩
set_option maxRecDepth 100000 in
set_option maxHeartbeats 2000000 in
theorem more_c {n : Nat} {k m : Nat} (h : R2 W A rows) (hl : rows.length ≤ 1000) (hs : ∀ r ∈ rows, r.l.length ≤ 1000) : CallsIn Fence.wide n Try.prog 97 #[.slice A rows.length cap, .int .i64 k, .int .i64 m] W fun e W2 => e = .returned (.bool (decide (m < colW (lsOf rows) k))) ∧ Upd (fun _ => False) W W2 := by
  have hW := Lib.hid fun V (u : Upd (fun _ => False) W V) => h.upd u
  replace hs := Lib.hid hs
  clear h
  refine callsIn_any (n := 0) (callsIn_of_wp Try.func97 rfl trivial ?_)
  simp only [Try.ntmps97, List.size_toArray, List.length_cons, List.length_nil, Nat.reduceAdd, Nat.reduceSub, Array.replicate_succ, Array.replicate_zero, List.push_toArray, List.append_toArray, List.nil_append, List.cons_append]
  gi_wp2_with (first | refine (⟨trivial, rfl, ?_⟩ : Fence.wide.fn _ ∧ Fence.wide.depth = none ∧ _) | refine (⟨trivial, ?_⟩ : Fence.wide.fn _ ∧ _))
  gi_loopw [10] (fun i wr => ∃ j : Nat, i = .int .i64 j ∧ j ≤ rows.length ∧ Hid (colW (lsOf (rows.take j)) k ≤ m) ∧ Upd (fun _ => False) W wr) (fun i _ => rows.length - (intOf i).toNat)
  case atStart => exact ⟨0, rfl, Nat.zero_le _, Lib.hid (by simp [colW]), Upd.refl _ _⟩
  case round =>
    obtain ⟨j, rfl, hj, hT, hu⟩ := hrel
    by_cases hlt : j < rows.length
    · obtain ⟨g, o, rfl, hc⟩ := (hW.out _ hu).row hlt
      have hmem := List.getElem_mem hlt
      have hw5 : IntKind.i64.wrap ((j : Int) + 1) = (j : Int) + 1 := Go.IntWalk.i64_in _ ⟨by omega, by omega⟩
      have ht : colW (lsOf (rows.take (j + 1))) k = max (colW (lsOf (rows.take j)) k) (szAt rows[j].l k) := by
        rw [List.take_succ_eq_append_getElem hlt, lsOf, List.map_append, List.map_cons, List.map_nil, colW_snoc]
      have hcell := fun hk => (hW.out _ hu).cell hmem (k := k) hk
      have hge : szAt rows[j].l k ≤ colW (lsOf rows) k := colW_ge (List.mem_map.2 ⟨_, hmem, rfl⟩) k
      have hle := hs.out _ hmem
      generalize rows[j] = r at *
      obtain ⟨ra, rc, rl⟩ := r
      have fin : szAt rl k ≤ m → (∃ j' : Nat, Value.int .i64 ((j : Int) + 1) = .int .i64 j' ∧ j' ≤ rows.length ∧ Hid (colW (lsOf (rows.take j')) k ≤ m) ∧ Upd (fun _ => False) W wr) ∧ rows.length - (intOf (.int .i64 ((j : Int) + 1))).toNat < rows.length - (intOf (.int .i64 (j : Int))).toNat := fun h2 =>
        ⟨⟨j + 1, by go_num, by omega, Lib.hid (by rw [ht]; exact Nat.max_le.2 ⟨hT.out, h2⟩), hu⟩, by show rows.length - ((j : Int) + 1).toNat < rows.length - (j : Int).toNat; omega⟩
      replace fin := Lib.hid fin
      simp only [sV] at hcell hge hle hc
      by_cases hk : k < rl.length
      · obtain ⟨g2, o2, rfl, hc2⟩ := hcell hk
        have hsz := szAt_get hk
        rw [hsz] at hge fin
        generalize rl[k] = t at *
        have hk' : ((k : Int) < rl.length) = True := eq_true (by omega)
        by_cases hm : m < t.size
        · have hd : decide (m < colW (lsOf rows) k) = true := decide_eq_true (by omega)
          have hm' : ((m : Int) < (t.size : Int)) = True := eq_true (by omega)
          replace hd := Lib.hid hd
          clear hcell ht hmem hge fin hsz
          gi_wp2_with (first | refine (⟨trivial, rfl, ?_⟩ : Fence.wide.fn _ ∧ Fence.wide.depth = none ∧ _) | refine (⟨trivial, ?_⟩ : Fence.wide.fn _ ∧ _))
          go_ret
          rw [hd.out]
          exact ⟨rfl, hu⟩
        · have hm' : ((m : Int) < (t.size : Int)) = False := eq_false (by omega)
          have ff := Lib.hid (fin.out (by omega))
          clear hcell ht hmem hge fin hsz
          gi_wp2_with (first | refine (⟨trivial, rfl, ?_⟩ : Fence.wide.fn _ ∧ Fence.wide.depth = none ∧ _) | refine (⟨trivial, ?_⟩ : Fence.wide.fn _ ∧ _))
          exact ff.out
      · have hk' : ((k : Int) < rl.length) = False := eq_false (by omega)
        have ff := Lib.hid (fin.out (by rw [szAt_none (by omega)]; omega))
        clear hcell ht hmem hge fin
        gi_wp2_with (first | refine (⟨trivial, rfl, ?_⟩ : Fence.wide.fn _ ∧ Fence.wide.depth = none ∧ _) | refine (⟨trivial, ?_⟩ : Fence.wide.fn _ ∧ _))
        exact ff.out
    · obtain rfl : j = rows.length := by omega
      have hd : decide (m < colW (lsOf rows) k) = false := by
        have := hT.out
        rw [List.take_length] at this
        exact decide_eq_false (by omega)
      replace hd := Lib.hid hd
      gi_wp2_with (first | refine (⟨trivial, rfl, ?_⟩ : Fence.wide.fn _ ∧ Fence.wide.depth = none ∧ _) | refine (⟨trivial, ?_⟩ : Fence.wide.fn _ ∧ _))
      go_ret
      rw [hd.out]
      exact ⟨rfl, hu⟩
end
theorem blankL_snoc (c : Nat) : blankL c ++ [32] = blankL (c + 1) := (List.replicate_succ').symm
theorem lit_bs (a : Array UInt8) : (⟨a⟩ : ByteArray) = bs a.toList := rfl
theorem no_over {a b : ByteArray} (h1 : a.size ≤ 1000000) (h2 : b.size ≤ 1000000) : ((9223372036854775807 : Nat) < a.size + b.size) = False := eq_false (by omega)
section
variable {rows : List SRow} {A : Option Addr} {cap : Nat} {W : World}
/-- A cell with blanks behind it. -/
abbrev padB (s : ByteArray) (j : Nat) : ByteArray := bs (s.data.toList ++ blankL j)
theorem padB_size (s : ByteArray) (j : Nat) : (padB s j).size = s.size + j := by rw [bs_size, List.length_append, size_data, blankL, List.length_replicate]
theorem padB_zero (s : ByteArray) : padB s 0 = s := by
  show bs (s.data.toList ++ []) = s
  rw [List.append_nil]; rfl
theorem padB_succ (s : ByteArray) (j : Nat) : padB s j ++ ⟨#[32]⟩ = padB s (j + 1) := by
  show bs _ ++ bs [32] = _
  rw [bs_cat, List.append_assoc, blankL_snoc]
theorem padB_end (s : ByteArray) (j : Nat) : padB s j ++ ⟨#[32, 32]⟩ = bs (s.data.toList ++ (blankL j ++ [32, 32])) := by
  show bs _ ++ bs [32, 32] = _
  rw [bs_cat, List.append_assoc]
set_option maxRecDepth 100000 in
set_option maxHeartbeats 8000000 in
theorem refTable_c {n : Nat} (h : R2 W A rows) (hl : rows.length ≤ 20) (hs1 : ∀ r ∈ rows, r.l.length ≤ 12) (hs2 : ∀ r ∈ rows, ∀ s ∈ r.l, s.size ≤ 60) :
    CallsIn Fence.wide n Try.prog 57 #[.slice A rows.length cap] W fun e W2 => e = .returned (.string (bs (tabTo (lsOf rows) rows.length))) ∧ Upd (fun _ => False) W W2 := by
  have hW := Lib.hid fun V (u : Upd (fun _ => False) W V) => h.upd u
  have hS : ∀ l ∈ lsOf rows, ∀ s ∈ l, s.size ≤ 60 := fun l hl s hs => by
    obtain ⟨r, hr, rfl⟩ := List.mem_map.1 hl
    exact hs2 r hr s hs
  have hL : ∀ l ∈ lsOf rows, l.length ≤ 12 := fun l hl => by
    obtain ⟨r, hr, rfl⟩ := List.mem_map.1 hl
    exact hs1 r hr
  have hlen : (lsOf rows).length = rows.length := by simp
  have hget : ∀ i (hi : i < rows.length), (lsOf rows)[i]'(by rw [hlen]; exact hi) = rows[i].l := fun i hi => by simp
  have kM := Lib.hid fun V (u : Upd (fun _ => False) W V) k m => more_c (n := 0) (cap := cap) (k := k) (m := m) (h.upd u) (by omega) fun r hr => by have := hs1 r hr; omega
  have hmem' : ∀ i (hi : i < rows.length), rows[i].l ∈ lsOf rows := fun i hi => List.mem_map.2 ⟨_, List.getElem_mem hi, rfl⟩
  have hTL := Lib.hid (tabTo_len hS hL)
  have hTS := Lib.hid fun i (hi : i < rows.length) => (show tabTo (lsOf rows) (i + 1) = tabTo (lsOf rows) i ++ (rowTo (lsOf rows) rows[i].l rows[i].l.length ++ [10]) from by
    have := tabTo_succ (lsOf rows) (k := i) (by rw [hlen]; exact hi)
    rw [hget i hi] at this
    exact this)
  have hRL := Lib.hid fun i (hi : i < rows.length) k => rowTo_len hS (hmem' i hi) k
  have hCW := Lib.hid fun k => colW_le (k := k) hS
  have hCG := Lib.hid fun i (hi : i < rows.length) k => colW_ge (hmem' i hi) k
  replace hlen := Lib.hid hlen
  clear h hS hL hget
  refine callsIn_any (n := 0) (callsIn_of_wp Try.func57 rfl trivial ?_)
  simp only [Try.ntmps57, List.size_toArray, List.length_cons, List.length_nil, Nat.reduceAdd, Nat.reduceSub, Array.replicate_succ, Array.replicate_zero, List.push_toArray, List.append_toArray, List.nil_append, List.cons_append]
  gi_wp2_with (first | refine (⟨trivial, rfl, ?_⟩ : Fence.wide.fn _ ∧ Fence.wide.depth = none ∧ _) | refine (⟨trivial, ?_⟩ : Fence.wide.fn _ ∧ _))
  gi_loopw [9, 3] (fun i o wr => ∃ k : Nat, i = .int .i64 k ∧ k ≤ rows.length ∧ o = .string (bs (tabTo (lsOf rows) k)) ∧ Upd (fun _ => False) W wr) (fun i _ _ => rows.length - (intOf i).toNat)
  case atStart => exact ⟨0, rfl, Nat.zero_le _, rfl, Upd.refl _ _⟩
  case round =>
    obtain ⟨i, rfl, hi, rfl, hu⟩ := hrel
    by_cases hlt : i < rows.length
    · obtain ⟨g, o, rfl, hc⟩ := (hW.out _ hu).row hlt
      have hw5 : IntKind.i64.wrap ((i : Int) + 1) = (i : Int) + 1 := Go.IntWalk.i64_in _ ⟨by omega, by omega⟩
      have hmem := List.getElem_mem hlt
      have ht := hTS.out i hlt
      have hrl := Lib.hid (hRL.out i hlt)
      have hcg := Lib.hid (hCG.out i hlt)
      have htl := hTL.out i (by rw [hlen.out]; exact hi)
      have hcell := Lib.hid fun V (u : Upd (fun _ => False) W V) => show V.cell? ⟨g, o + i, none⟩ = some (sV rows[i]) ∧ ∀ k (hk : k < rows[i].l.length), ∃ g2 o2, rows[i].a = some ⟨g2, o2, none⟩ ∧ V.cell? ⟨g2, o2 + k, none⟩ = some (.string rows[i].l[k]) from by
        obtain ⟨g', o', e, hc'⟩ := (hW.out _ u).row hlt
        cases e
        exact ⟨hc', fun k hk => (hW.out _ u).cell hmem hk⟩
      have hl1 := hs1 _ hmem
      have hl2 := Lib.hid (hs2 _ hmem)
      generalize rows[i] = r at *
      obtain ⟨ra, rc, rl⟩ := r
      simp only [sV] at hc ht hcell hl1 hl2 hrl hcg
      obtain ⟨T, hT⟩ : ∃ T, tabTo (lsOf rows) i = T := ⟨_, rfl⟩
      rw [hT] at ht htl ⊢
      clear hT hmem
      replace ht := Lib.hid ht
      gi_wp2_with (first | refine (⟨trivial, rfl, ?_⟩ : Fence.wide.fn _ ∧ Fence.wide.depth = none ∧ _) | refine (⟨trivial, ?_⟩ : Fence.wide.fn _ ∧ _))
      gi_loopw [17, 3] (fun u o wr2 => ∃ k : Nat, u = .int .i64 k ∧ k ≤ rl.length ∧ o = .string (bs (T ++ rowTo (lsOf rows) rl k)) ∧ Upd (fun _ => False) W wr2) (fun u _ _ => rl.length - (intOf u).toNat)
      case atStart => exact ⟨0, rfl, Nat.zero_le _, by simp [rowTo], hu⟩
      case round =>
        obtain ⟨k, rfl, hk, rfl, hu2⟩ := hrel
        obtain ⟨wr2, rfl⟩ : ∃ w, w = wr := ⟨wr, rfl⟩
        obtain ⟨hc2, hcs⟩ := hcell.out _ hu2
        by_cases hlk : k < rl.length
        · obtain ⟨g2, o2, rfl, hc3⟩ := hcs k hlk
          have hw6 : IntKind.i64.wrap ((k : Int) + 1) = (k : Int) + 1 := Go.IntWalk.i64_in _ ⟨by omega, by omega⟩
          have hw7 : IntKind.i64.wrap ((rl.length : Int) - 1) = (rl.length : Int) - 1 := Go.IntWalk.i64_in _ ⟨by omega, by omega⟩
          have hrs := rowTo_succ (lsOf rows) rl hlk
          have hsz := szAt_get hlk
          have hs60 := hl2.out _ (List.getElem_mem hlk)
          have hrk := hrl.out k
          have hge := hcg.out k
          rw [hsz] at hge
          have hcw := hCW.out k
          generalize rl[k] = s at *
          obtain ⟨R, hR⟩ : ∃ R, rowTo (lsOf rows) rl k = R := ⟨_, rfl⟩
          rw [hR] at hrs hrk ⊢
          have hfin := fun (o : ByteArray) (ho : o = bs (T ++ (R ++ (s.data.toList ++ tailB (lsOf rows) rl k)))) V (u : Upd (fun _ => False) W V) => show (∃ k' : Nat, Value.int .i64 ((k : Int) + 1) = .int .i64 k' ∧ k' ≤ rl.length ∧ Value.string o = .string (bs (T ++ rowTo (lsOf rows) rl k')) ∧ Upd (fun _ => False) W V) ∧ rl.length - (intOf (.int .i64 ((k : Int) + 1))).toNat < rl.length - (intOf (.int .i64 (k : Int))).toNat from
            ⟨⟨k + 1, by go_num, by omega, by rw [ho, hrs], u⟩, by show rl.length - ((k : Int) + 1).toNat < rl.length - (k : Int).toNat; omega⟩
          have hTR : (T ++ R).length ≤ 50000 := by rw [List.length_append]; omega
          replace hfin := Lib.hid hfin
          clear hrs hR hcs
          obtain ⟨p, hp⟩ : ∃ p, bs (T ++ R) = p := ⟨_, rfl⟩
          have hpz : p.size ≤ 50000 := by rw [← hp, bs_size]; exact hTR
          rw [hp]
          by_cases hlast : k + 1 < rl.length
          · have hx : ((k : Int) < (rl.length : Int) - 1) = True := eq_true (by omega)
            have htb : tailB (lsOf rows) rl k = blankL (colW (lsOf rows) k - s.size) ++ [32, 32] := by rw [tailB, if_pos hlast, hsz]
            obtain ⟨C, hC⟩ : ∃ C, colW (lsOf rows) k = C := ⟨_, rfl⟩
            rw [hC] at htb hge hcw
            have kk := fun V (u : Upd (fun _ => False) W V) m => kM.out V u k m
            simp only [hC] at kk
            replace kk := Lib.hid kk
            have hout : p ++ bs (s.data.toList ++ (blankL (C - s.size) ++ [32, 32])) = bs (T ++ (R ++ (s.data.toList ++ tailB (lsOf rows) rl k))) := by
              rw [← hp, bs_cat, htb]; simp
            replace hout := Lib.hid hout
            replace hp := Lib.hid hp
            clear hlast htb hsz hC
            gi_wp2_with (first | refine (⟨trivial, rfl, ?_⟩ : Fence.wide.fn _ ∧ Fence.wide.depth = none ∧ _) | refine (⟨trivial, ?_⟩ : Fence.wide.fn _ ∧ _))
            gi_loopw [6] (fun u wr3 => ∃ j : Nat, u = .string (padB s j) ∧ Hid (j ≤ C - s.size) ∧ Upd (fun _ => False) W wr3) (fun u _ => C + 1 - strLen u)
            case atStart => exact ⟨0, by rw [padB_zero], Lib.hid (Nat.zero_le _), hu2⟩
            case round =>
              obtain ⟨j, rfl, hj, hu3⟩ := hrel
              have hj' := hj.out
              have hz := padB_size s j
              have hz2 := padB_size s (j + 1)
              have hcat := padB_succ s j
              have hend := padB_end s j
              obtain ⟨P, hP⟩ : ∃ P, padB s j = P := ⟨_, rfl⟩
              rw [hP] at hz hcat hend ⊢
              have k1 := kk.out _ hu3 P.size
              by_cases hm : P.size < C
              · rw [decide_eq_true hm] at k1
                have hov : ((9223372036854775807 : Nat) < P.size + 1) = False := eq_false (by omega)
                have fin := fun V (u : Upd (fun _ => False) W V) => show (∃ j' : Nat, Value.string (padB s (j + 1)) = .string (padB s j') ∧ Hid (j' ≤ C - s.size) ∧ Upd (fun _ => False) W V) ∧ C + 1 - strLen (.string (padB s (j + 1))) < C + 1 - strLen (.string P) from
                  ⟨⟨j + 1, rfl, Lib.hid (by omega), u⟩, by show C + 1 - (padB s (j + 1)).size < C + 1 - P.size; omega⟩
                obtain ⟨Q, hQ⟩ : ∃ Q, padB s (j + 1) = Q := ⟨_, rfl⟩
                rw [hQ] at hcat
                simp only [hQ] at fin
                replace fin := Lib.hid fin
                replace k1 := Lib.hid k1
                clear hend hP hz hz2 hm hQ hj'
                gi_wp2_with (first | refine (⟨trivial, rfl, ?_⟩ : Fence.wide.fn _ ∧ Fence.wide.depth = none ∧ _) | (gi_at_call 97; (with_reducible refine k1.out.mono ?_); rintro e W4 ⟨rfl, u4⟩; (skip)) | refine (⟨trivial, ?_⟩ : Fence.wide.fn _ ∧ _))
                exact fin.out _ (hu3.trans' u4)
              · have hm2 : C - s.size = j := by omega
                rw [decide_eq_false hm] at k1
                have ho := hout.out
                rw [hm2, ← hend] at ho
                have hov : ((9223372036854775807 : Nat) < P.size + 2) = False := eq_false (by omega)
                obtain ⟨Z, hZ⟩ : ∃ Z, P ++ (⟨#[32, 32]⟩ : ByteArray) = Z := ⟨_, rfl⟩
                have hZs : Z.size ≤ 1000 := by
                  rw [← hZ, hend, bs_size]
                  simp only [List.length_append, size_data, blankL, List.length_replicate, List.length_cons, List.length_nil]
                  omega
                have hov2 := no_over (a := p) (b := Z) (by omega) (by omega)
                rw [hZ] at ho
                obtain ⟨q, hq⟩ : ∃ q, p ++ Z = q := ⟨_, rfl⟩
                rw [hq] at ho
                have ff := Lib.hid (hfin.out q ho)
                replace k1 := Lib.hid k1
                clear hend hcat hP hz hz2 hm hj' ho hm2
                gi_wp2_with (first | refine (⟨trivial, rfl, ?_⟩ : Fence.wide.fn _ ∧ Fence.wide.depth = none ∧ _) | (gi_at_call 97; (with_reducible refine k1.out.mono ?_); rintro e W4 ⟨rfl, u4⟩; (skip)) | refine (⟨trivial, ?_⟩ : Fence.wide.fn _ ∧ _))
                exact ff.out _ (hu3.trans' u4)
          · have hx : ((k : Int) < (rl.length : Int) - 1) = False := eq_false (by omega)
            have htb : tailB (lsOf rows) rl k = [] := if_neg hlast
            obtain ⟨q, hq⟩ : ∃ q, p ++ s = q := ⟨_, rfl⟩
            have hov := no_over (a := p) (b := s) (by omega) (by omega)
            have ff := Lib.hid (hfin.out q (by
              rw [← hq, ← hp, htb, List.append_nil]
              conv => lhs; rw [← bs_data s]
              rw [bs_cat, List.append_assoc]) _ hu2)
            clear hlast htb hge hcw hsz hp
            gi_wp2_with (first | refine (⟨trivial, rfl, ?_⟩ : Fence.wide.fn _ ∧ Fence.wide.depth = none ∧ _) | refine (⟨trivial, ?_⟩ : Fence.wide.fn _ ∧ _))
            exact ff.out
        · obtain rfl : k = rl.length := by omega
          have hcat : bs (T ++ rowTo (lsOf rows) rl rl.length) ++ ⟨#[10]⟩ = bs (tabTo (lsOf rows) (i + 1)) := by
            rw [ht.out]
            show bs _ ++ bs [10] = _
            rw [bs_cat, List.append_assoc]
          have hrk := hrl.out rl.length
          have hov : ((9223372036854775807 : Nat) < (bs (T ++ rowTo (lsOf rows) rl rl.length)).size + 1) = False := eq_false (by rw [bs_size, List.length_append]; omega)
          gi_wp2_with (first | refine (⟨trivial, rfl, ?_⟩ : Fence.wide.fn _ ∧ Fence.wide.depth = none ∧ _) | refine (⟨trivial, ?_⟩ : Fence.wide.fn _ ∧ _))
          exact ⟨⟨i + 1, by go_num, by omega, rfl, hu2⟩, by show rows.length - ((i : Int) + 1).toNat < rows.length - (i : Int).toNat; omega⟩
    · obtain rfl : i = rows.length := by omega
      gi_wp2_with (first | refine (⟨trivial, rfl, ?_⟩ : Fence.wide.fn _ ∧ Fence.wide.depth = none ∧ _) | refine (⟨trivial, ?_⟩ : Fence.wide.fn _ ∧ _))
      go_ret
      exact ⟨rfl, hu⟩
end
end Go.Proofs.Ytkjkpmeommfdgaa

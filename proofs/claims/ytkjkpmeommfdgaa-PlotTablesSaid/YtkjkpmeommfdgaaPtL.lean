/- PlotTables: the law. -/
import Derived.Test.YtkjkpmeommfdgaaProg
import Derived.Test.YtkjkpmeommfdgaaBase
import Derived.Test.YtkjkpmeommfdgaaPtU
import Derived.Test.YtkjkpmeommfdgaaPbA
set_option linter.unusedSimpArgs false
set_option linter.unusedVariables false
namespace Go.Proofs.Ytkjkpmeommfdgaa
open Go.RowKit Go.Shelf
attribute [local go_sem] Oper.semAt_some
/-- Values, both tables. -/
theorem tables_c {rows : List SRow} {A : Option Addr} {cap : Nat} {V : World} (h : R2 V A rows) (hl : rows.length ≤ 20) (hs : ∀ r ∈ rows, r.l.length ≤ 12 ∧ ∀ s ∈ r.l, s.size ≤ 60) :
    CallsIn Fence.wide 0 Try.prog 56 #[.slice A rows.length cap] V fun e V2 => ∃ fc, e = .returned (.func (.func 96) #[] fc) ∧
      CallsIn Fence.wide 0 Try.prog 55 #[.func (.func 96) #[] fc] V2 fun e V3 => ∃ t, e = .returned (.string t) ∧
        CallsIn Fence.wide 0 Try.prog 57 #[.slice A rows.length cap] V3 fun e V4 => e = .returned (.string t) ∧ Upd (fun _ => False) V V4 := by
  refine rowsV_c.mono ?_
  rintro e V2 ⟨rfl, rfl⟩
  have u := Upd.alloc (fun _ => False) V (.cells #[.slice A rows.length cap] 74)
  have h2 := h.upd u
  refine ⟨_, rfl, (table_c (rows_seq (Blk.new _ _ _) h2.out (by omega)) h2.each hl (fun r hr => (hs r hr).1) fun r hr => (hs r hr).2).mono ?_⟩
  rintro e V3 ⟨rfl, u3⟩
  refine ⟨_, rfl, (refTable_c (h2.upd u3) hl (fun r hr => (hs r hr).1) fun r hr => (hs r hr).2).mono ?_⟩
  rintro e V4 ⟨rfl, u4⟩
  exact ⟨rfl, (u.trans' u3).trans' u4⟩
set_option maxRecDepth 100000 in
set_option maxHeartbeats 4000000 in
theorem plotTables_w {n : Nat} {rows : List SRow} {A : Option Addr} {cap : Nat} {W : World} (h : R2 W A rows) (hc : rows.length ≤ maxLen) (hcl : ∀ r ∈ rows, r.l.length ≤ maxLen) :
    CallsIn Fence.wide n Try.prog 11 #[.slice A rows.length cap] W fun e W2 => e = .returned (.bool true) ∧ Upd (fun _ => False) W W2 := by
  have kAw := Lib.hid fun V => awake30_c (n := 0) (w := V)
  have hu := Upd.refl (fun _ => False) W
  have hW := Lib.hid fun V (u : Upd (fun _ => False) W V) => h.upd u
  clear h
  unfold maxLen at hc hcl
  by_cases h20 : rows.length ≤ 20
  · have h20' : ((20 : Int) < rows.length) = False := eq_false (by omega)
    replace hcl := Lib.hid hcl
    refine callsIn_any (n := 0) (callsIn_of_wp Try.func11 rfl trivial ?_)
    simp only [Try.ntmps11, List.size_toArray, List.length_cons, List.length_nil, Nat.reduceAdd, Nat.reduceSub, Array.replicate_succ, Array.replicate_zero, List.push_toArray, List.append_toArray, List.nil_append, List.cons_append]
    gi_wp2_with (first | refine (⟨trivial, rfl, ?_⟩ : Fence.wide.fn _ ∧ Fence.wide.depth = none ∧ _) | (gi_at_call 48; (with_reducible refine (kAw.out _).mono ?_); rintro e W1 ⟨rfl, u1⟩; (replace hu := hu.trans' u1)) | refine (⟨trivial, ?_⟩ : Fence.wide.fn _ ∧ _))
    gi_loopw [17] (fun i wr => ∃ k : Nat, i = .int .i64 k ∧ k ≤ rows.length ∧ Hid (∀ r ∈ rows.take k, r.l.length ≤ 12 ∧ ∀ s ∈ r.l, s.size ≤ 60) ∧ Upd (fun _ => False) W wr) (fun i _ => rows.length - (intOf i).toNat)
    case atStart => exact ⟨0, rfl, Nat.zero_le _, Lib.hid fun r hr => by simp at hr, hu⟩
    case round =>
      clear hu
      obtain ⟨i, rfl, hi, hG, hu⟩ := hrel
      by_cases hlt : i < rows.length
      · obtain ⟨g, o, rfl, hc1⟩ := (hW.out _ hu).row hlt
        have hw5 : IntKind.i64.wrap ((i : Int) + 1) = (i : Int) + 1 := Go.IntWalk.i64_in _ ⟨by omega, by omega⟩
        have hmem := List.getElem_mem hlt
        have hbig := hcl.out _ hmem
        have htk : rows.take (i + 1) = rows.take i ++ [rows[i]] := List.take_succ_eq_append_getElem hlt
        have hcell := Lib.hid fun V (u : Upd (fun _ => False) W V) k (hk : k < rows[i].l.length) => (hW.out _ u).cell hmem hk
        have hnext := Lib.hid fun (h1 : rows[i].l.length ≤ 12) (h2 : ∀ s ∈ rows[i].l, s.size ≤ 60) => show ∀ r ∈ rows.take (i + 1), r.l.length ≤ 12 ∧ ∀ s ∈ r.l, s.size ≤ 60 from fun r hr => by
          rw [htk] at hr
          rcases List.mem_append.1 hr with hr | hr
          · exact hG.out r hr
          · rw [List.mem_singleton.1 hr]; exact ⟨h1, h2⟩
        generalize rows[i] = r at *
        obtain ⟨ra, rc, rl⟩ := r
        simp only [sV] at hc1 hcell hnext hbig
        clear htk hmem hG
        by_cases h12 : rl.length ≤ 12
        · have h12' : ((12 : Int) < rl.length) = False := eq_false (by omega)
          gi_wp2_with (first | refine (⟨trivial, rfl, ?_⟩ : Fence.wide.fn _ ∧ Fence.wide.depth = none ∧ _) | refine (⟨trivial, ?_⟩ : Fence.wide.fn _ ∧ _))
          gi_loopw [26] (fun u wr2 => ∃ k : Nat, u = .int .i64 k ∧ k ≤ rl.length ∧ Hid (∀ s ∈ rl.take k, s.size ≤ 60) ∧ Upd (fun _ => False) W wr2) (fun u _ => rl.length - (intOf u).toNat)
          case atStart => exact ⟨0, rfl, Nat.zero_le _, Lib.hid fun s hs => by simp at hs, hu⟩
          case round =>
            obtain ⟨k, rfl, hk, hK, hu2⟩ := hrel
            obtain ⟨wr2, rfl⟩ : ∃ w, w = wr := ⟨wr, rfl⟩
            by_cases hlk : k < rl.length
            · obtain ⟨g2, o2, rfl, hc3⟩ := hcell.out _ hu2 k hlk
              have hw6 : IntKind.i64.wrap ((k : Int) + 1) = (k : Int) + 1 := Go.IntWalk.i64_in _ ⟨by omega, by omega⟩
              have htk : rl.take (k + 1) = rl.take k ++ [rl[k]] := List.take_succ_eq_append_getElem hlk
              generalize rl[k] = s at *
              by_cases h60 : s.size ≤ 60
              · have h60' : ((60 : Int) < (s.size : Int)) = False := eq_false (by omega)
                have fin := Lib.hid (show ∀ t ∈ rl.take (k + 1), t.size ≤ 60 from fun t ht => by
                  rw [htk] at ht
                  rcases List.mem_append.1 ht with ht | ht
                  · exact hK.out t ht
                  · rw [List.mem_singleton.1 ht]; exact h60)
                clear htk h60 hK
                gi_wp2_with (first | refine (⟨trivial, rfl, ?_⟩ : Fence.wide.fn _ ∧ Fence.wide.depth = none ∧ _) | refine (⟨trivial, ?_⟩ : Fence.wide.fn _ ∧ _))
                exact ⟨⟨k + 1, by go_num, by omega, fin, hu2⟩, by show rl.length - ((k : Int) + 1).toNat < rl.length - (k : Int).toNat; omega⟩
              · have h60' : ((60 : Int) < (s.size : Int)) = True := eq_true (by omega)
                clear htk h60 hK
                gi_wp2_with (first | refine (⟨trivial, rfl, ?_⟩ : Fence.wide.fn _ ∧ Fence.wide.depth = none ∧ _) | refine (⟨trivial, ?_⟩ : Fence.wide.fn _ ∧ _))
                go_ret
                exact ⟨rfl, hu2⟩
            · obtain rfl : k = rl.length := by omega
              have hh := hK.out
              rw [List.take_length] at hh
              have fin := Lib.hid (hnext.out h12 hh)
              clear hh hK
              gi_wp2_with (first | refine (⟨trivial, rfl, ?_⟩ : Fence.wide.fn _ ∧ Fence.wide.depth = none ∧ _) | refine (⟨trivial, ?_⟩ : Fence.wide.fn _ ∧ _))
              exact ⟨⟨i + 1, by go_num, by omega, fin, hu2⟩, by show rows.length - ((i : Int) + 1).toNat < rows.length - (i : Int).toNat; omega⟩
        · have h12' : ((12 : Int) < rl.length) = True := eq_true (by omega)
          gi_wp2_with (first | refine (⟨trivial, rfl, ?_⟩ : Fence.wide.fn _ ∧ Fence.wide.depth = none ∧ _) | refine (⟨trivial, ?_⟩ : Fence.wide.fn _ ∧ _))
          go_ret
          exact ⟨rfl, hu⟩
      · obtain rfl : i = rows.length := by omega
        have hG' := hG.out
        rw [List.take_length] at hG'
        have k1 := Lib.hid (tables_c (cap := cap) (hW.out _ hu) h20 hG')
        clear hG hG'
        gi_wp2_with (first | refine (⟨trivial, rfl, ?_⟩ : Fence.wide.fn _ ∧ Fence.wide.depth = none ∧ _) | (gi_at_call 56; (with_reducible refine k1.out.mono ?_); rintro e W2 ⟨fc, rfl, k2⟩; (replace k2 := Lib.hid k2)) | (gi_at_call 55; (with_reducible refine k2.out.mono ?_); rintro e W3 ⟨t, rfl, k3⟩; (replace k3 := Lib.hid k3)) | (gi_at_call 57; (with_reducible refine k3.out.mono ?_); rintro e W4 ⟨rfl, u4⟩; (skip)) | refine (⟨trivial, ?_⟩ : Fence.wide.fn _ ∧ _))
        go_ret
        exact ⟨by simp, hu.trans' u4⟩
  · have h20' : ((20 : Int) < rows.length) = True := eq_true (by omega)
    clear hcl
    refine callsIn_any (n := 0) (callsIn_of_wp Try.func11 rfl trivial ?_)
    simp only [Try.ntmps11, List.size_toArray, List.length_cons, List.length_nil, Nat.reduceAdd, Nat.reduceSub, Array.replicate_succ, Array.replicate_zero, List.push_toArray, List.append_toArray, List.nil_append, List.cons_append]
    gi_wp2_with (first | refine (⟨trivial, rfl, ?_⟩ : Fence.wide.fn _ ∧ Fence.wide.depth = none ∧ _) | (gi_at_call 48; (with_reducible refine (kAw.out _).mono ?_); rintro e W1 ⟨rfl, u1⟩; (replace hu := hu.trans' u1)) | refine (⟨trivial, ?_⟩ : Fence.wide.fn _ ∧ _))
    go_ret
    exact ⟨rfl, hu⟩
end Go.Proofs.Ytkjkpmeommfdgaa

/- plot.Table. -/
import Derived.Test.YtkjkpmeommfdgaaProg
import Derived.Test.YtkjkpmeommfdgaaBase
import Derived.Test.YtkjkpmeommfdgaaPtT
set_option linter.unusedSimpArgs false
set_option linter.unusedVariables false
namespace Go.Proofs.Ytkjkpmeommfdgaa
open Go.RowKit Go.Shelf
attribute [local go_sem] Oper.semAt_some

theorem bld_keep {b : Nat} {l : List UInt8} {W V : World} (h : BldI b l W) (hb : Below W.heap.size W V) : BldI b l V := by
  have key : ∀ p, Lib.BuilderAtF 105 5 b b p (Lib.byteCells l) W → Lib.BuilderAtF 105 5 b b p (Lib.byteCells l) V := fun p x => by
    have hlt := x.lt
    obtain ⟨hB, v, hv, hown, hne⟩ := x
    exact ⟨hB, v, (hb.block b hlt).trans hv, hown.kept (row := none) ⟨hb.os, hb.tape, hb.output, hb.size, fun k hk _ => hb.block k hk⟩ (Classical.em _), hne⟩
  exact h.elim (fun x => .inl (key _ x)) fun x => .inr (key _ x)
/-- What the writing keeps. -/
theorem upd_behind {V W2 W3 : World} (h : Upd (fun _ => False) V W2) (hb : Below V.heap.size W2 W3) : Upd (fun _ => False) V W3 :=
  ⟨hb.os.trans h.os, hb.tape.trans h.tape, hb.output.trans h.output, Nat.le_trans h.size hb.size, fun k hk _ => (hb.block k hk).trans (h.block k hk id)⟩
theorem WidI.openI {base : Nat} {ls : List (List ByteArray)} {v : Value} {W0 W : World} (h : WidI base ls v W0 W) : WidI base (ls ++ [[]]) v W0 W := by
  obtain ⟨⟨ws, h1, h2, h3⟩, h4, h5⟩ := h
  exact ⟨⟨ws, h1, h2.open, h3⟩, h4, h5⟩
section
variable {rows : List SRow} {A : Option Addr} {cap : Nat} {W : World}
/-- A piece of a row: the text, what stands behind it. -/
theorem piece_c {b : Nat} {l : List UInt8} {V X : World} (h : BldI b l X) (hbV : b = V.heap.size) (hu : Upd (fun _ => False) V X) (hl : l.length ≤ 1000000) (s : ByteArray) (hs : s.size ≤ 1000) :
    CallsIn Fence.wide 0 Try.prog 92 #[.pointer (some ⟨b, 0, none⟩), .string s] X fun e X2 => e = .returned (.tuple #[.int .i64 s.size, .nilIface]) ∧ BldI b (l ++ s.data.toList) X2 ∧ Upd (fun _ => False) V X2 := by
  refine (bld_str h (by omega) (by rw [hbV]; exact hu.size) s (by omega)).mono ?_
  rintro e X2 ⟨rfl, h2, h3⟩
  exact ⟨rfl, h2, upd_behind hu (by rw [← hbV]; exact h3)⟩
set_option maxRecDepth 100000 in
set_option maxHeartbeats 16000000 in
theorem table_c {n : Nat} {fc : Array Value} {fi : FuncId} {D : Nat → Prop} (hseq : SeqO Try.prog (.func (.func fi) #[] fc) encR (rows.map fun x => ((), x)) () () (fun _ _ => True) (fun _ => False) D W) (hE : ∀ r ∈ rows, Reads1 W r.a (r.l.map Value.string))
    (hl : rows.length ≤ 20) (hs1 : ∀ r ∈ rows, r.l.length ≤ 12) (hs2 : ∀ r ∈ rows, ∀ s ∈ r.l, s.size ≤ 60) :
    CallsIn Fence.wide n Try.prog 55 #[.func (.func fi) #[] fc] W fun e W2 => e = .returned (.string (bs (tabTo (lsOf rows) rows.length))) ∧ Upd (fun _ => False) W W2 := by
  have kC := (collectR (n := 0) hseq (by omega)).mono (R' := fun e W2 => ∃ A2 c2, e = .returned (.slice A2 rows.length c2) ∧ R2 W2 A2 rows ∧ Upd (fun _ => False) W W2) (by
    rintro e W2 ⟨A2, c2, rfl, _, r, _, u⟩
    exact ⟨A2, c2, rfl, ⟨r, fun r hr => (hE r hr).agree' (u.agree fun j hj => ⟨(hE r hr).lt' j hj, id⟩)⟩, u⟩)
  replace kC := Lib.hid kC
  clear hseq hE
  refine callsIn_any (n := 0) (callsIn_of_wp Try.func55 rfl trivial ?_)
  simp only [Try.ntmps55, List.size_toArray, List.length_cons, List.length_nil, Nat.reduceAdd, Nat.reduceSub, Array.replicate_succ, Array.replicate_zero, List.push_toArray, List.append_toArray, List.nil_append, List.cons_append]
  gi_wp2_with (first | refine (⟨trivial, rfl, ?_⟩ : Fence.wide.fn _ ∧ Fence.wide.depth = none ∧ _) | (gi_at_call 91; (with_reducible refine kC.out.mono ?_); rintro e W2 ⟨A2, c2, rfl, hR, u2⟩; (skip)) | refine (⟨trivial, ?_⟩ : Fence.wide.fn _ ∧ _))
  have hW := Lib.hid fun V (u : Upd (fun _ => False) W2 V) => hR.upd u
  have hS60 : ∀ i, ∀ l ∈ lsOf (rows.take i), ∀ s ∈ l, s.size ≤ 60 := fun i l hl s hs => by
    obtain ⟨r, hr, rfl⟩ := List.mem_map.1 hl
    exact hs2 r (List.mem_of_mem_take hr) s hs
  replace hS60 := Lib.hid hS60
  clear hR kC
  gi_loopw [18, 4] (fun i v wr => ∃ k : Nat, i = .int .i64 k ∧ k ≤ rows.length ∧ WidI W2.heap.size (lsOf (rows.take k)) v W2 wr) (fun i _ _ => rows.length - (intOf i).toNat)
  case atStart => exact ⟨0, rfl, Nat.zero_le _, ⟨[], World.ownsRow_nil _ _ _ 1, WideI.nil, by simp⟩, Upd.refl _ _, rfl⟩
  case round =>
    obtain ⟨i, rfl, hi, hI⟩ := hrel
    by_cases hlt : i < rows.length
    · obtain ⟨g, o, rfl, hc⟩ := (hW.out _ hI.upd).row hlt
      have hw5 : IntKind.i64.wrap ((i : Int) + 1) = (i : Int) + 1 := Go.IntWalk.i64_in _ ⟨by omega, by omega⟩
      have hmem := List.getElem_mem hlt
      have htk : lsOf (rows.take (i + 1)) = lsOf (rows.take i) ++ [rows[i].l] := by
        rw [List.take_succ_eq_append_getElem hlt, lsOf, List.map_append]; rfl
      have hcell := Lib.hid fun V (u : Upd (fun _ => False) W2 V) k (hk : k < rows[i].l.length) => (hW.out _ u).cell hmem hk
      have hl1 := hs1 _ hmem
      have hl2 := hs2 _ hmem
      have hS := hS60.out i
      generalize rows[i] = r at *
      obtain ⟨ra, rc, rl⟩ := r
      simp only [sV] at hc htk hcell hl1 hl2
      obtain ⟨L, hL⟩ : ∃ L, lsOf (rows.take i) = L := ⟨_, rfl⟩
      rw [hL] at htk hS hI
      have hI0 := hI.openI
      replace htk := Lib.hid htk
      have hS2 := Lib.hid fun k => (fun l (hl : l ∈ L ++ [rl.take k]) t (ht : t ∈ l) => show t.size ≤ 60 from by
        rcases List.mem_append.1 hl with hl | hl
        · exact hS l hl t ht
        · rw [List.mem_singleton.1 hl] at ht; exact hl2 t (List.mem_of_mem_take ht))
      replace hl2 := Lib.hid hl2
      replace hI0 := Lib.hid hI0
      clear hL hI hmem hS
      gi_wp2_with (first | refine (⟨trivial, rfl, ?_⟩ : Fence.wide.fn _ ∧ Fence.wide.depth = none ∧ _) | refine (⟨trivial, ?_⟩ : Fence.wide.fn _ ∧ _))
      gi_loopw [24, 4] (fun u v wr2 => ∃ k : Nat, u = .int .i64 k ∧ k ≤ rl.length ∧ WidI W2.heap.size (L ++ [rl.take k]) v W2 wr2) (fun u _ _ => rl.length - (intOf u).toNat)
      case atStart => exact ⟨0, rfl, Nat.zero_le _, by simpa using hI0.out⟩
      case round =>
        clear hI0
        obtain ⟨k, rfl, hk, ⟨ws, hO, hwi, hw12⟩, hu, -⟩ := hrel
        obtain ⟨wr2, rfl⟩ : ∃ w, w = wr := ⟨wr, rfl⟩
        by_cases hlk : k < rl.length
        · obtain ⟨g2, o2, rfl, hc3⟩ := hcell.out _ hu k hlk
          have hw6 : IntKind.i64.wrap ((k : Int) + 1) = (k : Int) + 1 := Go.IntWalk.i64_in _ ⟨by omega, by omega⟩
          have hs60 := hl2.out _ (List.getElem_mem hlk)
          have hkw : k ≤ ws.length := by
            have := hwi.len (rl.take k) (by simp)
            rw [List.length_take] at this
            omega
          have hc60 := colW_le (k := k) (hS2.out k)
          have hz := hu.size
          obtain ⟨A3, c3, rfl⟩ := own_shape hO
          by_cases hke : k = ws.length
          · subst hke
            have hkn : ((ws ++ [0])[ws.length]'(by simp)) ≤ 60 := by simp
            have hN := Lib.hid fun g' cap' w' (h1 : World.ownsRow w' W2.heap.size 3 1 (.slice (some ⟨g', 0, none⟩) (ws.length + 1) cap') (ws.length + 1) (intL ws ++ [.int .i64 0])) (h2 : Upd (fun j => (Value.slice A3 ws.length c3).ownBlock = some j) wr2 w') =>
              show ∃ a : Nat, w'.cell? ⟨g', ws.length, none⟩ = some (.int .i64 (a : Int)) ∧ w'.frozen? ⟨g', ws.length, none⟩ = false ∧ g' < w'.heap.size ∧ WidI W2.heap.size (L ++ [rl.take (ws.length + 1)]) (.slice (some ⟨g', 0, none⟩) (ws.length + 1) cap') W2 (w'.setCell ⟨g', ws.length, none⟩ (.int .i64 ((max a rl[ws.length].size : Nat) : Int))) from by
                obtain ⟨g5, c5, a5, e5, ha5, n1, n2, n3, n4⟩ := WidI.note (ls := L) (rl := rl) (k := ws.length) (ws := ws ++ [0]) (W0 := W2) (wr := w') (base := W2.heap.size) (n := ws.length + 1) (by simpa [intL] using h1) hwi.push (by simp) hlk (by simp) (by simp; omega) (hu.trans h2 fun j hj => .inr (own_ge hO j hj)) rfl hs60 hkn
                have e6 := congrArg Value.ownBlock e5
                simp only [Value.ownBlock, Option.some.injEq] at e6
                subst e6
                exact ⟨a5, n1, n2, n3, n4⟩
            generalize rl[ws.length] = t at *
            clear hkn hwi hc60
            gi_wp2_with (first | refine (⟨trivial, rfl, ?_⟩ : Fence.wide.fn _ ∧ Fence.wide.depth = none ∧ _) | ((with_reducible refine app1 (u := .int .i64 0) Try.underlying22 infoJ zJ (by omega) hO ?_ ?_ ?_ ?_ ?_ ?_); exact hz; omega; rfl; rfl; rfl; intro g' cap' w' h1 h2 h3 h4; (obtain ⟨a5, n1, n2, n3, n4⟩ := hN.out g' cap' w' h1 h2); (obtain ⟨mx, hmx⟩ : ∃ mx, max a5 t.size = mx := ⟨_, rfl⟩); (rw [hmx] at n4); (have q4 : max (a5 : Int) (t.size : Int) = (mx : Int) := by omega); (replace n4 := Lib.hid n4); clear h1 h2 h3 h4 hmx) | refine (⟨trivial, ?_⟩ : Fence.wide.fn _ ∧ _))
            exact ⟨⟨ws.length + 1, by go_num, by omega, n4.out⟩, by show rl.length - ((ws.length : Int) + 1).toNat < rl.length - (ws.length : Int).toNat; omega⟩
          · have hkl : k < ws.length := by omega
            have t1 : ((k : Int) == (ws.length : Int)) = false := beq_eq_false_iff_ne.2 (by omega)
            have hw60 : ws[k] ≤ 60 := by
              have h1 := hwi.at_ k
              rw [List.getElem?_eq_getElem hkl] at h1
              simp only [Option.getD_some] at h1
              omega
            obtain ⟨g5, c5, a5, e5, ha5, n1, n2, n3, n4⟩ := WidI.note hO hwi rfl hlk hkl hw12 hu rfl hs60 hw60
            cases e5
            generalize rl[k] = t at *
            obtain ⟨mx, hmx⟩ : ∃ mx, max a5 t.size = mx := ⟨_, rfl⟩
            rw [hmx] at n4
            have q4 : max (a5 : Int) (t.size : Int) = (mx : Int) := by omega
            replace n4 := Lib.hid n4
            clear hmx hwi hc60 hO hw60
            gi_wp2_with (first | refine (⟨trivial, rfl, ?_⟩ : Fence.wide.fn _ ∧ Fence.wide.depth = none ∧ _) | refine (⟨trivial, ?_⟩ : Fence.wide.fn _ ∧ _))
            exact ⟨⟨k + 1, by go_num, by omega, n4.out⟩, by show rl.length - ((k : Int) + 1).toNat < rl.length - (k : Int).toNat; omega⟩
        · obtain rfl : k = rl.length := by omega
          rw [List.take_length, ← htk.out] at hwi
          have fin := Lib.hid (show WidI W2.heap.size (lsOf (rows.take (i + 1))) _ W2 wr2 from ⟨⟨ws, hO, hwi, hw12⟩, hu, rfl⟩)
          gi_wp2_with (first | refine (⟨trivial, rfl, ?_⟩ : Fence.wide.fn _ ∧ Fence.wide.depth = none ∧ _) | refine (⟨trivial, ?_⟩ : Fence.wide.fn _ ∧ _))
          exact ⟨⟨i + 1, by go_num, by omega, fin.out⟩, by show rows.length - ((i : Int) + 1).toNat < rows.length - (i : Int).toNat; omega⟩
    · obtain rfl : i = rows.length := by omega
      rw [List.take_length] at hI
      obtain ⟨⟨ws, hO, hwi, hw12⟩, hu, -⟩ := hI
      obtain ⟨A3, c3, rfl, -, hr3, -, -⟩ := own_readsS hO
      obtain ⟨V, rfl⟩ : ∃ V, V = wr := ⟨wr, rfl⟩
      have hWd := Lib.hid fun X (u : Upd (fun _ => False) V X) => hr3.agree' (w' := X) (u.agree fun j hj => ⟨hr3.lt' j hj, id⟩)
      have hRW := Lib.hid fun X (u : Upd (fun _ => False) V X) => hW.out X (hu.trans' u)
      have hS : ∀ l ∈ lsOf rows, ∀ s ∈ l, s.size ≤ 60 := fun l hl s hs => by
        obtain ⟨r, hr, rfl⟩ := List.mem_map.1 hl
        exact hs2 r hr s hs
      have hL : ∀ l ∈ lsOf rows, l.length ≤ 12 := fun l hl => by
        obtain ⟨r, hr, rfl⟩ := List.mem_map.1 hl
        exact hs1 r hr
      have hlen : (lsOf rows).length = rows.length := by simp
      have hget : ∀ i (hi : i < rows.length), (lsOf rows)[i]'(by rw [hlen]; exact hi) = rows[i].l := fun i hi => by simp
      have hmem' : ∀ i (hi : i < rows.length), rows[i].l ∈ lsOf rows := fun i hi => List.mem_map.2 ⟨_, List.getElem_mem hi, rfl⟩
      have hTL := Lib.hid (tabTo_len hS hL)
      have hTS := Lib.hid fun i (hi : i < rows.length) => (show tabTo (lsOf rows) (i + 1) = tabTo (lsOf rows) i ++ (rowTo (lsOf rows) rows[i].l rows[i].l.length ++ [10]) from by
        have := tabTo_succ (lsOf rows) (k := i) (by rw [hlen]; exact hi)
        rw [hget i hi] at this
        exact this)
      have hRL := Lib.hid fun i (hi : i < rows.length) k => rowTo_len hS (hmem' i hi) k
      have hCG := Lib.hid fun i (hi : i < rows.length) k => colW_ge (hmem' i hi) k
      have hCL := Lib.hid fun k => colW_le (k := k) hS
      have hWL := Lib.hid fun i (hi : i < rows.length) => hwi.len _ (hmem' i hi)
      have hWA := Lib.hid hwi.at_
      replace hlen := Lib.hid hlen
      have huV := Lib.hid (u2.trans' hu)
      clear hW hS60 hO hwi hu hr3 hS hL hget hmem'
      gi_wp2_with (first | refine (⟨trivial, rfl, ?_⟩ : Fence.wide.fn _ ∧ Fence.wide.depth = none ∧ _) | refine (⟨trivial, ?_⟩ : Fence.wide.fn _ ∧ _))
      gi_loopw [50] (fun i wr3 => ∃ k : Nat, i = .int .i64 k ∧ k ≤ rows.length ∧ BldI V.heap.size (tabTo (lsOf rows) k) wr3 ∧ Upd (fun _ => False) V wr3) (fun i _ => rows.length - (intOf i).toNat)
      case atStart => exact ⟨0, rfl, Nat.zero_le _, bld_new, Upd.alloc _ _ _⟩
      case round =>
        obtain ⟨i, rfl, hi, hB, hu3⟩ := hrel
        obtain ⟨wr3, rfl⟩ : ∃ w, w = wr := ⟨wr, rfl⟩
        by_cases hlt : i < rows.length
        · obtain ⟨g, o, rfl, hc⟩ := (hRW.out _ hu3).row hlt
          have hw5 : IntKind.i64.wrap ((i : Int) + 1) = (i : Int) + 1 := Go.IntWalk.i64_in _ ⟨by omega, by omega⟩
          have hmem := List.getElem_mem hlt
          have ht := hTS.out i hlt
          have hrl := Lib.hid (hRL.out i hlt)
          have hcg := Lib.hid (hCG.out i hlt)
          have hwl := hWL.out i hlt
          have htl := hTL.out i (by rw [hlen.out]; exact hi)
          have hcell := Lib.hid fun X (u : Upd (fun _ => False) V X) k (hk : k < rows[i].l.length) => (hRW.out _ u).cell hmem hk
          have hl1 := hs1 _ hmem
          have hl2 := Lib.hid (hs2 _ hmem)
          generalize rows[i] = r at *
          obtain ⟨ra, rc, rl⟩ := r
          simp only [sV] at hc ht hcell hl1 hl2 hrl hcg hwl
          obtain ⟨T, hT⟩ : ∃ T, tabTo (lsOf rows) i = T := ⟨_, rfl⟩
          rw [hT] at ht htl hB
          have hB0 : BldI V.heap.size (T ++ rowTo (lsOf rows) rl 0) wr3 := by simpa [rowTo] using hB
          replace ht := Lib.hid ht
          replace hB0 := Lib.hid hB0
          clear hT hmem hB
          gi_wp2_with (first | refine (⟨trivial, rfl, ?_⟩ : Fence.wide.fn _ ∧ Fence.wide.depth = none ∧ _) | refine (⟨trivial, ?_⟩ : Fence.wide.fn _ ∧ _))
          gi_loopw [56] (fun u wr4 => ∃ k : Nat, u = .int .i64 k ∧ k ≤ rl.length ∧ BldI V.heap.size (T ++ rowTo (lsOf rows) rl k) wr4 ∧ Upd (fun _ => False) V wr4) (fun u _ => rl.length - (intOf u).toNat)
          case atStart => exact ⟨0, rfl, Nat.zero_le _, hB0.out, hu3⟩
          case round =>
            clear hB0
            obtain ⟨k, rfl, hk, hB, hu4⟩ := hrel
            obtain ⟨wr4, rfl⟩ : ∃ w, w = wr := ⟨wr, rfl⟩
            by_cases hlk : k < rl.length
            · obtain ⟨g2, o2, rfl, hc3⟩ := hcell.out _ hu4 k hlk
              have hw6 : IntKind.i64.wrap ((k : Int) + 1) = (k : Int) + 1 := Go.IntWalk.i64_in _ ⟨by omega, by omega⟩
              have hw7 : IntKind.i64.wrap ((rl.length : Int) - 1) = (rl.length : Int) - 1 := Go.IntWalk.i64_in _ ⟨by omega, by omega⟩
              have hrs := rowTo_succ (lsOf rows) rl hlk
              have hsz := szAt_get hlk
              have hs60 := hl2.out _ (List.getElem_mem hlk)
              have hrk := hrl.out k
              have hge := hcg.out k
              rw [hsz] at hge
              have hcl := hCL.out k
              have hkw : k < ws.length := by omega
              have hwk : ws[k] = colW (lsOf rows) k := by
                have h1 := hWA.out k
                rw [List.getElem?_eq_getElem hkw] at h1
                simpa using h1
              generalize rl[k] = s at *
              obtain ⟨R, hR⟩ : ∃ R, rowTo (lsOf rows) rl k = R := ⟨_, rfl⟩
              rw [hR] at hrs hrk hB
              have hTR : (T ++ R).length ≤ 50000 := by rw [List.length_append]; omega
              have hfin := fun (m : List UInt8) (hm : m = T ++ (R ++ (s.data.toList ++ tailB (lsOf rows) rl k))) X (hX : BldI V.heap.size m X) (u : Upd (fun _ => False) V X) => show (∃ k' : Nat, Value.int .i64 ((k : Int) + 1) = .int .i64 k' ∧ k' ≤ rl.length ∧ BldI V.heap.size (T ++ rowTo (lsOf rows) rl k') X ∧ Upd (fun _ => False) V X) ∧ rl.length - (intOf (.int .i64 ((k : Int) + 1))).toNat < rl.length - (intOf (.int .i64 (k : Int))).toNat from
                ⟨⟨k + 1, by go_num, by omega, by rw [hrs, ← hm]; exact hX, u⟩, by show rl.length - ((k : Int) + 1).toNat < rl.length - (k : Int).toNat; omega⟩
              replace hfin := Lib.hid hfin
              have kS := Lib.hid (piece_c hB rfl hu4 (by omega) s (by omega))
              clear hrs hR hB
              by_cases hlast : k + 1 < rl.length
              · have hx : ((k : Int) < (rl.length : Int) - 1) = True := eq_true (by omega)
                have htb : tailB (lsOf rows) rl k = blankL (colW (lsOf rows) k - s.size) ++ [32, 32] := by rw [tailB, if_pos hlast, hsz]
                obtain ⟨g3, o3, rfl, -⟩ := reads_at (hWd.out _ hu4) (by simp; omega)
                have hcW := Lib.hid fun X (u : Upd (fun _ => False) V X) => show X.cell? ⟨g3, o3 + k, none⟩ = some (.int .i64 ((ws[k] : Nat) : Int)) from by
                  obtain ⟨g', o', e, hc'⟩ := reads_at (hWd.out X u) (by simp; omega)
                  cases e
                  exact hc' k _ (by simp [intL, hkw])
                rw [hwk] at hcW
                obtain ⟨C, hC⟩ : ∃ C, colW (lsOf rows) k = C := ⟨_, rfl⟩
                rw [hC] at htb hge hcl hcW
                obtain ⟨J, hJ⟩ : ∃ J, C - s.size = J := ⟨_, rfl⟩
                rw [hJ] at htb
                have q1 : IntKind.i64.wrap ((C : Int) - (s.size : Int)) = (J : Int) := by rw [Go.IntWalk.i64_in _ ⟨by omega, by omega⟩]; omega
                have hcat : bs (blankL J) ++ ⟨#[32, 32]⟩ = bs (blankL J ++ [32, 32]) := bs_cat (blankL J) [32, 32]
                have hbz : (bs (blankL J)).size = J := by rw [bs_size, blankL, List.length_replicate]
                have hov : ((9223372036854775807 : Nat) < (bs (blankL J)).size + 2) = False := eq_false (by omega)
                have hzz : (bs (blankL J ++ [32, 32])).size ≤ 1000 := by rw [bs_size, List.length_append, blankL, List.length_replicate]; simp; omega
                have hzd : (bs (blankL J ++ [32, 32])).data.toList = blankL J ++ [32, 32] := rfl
                obtain ⟨Z, hZ⟩ : ∃ Z, bs (blankL J ++ [32, 32]) = Z := ⟨_, rfl⟩
                rw [hZ] at hcat hzz hzd
                obtain ⟨Y, hY⟩ : ∃ Y, bs (blankL J) = Y := ⟨_, rfl⟩
                rw [hY] at hcat hov
                have kR := Lib.hid fun X => (blanks_c (n := 0) (c := J) (W := X) (by omega)).mono (R' := fun e X2 => e = .returned (.string Y) ∧ Below X.heap.size X X2) (by
                  rintro e X2 ⟨rfl, hb⟩
                  exact ⟨by rw [← hY]; rfl, hb⟩)
                have hmm : T ++ R ++ s.data.toList ++ Z.data.toList = T ++ (R ++ (s.data.toList ++ tailB (lsOf rows) rl k)) := by rw [hzd, htb]; simp
                replace hmm := Lib.hid hmm
                have hlm : (T ++ R ++ s.data.toList).length ≤ 1000000 := by rw [List.length_append, size_data]; omega
                clear htb hzd hZ hY hlast hC hge hcl hsz hJ hwk hbz hTR
                gi_wp2_with (first | refine (⟨trivial, rfl, ?_⟩ : Fence.wide.fn _ ∧ Fence.wide.depth = none ∧ _) | (gi_at_call 92; (with_reducible refine kS.out.mono ?_); rintro e W3 ⟨rfl, b3, u3⟩; (have hcw3 := hcW.out _ u3); (replace b3 := Lib.hid b3)) | (gi_at_call 93; (with_reducible refine (kR.out _).mono ?_); rintro e W4 ⟨rfl, hb4⟩; (have u4' := u3.trans' (upd_of_below hb4)); (have kT := Lib.hid (piece_c (bld_keep b3.out hb4) rfl u4' hlm Z hzz)); (clear hb4)) | (gi_at_call 92; (with_reducible refine kT.out.mono ?_); rintro e W5 ⟨rfl, b5, u5⟩; (replace b5 := Lib.hid b5)) | refine (⟨trivial, ?_⟩ : Fence.wide.fn _ ∧ _))
                exact hfin.out _ hmm.out _ b5.out u5
              · have hx : ((k : Int) < (rl.length : Int) - 1) = False := eq_false (by omega)
                have htb : tailB (lsOf rows) rl k = [] := if_neg hlast
                have hmm : T ++ R ++ s.data.toList = T ++ (R ++ (s.data.toList ++ tailB (lsOf rows) rl k)) := by rw [htb]; simp
                replace hmm := Lib.hid hmm
                clear htb hlast hge hcl hsz hwk hTR
                gi_wp2_with (first | refine (⟨trivial, rfl, ?_⟩ : Fence.wide.fn _ ∧ Fence.wide.depth = none ∧ _) | (gi_at_call 92; (with_reducible refine kS.out.mono ?_); rintro e W3 ⟨rfl, b3, u3⟩; (replace b3 := Lib.hid b3)) | refine (⟨trivial, ?_⟩ : Fence.wide.fn _ ∧ _))
                exact hfin.out _ hmm.out _ b3.out u3
            · obtain rfl : k = rl.length := by omega
              have hrk := hrl.out rl.length
              have kW := Lib.hid ((bld_byte (n := 0) hB (by rw [List.length_append]; omega) hu4.size).mono (R' := fun e X2 => e = .returned .nilIface ∧ BldI V.heap.size (tabTo (lsOf rows) (i + 1)) X2 ∧ Upd (fun _ => False) V X2) (by
                rintro e X2 ⟨rfl, h1, h2⟩
                exact ⟨rfl, by rw [ht.out, ← List.append_assoc]; exact h1, upd_behind hu4 h2⟩))
              clear hB
              gi_wp2_with (first | refine (⟨trivial, rfl, ?_⟩ : Fence.wide.fn _ ∧ Fence.wide.depth = none ∧ _) | (gi_at_call 94; (with_reducible refine kW.out.mono ?_); rintro e W3 ⟨rfl, b3, u3⟩; (replace b3 := Lib.hid b3)) | refine (⟨trivial, ?_⟩ : Fence.wide.fn _ ∧ _))
              exact ⟨⟨i + 1, by go_num, by omega, b3.out, u3⟩, by show rows.length - ((i : Int) + 1).toNat < rows.length - (i : Int).toNat; omega⟩
        · obtain rfl : i = rows.length := by omega
          have kE := Lib.hid (bld_end (n := 0) hB hu3.size)
          clear hB
          gi_wp2_with (first | refine (⟨trivial, rfl, ?_⟩ : Fence.wide.fn _ ∧ Fence.wide.depth = none ∧ _) | (gi_at_call 95; (with_reducible refine kE.out.mono ?_); rintro e W3 ⟨rfl, hb⟩; (skip)) | refine (⟨trivial, ?_⟩ : Fence.wide.fn _ ∧ _))
          go_ret
          exact ⟨rfl, huV.out.trans' (upd_behind hu3 hb)⟩
end
end Go.Proofs.Ytkjkpmeommfdgaa

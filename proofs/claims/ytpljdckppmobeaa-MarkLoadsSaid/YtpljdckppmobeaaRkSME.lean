/- rack's 'Get', 'Len', 'Height', 'Rank', 'At', instance string, tidemill/mark.seen. -/
import Derived.Test.YtpljdckppmobeaaProg
import Derived.Test.YtpljdckppmobeaaBase
import Derived.Test.YtpljdckppmobeaaTr
import Derived.Test.YtpljdckppmobeaaFork
import Derived.Test.YtpljdckppmobeaaRkSMC
namespace Go.Proofs.Ytpljdckppmobeaa
open Go.RowKit Go.Shelf
attribute [local go_sem] Oper.semAt_some


set_option maxHeartbeats 1000000 in
theorem rackLenSM {n : Nat} {c : KSM → KSM → Int} {cf : Fn} {ca cc : Array Value} {rb : Nat} {t : Tr KSM VSM} {l : List (KSM × VSM)} {w : World} (h : RackSM c cf ca cc rb t l w) : CallsIn Fence.wide n Try.prog 41 #[.pointer (some ⟨rb, 0, none⟩)] w fun e w' => e = .returned (.int .i64 l.length) ∧ w' = w := by
  have c1 := h.blk.cell 1
  have k1 := sizeSM (n := 0) h.lies.top
  rw [h.many] at k1
  clear h
  refine callsIn_any (n := 0) (callsIn_of_wp Try.func41 rfl trivial ?_)
  simp only [Try.ntmps41, List.size_toArray, List.length_cons, List.length_nil, Nat.reduceAdd, Nat.reduceSub, Array.replicate_succ, Array.replicate_zero, List.push_toArray, List.append_toArray, List.nil_append, List.cons_append]
  gi_wp2_with (first | refine (⟨trivial, rfl, ?_⟩ : Fence.wide.fn _ ∧ Fence.wide.depth = none ∧ _) | (gi_at_call 52; refine k1.mono ?_; rintro e w' ⟨rfl, rfl⟩))
  go_ret
  exact ⟨rfl, rfl⟩


theorem mk5SM : ∀ k v x y h n, (mkSM k v x y h n)[6]? = some (.int .i64 n) := fun _ _ _ _ _ _ => rfl

theorem agg_loadSM {b o : Nat} {w : World} {x0 x1 : Value} (h0 : w.cell? ⟨b, o, none⟩ = some x0) (h1 : w.cell? ⟨b, o + 1, none⟩ = some x1) : (loadVar 60 ⟨b, o, none⟩).run Try.prog w = .ok (.agg #[x0, x1]) w := by
  have e1 : (isAgg 60).run Try.prog w = .ok true w := rfl
  have e2 : (Go.sizeOf 60).run Try.prog w = .ok 2 w := rfl
  simp [loadVar, Sem.run_bind, Result.andThen, e1, e2, loadCells, loadCellsFrom, Addr.add, h0, h1]
theorem results_agSM {fn : Func} {p q : Tmp} {w : World} {tmps : Array Value} {b : Nat} {x0 x1 : Value} (h : fn.results = #[.cell p 60, .tmp q]) (ha : tmps[p]?.getD undef = .pointer (some ⟨b, 0, none⟩)) (h0 : w.cell? ⟨b, 0, none⟩ = some x0) (h1 : w.cell? ⟨b, 1, none⟩ = some x1) :
    (results fn tmps).run Try.prog w = .ok (.tuple #[.agg #[x0, x1], tmps[q]?.getD undef]) w := by
  have e := agg_loadSM (b := b) (o := 0) (w := w) (x0 := x0) (x1 := x1) (by simpa using h0) (by simpa using h1)
  simp only [results, h]
  simp [Sem.run_bind, Result.andThen, ha, asAddr, e]

set_option maxRecDepth 100000 in
set_option maxHeartbeats 2000000 in
theorem rackGetSM {n : Nat} {c : KSM → KSM → Int} {cf : Fn} {ca cc : Array Value} {rb : Nat} {t : Tr KSM VSM} {l : List (KSM × VSM)} {w : World} (h : RackSM c cf ca cc rb t l w) (hcmp : CmpV Try.prog ekSM c cf ca cc) (k : KSM) :
    CallsIn Fence.wide n Try.prog 28 #[.pointer (some ⟨rb, 0, none⟩), ekSM k] w fun e w' => e = .returned (.tuple #[evSM ((getL c k l).getD ((0, 0) : Int × Int)), .bool (getL c k l).isSome]) ∧ Upd (fun _ => False) w w' := by
  have hu0 : Upd (fun _ => False) w (w.alloc (.cells #[.int .i64 0, .int .i64 0] 60)) := Upd.alloc _ w _
  have h1 := h.upd hu0 (fun _ _ => id)
  have c1 : (w.alloc (.cells #[.int .i64 0, .int .i64 0] 60)).cell? ⟨rb, 1, none⟩ = some (.pointer t.adr) := h1.blk.cell 1
  have hz0 := Lib.hid (Blk.new w #[.int .i64 0, .int .i64 0] 60)
  replace hu0 := Lib.hid hu0
  have h0 := Lib.hid h1
  clear h h1
  refine callsIn_any (n := 0) (callsIn_of_wp Try.func28 rfl trivial ?_)
  simp only [Try.ntmps28, List.size_toArray, List.length_cons, List.length_nil, Nat.reduceAdd, Nat.reduceSub, Array.replicate_succ, Array.replicate_zero, List.push_toArray, List.append_toArray, List.nil_append, List.cons_append]
  gi_wp2
  gi_loopw [6] (fun u wr => ∃ s : Tr KSM VSM, u = .pointer s.adr ∧ Tr.lies 86 mkSM wr s ∧ Rise c s.list ∧ getL c k s.list = getL c k l ∧ Upd (fun _ => False) w wr ∧ Blk wr rb #[.func cf ca cc, .pointer t.adr] 84 ∧ Blk wr w.heap.size #[.int .i64 0, .int .i64 0] 60) (fun u wr => Tr.manyAt 6 u wr)
  case atStart => exact ⟨t, rfl, h0.out.lies, by rw [h0.out.list]; exact h0.out.rise, by rw [h0.out.list], hu0.out, h0.out.blk, hz0.out⟩
  case round =>
    obtain ⟨s, rfl, hs, hri, hg, hu, hrb, hzb⟩ := hrel
    cases s with
    | nil =>
      simp only [Tr.adr_nil]
      have hzb' := hzb.alloc (.cells #[.int .i64 0, .int .i64 0] 60)
      have cz0 : (wr.alloc (.cells #[.int .i64 0, .int .i64 0] 60)).cell? ⟨w.heap.size, 0, none⟩ = some (.int .i64 0) := hzb'.cell 0
      have fz0 : (wr.alloc (.cells #[.int .i64 0, .int .i64 0] 60)).frozen? ⟨w.heap.size, 0, none⟩ = false := hzb'.frozen 0
      have cz1 : (wr.alloc (.cells #[.int .i64 0, .int .i64 0] 60)).cell? ⟨w.heap.size, 1, none⟩ = some (.int .i64 0) := hzb'.cell 1
      have fz1 : (wr.alloc (.cells #[.int .i64 0, .int .i64 0] 60)).frozen? ⟨w.heap.size, 1, none⟩ = false := hzb'.frozen 1
      have lz := hzb'.lt
      gi_wp2
      refine bodyPost_ret (results_agSM rfl rfl (((hzb'.set 0 (.int .i64 0)).set 1 (.int .i64 0)).cell 0) (((hzb'.set 0 (.int .i64 0)).set 1 (.int .i64 0)).cell 1)) rfl ?_
      rw [← hg]
      exact ⟨rfl, (((hu.stepAlloc _).stepSet (p := ⟨w.heap.size, 0, none⟩) (.inr (Nat.le_refl _)) _).stepSet (p := ⟨w.heap.size, 1, none⟩) (.inr (Nat.le_refl _)) _)⟩
    | node b k0 v0 l1 r1 =>
      have hmu := Tr.manyAt_tr mk5SM hs
      obtain ⟨hb, hl, hr⟩ := hs
      have hri' := hri
      obtain ⟨q1, q2, _, _, _⟩ := Rise.parts (l := l1.list) (r := r1.list) (x := (k0, v0)) hri
      simp only [Tr.adr_node] at hmu ⊢
      rcases Int.lt_trichotomy (c k k0) 0 with hs | hs | hs
      · skip
        obtain ⟨_, _, _, e1, _⟩ := node_lt hcmp.ord (l := l1.list) (r := r1.list) (x := (k0, v0)) hri' hs v0
        replace e1 := Lib.hid e1
        replace hg := Lib.hid hg
        replace hri := Lib.hid hri
        replace hri' := Lib.hid hri'
        replace hmu := Lib.hid hmu
        clear c1
        have c0 : wr.cell? ⟨rb, 0, none⟩ = some (.func cf ca cc) := hrb.cell 0
        have c1 : wr.cell? ⟨b, 0, none⟩ = some (ekSM k0) := hb.cell 0
        have hkk := Lib.hid (hcmp.call k k0 wr.drew)
        gi_wp2
        refine wpIn_eager [(0, true), (1, true), (2, true), (3, true), (4, true), (5, true), (6, true), (7, true), (8, true), (9, false), (10, true)] (fun V => V.cell? ⟨rb, 0, none⟩ = some (.func cf ca cc) ∧ V.cell? ⟨b, 0, none⟩ = some (ekSM k0)) (by kernel_rfl) (by kernel_rfl) ⟨c0, c1⟩ ?_
        refine wpE_fl rfl rfl (fun _ _ => rfl) ?_
        go_simp
        refine wpE_fl rfl rfl (fun _ _ => rfl) ?_
        go_simp
        refine wpE_fl (v := .pointer (some ⟨rb, 0, none⟩)) rfl rfl (fun W' h' => ?_) ?_
        · go_simp
        go_simp
        refine wpE_fl (v := .func cf ca cc) rfl rfl (fun W' h' => ?_) ?_
        · obtain ⟨h1, h2⟩ := h'; go_simp
        go_simp
        refine wpE_fl rfl rfl (fun _ _ => rfl) ?_
        go_simp
        refine wpE_fl rfl rfl (fun _ _ => rfl) ?_
        go_simp
        refine wpE_fl rfl rfl (fun _ _ => rfl) ?_
        go_simp
        refine wpE_fl (v := .pointer (some ⟨b, 0, none⟩)) rfl rfl (fun W' h' => ?_) ?_
        · go_simp
        go_simp
        refine wpE_fl (v := ekSM k0) rfl rfl (fun W' h' => ?_) ?_
        · obtain ⟨h1, h2⟩ := h'; go_simp
        go_simp
        refine wpE_ef rfl ?_
        go_simp
        gi_wp2_with ((with_reducible refine listV2 hkk.out ?_ ?_ ?_ ?_); rfl; rfl; rfl; rintro vv V ⟨rfl, hud⟩; (replace hud := (Upd.drew (fun _ => False) wr).trans' hud))
        clear hkk c0 c1
        replace hrb := hrb.upd hud id
        replace hb := hb.upd hud id
        replace hl := hl.upd hud (fun _ _ => id)
        replace hr := hr.upd hud (fun _ _ => id)
        replace hzb := hzb.upd hud id
        refine ⟨⟨hrb.cell 0, hb.cell 0⟩, ?_⟩
        refine wpE_fl rfl rfl (fun _ _ => rfl) ?_
        go_simp
        refine wpE_nil ?_
        replace hu := hu.trans' hud
        have cn : V.cell? ⟨b, 3, none⟩ = some (.pointer l1.adr) := hb.cell 3
        have hs2 : ¬ c k k0 = 0 := by omega
        have hmv := Lib.hid (Tr.manyAt_tr mk5SM hl)
        replace hl := Lib.hid hl
        replace hr := Lib.hid hr
        gi_wp2
        refine ⟨⟨l1, rfl, hl.out, q1, e1.out.symm.trans hg.out, hu, hrb, hzb⟩, ?_⟩
        rw [hmv.out, hmu.out]; simp only [Tr.many]; omega
      · skip
        obtain ⟨_, _, _, e1, _⟩ := node_eq hcmp.ord (l := l1.list) (r := r1.list) (x := (k0, v0)) hri' hs v0
        replace e1 := Lib.hid e1
        replace hg := Lib.hid hg
        replace hri := Lib.hid hri
        replace hri' := Lib.hid hri'
        replace hmu := Lib.hid hmu
        clear c1
        have c0 : wr.cell? ⟨rb, 0, none⟩ = some (.func cf ca cc) := hrb.cell 0
        have c1 : wr.cell? ⟨b, 0, none⟩ = some (ekSM k0) := hb.cell 0
        have hkk := Lib.hid (hcmp.call k k0 wr.drew)
        gi_wp2
        refine wpIn_eager [(0, true), (1, true), (2, true), (3, true), (4, true), (5, true), (6, true), (7, true), (8, true), (9, false), (10, true)] (fun V => V.cell? ⟨rb, 0, none⟩ = some (.func cf ca cc) ∧ V.cell? ⟨b, 0, none⟩ = some (ekSM k0)) (by kernel_rfl) (by kernel_rfl) ⟨c0, c1⟩ ?_
        refine wpE_fl rfl rfl (fun _ _ => rfl) ?_
        go_simp
        refine wpE_fl rfl rfl (fun _ _ => rfl) ?_
        go_simp
        refine wpE_fl (v := .pointer (some ⟨rb, 0, none⟩)) rfl rfl (fun W' h' => ?_) ?_
        · go_simp
        go_simp
        refine wpE_fl (v := .func cf ca cc) rfl rfl (fun W' h' => ?_) ?_
        · obtain ⟨h1, h2⟩ := h'; go_simp
        go_simp
        refine wpE_fl rfl rfl (fun _ _ => rfl) ?_
        go_simp
        refine wpE_fl rfl rfl (fun _ _ => rfl) ?_
        go_simp
        refine wpE_fl rfl rfl (fun _ _ => rfl) ?_
        go_simp
        refine wpE_fl (v := .pointer (some ⟨b, 0, none⟩)) rfl rfl (fun W' h' => ?_) ?_
        · go_simp
        go_simp
        refine wpE_fl (v := ekSM k0) rfl rfl (fun W' h' => ?_) ?_
        · obtain ⟨h1, h2⟩ := h'; go_simp
        go_simp
        refine wpE_ef rfl ?_
        go_simp
        gi_wp2_with ((with_reducible refine listV2 hkk.out ?_ ?_ ?_ ?_); rfl; rfl; rfl; rintro vv V ⟨rfl, hud⟩; (replace hud := (Upd.drew (fun _ => False) wr).trans' hud))
        clear hkk c0 c1
        replace hrb := hrb.upd hud id
        replace hb := hb.upd hud id
        replace hl := hl.upd hud (fun _ _ => id)
        replace hr := hr.upd hud (fun _ _ => id)
        replace hzb := hzb.upd hud id
        refine ⟨⟨hrb.cell 0, hb.cell 0⟩, ?_⟩
        refine wpE_fl rfl rfl (fun _ _ => rfl) ?_
        go_simp
        refine wpE_nil ?_
        replace hu := hu.trans' hud
        have cn : (V.cell? ⟨b, 1, none⟩ = some (.int .i64 (v0).1) ∧ V.cell? ⟨b, 2, none⟩ = some (.int .i64 (v0).2)) := ⟨hb.cell 1, hb.cell 2⟩
        obtain ⟨cn, cn'⟩ := cn
        have cz0 : V.cell? ⟨w.heap.size, 0, none⟩ = some (.int .i64 0) := hzb.cell 0
        have fz0 : V.frozen? ⟨w.heap.size, 0, none⟩ = false := hzb.frozen 0
        have cz1 : V.cell? ⟨w.heap.size, 1, none⟩ = some (.int .i64 0) := hzb.cell 1
        have fz1 : V.frozen? ⟨w.heap.size, 1, none⟩ = false := hzb.frozen 1
        have lz := hzb.lt
        gi_wp2
        refine bodyPost_ret (results_agSM rfl rfl (((hzb.set 0 (.int .i64 (v0).1)).set 1 (.int .i64 (v0).2)).cell 0) (((hzb.set 0 (.int .i64 (v0).1)).set 1 (.int .i64 (v0).2)).cell 1)) rfl ?_
        rw [← hg.out, show (Tr.node b k0 v0 l1 r1).list = l1.list ++ (k0, v0) :: r1.list from rfl, e1.out]
        exact ⟨rfl, ((hu.stepSet (p := ⟨w.heap.size, 0, none⟩) (.inr (Nat.le_refl _)) _).stepSet (p := ⟨w.heap.size, 1, none⟩) (.inr (Nat.le_refl _)) _)⟩
      · skip
        obtain ⟨_, _, _, e1, _⟩ := node_gt hcmp.ord (l := l1.list) (r := r1.list) (x := (k0, v0)) hri' hs v0
        replace e1 := Lib.hid e1
        replace hg := Lib.hid hg
        replace hri := Lib.hid hri
        replace hri' := Lib.hid hri'
        replace hmu := Lib.hid hmu
        clear c1
        have c0 : wr.cell? ⟨rb, 0, none⟩ = some (.func cf ca cc) := hrb.cell 0
        have c1 : wr.cell? ⟨b, 0, none⟩ = some (ekSM k0) := hb.cell 0
        have hkk := Lib.hid (hcmp.call k k0 wr.drew)
        gi_wp2
        refine wpIn_eager [(0, true), (1, true), (2, true), (3, true), (4, true), (5, true), (6, true), (7, true), (8, true), (9, false), (10, true)] (fun V => V.cell? ⟨rb, 0, none⟩ = some (.func cf ca cc) ∧ V.cell? ⟨b, 0, none⟩ = some (ekSM k0)) (by kernel_rfl) (by kernel_rfl) ⟨c0, c1⟩ ?_
        refine wpE_fl rfl rfl (fun _ _ => rfl) ?_
        go_simp
        refine wpE_fl rfl rfl (fun _ _ => rfl) ?_
        go_simp
        refine wpE_fl (v := .pointer (some ⟨rb, 0, none⟩)) rfl rfl (fun W' h' => ?_) ?_
        · go_simp
        go_simp
        refine wpE_fl (v := .func cf ca cc) rfl rfl (fun W' h' => ?_) ?_
        · obtain ⟨h1, h2⟩ := h'; go_simp
        go_simp
        refine wpE_fl rfl rfl (fun _ _ => rfl) ?_
        go_simp
        refine wpE_fl rfl rfl (fun _ _ => rfl) ?_
        go_simp
        refine wpE_fl rfl rfl (fun _ _ => rfl) ?_
        go_simp
        refine wpE_fl (v := .pointer (some ⟨b, 0, none⟩)) rfl rfl (fun W' h' => ?_) ?_
        · go_simp
        go_simp
        refine wpE_fl (v := ekSM k0) rfl rfl (fun W' h' => ?_) ?_
        · obtain ⟨h1, h2⟩ := h'; go_simp
        go_simp
        refine wpE_ef rfl ?_
        go_simp
        gi_wp2_with ((with_reducible refine listV2 hkk.out ?_ ?_ ?_ ?_); rfl; rfl; rfl; rintro vv V ⟨rfl, hud⟩; (replace hud := (Upd.drew (fun _ => False) wr).trans' hud))
        clear hkk c0 c1
        replace hrb := hrb.upd hud id
        replace hb := hb.upd hud id
        replace hl := hl.upd hud (fun _ _ => id)
        replace hr := hr.upd hud (fun _ _ => id)
        replace hzb := hzb.upd hud id
        refine ⟨⟨hrb.cell 0, hb.cell 0⟩, ?_⟩
        refine wpE_fl rfl rfl (fun _ _ => rfl) ?_
        go_simp
        refine wpE_nil ?_
        replace hu := hu.trans' hud
        have cn : V.cell? ⟨b, 4, none⟩ = some (.pointer r1.adr) := hb.cell 4
        have hs2 : ¬ c k k0 = 0 := by omega
        have hs3 : ¬ c k k0 < 0 := by omega
        have hmv := Lib.hid (Tr.manyAt_tr mk5SM hr)
        replace hl := Lib.hid hl
        replace hr := Lib.hid hr
        gi_wp2
        refine ⟨⟨r1, rfl, hr.out, q2, e1.out.symm.trans hg.out, hu, hrb, hzb⟩, ?_⟩
        rw [hmv.out, hmu.out]; simp only [Tr.many]; omega


end Go.Proofs.Ytpljdckppmobeaa

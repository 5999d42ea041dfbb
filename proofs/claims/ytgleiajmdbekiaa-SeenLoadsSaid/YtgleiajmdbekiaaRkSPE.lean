/- rack's 'Get', 'Len', 'Height', 'Rank', 'At', instance string, *tidemill/seen.came. -/
import Derived.Test.YtgleiajmdbekiaaProg
import Derived.Test.YtgleiajmdbekiaaBase
import Derived.Test.YtgleiajmdbekiaaTr
import Derived.Test.YtgleiajmdbekiaaFork
import Derived.Test.YtgleiajmdbekiaaRkSPC
namespace Go.Proofs.Ytgleiajmdbekiaa
open Go.RowKit Go.Shelf
attribute [local go_sem] Oper.semAt_some


set_option maxHeartbeats 1000000 in
theorem rackLenSP {n : Nat} {c : KSP → KSP → Int} {cf : Fn} {ca cc : Array Value} {rb : Nat} {t : Tr KSP VSP} {l : List (KSP × VSP)} {w : World} (h : RackSP c cf ca cc rb t l w) : CallsIn Fence.wide n Try.prog 41 #[.pointer (some ⟨rb, 0, none⟩)] w fun e w' => e = .returned (.int .i64 l.length) ∧ w' = w := by
  have c1 := h.blk.cell 1
  have k1 := sizeSP (n := 0) h.lies.top
  rw [h.many] at k1
  clear h
  refine callsIn_any (n := 0) (callsIn_of_wp Try.func41 rfl trivial ?_)
  simp only [Try.ntmps41, List.size_toArray, List.length_cons, List.length_nil, Nat.reduceAdd, Nat.reduceSub, Array.replicate_succ, Array.replicate_zero, List.push_toArray, List.append_toArray, List.nil_append, List.cons_append]
  gi_wp2_with (first | refine (⟨trivial, rfl, ?_⟩ : Fence.wide.fn _ ∧ Fence.wide.depth = none ∧ _) | (gi_at_call 63; refine k1.mono ?_; rintro e w' ⟨rfl, rfl⟩))
  go_ret
  exact ⟨rfl, rfl⟩


theorem mk5SP : ∀ k v x y h n, (mkSP k v x y h n)[5]? = some (.int .i64 n) := fun _ _ _ _ _ _ => rfl

set_option maxRecDepth 100000 in
set_option maxHeartbeats 2000000 in
theorem rackGetSP {n : Nat} {c : KSP → KSP → Int} {cf : Fn} {ca cc : Array Value} {rb : Nat} {t : Tr KSP VSP} {l : List (KSP × VSP)} {w : World} (h : RackSP c cf ca cc rb t l w) (hcmp : CmpV Try.prog ekSP c cf ca cc) (k : KSP) :
    CallsIn Fence.wide n Try.prog 38 #[.pointer (some ⟨rb, 0, none⟩), ekSP k] w fun e w' => e = .returned (.tuple #[evSP ((getL c k l).getD (none : Option Addr)), .bool (getL c k l).isSome]) ∧ Upd (fun _ => False) w w' := by
  have c1 := h.blk.cell 1
  have h0 := Lib.hid h
  clear h
  refine callsIn_any (n := 0) (callsIn_of_wp Try.func38 rfl trivial ?_)
  simp only [Try.ntmps38, List.size_toArray, List.length_cons, List.length_nil, Nat.reduceAdd, Nat.reduceSub, Array.replicate_succ, Array.replicate_zero, List.push_toArray, List.append_toArray, List.nil_append, List.cons_append]
  gi_wp2
  gi_loopw [6] (fun u wr => ∃ s : Tr KSP VSP, u = .pointer s.adr ∧ Tr.lies 107 mkSP wr s ∧ Rise c s.list ∧ getL c k s.list = getL c k l ∧ Upd (fun _ => False) w wr ∧ Blk wr rb #[.func cf ca cc, .pointer t.adr] 86) (fun u wr => Tr.manyAt 5 u wr)
  case atStart => exact ⟨t, rfl, h0.out.lies, by rw [h0.out.list]; exact h0.out.rise, by rw [h0.out.list], Upd.refl _ _, h0.out.blk⟩
  case round =>
    obtain ⟨s, rfl, hs, hri, hg, hu, hrb⟩ := hrel
    cases s with
    | nil =>
      simp only [Tr.adr_nil]
      gi_wp2
      refine bodyPost_ret (results_tmp2 rfl _ _ _) rfl ?_
      rw [← hg]
      exact ⟨rfl, hu⟩
    | node b k0 v0 l1 r1 =>
      have hmu := Tr.manyAt_tr mk5SP hs
      obtain ⟨hb, hl, hr⟩ := hs
      have hri' := hri
      obtain ⟨q1, q2, _, _, _⟩ := Rise.parts (l := l1.list) (r := r1.list) (x := (k0, v0)) hri
      simp only [Tr.adr_node] at hmu ⊢
      rcases Int.lt_trichotomy (c k k0) 0 with hs | hs | hs
      · skip
        obtain ⟨_, _, _, e1, _⟩ := node_lt hcmp.ord (l := l1.list) (r := r1.list) (x := (k0, v0)) hri' hs v0
        replace e1 := Lib.hid e1
        replace hg := Lib.hid hg
        replace hri := Lib.hid hri
        replace hri' := Lib.hid hri'
        replace hmu := Lib.hid hmu
        clear c1
        have c0 : wr.cell? ⟨rb, 0, none⟩ = some (.func cf ca cc) := hrb.cell 0
        have c1 : wr.cell? ⟨b, 0, none⟩ = some (ekSP k0) := hb.cell 0
        have hkk := Lib.hid (hcmp.call k k0 wr.drew)
        gi_wp2
        refine wpIn_eager [(0, true), (1, true), (2, true), (3, true), (4, true), (5, true), (6, true), (7, true), (8, true), (9, false), (10, true)] (fun V => V.cell? ⟨rb, 0, none⟩ = some (.func cf ca cc) ∧ V.cell? ⟨b, 0, none⟩ = some (ekSP k0)) (by kernel_rfl) (by kernel_rfl) ⟨c0, c1⟩ ?_
        refine wpE_fl rfl rfl (fun _ _ => rfl) ?_
        go_simp
        refine wpE_fl rfl rfl (fun _ _ => rfl) ?_
        go_simp
        refine wpE_fl (v := .pointer (some ⟨rb, 0, none⟩)) rfl rfl (fun W' h' => ?_) ?_
        · go_simp
        go_simp
        refine wpE_fl (v := .func cf ca cc) rfl rfl (fun W' h' => ?_) ?_
        · obtain ⟨h1, h2⟩ := h'; go_simp
        go_simp
        refine wpE_fl rfl rfl (fun _ _ => rfl) ?_
        go_simp
        refine wpE_fl rfl rfl (fun _ _ => rfl) ?_
        go_simp
        refine wpE_fl rfl rfl (fun _ _ => rfl) ?_
        go_simp
        refine wpE_fl (v := .pointer (some ⟨b, 0, none⟩)) rfl rfl (fun W' h' => ?_) ?_
        · go_simp
        go_simp
        refine wpE_fl (v := ekSP k0) rfl rfl (fun W' h' => ?_) ?_
        · obtain ⟨h1, h2⟩ := h'; go_simp
        go_simp
        refine wpE_ef rfl ?_
        go_simp
        gi_wp2_with ((with_reducible refine listV2 hkk.out ?_ ?_ ?_ ?_); rfl; rfl; rfl; rintro vv V ⟨rfl, hud⟩; (replace hud := (Upd.drew (fun _ => False) wr).trans' hud))
        clear hkk c0 c1
        replace hrb := hrb.upd hud id
        replace hb := hb.upd hud id
        replace hl := hl.upd hud (fun _ _ => id)
        replace hr := hr.upd hud (fun _ _ => id)
        refine ⟨⟨hrb.cell 0, hb.cell 0⟩, ?_⟩
        refine wpE_fl rfl rfl (fun _ _ => rfl) ?_
        go_simp
        refine wpE_nil ?_
        replace hu := hu.trans' hud
        have cn : V.cell? ⟨b, 2, none⟩ = some (.pointer l1.adr) := hb.cell 2
        have hs2 : ¬ c k k0 = 0 := by omega
        have hmv := Lib.hid (Tr.manyAt_tr mk5SP hl)
        replace hl := Lib.hid hl
        replace hr := Lib.hid hr
        gi_wp2
        refine ⟨⟨l1, rfl, hl.out, q1, e1.out.symm.trans hg.out, hu, hrb⟩, ?_⟩
        rw [hmv.out, hmu.out]; simp only [Tr.many]; omega
      · skip
        obtain ⟨_, _, _, e1, _⟩ := node_eq hcmp.ord (l := l1.list) (r := r1.list) (x := (k0, v0)) hri' hs v0
        replace e1 := Lib.hid e1
        replace hg := Lib.hid hg
        replace hri := Lib.hid hri
        replace hri' := Lib.hid hri'
        replace hmu := Lib.hid hmu
        clear c1
        have c0 : wr.cell? ⟨rb, 0, none⟩ = some (.func cf ca cc) := hrb.cell 0
        have c1 : wr.cell? ⟨b, 0, none⟩ = some (ekSP k0) := hb.cell 0
        have hkk := Lib.hid (hcmp.call k k0 wr.drew)
        gi_wp2
        refine wpIn_eager [(0, true), (1, true), (2, true), (3, true), (4, true), (5, true), (6, true), (7, true), (8, true), (9, false), (10, true)] (fun V => V.cell? ⟨rb, 0, none⟩ = some (.func cf ca cc) ∧ V.cell? ⟨b, 0, none⟩ = some (ekSP k0)) (by kernel_rfl) (by kernel_rfl) ⟨c0, c1⟩ ?_
        refine wpE_fl rfl rfl (fun _ _ => rfl) ?_
        go_simp
        refine wpE_fl rfl rfl (fun _ _ => rfl) ?_
        go_simp
        refine wpE_fl (v := .pointer (some ⟨rb, 0, none⟩)) rfl rfl (fun W' h' => ?_) ?_
        · go_simp
        go_simp
        refine wpE_fl (v := .func cf ca cc) rfl rfl (fun W' h' => ?_) ?_
        · obtain ⟨h1, h2⟩ := h'; go_simp
        go_simp
        refine wpE_fl rfl rfl (fun _ _ => rfl) ?_
        go_simp
        refine wpE_fl rfl rfl (fun _ _ => rfl) ?_
        go_simp
        refine wpE_fl rfl rfl (fun _ _ => rfl) ?_
        go_simp
        refine wpE_fl (v := .pointer (some ⟨b, 0, none⟩)) rfl rfl (fun W' h' => ?_) ?_
        · go_simp
        go_simp
        refine wpE_fl (v := ekSP k0) rfl rfl (fun W' h' => ?_) ?_
        · obtain ⟨h1, h2⟩ := h'; go_simp
        go_simp
        refine wpE_ef rfl ?_
        go_simp
        gi_wp2_with ((with_reducible refine listV2 hkk.out ?_ ?_ ?_ ?_); rfl; rfl; rfl; rintro vv V ⟨rfl, hud⟩; (replace hud := (Upd.drew (fun _ => False) wr).trans' hud))
        clear hkk c0 c1
        replace hrb := hrb.upd hud id
        replace hb := hb.upd hud id
        replace hl := hl.upd hud (fun _ _ => id)
        replace hr := hr.upd hud (fun _ _ => id)
        refine ⟨⟨hrb.cell 0, hb.cell 0⟩, ?_⟩
        refine wpE_fl rfl rfl (fun _ _ => rfl) ?_
        go_simp
        refine wpE_nil ?_
        replace hu := hu.trans' hud
        have cn : V.cell? ⟨b, 1, none⟩ = some (evSP v0) := hb.cell 1
        gi_wp2
        refine bodyPost_ret (results_tmp2 rfl _ _ _) rfl ?_
        rw [← hg.out, show (Tr.node b k0 v0 l1 r1).list = l1.list ++ (k0, v0) :: r1.list from rfl, e1.out]
        exact ⟨rfl, hu⟩
      · skip
        obtain ⟨_, _, _, e1, _⟩ := node_gt hcmp.ord (l := l1.list) (r := r1.list) (x := (k0, v0)) hri' hs v0
        replace e1 := Lib.hid e1
        replace hg := Lib.hid hg
        replace hri := Lib.hid hri
        replace hri' := Lib.hid hri'
        replace hmu := Lib.hid hmu
        clear c1
        have c0 : wr.cell? ⟨rb, 0, none⟩ = some (.func cf ca cc) := hrb.cell 0
        have c1 : wr.cell? ⟨b, 0, none⟩ = some (ekSP k0) := hb.cell 0
        have hkk := Lib.hid (hcmp.call k k0 wr.drew)
        gi_wp2
        refine wpIn_eager [(0, true), (1, true), (2, true), (3, true), (4, true), (5, true), (6, true), (7, true), (8, true), (9, false), (10, true)] (fun V => V.cell? ⟨rb, 0, none⟩ = some (.func cf ca cc) ∧ V.cell? ⟨b, 0, none⟩ = some (ekSP k0)) (by kernel_rfl) (by kernel_rfl) ⟨c0, c1⟩ ?_
        refine wpE_fl rfl rfl (fun _ _ => rfl) ?_
        go_simp
        refine wpE_fl rfl rfl (fun _ _ => rfl) ?_
        go_simp
        refine wpE_fl (v := .pointer (some ⟨rb, 0, none⟩)) rfl rfl (fun W' h' => ?_) ?_
        · go_simp
        go_simp
        refine wpE_fl (v := .func cf ca cc) rfl rfl (fun W' h' => ?_) ?_
        · obtain ⟨h1, h2⟩ := h'; go_simp
        go_simp
        refine wpE_fl rfl rfl (fun _ _ => rfl) ?_
        go_simp
        refine wpE_fl rfl rfl (fun _ _ => rfl) ?_
        go_simp
        refine wpE_fl rfl rfl (fun _ _ => rfl) ?_
        go_simp
        refine wpE_fl (v := .pointer (some ⟨b, 0, none⟩)) rfl rfl (fun W' h' => ?_) ?_
        · go_simp
        go_simp
        refine wpE_fl (v := ekSP k0) rfl rfl (fun W' h' => ?_) ?_
        · obtain ⟨h1, h2⟩ := h'; go_simp
        go_simp
        refine wpE_ef rfl ?_
        go_simp
        gi_wp2_with ((with_reducible refine listV2 hkk.out ?_ ?_ ?_ ?_); rfl; rfl; rfl; rintro vv V ⟨rfl, hud⟩; (replace hud := (Upd.drew (fun _ => False) wr).trans' hud))
        clear hkk c0 c1
        replace hrb := hrb.upd hud id
        replace hb := hb.upd hud id
        replace hl := hl.upd hud (fun _ _ => id)
        replace hr := hr.upd hud (fun _ _ => id)
        refine ⟨⟨hrb.cell 0, hb.cell 0⟩, ?_⟩
        refine wpE_fl rfl rfl (fun _ _ => rfl) ?_
        go_simp
        refine wpE_nil ?_
        replace hu := hu.trans' hud
        have cn : V.cell? ⟨b, 3, none⟩ = some (.pointer r1.adr) := hb.cell 3
        have hs2 : ¬ c k k0 = 0 := by omega
        have hs3 : ¬ c k k0 < 0 := by omega
        have hmv := Lib.hid (Tr.manyAt_tr mk5SP hr)
        replace hl := Lib.hid hl
        replace hr := Lib.hid hr
        gi_wp2
        refine ⟨⟨r1, rfl, hr.out, q2, e1.out.symm.trans hg.out, hu, hrb⟩, ?_⟩
        rw [hmv.out, hmu.out]; simp only [Tr.many]; omega


end Go.Proofs.Ytgleiajmdbekiaa

/- The document's Buckets. -/
import Derived.Test.YtkjkpmeommfdgaaProg
import Derived.Test.YtkjkpmeommfdgaaBase
import Derived.Test.YtkjkpmeommfdgaaWvI
import Derived.Test.YtkjkpmeommfdgaaWvL
import Derived.Test.YtkjkpmeommfdgaaPbB
namespace Go.Proofs.Ytkjkpmeommfdgaa
open Go.RowKit Go.Shelf
attribute [local go_sem] Oper.semAt_some

theorem posOf_lt {x : Int} : ∀ {xs : List Int} {k : Nat}, k < posOf xs x → (hk : k < xs.length) → xs[k] < x
  | [], _, h, hk => by simp at hk
  | y :: ys, k, h, hk => by
    by_cases hy : y < x
    · have e : posOf (y :: ys) x = posOf ys x + 1 := by simp [posOf, hy]
      cases k with
      | zero => simpa using hy
      | succ k =>
        rw [e] at h
        have := posOf_lt (x := x) (xs := ys) (k := k) (by omega) (by simpa using hk)
        simpa using this
    · have e : posOf (y :: ys) x = 0 := by simp [posOf, hy]
      omega
theorem posOf_ge {xs : List Int} {x : Int} (h : posOf xs x < xs.length) : ¬ xs[posOf xs x] < x := by
  induction xs with
  | nil => simp at h
  | cons y ys ih =>
    by_cases hy : y < x
    · have e : posOf (y :: ys) x = posOf ys x + 1 := by simp [posOf, hy]
      have h' : posOf ys x < ys.length := by rw [e] at h; simpa using h
      have := ih h'
      simp only [e, List.getElem_cons_succ]
      exact this
    · have e : posOf (y :: ys) x = 0 := by simp [posOf, hy]
      simp only [e, List.getElem_cons_zero]
      exact hy
theorem bkOf_take {xs ls : List Int} {j : Nat} (hj : j < ls.length) : bkOf xs (ls.take (j + 1)) = bump (bkOf xs (ls.take j)) (posOf xs ls[j]) := by
  rw [List.take_succ_eq_append_getElem hj, bkOf, List.foldl_append]
  rfl

set_option maxRecDepth 100000 in
set_option maxHeartbeats 2000000 in
theorem bucketsRef_c {n : Nat} {A B : Option Addr} {ca cb : Nat} {xs ls : List Int} {w : World} (hr : Reads1 w A (xs.map (Value.int .i64))) (hr2 : Reads1 w B (ls.map (Value.int .i64))) (hl : xs.length ≤ 900) (hl2 : ls.length ≤ 1000) :
    CallsIn Fence.wide n Try.prog 51 #[.slice A xs.length ca, .slice B ls.length cb] w fun e w' => ∃ g, e = .returned (.slice (some ⟨g, 0, none⟩) (xs.length + 1) (xs.length + 1)) ∧
      Blk w' g ((bkOf xs ls).map (Value.int .i64)).toArray 3 ∧ w.heap.size ≤ g ∧ Upd (fun _ => False) w w' := by
  have hrd := fun (wr : World) (hu : Upd (fun _ => False) w wr) (i : Nat) (h : i < xs.length) => (hr.agree' (w' := wr) (hu.agree fun k hk => ⟨hr.lt' k hk, id⟩)) i (.int .i64 xs[i]) (by simp [h])
  have hrd2 := fun (wr : World) (hu : Upd (fun _ => False) w wr) (i : Nat) (h : i < ls.length) => (hr2.agree' (w' := wr) (hu.agree fun k hk => ⟨hr2.lt' k hk, id⟩)) i (.int .i64 ls[i]) (by simp [h])
  replace hrd := Lib.hid hrd
  replace hrd2 := Lib.hid hrd2
  clear hr hr2
  have hmk := make_run xs.length (by omega)
  refine callsIn_any (n := 0) (callsIn_of_wp Try.func51 rfl trivial ?_)
  simp only [Try.ntmps51, List.size_toArray, List.length_cons, List.length_nil, Nat.reduceAdd, Nat.reduceSub, Array.replicate_succ, Array.replicate_zero, List.push_toArray, List.append_toArray, List.nil_append, List.cons_append]
  gi_wp2
  gi_loopw [14] (fun i wr => ∃ j : Nat, j ≤ ls.length ∧ i = .int .i64 j ∧ Blk wr w.heap.size ((bkOf xs (ls.take j)).map (Value.int .i64)).toArray 3 ∧ Upd (fun _ => False) w wr) (fun i _ => ls.length - (intOf i).toNat)
  case atStart => exact ⟨0, Nat.zero_le _, rfl, by simpa [bkOf] using (Blk.new w ((List.replicate (xs.length + 1) (0 : Int)).map (Value.int .i64)).toArray 3), Upd.alloc _ _ _⟩
  case round =>
    obtain ⟨j, hj, rfl, hblk, hu⟩ := hrel
    clear hmk
    by_cases hlt : j < ls.length
    · have hwi : Within j (bkOf xs (ls.take j)) := by
        have := bk_within xs (ls.take j) _ 0 (bk0_within (xs.length + 1))
        rw [Nat.zero_add, List.length_take, Nat.min_eq_left hj] at this
        exact this
      have hlen := bkOf_len xs (ls.take j)
      have hpos := posOf_le xs ls[j]
      have htk := bkOf_take (xs := xs) hlt
      have hge := posOf_ge (xs := xs) (x := ls[j])
      have hltk := fun k (h : k < posOf xs ls[j]) (hk : k < xs.length) => posOf_lt h hk
      generalize hout : bkOf xs (ls.take j) = out at *
      clear hout
      have hps : posOf xs ls[j] < out.length := by omega
      have hw1 := hwi _ hps
      have harr := bump_arr hps
      rw [← htk] at harr
      obtain ⟨b, rfl, cb0⟩ := hrd2.out wr hu j hlt
      generalize hP : posOf xs ls[j] = P at *
      replace hrd2 := Lib.hid (fun V hV => hrd2.out V hV j hlt)
      replace htk := Lib.hid htk
      replace hge := Lib.hid hge
      replace hltk := Lib.hid hltk
      replace harr := Lib.hid harr
      replace hP := Lib.hid hP
      replace hwi := Lib.hid hwi
      clear cb0
      gi_wp2
      gi_loopw [7] (fun u wr => ∃ k : Nat, k ≤ P ∧ u = .int .i64 k ∧ Blk wr w.heap.size (out.map (Value.int .i64)).toArray 3 ∧ Upd (fun _ => False) w wr) (fun u _ => P - (intOf u).toNat)
      case atStart => exact ⟨0, Nat.zero_le _, rfl, hblk, hu⟩
      case round =>
        clear hblk hu
        obtain ⟨k, hk, rfl, hblk, hu⟩ := hrel
        replace hblk := hblk.upd (Upd.drew (fun _ => False) wr) id
        replace hu := hu.stepDrew
        have d2 : wr.drew.cell? ⟨w.heap.size, P, none⟩ = some (.int .i64 out[P]) := by rw [hblk.cell]; simp [hps]
        have d3 := hblk.frozen P
        have d4 := hblk.lt
        obtain ⟨b', eb, cb1⟩ := hrd2.out wr.drew hu
        obtain rfl := Option.some.inj eb
        by_cases hkP : k < P
        · have hkn : k < xs.length := by omega
          have hlt2 : xs[k] < ls[j] := hltk.out k hkP hkn
          obtain ⟨a, rfl, ca0⟩ := hrd.out wr.drew hu k hkn
          gi_wp2
          refine wpIn_eager [(0, true), (1, true), (2, true), (3, true), (4, true), (5, true), (6, true), (7, true), (8, true), (9, true), (10, true), (11, true), (12, true), (13, true), (14, true)] (fun V => V.cell? (a.add k) = some (.int .i64 xs[k]) ∧ V.cell? (b.add j) = some (.int .i64 ls[j])) (by kernel_rfl) (by kernel_rfl) ⟨ca0, cb1⟩ ?_
          generalize wr.drew = V at *
          refine wpE_fl rfl rfl (fun _ _ => rfl) ?_
          go_simp
          refine wpE_fl rfl rfl (fun _ _ => rfl) ?_
          go_simp
          refine wpE_fl (v := .int .i64 xs.length) rfl rfl (fun W' h' => ?_) ?_
          · go_simp
          go_simp
          refine wpE_fl (v := .bool true) rfl rfl (fun W' h' => ?_) ?_
          · first | (go_simp; omega) | go_simp
          go_simp
          refine wpE_fl rfl rfl (fun _ _ => rfl) ?_
          go_simp
          refine wpE_fl rfl rfl (fun _ _ => rfl) ?_
          go_simp
          refine wpE_fl rfl rfl (fun _ _ => rfl) ?_
          go_simp
          refine wpE_fl (v := .pointer (some (a.add k))) rfl rfl (fun W' h' => ?_) ?_
          · go_simp
          go_simp
          refine wpE_fl (v := .int .i64 xs[k]) rfl rfl (fun W' h' => ?_) ?_
          · obtain ⟨h1, h2⟩ := h'; go_simp
          go_simp
          refine wpE_fl rfl rfl (fun _ _ => rfl) ?_
          go_simp
          refine wpE_fl rfl rfl (fun _ _ => rfl) ?_
          go_simp
          refine wpE_fl (v := .pointer (some (b.add j))) rfl rfl (fun W' h' => ?_) ?_
          · go_simp
          go_simp
          refine wpE_fl (v := .int .i64 ls[j]) rfl rfl (fun W' h' => ?_) ?_
          · obtain ⟨h1, h2⟩ := h'; go_simp
          go_simp
          refine wpE_fl (v := .bool true) rfl rfl (fun W' h' => ?_) ?_
          · go_simp
          go_simp
          refine wpE_fl (v := .bool true) rfl rfl (fun W' h' => ?_) ?_
          · go_simp
          go_simp
          refine wpE_nil ?_
          gi_wp2
          exact ⟨⟨k + 1, by omega, by go_num, hblk, hu⟩, by simp [intOf]; omega⟩
        · obtain rfl : k = P := by omega
          by_cases hkn : k < xs.length
          · have hlt2 : ¬ xs[k] < ls[j] := by have := hge.out hkn; omega
            obtain ⟨a, rfl, ca0⟩ := hrd.out wr.drew hu k hkn
            gi_wp2
            refine wpIn_eager [(0, true), (1, true), (2, true), (3, true), (4, true), (5, true), (6, true), (7, true), (8, true), (9, true), (10, true), (11, true), (12, true), (13, true), (14, true)] (fun V => V.cell? (a.add k) = some (.int .i64 xs[k]) ∧ V.cell? (b.add j) = some (.int .i64 ls[j])) (by kernel_rfl) (by kernel_rfl) ⟨ca0, cb1⟩ ?_
            generalize wr.drew = V at *
            refine wpE_fl rfl rfl (fun _ _ => rfl) ?_
            go_simp
            refine wpE_fl rfl rfl (fun _ _ => rfl) ?_
            go_simp
            refine wpE_fl (v := .int .i64 xs.length) rfl rfl (fun W' h' => ?_) ?_
            · go_simp
            go_simp
            refine wpE_fl (v := .bool true) rfl rfl (fun W' h' => ?_) ?_
            · first | (go_simp; omega) | go_simp
            go_simp
            refine wpE_fl rfl rfl (fun _ _ => rfl) ?_
            go_simp
            refine wpE_fl rfl rfl (fun _ _ => rfl) ?_
            go_simp
            refine wpE_fl rfl rfl (fun _ _ => rfl) ?_
            go_simp
            refine wpE_fl (v := .pointer (some (a.add k))) rfl rfl (fun W' h' => ?_) ?_
            · go_simp
            go_simp
            refine wpE_fl (v := .int .i64 xs[k]) rfl rfl (fun W' h' => ?_) ?_
            · obtain ⟨h1, h2⟩ := h'; go_simp
            go_simp
            refine wpE_fl rfl rfl (fun _ _ => rfl) ?_
            go_simp
            refine wpE_fl rfl rfl (fun _ _ => rfl) ?_
            go_simp
            refine wpE_fl (v := .pointer (some (b.add j))) rfl rfl (fun W' h' => ?_) ?_
            · go_simp
            go_simp
            refine wpE_fl (v := .int .i64 ls[j]) rfl rfl (fun W' h' => ?_) ?_
            · obtain ⟨h1, h2⟩ := h'; go_simp
            go_simp
            refine wpE_fl (v := .bool false) rfl rfl (fun W' h' => ?_) ?_
            · go_simp
            go_simp
            refine wpE_fl (v := .bool false) rfl rfl (fun W' h' => ?_) ?_
            · go_simp
            go_simp
            refine wpE_nil ?_
            gi_wp2
            have hs := hblk.set k (.int .i64 (out[k] + 1))
            rw [harr.out] at hs
            exact ⟨⟨j + 1, by omega, by go_num, hs, hu.stepSet (.inr (Nat.le_refl _)) _⟩, by simp [intOf]; omega⟩
          · gi_wp2
            refine wpIn_eager [(0, true), (1, true), (2, true), (3, true), (4, true), (5, true), (6, true), (7, true), (8, true), (9, true), (10, true), (11, true), (12, true), (13, true), (14, true)] (fun V => True) (by kernel_rfl) (by kernel_rfl) trivial ?_
            generalize wr.drew = V at *
            refine wpE_fl rfl rfl (fun _ _ => rfl) ?_
            go_simp
            refine wpE_fl rfl rfl (fun _ _ => rfl) ?_
            go_simp
            refine wpE_fl (v := .int .i64 xs.length) rfl rfl (fun W' h' => ?_) ?_
            · go_simp
            go_simp
            refine wpE_fl (v := .bool false) rfl rfl (fun W' h' => ?_) ?_
            · first | (go_simp; omega) | go_simp
            go_simp
            refine wpE_fl rfl rfl (fun _ _ => rfl) ?_
            go_simp
            iterate 9 (refine wpE_sk rfl rfl ?_; go_simp)
            refine wpE_fl (v := .bool false) rfl rfl (fun W' h' => ?_) ?_
            · go_simp
            go_simp
            refine wpE_nil ?_
            gi_wp2
            have hs := hblk.set k (.int .i64 (out[k] + 1))
            rw [harr.out] at hs
            exact ⟨⟨j + 1, by omega, by go_num, hs, hu.stepSet (.inr (Nat.le_refl _)) _⟩, by simp [intOf]; omega⟩
    · gi_wp2
      refine bodyPost_ret (results_tmp rfl _ _ _) rfl ⟨_, rfl, ?_, Nat.le_refl _, hu⟩
      rwa [List.take_of_length_le (by omega)] at hblk
end Go.Proofs.Ytkjkpmeommfdgaa

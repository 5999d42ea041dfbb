/- The document's Chunks and Groups. -/
import Derived.Test.YtkjkpmeommfdgaaProg
import Derived.Test.YtkjkpmeommfdgaaBase
import Derived.Test.YtkjkpmeommfdgaaApp
import Derived.Test.YtkjkpmeommfdgaaWvI
import Derived.Test.YtkjkpmeommfdgaaWvL
import Derived.Test.YtkjkpmeommfdgaaWvC
import Derived.Test.YtkjkpmeommfdgaaWvA
import Derived.Test.YtkjkpmeommfdgaaWvH
import Derived.Test.YtkjkpmeommfdgaaWvSH
import Derived.Test.YtkjkpmeommfdgaaWvT2
import Derived.Test.YtkjkpmeommfdgaaWvGr
import Derived.Test.YtkjkpmeommfdgaaWvLs
namespace Go.Proofs.Ytkjkpmeommfdgaa
open Go.RowKit Go.Shelf
attribute [local go_sem] Oper.semAt_some if_max if_min

theorem chunk_go (N : Nat) (hN : 0 < N) : ∀ (ys l : List Int), l.length < N → outs (trChunk N) l ys ++ restOf (trSt (trChunk N) l ys).1 =
    if l.length + ys.length < N then restOf (l ++ ys) else (l ++ ys.take (N - l.length)) :: chunksOf N (ys.drop (N - l.length))
  | [], l, h => by simp [outs, trSt, h]
  | y :: ys, l, h => by
    have h1 : ¬ ((N : Int) < 1) := by omega
    by_cases hb : l.length + 1 < N
    · have hb' : (((l ++ [y]).length : Nat) : Int) < N := by rw [List.length_append]; simp; omega
      have ih := chunk_go N hN ys (l ++ [y]) (by simp; omega)
      have e1 : N - l.length = (N - (l ++ [y]).length) + 1 := by simp; omega
      simp only [outs, trSt, trChunk, if_pos hb', if_true, Option.toList, List.nil_append] at ih ⊢
      rw [ih, e1]
      simp only [List.take_succ_cons, List.drop_succ_cons, List.append_assoc, List.cons_append, List.nil_append, List.length_append, List.length_cons, List.length_nil]
      by_cases hc : l.length + (ys.length + 1) < N
      · rw [if_pos (by omega), if_pos (by omega)]
      · rw [if_neg (by omega), if_neg (by omega)]
    · have hb' : ¬ (((l ++ [y]).length : Nat) : Int) < N := by rw [List.length_append]; simp; omega
      have e1 : N - l.length = 1 := by omega
      simp only [outs, trSt, trChunk, if_neg hb', if_true, Option.toList, List.cons_append, List.nil_append]
      rw [if_neg (by simp; omega), e1]
      simp [chunksOf, h1]
theorem chunksOf_step {n : Int} {ys : List Int} (hn : 1 ≤ n) (hy : ys ≠ []) : chunksOf n ys = ys.take n.toNat :: chunksOf n (ys.drop n.toNat) := by
  obtain ⟨N, rfl⟩ : ∃ N : Nat, n = N := ⟨n.toNat, by omega⟩
  have h1 : ¬ ((N : Int) < 1) := by omega
  have h := chunk_go N (by omega) ys [] (by simp; omega)
  rw [Int.toNat_natCast]
  conv => lhs; rw [chunksOf, if_neg h1]
  rw [h]
  simp only [List.length_nil, Nat.zero_add, List.nil_append, Nat.sub_zero]
  by_cases hc : ys.length < N
  · rw [if_pos hc, restOf, if_neg hy, List.take_of_length_le (by omega), List.drop_eq_nil_of_le (by omega)]
    simp [chunksOf, outs, trSt, restOf]
  · rw [if_neg hc]
theorem chunksOf_nil {n : Int} : chunksOf n [] = [] := by
  unfold chunksOf
  split
  · rfl
  · simp [outs, trSt, restOf]

/-- A slice value that reads l, in the blocks of Dm. -/
def Sub (w : World) (Dm : Nat → Prop) (u : Value) (l : List Int) : Prop := ∃ A c, u = .slice A l.length c ∧ Reads1 w A (l.map (Value.int .i64)) ∧ ∀ k, blkOf' A l.length k → Dm k
/-- An own row of such slices. -/
def SubRow (w wr : World) (Dm : Nat → Prop) (v : Value) (ls : List (List Int)) : Prop :=
  ∃ vals, wr.ownsRow w.heap.size 22 1 v ls.length vals ∧ vals.length = ls.length ∧ (∀ (i : Nat) u l, vals[i]? = some u → ls[i]? = some l → Sub w Dm u l)
theorem SubRow.reads2 {w wr : World} {Dm : Nat → Prop} {v : Value} {ls : List (List Int)} (h : SubRow w wr Dm v ls) (hu : Upd (fun _ => False) w wr) (hD : ∀ k, Dm k → k < w.heap.size) :
    ∃ A c, v = .slice A ls.length c ∧ Reads2 (fun k => Dm k ∨ (w.heap.size ≤ k ∧ k < wr.heap.size)) wr A ls := by
  obtain ⟨vals, h1, h2, h3⟩ := h
  obtain ⟨A, c, rfl⟩ := own_shape h1
  obtain ⟨hr, hb⟩ := own_reads h1 h2.symm
  refine ⟨A, c, rfl, fun i l hl => ?_⟩
  have hi := (List.getElem?_eq_some_iff.1 hl).1
  obtain ⟨u, hv⟩ : ∃ u, vals[i]? = some u := ⟨vals[i]'(by omega), List.getElem?_eq_getElem (by omega)⟩
  obtain ⟨A', c', rfl, hr', hd⟩ := h3 i u l hv hl
  obtain ⟨ad, e, hc⟩ := hr i _ hv
  have hlt := hr.lt' ad.block ⟨by omega, ad, e, rfl⟩
  exact ⟨ad, A', c', e, .inr ⟨hb _ ⟨by omega, ad, e, rfl⟩, hlt⟩, hc, hr'.agree' (hu.agree fun k hk => ⟨hD k (hd k (by simpa using hk)), id⟩), fun k hk => .inl (hd k hk)⟩
theorem SubRow.snoc {w w' : World} {Dm : Nat → Prop} {v' : Value} {ls : List (List Int)} {vals : List Value} {u : Value} {l : List Int} (ho : w'.ownsRow w.heap.size 22 1 v' (ls.length + 1) (vals ++ [u])) (h2 : vals.length = ls.length)
    (h3 : ∀ (i : Nat) u l, vals[i]? = some u → ls[i]? = some l → Sub w Dm u l) (hs : Sub w Dm u l) : SubRow w w' Dm v' (ls ++ [l]) := by
  refine ⟨vals ++ [u], by rw [List.length_append]; exact ho, by simp [h2], fun i u' l' hu hl => ?_⟩
  by_cases hi : i < ls.length
  · rw [List.getElem?_append_left (by omega)] at hu hl
    exact h3 i u' l' hu hl
  · have he : i = ls.length := by
      have := (List.getElem?_eq_some_iff.1 hl).1
      simp at this
      omega
    subst he
    rw [List.getElem?_append_right (by omega)] at hu hl
    simp [h2] at hu hl
    subst hu hl
    exact hs
theorem reads_drop {w : World} {A : Option Addr} {xs : List Int} {k : Nat} (hr : Reads1 w A (xs.map (Value.int .i64))) : Reads1 w (A.map fun a => a.add k) ((xs.drop k).map (Value.int .i64)) := by
  intro i v hv
  rw [List.map_drop, List.getElem?_drop] at hv
  obtain ⟨ad, rfl, hc⟩ := hr _ v hv
  exact ⟨ad.add k, rfl, by rw [addr_add_add]; exact hc⟩
theorem blk_drop {A : Option Addr} {n m k : Nat} (h : m ≤ n) : ∀ j, blkOf' (A.map fun a => a.add k) m j → blkOf' A n j := by
  rintro j ⟨h0, ad, h1, h2⟩
  cases A with
  | none => simp at h1
  | some a =>
    obtain rfl := Option.some.inj h1
    exact ⟨by omega, a, rfl, by rw [h2, block_of_add]⟩
theorem blk_le {A : Option Addr} {n m : Nat} (h : m ≤ n) : ∀ j, blkOf' A m j → blkOf' A n j := fun _ ⟨h0, h1⟩ => ⟨by omega, h1⟩

set_option maxRecDepth 100000 in
set_option maxHeartbeats 2000000 in
theorem chunksRef_c {n : Nat} {A : Option Addr} {cap : Nat} {xs : List Int} {k : Int} {w : World} (hr : Reads1 w A (xs.map (Value.int .i64))) (hl : xs.length ≤ 900) (hc : xs.length ≤ cap) (hcm : cap ≤ maxLen) :
    CallsIn Fence.wide n Try.prog 34 #[.slice A xs.length cap, .int .i64 k] w fun e w' => ∃ v, e = .returned v ∧ SubRow w w' (blkOf' A xs.length) v (chunksOf k xs) ∧ Upd (fun _ => False) w w' := by
  unfold maxLen at hcm
  refine callsIn_any (n := 0) (callsIn_of_wp Try.func34 rfl trivial ?_)
  simp only [Try.ntmps34, List.size_toArray, List.length_cons, List.length_nil, Nat.reduceAdd, Nat.reduceSub, Array.replicate_succ, Array.replicate_zero, List.push_toArray, List.append_toArray, List.nil_append, List.cons_append]
  gi_wp2
  gi_loopw [0, 5] (fun s v wr => ∃ (p : Nat) (A' : Option Addr) (c : Nat) (ls : List (List Int)), p ≤ xs.length ∧ s = .slice A' (xs.length - p) c ∧ xs.length - p ≤ c ∧ c ≤ 9223372036854775807 ∧ Reads1 w A' ((xs.drop p).map (Value.int .i64)) ∧ (∀ j, blkOf' A' (xs.length - p) j → blkOf' A xs.length j) ∧
      SubRow w wr (blkOf' A xs.length) v ls ∧ ls.length ≤ p ∧ ls ++ chunksOf k (xs.drop p) = chunksOf k xs ∧ Upd (fun _ => False) w wr) (fun s _ _ => match s with | .slice _ m _ => m | _ => 0)
  case atStart => exact ⟨0, A, cap, [], Nat.zero_le _, rfl, by omega, by omega, hr, fun _ h => h, ⟨[], World.ownsRow_nil _ _ _ _, rfl, by simp⟩, Nat.zero_le _, by simp, Upd.refl _ _⟩
  case round =>
    obtain ⟨p, A', c, ls, hp, rfl, hpc, hc2, hrp, hbp, ⟨vals, ho, hv1, hv2⟩, hls, heq, hu⟩ := hrel
    by_cases hk : 1 ≤ k
    · by_cases hpl : p < xs.length
      · have hpl' : (0 : Int) < ((xs.length - p : Nat) : Int) := by omega
        gi_wp2_with ((with_reducible refine app1 und55 infoSl zSl le_24 ho hu.size ?_ ?_ ?_ ?_ ?_); omega; rfl; rfl; rfl; intro g cap' w' ho' hu' _ _)
        generalize hq : (min ((xs.length - p : Nat) : Int) k).toNat = q at *
        have hq1 : 1 ≤ q ∧ q ≤ xs.length - p ∧ (q = k.toNat ∨ (q = xs.length - p ∧ q ≤ k.toNat)) := by omega
        clear hq
        have hlen : ((xs.drop p).take q).length = q := by rw [List.length_take, List.length_drop]; omega
        have hrest : xs.length - p - q = xs.length - (p + q) := by omega
        have hne : xs.drop p ≠ [] := fun h => by have := congrArg List.length h; simp at this; omega
        have hcs : chunksOf k (xs.drop p) = (xs.drop p).take q :: chunksOf k (xs.drop (p + q)) := by
          rw [chunksOf_step hk hne, ← List.drop_drop]
          rcases hq1.2.2 with h | ⟨h, h'⟩
          · rw [h]
          · have h1 : (xs.drop p).length ≤ q := by rw [List.length_drop]; omega
            have h2 : (xs.drop p).length ≤ k.toNat := by omega
            rw [List.take_of_length_le h1, List.take_of_length_le h2, List.drop_eq_nil_of_le h1, List.drop_eq_nil_of_le h2]
        refine ⟨⟨p + q, (if c = q then A' else A'.map fun x => x.add q), c - q, ls ++ [(xs.drop p).take q], by omega, by rw [hrest], by omega, by omega, ?_, ?_, SubRow.snoc ho' hv1 hv2 ⟨A', _, by rw [hlen], hrp.prefix_of ((List.take_prefix _ _).map _), fun j hj => hbp j (blk_le (n := xs.length - p) (m := q) (by omega) j (by rw [hlen] at hj; exact hj))⟩, by simp; omega, ?_, hu.trans (M' := fun j => u5.ownBlock = some j) hu' (fun j hj => .inr (own_base ho j hj))⟩, by simp; omega⟩
        · split
          · rw [List.drop_eq_nil_of_le (by omega)]
            intro i v hv
            simp at hv
          · rw [← List.drop_drop]; exact reads_drop hrp
        · intro j hj
          split at hj
          · have := hj.1; omega
          · exact hbp j (blk_drop (by omega) j hj)
        · rw [List.append_assoc, ← heq, hcs]; rfl
      · gi_wp2
        have h0 : p = xs.length := by omega
        rw [h0, List.drop_length, chunksOf_nil, List.append_nil] at heq
        subst heq
        exact bodyPost_ret (results_tmp (t := 4) rfl _ _ _) rfl ⟨_, rfl, ⟨vals, ho, hv1, hv2⟩, hu⟩
    · gi_wp2
      have h0 : ∀ ys, chunksOf k ys = [] := fun ys => by rw [chunksOf, if_pos (by omega)]
      rw [h0, h0, List.append_nil] at heq
      subst heq
      refine bodyPost_ret (results_tmp (t := 4) rfl _ _ _) rfl ⟨_, rfl, ?_, hu⟩
      rw [h0]
      exact ⟨vals, ho, hv1, hv2⟩
/-- What is left, with a list begun. -/
def groupRest (same : Int → Int → Bool) (l xs : List Int) : List (List Int) := outs (trGroup same) l xs ++ restOf (trSt (trGroup same) l xs).1
theorem groupRest_nil (same : Int → Int → Bool) {l : List Int} (h : l ≠ []) : groupRest same l [] = [l] := by simp [groupRest, outs, trSt, restOf, h]
theorem groupRest_next {same : Int → Int → Bool} {l : List Int} {x : Int} {xs : List Int} (h : ∀ z, l.getLast? = some z → same z x = true) : groupRest same l (x :: xs) = groupRest same (l ++ [x]) xs := by
  have e : trGroup same l x = (l ++ [x], none, true) := by
    cases hl : l.getLast? with
    | none =>
      have : l = [] := by simpa using hl
      subst this
      rfl
    | some z => simp [trGroup, hl, h z hl]
  simp [groupRest, outs, trSt, e]
theorem groupRest_cut {same : Int → Int → Bool} {l : List Int} {z x : Int} {xs : List Int} (hz : l.getLast? = some z) (h : same z x = false) : groupRest same l (x :: xs) = l :: groupRest same [] (x :: xs) := by
  have e : trGroup same l x = ([x], some l, true) := by simp [trGroup, hz, h]
  rw [groupRest_next (l := []) (by simp)]
  simp [groupRest, outs, trSt, e]

abbrev sameMod (k a b : Int) : Bool := decide (a.tmod k = b.tmod k)

set_option maxRecDepth 100000 in
set_option maxHeartbeats 4000000 in
theorem groupsRef_c {n : Nat} {A : Option Addr} {cap : Nat} {xs : List Int} {k : Int} {w : World} (hr : Reads1 w A (xs.map (Value.int .i64))) (hl : xs.length ≤ 900) (hc : xs.length ≤ cap) (hcm : cap ≤ maxLen) (hk1 : 1 ≤ k) (hk2 : k ≤ 5) :
    CallsIn Fence.wide n Try.prog 36 #[.slice A xs.length cap, .int .i64 k] w fun e w' => ∃ v, e = .returned v ∧ SubRow w w' (blkOf' A xs.length) v (groupsOf (sameMod k) xs) ∧ Upd (fun _ => False) w w' := by
  unfold maxLen at hcm
  have hrd := fun (wr : World) (hu : Upd (fun _ => False) w wr) (i : Nat) (h : i < xs.length) => (hr.agree' (w' := wr) (hu.agree fun k hk => ⟨hr.lt' k hk, id⟩)) i (.int .i64 xs[i]) (by simp [h])
  replace hrd := Lib.hid hrd
  replace hr := Lib.hid hr
  refine callsIn_any (n := 0) (callsIn_of_wp Try.func36 rfl trivial ?_)
  simp only [Try.ntmps36, List.size_toArray, List.length_cons, List.length_nil, Nat.reduceAdd, Nat.reduceSub, Array.replicate_succ, Array.replicate_zero, List.push_toArray, List.append_toArray, List.nil_append, List.cons_append]
  gi_wp2
  gi_loopw [5, 6, 10] (fun v fr i wr => ∃ (j f : Nat) (cur : List Int) (ls : List (List Int)), j ≤ xs.length ∧ i = .int .i64 j ∧ fr = .int .i64 f ∧ xs.drop f = cur ++ xs.drop j ∧ f + cur.length = j ∧ (∀ z (h : j < xs.length), cur.getLast? = some z → sameMod k z xs[j] = true) ∧
      SubRow w wr (blkOf' A xs.length) v ls ∧ ls.length ≤ f ∧ (j < xs.length → ls ++ groupRest (sameMod k) cur (xs.drop j) = groupsOf (sameMod k) xs) ∧ (j = xs.length → ls = groupsOf (sameMod k) xs) ∧ Upd (fun _ => False) w wr) (fun _ _ i _ => xs.length - (intOf i).toNat)
  case atStart =>
    refine ⟨0, 0, [], [], Nat.zero_le _, rfl, rfl, by simp, rfl, by simp, ⟨[], World.ownsRow_nil _ _ _ _, rfl, by simp⟩, Nat.le_refl _, fun _ => rfl, fun h => ?_, Upd.refl _ _⟩
    have : xs = [] := List.eq_nil_of_length_eq_zero h.symm
    subst this
    rfl
  case round =>
    obtain ⟨j, f, cur, ls, hj, rfl, rfl, hcur, hfl, hlast, ⟨vals, ho, hv1, hv2⟩, hls, heq, heq2, hu⟩ := hrel
    by_cases hlt : j < xs.length
    · have hdj : xs.drop j = xs[j] :: xs.drop (j + 1) := List.drop_eq_getElem_cons hlt
      have hnext := groupRest_next (same := sameMod k) (l := cur) (x := xs[j]) (xs := xs.drop (j + 1)) (fun z hz => hlast z hlt hz)
      have heq := heq hlt
      rw [hdj, hnext] at heq
      have hseg : (xs.drop f).take (j + 1 - f) = cur ++ [xs[j]] := by
        have e1 : j + 1 - f = cur.length + 1 := by omega
        rw [hcur, hdj, e1, show cur ++ xs[j] :: xs.drop (j + 1) = (cur ++ [xs[j]]) ++ xs.drop (j + 1) by simp]
        exact List.take_left' (by simp)
      have hsl : (cur ++ [xs[j]]).length = j + 1 - f := by simp; omega
      have hlast2 : (cur ++ [xs[j]]).getLast? = some xs[j] := by simp
      have hcf : ¬ cap = f := by omega
      have hsub : Sub w (blkOf' A xs.length) (.slice (A.map fun a => a.add f) (j + 1 - f) (cap - f)) (cur ++ [xs[j]]) := by
        refine ⟨A.map fun a => a.add f, cap - f, by rw [hsl], ?_, fun q hq => ?_⟩
        · rw [← hseg]; exact (reads_drop hr.out).prefix_of ((List.take_prefix _ _).map _)
        · rw [hsl] at hq; exact blk_drop (by omega) q hq
      obtain ⟨a, rfl, c1⟩ := hrd.out wr.drew hu.stepDrew j hlt
      replace hu := hu.stepDrew
      have ho2 : wr.drew.ownsRow w.heap.size 22 1 u5 ls.length vals := own_agree ho (fun _ _ => rfl)
      have hsz := hu.size
      replace hsub := Lib.hid hsub
      replace hlast2 := Lib.hid hlast2
      replace heq := Lib.hid heq
      replace heq2 := Lib.hid heq2
      replace hv2 := Lib.hid hv2
      replace hv1 := Lib.hid hv1
      replace hnext := Lib.hid hnext
      replace hdj := Lib.hid hdj
      replace hcur := Lib.hid hcur
      clear hlast hseg ho
      by_cases hend : j + 1 = xs.length
      · have hend' : (j : Int) + 1 = xs.length := by omega
        have hw3 : IntKind.i64.wrap (xs.length : Int) = (xs.length : Int) := Go.IntWalk.i64_in _ ⟨by omega, by omega⟩
        gi_wp2
        refine wpIn_eager [(0, true), (1, true), (2, true), (3, true), (4, true), (5, true), (6, true), (7, true), (8, true), (9, true), (10, true), (11, true), (12, true), (13, true), (14, true), (15, true), (16, true), (17, true), (18, true), (19, true), (20, true)] (fun _ => True) (by kernel_rfl) (by kernel_rfl) trivial ?_
        generalize wr.drew = V at *
        refine wpE_fl rfl rfl (fun _ _ => rfl) ?_
        go_simp
        refine wpE_fl (v := .int .i64 ((j : Int) + 1)) rfl rfl (fun W' h' => ?_) ?_
        · go_simp
        go_simp
        refine wpE_fl rfl rfl (fun _ _ => rfl) ?_
        go_simp
        refine wpE_fl (v := .int .i64 xs.length) rfl rfl (fun W' h' => ?_) ?_
        · go_simp
        go_simp
        refine wpE_fl (v := .bool true) rfl rfl (fun W' h' => ?_) ?_
        · first | (go_simp; omega) | go_simp
        go_simp
        refine wpE_fl rfl rfl (fun _ _ => rfl) ?_
        go_simp
        iterate 14 (refine wpE_sk rfl rfl ?_; go_simp)
        refine wpE_fl (v := .bool true) rfl rfl (fun W' h' => ?_) ?_
        · go_simp
        go_simp
        refine wpE_nil ?_
        gi_wp2_with ((with_reducible refine app1 und55 infoSl zSl le_24 ho2 hsz ?_ ?_ ?_ ?_ ?_); omega; rfl; rfl; rfl; intro g cap' w' ho' hu' _ _)
        have hs := hsub.out
        rw [hend] at hs
        refine ⟨⟨j + 1, j + 1, [], ls ++ [cur ++ [xs[j]]], by omega, by rw [hend], by rw [hend], by simp, by simp, by simp, SubRow.snoc ho' hv1.out hv2.out hs, by simp; omega, fun h => by omega, fun _ => ?_, hu.trans (M' := fun q => u5.ownBlock = some q) hu' (fun q hq => .inr (own_base ho2 q hq))⟩, by simp [intOf]; omega⟩
        rw [← heq.out, List.drop_eq_nil_of_le (by omega), groupRest_nil _ (by simp)]
      · obtain ⟨a', ea, c2⟩ := hrd.out wr.drew hu (j + 1) (by omega)
        obtain rfl := Option.some.inj ea
        have hend' : ¬ (j : Int) + 1 = xs.length := by omega
        have hw1 : IntKind.i64.wrap ((j : Int) + 1) = (j : Int) + 1 := Go.IntWalk.i64_in _ ⟨by omega, by omega⟩
        have hb1 : (0 : Int) ≤ (j : Int) + 1 := by omega
        have hb2 : (j : Int) + 1 < xs.length := by omega
        have c3 : wr.drew.cell? ⟨a.block, a.off + (j + 1), none⟩ = some (.int .i64 xs[j + 1]) := by simpa [Addr.add] using c2
        have hj2 : j + 1 < xs.length := by omega
        by_cases hsm : xs[j].tmod k = xs[j + 1].tmod k
        · gi_wp2
          refine wpIn_eager [(0, true), (1, true), (2, true), (3, true), (4, true), (5, true), (6, true), (7, true), (8, true), (9, true), (10, true), (11, true), (12, true), (13, true), (14, true), (15, true), (16, true), (17, true), (18, true), (19, true), (20, true)] (fun V => V.cell? (a.add j) = some (.int .i64 xs[j]) ∧ V.cell? ⟨a.block, a.off + (j + 1), none⟩ = some (.int .i64 xs[j + 1])) (by kernel_rfl) (by kernel_rfl) ⟨c1, c3⟩ ?_
          generalize wr.drew = V at *
          refine wpE_fl rfl rfl (fun _ _ => rfl) ?_
          go_simp
          refine wpE_fl (v := .int .i64 ((j : Int) + 1)) rfl rfl (fun W' h' => ?_) ?_
          · go_simp
          go_simp
          refine wpE_fl rfl rfl (fun _ _ => rfl) ?_
          go_simp
          refine wpE_fl (v := .int .i64 xs.length) rfl rfl (fun W' h' => ?_) ?_
          · go_simp
          go_simp
          refine wpE_fl (v := .bool false) rfl rfl (fun W' h' => ?_) ?_
          · first | (go_simp; omega) | go_simp
          go_simp
          refine wpE_fl rfl rfl (fun _ _ => rfl) ?_
          go_simp
          refine wpE_fl rfl rfl (fun _ _ => rfl) ?_
          go_simp
          refine wpE_fl rfl rfl (fun _ _ => rfl) ?_
          go_simp
          refine wpE_fl (v := .pointer (some (a.add j))) rfl rfl (fun W' h' => ?_) ?_
          · go_simp
          go_simp
          refine wpE_fl (v := .int .i64 xs[j]) rfl rfl (fun W' h' => ?_) ?_
          · obtain ⟨h1, h2⟩ := h'; go_simp
          go_simp
          refine wpE_fl rfl rfl (fun _ _ => rfl) ?_
          go_simp
          refine wpE_fl (v := .int .i64 (xs[j].tmod k)) rfl rfl (fun W' h' => ?_) ?_
          · first | (go_simp; omega) | go_simp
          go_simp
          refine wpE_fl rfl rfl (fun _ _ => rfl) ?_
          go_simp
          refine wpE_fl rfl rfl (fun _ _ => rfl) ?_
          go_simp
          refine wpE_fl (v := .int .i64 ((j : Int) + 1)) rfl rfl (fun W' h' => ?_) ?_
          · go_simp
          go_simp
          refine wpE_fl (v := .pointer (some ⟨a.block, a.off + (j + 1), none⟩)) rfl rfl (fun W' h' => ?_) ?_
          · go_simp
          go_simp
          refine wpE_fl (v := .int .i64 xs[j + 1]) rfl rfl (fun W' h' => ?_) ?_
          · obtain ⟨h1, h2⟩ := h'; go_simp
          go_simp
          refine wpE_fl rfl rfl (fun _ _ => rfl) ?_
          go_simp
          refine wpE_fl (v := .int .i64 (xs[j + 1].tmod k)) rfl rfl (fun W' h' => ?_) ?_
          · first | (go_simp; omega) | go_simp
          go_simp
          refine wpE_fl (v := .bool false) rfl rfl (fun W' h' => ?_) ?_
          · go_simp
          go_simp
          refine wpE_fl (v := .bool false) rfl rfl (fun W' h' => ?_) ?_
          · go_simp
          go_simp
          refine wpE_nil ?_
          gi_wp2
          refine ⟨⟨j + 1, f, cur ++ [xs[j]], ls, by omega, by go_num, rfl, ?_, by simp; omega, ?_, ⟨vals, ho2, hv1.out, hv2.out⟩, by omega, fun _ => heq.out, fun h => by omega, hu⟩, by simp [intOf]; omega⟩
          · rw [hcur.out, hdj.out]; simp
          · intro z h hz
            rw [hlast2.out] at hz
            obtain rfl := Option.some.inj hz
            simpa [sameMod] using hsm
        · gi_wp2
          refine wpIn_eager [(0, true), (1, true), (2, true), (3, true), (4, true), (5, true), (6, true), (7, true), (8, true), (9, true), (10, true), (11, true), (12, true), (13, true), (14, true), (15, true), (16, true), (17, true), (18, true), (19, true), (20, true)] (fun V => V.cell? (a.add j) = some (.int .i64 xs[j]) ∧ V.cell? ⟨a.block, a.off + (j + 1), none⟩ = some (.int .i64 xs[j + 1])) (by kernel_rfl) (by kernel_rfl) ⟨c1, c3⟩ ?_
          generalize wr.drew = V at *
          refine wpE_fl rfl rfl (fun _ _ => rfl) ?_
          go_simp
          refine wpE_fl (v := .int .i64 ((j : Int) + 1)) rfl rfl (fun W' h' => ?_) ?_
          · go_simp
          go_simp
          refine wpE_fl rfl rfl (fun _ _ => rfl) ?_
          go_simp
          refine wpE_fl (v := .int .i64 xs.length) rfl rfl (fun W' h' => ?_) ?_
          · go_simp
          go_simp
          refine wpE_fl (v := .bool false) rfl rfl (fun W' h' => ?_) ?_
          · first | (go_simp; omega) | go_simp
          go_simp
          refine wpE_fl rfl rfl (fun _ _ => rfl) ?_
          go_simp
          refine wpE_fl rfl rfl (fun _ _ => rfl) ?_
          go_simp
          refine wpE_fl rfl rfl (fun _ _ => rfl) ?_
          go_simp
          refine wpE_fl (v := .pointer (some (a.add j))) rfl rfl (fun W' h' => ?_) ?_
          · go_simp
          go_simp
          refine wpE_fl (v := .int .i64 xs[j]) rfl rfl (fun W' h' => ?_) ?_
          · obtain ⟨h1, h2⟩ := h'; go_simp
          go_simp
          refine wpE_fl rfl rfl (fun _ _ => rfl) ?_
          go_simp
          refine wpE_fl (v := .int .i64 (xs[j].tmod k)) rfl rfl (fun W' h' => ?_) ?_
          · first | (go_simp; omega) | go_simp
          go_simp
          refine wpE_fl rfl rfl (fun _ _ => rfl) ?_
          go_simp
          refine wpE_fl rfl rfl (fun _ _ => rfl) ?_
          go_simp
          refine wpE_fl (v := .int .i64 ((j : Int) + 1)) rfl rfl (fun W' h' => ?_) ?_
          · go_simp
          go_simp
          refine wpE_fl (v := .pointer (some ⟨a.block, a.off + (j + 1), none⟩)) rfl rfl (fun W' h' => ?_) ?_
          · go_simp
          go_simp
          refine wpE_fl (v := .int .i64 xs[j + 1]) rfl rfl (fun W' h' => ?_) ?_
          · obtain ⟨h1, h2⟩ := h'; go_simp
          go_simp
          refine wpE_fl rfl rfl (fun _ _ => rfl) ?_
          go_simp
          refine wpE_fl (v := .int .i64 (xs[j + 1].tmod k)) rfl rfl (fun W' h' => ?_) ?_
          · first | (go_simp; omega) | go_simp
          go_simp
          refine wpE_fl (v := .bool true) rfl rfl (fun W' h' => ?_) ?_
          · first | (go_simp; exact hsm) | go_simp
          go_simp
          refine wpE_fl (v := .bool true) rfl rfl (fun W' h' => ?_) ?_
          · go_simp
          go_simp
          refine wpE_nil ?_
          gi_wp2_with ((with_reducible refine app1 und55 infoSl zSl le_24 ho2 hsz ?_ ?_ ?_ ?_ ?_); omega; rfl; rfl; rfl; intro g cap' w' ho' hu' _ _)
          have hseg2 : groupRest (sameMod k) (cur ++ [xs[j]]) (xs.drop (j + 1)) = (cur ++ [xs[j]]) :: groupRest (sameMod k) [] (xs.drop (j + 1)) := by
            rw [List.drop_eq_getElem_cons hj2]
            exact groupRest_cut hlast2.out (by simpa [sameMod] using hsm)
          refine ⟨⟨j + 1, j + 1, [], ls ++ [cur ++ [xs[j]]], by omega, by go_num, by go_num, by simp, by simp, by simp, SubRow.snoc ho' hv1.out hv2.out hsub.out, by simp; omega, fun _ => ?_, fun h => by omega, hu.trans (M' := fun q => u5.ownBlock = some q) hu' (fun q hq => .inr (own_base ho2 q hq))⟩, by simp [intOf]; omega⟩
          rw [List.append_assoc, ← heq.out, hseg2]
          rfl
    · gi_wp2
      have h0 : j = xs.length := by omega
      have := heq2 h0
      subst this
      exact bodyPost_ret (results_tmp (t := 4) rfl _ _ _) rfl ⟨_, rfl, ⟨vals, ho, hv1, hv2⟩, hu⟩
end Go.Proofs.Ytkjkpmeommfdgaa

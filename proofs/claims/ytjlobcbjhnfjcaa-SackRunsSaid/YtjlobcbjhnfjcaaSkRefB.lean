/- The document's things in a list: Drop. -/
import Derived.Test.YtjlobcbjhnfjcaaProg
import Derived.Test.YtjlobcbjhnfjcaaBase
import Derived.Test.YtjlobcbjhnfjcaaSkRef
namespace Go.Proofs.Ytjlobcbjhnfjcaa
open Go.RowKit Go.Shelf
attribute [local go_sem] Oper.semAt_some

def idxL (x : Int) (l : List Int) : Nat := l.findIdx fun y => y == x
theorem idxL_le (x : Int) (l : List Int) : idxL x l ≤ l.length := List.findIdx_le_length
theorem idxL_lt {x : Int} {l : List Int} {i : Nat} (h : i < l.length) (hi : i < idxL x l) : l[i] ≠ x := by
  have := List.not_of_lt_findIdx hi
  simpa using this
theorem idxL_at {x : Int} {l : List Int} (h : idxL x l < l.length) : l[idxL x l] = x := by
  have := List.findIdx_getElem (w := h)
  simp only [beq_iff_eq] at this
  exact this
/-- The document's: with one less. -/
def dropO (x : Int) (l : List Int) : List Int := l.eraseIdx (idxL x l)
theorem dropO_in {x : Int} {l : List Int} (h : idxL x l < l.length) : dropO x l = l.take (idxL x l) ++ l.drop (idxL x l + 1) := List.eraseIdx_eq_take_drop_succ ..
theorem dropO_no {x : Int} {l : List Int} (h : ¬ idxL x l < l.length) : dropO x l = l := List.eraseIdx_of_length_le (by omega)
theorem idx_iff {x : Int} {l : List Int} : idxL x l < l.length ↔ 0 < cnt cmpI x l := by
  rw [cnt_pos ordrI]
  unfold idxL
  rw [List.findIdx_lt_length]
  simp
theorem cnt_dropO {x : Int} {l : List Int} (h : 0 < cnt cmpI x l) (y : Int) : cnt cmpI y l = cnt cmpI y (dropO x l) + if cmpI y x = 0 then 1 else 0 := by
  have hi := idx_iff.2 h
  have e : l = l.take (idxL x l) ++ x :: l.drop (idxL x l + 1) := by
    have := List.drop_eq_getElem_cons hi
    rw [idxL_at hi] at this
    rw [← this, List.take_append_drop]
  rw [dropO_in hi, cnt_append]
  conv => lhs; rw [e]
  rw [cnt_append, cnt_cons]; omega
theorem srt_dropO {x : Int} {l : List Int} (h : Srt cmpI l) : Srt cmpI (dropO x l) := List.Pairwise.sublist (List.eraseIdx_sublist _ _) h

set_option maxRecDepth 100000 in
set_option maxHeartbeats 4000000 in
theorem drop06_c {n : Nat} {l : List Int} {A : Option Addr} {cap : Nat} {x : Int} {w : World} (hr : Reads1 w A (intsV l)) (hcap : l.length ≤ cap) (hl : l.length ≤ 100000) :
    CallsIn Fence.wide n Try.prog 18 #[.slice A l.length cap, .int .i64 x] w fun e w' => ∃ A' cap', e = .returned (.slice A' (dropO x l).length cap') ∧ (dropO x l).length ≤ cap' ∧ Reads1 w' A' (intsV (dropO x l)) ∧ (∀ j, blkOf A' j → blkOf A j ∨ (w.heap.size ≤ j ∧ j < w'.heap.size)) ∧ Upd (fun _ => False) w w' := by
  have hrw := fun W (h : Upd (fun _ => False) w W) => hr.agree' (w' := W) (h.agree fun j hj => ⟨hr.lt' j hj, id⟩)
  refine callsIn_any (n := 0) (callsIn_of_wp Try.func18 rfl trivial ?_)
  simp only [Try.ntmps18, List.size_toArray, List.length_cons, List.length_nil, Nat.reduceAdd, Nat.reduceSub, Array.replicate_succ, Array.replicate_zero, List.push_toArray, List.append_toArray, List.nil_append, List.cons_append]
  gi_wp2
  gi_loopw [8] (fun i wr => wr = w ∧ ∃ k : Nat, i = .int .i64 k ∧ k ≤ idxL x l) (fun i _ => l.length - (intOf i).toNat)
  case atStart => exact ⟨rfl, 0, rfl, Nat.zero_le _⟩
  case round =>
    obtain ⟨rfl, k, rfl, hk⟩ := hrel
    have hle := idxL_le x l
    by_cases hlt2 : k < l.length
    · obtain ⟨ad, hA, c0⟩ := hr k _ (intsV_get l k hlt2)
      by_cases hlt : k < idxL x l
      · have hw1 : IntKind.i64.wrap ((k : Int) + 1) = (k : Int) + 1 := Go.IntWalk.i64_in _ ⟨by omega, by omega⟩
        have hb : (l[k] == x) = false := by simpa using idxL_lt hlt2 hlt
        clear hr hrw
        subst hA
        generalize l[k] = y at *
        gi_wp2_with (first | refine (⟨trivial, rfl, ?_⟩ : Fence.wide.fn _ ∧ Fence.wide.depth = none ∧ _) | refine (⟨trivial, ?_⟩ : Fence.wide.fn _ ∧ _))
        exact ⟨⟨by trivial, k + 1, by go_num, by omega⟩, by simp [intOf]; omega⟩
      · have hku : idxL x l = k := by omega
        have hb : l[k] = x := by
          have := idxL_at (x := x) (l := l) (by omega)
          simpa only [hku] using this
        rw [hb] at c0
        have hd := dropO_in (x := x) (l := l) (by omega)
        rw [hku] at hd
        have u2 := Lib.hid ((Upd.drew (fun _ => False) wr).stepAlloc (.cells #[] 3))
        have hw1 : IntKind.i64.wrap ((k : Int) + 1) = (k : Int) + 1 := Go.IntWalk.i64_in _ ⟨by omega, by omega⟩
        obtain ⟨r1, r2⟩ := run_to (m := l.length) (A := A) Try.underlying22 infoElI (show k ≤ cap by omega)
        obtain ⟨A1, c1, r3, r4, hc1, hA1, hB1⟩ := run_from (k := k + 1) (A := A) Try.underlying22 infoElI hcap (by omega)
        push_cast at r3 r4
        replace hA1 := Lib.hid hA1
        clear hB1
        obtain ⟨V1, hV⟩ : ∃ V1, wr.drew = V1 := ⟨_, rfl⟩
        rw [hV] at u2
        replace hku := Lib.hid hku
        replace hd := Lib.hid hd
        replace hrw := Lib.hid hrw
        clear hr hb
        subst hA
        gi_wp2_with (first | refine (⟨trivial, rfl, ?_⟩ : Fence.wide.fn _ ∧ Fence.wide.depth = none ∧ _) | refine (⟨trivial, ?_⟩ : Fence.wide.fn _ ∧ _))
        refine wpIn_eager [(1, true), (2, true), (3, true), (5, true), (6, true), (7, true), (8, true), (0, false), (4, false), (9, false), (10, true)] (fun _ => True) (by kernel_rfl) (by kernel_rfl) trivial ?_
        repeat (first | (refine wpE_fl rfl rfl (fun _ _ => rfl) ?_; go_simp) | (refine wpE_sk rfl rfl ?_; go_simp) | (refine wpE_fl (v := ?_) rfl rfl ?_ ?_; rotate_left; (intro W' h'; (try dsimp only at h'); go_simp; exact rfl); go_simp) | (refine wpE_ef rfl ?_; go_simp; gi_wp2_with (first | refine (⟨trivial, rfl, ?_⟩ : Fence.wide.fn _ ∧ Fence.wide.depth = none ∧ _) | refine (⟨trivial, trivial, rfl, ?_⟩ : Fence.wide.fn _ ∧ Fence.wide.fn _ ∧ Fence.wide.depth = none ∧ _) | ((with_reducible refine appS (A := _) (m := k) (c := cap) Try.underlying22 infoElI rfl (by omega) (by omega) (own_emptyS V1 _ 1) ?_ ?_ ?_ ?_ ?_ (reads_take (k := k) (hrw.out _ u2.out)) ?_ ?_); rfl; rfl; (focus ((try simp); (try omega))); (rw [List.length_take, intsV_len]; omega); omega; exact (fun u hu => ints_one _ u (List.mem_of_mem_take hu)); intro v3 W3 h3 g3 e3; have hVs : V1.heap.size = wr.heap.size := (by rw [← hV]; rfl); (simp only [Nat.zero_add, List.nil_append] at h3); have u3 := u2.out.trans g3 (fun j hj => .inr (by simp [Value.ownBlock] at hj; omega)); have z3 := g3.size; (simp only [World.size_alloc] at z3); (replace u3 := Lib.hid u3); (replace h3 := Lib.hid h3); clear g3 e3 hVs) | ((with_reducible refine appS (A := A1) (m := l.length - (k + 1)) (c := c1) Try.underlying22 infoElI rfl (by omega) (by omega) h3.out ?_ ?_ ?_ ?_ ?_ (hA1.out _ _ (hrw.out _ u3.out) (intsV_len1 l)) ?_ ?_); rfl; rfl; (focus ((try simp); (try omega))); (rw [List.length_drop, intsV_len]; omega); omega; exact (fun u hu => ints_one _ u (List.mem_of_mem_drop hu)); intro v5 W5 h5 g5 e5; have hVs : V1.heap.size = wr.heap.size := (by rw [← hV]; rfl); have u5 := u3.out.trans g5 (fun j hj => .inr (by have := own_ge h3.out j hj; omega)); have hge5 : (∀ j, v5.ownBlock = some j → wr.heap.size ≤ j ∧ j < W5.heap.size) := (fun j hj => by have := h5.lt j hj; omega); (replace u5 := Lib.hid u5); (replace h5 := Lib.hid h5); (replace hge5 := Lib.hid hge5); clear g5 e5 hVs) | refine (⟨trivial, ?_⟩ : Fence.wide.fn _ ∧ _)); (first | refine ⟨by first | exact trivial, ?_⟩ | skip)))
        refine wpE_nil ?_
        gi_wp2
        go_ret
        obtain ⟨A5, cap5, rfl, hn5, hr5, _, hb5⟩ := own_readsS h5.out
        have hlen : (dropO x l).length = k + (l.length - (k + 1)) := by rw [hd.out]; simp; omega
        have hfl : intsV (dropO x l) = List.take k (intsV l) ++ List.drop (k + 1) (intsV l) := by rw [hd.out]; simp [intsV]
        rw [hlen, hfl]
        exact ⟨A5, cap5, rfl, hn5, by simpa using hr5, fun j hj => .inr (hge5.out j (hb5 j hj)), u5.out⟩
    · obtain rfl : k = l.length := by omega
      have hd := Lib.hid (dropO_no (x := x) (l := l) (by omega))
      have hr' := Lib.hid hr
      clear hr hrw
      gi_wp2_with (first | refine (⟨trivial, rfl, ?_⟩ : Fence.wide.fn _ ∧ Fence.wide.depth = none ∧ _) | refine (⟨trivial, ?_⟩ : Fence.wide.fn _ ∧ _))
      go_ret
      rw [hd.out]
      exact ⟨A, cap, rfl, hcap, hr'.out, fun j hj => .inl hj, Upd.refl _ _⟩
end Go.Proofs.Ytjlobcbjhnfjcaa

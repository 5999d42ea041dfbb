/- seen: a source's numbers as a sequence. -/
import Derived.Test.YtgleiajmdbekiaaProg
import Derived.Test.YtgleiajmdbekiaaBase
import Derived.Test.YtgleiajmdbekiaaSeC
import Derived.Test.YtgleiajmdbekiaaEach
import Derived.Test.YtgleiajmdbekiaaSkIC
import Derived.Test.YtgleiajmdbekiaaRkIBF
namespace Go.Proofs.Ytgleiajmdbekiaa
open Go.RowKit Go.Shelf
attribute [local go_sem] Oper.semAt_some

abbrev trN (x : KIB × VIB) : Option Int × Bool := (some x.1, true)
theorem outs_trN : ∀ (s : List Int), outsE trN (tru s) = s
  | [] => rfl
  | x :: s => by
    have := outs_trN s
    simp only [tru, List.map_cons, outsE, trN, Option.toList_some, if_true, List.cons_append, List.nil_append] at this ⊢
    rw [this]
def seqsOf (k : ByteArray) (es : Ents) : List Int := match getL cmpS k es with
  | none => []
  | some (_, _, s) => s
section
variable {sb : Nat} {es : Ents} {F : Nat → Prop} {W w : World}
theorem seenAll_c {n : Nat} {k : ByteArray} : CallsIn Fence.wide n Try.prog 18 #[.pointer (some ⟨sb, 0, none⟩), .string k] W fun e W2 => ∃ bs bn, e = .returned (.func (.func 37) #[] #[.pointer (some ⟨bs, 0, none⟩), .pointer (some ⟨bn, 0, none⟩)]) ∧
    Blk W2 bs #[.pointer (some ⟨sb, 0, none⟩)] 23 ∧ Blk W2 bn #[.string k] 9 ∧ (W.heap.size ≤ bs ∧ W.heap.size ≤ bn) ∧ Upd (fun _ => False) W W2 := by
  refine callsIn_any (n := 0) (callsIn_of_wp Try.func18 rfl trivial ?_)
  simp only [Try.ntmps18, List.size_toArray, List.length_cons, List.length_nil, Nat.reduceAdd, Nat.reduceSub, Array.replicate_succ, Array.replicate_zero, List.push_toArray, List.append_toArray, List.nil_append, List.cons_append]
  gi_wp2_with (first | refine (⟨trivial, rfl, ?_⟩ : Fence.wide.fn _ ∧ Fence.wide.depth = none ∧ _) | refine (⟨trivial, ?_⟩ : Fence.wide.fn _ ∧ _))
  go_ret
  exact ⟨_, _, rfl, (Blk.new _ _ _).alloc _, Blk.new' (by simp), ⟨Nat.le_refl _, by simp⟩, (Upd.alloc _ _ _).stepAlloc _⟩
set_option maxRecDepth 100000 in
set_option maxHeartbeats 4000000 in
theorem allSeen (h : SeenI sb es F w) {k : ByteArray} {bs bn : Nat} (hbs : Blk w bs #[.pointer (some ⟨sb, 0, none⟩)] 23) (hbn : Blk w bn #[.string k] 9) :
    SeqO Try.prog (.func (.func 37) #[] #[.pointer (some ⟨bs, 0, none⟩), .pointer (some ⟨bn, 0, none⟩)]) enc1I ((seqsOf k es).map fun x => ((), x)) () () (fun _ _ => True) (fun _ => False) (fun j => j = bs ∨ j = bn ∨ F j) w where
  fn := ⟨_, _, rfl⟩
  dlt := by
    rintro j (rfl | rfl | hj)
    · exact ⟨hbs.lt, id⟩
    · exact ⟨hbn.lt, id⟩
    · exact ⟨h.lt j hj, id⟩
  elt := fun _ h => h.elim
  stable := fun _ _ _ _ _ => trivial
  run := by
    intro σ step Rep y s S W hx _
    have ee : ((seqsOf k es).map fun x => ((), x)).map (·.2) = seqsOf k es := by simp [Function.comp_def]
    rw [ee] at hx ⊢
    refine CallV.of_calls (n := 0) (enters_of Try.func37 (by kernel_rfl) rfl) ?_
    obtain ⟨yf, ya, yc, rfl⟩ := hx.shape
    have hag := hx.agree
    have hW := h.agree (hag.mono fun j hj => .inr (.inr hj))
    have nbs := hbs.agree hag (.inl rfl)
    have nbn := hbn.agree hag (.inr (.inl rfl))
    have hDW : ∀ j, (j = bs ∨ j = bn ∨ F j) → j < W.heap.size := by
      rintro j (rfl | rfl | hj)
      · exact nbs.lt
      · exact nbn.lt
      · exact hW.lt j hj
    have hown := hx.own
    have hu0 : Upd (fun _ => False) W (W.alloc (.cells #[.func yf ya yc] 52)).drew := (Upd.alloc _ _ _).stepDrew
    have hy0 := (Blk.new W #[.func yf ya yc] 52).upd (Upd.drew (fun _ => False) _) id
    have c0 := (nbs.upd hu0 id).cell0
    have c1 := (nbn.upd hu0 id).cell0
    have hW1 := hW.upd hu0 fun _ _ => id
    obtain ⟨rb, t, G, h1, h2, h3, h4, h5⟩ := id hW1
    have c2 : (W.alloc (.cells #[.func yf ya yc] 52)).drew.cell? ⟨sb, 0, none⟩ = some (.pointer (some ⟨rb, 0, none⟩)) := h1.cell 0
    have k1 := rackGetSP (n := 0) h2 cmpV_strings k
    have hhold := Lib.hid fun V (u : Upd (fun _ => False) (W.alloc (.cells #[.func yf ya yc] 52)).drew V) => show V.cell? ⟨bs, 0, none⟩ = some (.pointer (some ⟨sb, 0, none⟩)) ∧ V.cell? ⟨bn, 0, none⟩ = some (.string k) ∧ V.cell? ⟨sb, 0, none⟩ = some (.pointer (some ⟨rb, 0, none⟩)) from
      ⟨((nbs.upd hu0 id).upd u id).cell 0, ((nbn.upd hu0 id).upd u id).cell 0, (h1.upd u id).cell 0⟩
    cases hg : getL cmpS k es with
    | none =>
      have e1 : seqsOf k es = [] := by simp [seqsOf, hg]
      rw [e1]
      have k1 := k1.mono (R' := fun e W2 => e = .returned (.tuple #[.pointer none, .bool false]) ∧ Upd (fun _ => False) (W.alloc (.cells #[.func yf ya yc] 52)).drew W2) (by
        rintro e W2 ⟨rfl, u⟩
        refine ⟨?_, u⟩
        rw [mapV_get, hg]; rfl)
      have hend := Lib.hid fun V (u : Upd (fun _ => False) W V) => show RunEnd Rep (goF step s ([] : List Int)).1 (fun _ => True) S (fun _ => False) W (.tuple #[]) V from
        ⟨S, hx.stab _ _ _ _ hx.rep (u.agree fun j hj => ⟨(hx.own j hj).1, id⟩) u.size, trivial, u.mono fun _ _ h => h.elim, fun j hj => ⟨by have := (hx.own j hj).1; have := u.size; omega, .inl hj⟩⟩
      replace k1 := Lib.hid k1
      replace hu0 := Lib.hid hu0
      clear hx h hW hW1 hbs hbn h1 h2 h3 h4 h5 ee
      refine callsIn_of_wp_marks Try.func37 rfl trivial ?_
      simp only [Try.ntmps37, List.size_toArray, List.length_cons, List.length_nil, Nat.reduceAdd, Nat.reduceSub, Array.replicate_succ, Array.replicate_zero, List.push_toArray, List.append_toArray, List.nil_append, List.cons_append]
      gi_wp2
      refine wpIn_eager [(0, true), (1, true), (2, true), (3, true), (4, true), (5, false), (6, true), (7, true), (8, true), (9, true), (10, true)] (fun V => V.cell? ⟨bs, 0, none⟩ = some (.pointer (some ⟨sb, 0, none⟩)) ∧ V.cell? ⟨bn, 0, none⟩ = some (.string k) ∧ V.cell? ⟨sb, 0, none⟩ = some (.pointer (some ⟨rb, 0, none⟩))) (by kernel_rfl) (by kernel_rfl) (hhold.out _ (Upd.refl _ _)) ?_
      repeat (first | (refine wpE_fl rfl rfl (fun _ _ => rfl) ?_; go_simp) | (refine wpE_sk rfl rfl ?_; go_simp) | (refine wpE_fl (v := ?_) rfl rfl ?_ ?_; rotate_left; (intro W' h'; (try dsimp only at h'); go_simp; exact rfl); go_simp) | (refine wpE_ef rfl ?_; go_simp; gi_wp2_with (first | refine (⟨trivial, rfl, ?_⟩ : Fence.wide.fn _ ∧ Fence.wide.depth = none ∧ _) | refine (⟨trivial, trivial, rfl, ?_⟩ : Fence.wide.fn _ ∧ Fence.wide.fn _ ∧ Fence.wide.depth = none ∧ _) | (gi_at_call 38; (with_reducible refine k1.out.mono ?_); rintro e W2 ⟨rfl, u2⟩; (skip)) | refine (⟨trivial, ?_⟩ : Fence.wide.fn _ ∧ _)); (first | refine ⟨by first | exact (hhold.out _ u2), ?_⟩ | skip)))
      refine wpE_nil ?_
      gi_wp2
      exact ⟨_, results_none rfl _ _ _, ⟨_, rfl, hend.out _ (hu0.out.trans' u2)⟩⟩
    | some y =>
      obtain ⟨cb, f, q⟩ := y
      have e1 : seqsOf k es = q := by simp [seqsOf, hg]
      rw [e1] at hx ⊢
      obtain ⟨qb, tq, g1, g2, g3, g4⟩ := h3 _ (get_mem ordrS hg)
      have hGF : ∀ j, G cb j → F j := fun j hj => (h4 j).2 (.inr (.inr (.inr ⟨_, get_mem ordrS hg, hj⟩)))
      have k1 := k1.mono (R' := fun e W2 => e = .returned (.tuple #[.pointer (some ⟨cb, 0, none⟩), .bool true]) ∧ Upd (fun _ => False) (W.alloc (.cells #[.func yf ya yc] 52)).drew W2 ∧ W2.cell? ⟨cb, 1, none⟩ = some (.pointer (some ⟨qb, 0, none⟩)) ∧
          CallsIn Fence.wide 0 Try.prog 39 #[.pointer (some ⟨qb, 0, none⟩)] W2 fun e W3 => ∃ br, e = .returned (.func (.func 59) #[] #[.pointer (some ⟨br, 0, none⟩)]) ∧ W.heap.size < br ∧ br < W3.heap.size ∧ Upd (fun _ => False) W W3 ∧ Blk W3 W.heap.size #[.func yf ya yc] 52 ∧
            SeqO Try.prog (.func (.func 59) #[] #[.pointer (some ⟨br, 0, none⟩)]) encIB ((tru q).map fun x => ((), x)) () () (fun _ _ => True) (fun _ => False) (fun j => j = br ∨ j = qb ∨ tq.has j) W3) (by
        rintro e W2 ⟨rfl, u⟩
        have u2 := hu0.trans' u
        refine ⟨?_, u, (g1.upd u id).cell 1, (rackAllIB (n := 0) (rb := qb) (w := W2)).mono ?_⟩
        · rw [mapV_get, hg]; rfl
        · rintro e W3 ⟨br, rfl, q1, q2, q3⟩
          have hz1 := hy0.lt
          have hz2 := u.size
          exact ⟨br, rfl, by omega, q1.lt, u2.trans' q3, (hy0.upd u id).upd q3 id, allSeqIB (g2.upd (u.trans' q3) fun _ _ => id) q1⟩)
      have hDq : ∀ j, (j = qb ∨ tq.has j) → F j := fun j hj => hGF j ((g3 j).2 (.inr hj))
      replace k1 := Lib.hid k1
      replace hu0 := Lib.hid hu0
      clear h hW hW1 hbs hbn h1 h2 h3 h4 h5 ee g1 g2 g3 g4
      refine callsIn_of_wp_marks Try.func37 rfl trivial ?_
      simp only [Try.ntmps37, List.size_toArray, List.length_cons, List.length_nil, Nat.reduceAdd, Nat.reduceSub, Array.replicate_succ, Array.replicate_zero, List.push_toArray, List.append_toArray, List.nil_append, List.cons_append]
      replace hx := Lib.hid hx
      gi_wp2
      refine wpIn_eager [(0, true), (1, true), (2, true), (3, true), (4, true), (5, false), (6, true), (7, true), (8, true), (9, true), (10, true)] (fun V => V.cell? ⟨bs, 0, none⟩ = some (.pointer (some ⟨sb, 0, none⟩)) ∧ V.cell? ⟨bn, 0, none⟩ = some (.string k) ∧ V.cell? ⟨sb, 0, none⟩ = some (.pointer (some ⟨rb, 0, none⟩))) (by kernel_rfl) (by kernel_rfl) (hhold.out _ (Upd.refl _ _)) ?_
      repeat (first | (refine wpE_fl rfl rfl (fun _ _ => rfl) ?_; go_simp) | (refine wpE_sk rfl rfl ?_; go_simp) | (refine wpE_fl (v := ?_) rfl rfl ?_ ?_; rotate_left; (intro W' h'; (try dsimp only at h'); go_simp; exact rfl); go_simp) | (refine wpE_ef rfl ?_; go_simp; gi_wp2_with (first | refine (⟨trivial, rfl, ?_⟩ : Fence.wide.fn _ ∧ Fence.wide.depth = none ∧ _) | refine (⟨trivial, trivial, rfl, ?_⟩ : Fence.wide.fn _ ∧ Fence.wide.fn _ ∧ Fence.wide.depth = none ∧ _) | (gi_at_call 38; (with_reducible refine k1.out.mono ?_); rintro e W2 ⟨rfl, u2, d1, k2⟩; (replace k2 := Lib.hid k2)) | refine (⟨trivial, ?_⟩ : Fence.wide.fn _ ∧ _)); (first | refine ⟨by first | exact (hhold.out _ u2), ?_⟩ | skip)))
      refine wpE_nil ?_
      gi_wp2_with (first | refine (⟨trivial, rfl, ?_⟩ : Fence.wide.fn _ ∧ Fence.wide.depth = none ∧ _) | (gi_at_call 39; (with_reducible refine k2.out.mono ?_); rintro e W3 ⟨br, rfl, hbr, hbl, hu3, hy3, hseq⟩; (replace hseq := Lib.hid hseq); (replace hu3 := Lib.hid hu3); (replace hy3 := Lib.hid hy3)) | refine (⟨trivial, ?_⟩ : Fence.wide.fn _ ∧ _))
      refine trans_each (fn := Try.f37) trN (D' := fun j => j = br ∨ j = W.heap.size ∨ (j = bs ∨ j = bn ∨ F j)) hseq.out hx.out hu3.out ?hDD ?hD' ?hDS (outs_trN q).symm rfl (fun _ => rfl) rfl rfl (fun _ _ h => h) ?hQ ?hround
      case hDD =>
        rintro j (h | h)
        · exact .inl h
        · exact .inr (.inr (.inr (.inr (hDq j h))))
      case hD' =>
        have hz := hy3.out.lt
        rintro j (h | h | h)
        · omega
        · omega
        · have := hDW j h; omega
      case hDS =>
        intro j hj
        have h1 := hown j hj
        rintro (h | h | h)
        · omega
        · omega
        · exact h1.2.1 h
      case hQ =>
        intro a' W' h
        exact ⟨h, h⟩
      case hround =>
        intro lb x W1 hlb hlW hxl hsz hA
        obtain ⟨n, tv⟩ := x
        clear hx hseq k1 k2 hhold
        gi_wp2
        refine ⟨Upd.refl _ _, ?_⟩
        intro Wb M Next Stop hub hbs hrec hE
        have hyb := hy3.out.agree hE.agree (.inr (.inl rfl))
        have cy := hyb.cell0
        have hz := hE.yield n rfl Wb (Upd.refl _ _)
        replace hz := Lib.hid hz
        replace hE := Lib.hid hE
        replace hyb := Lib.hid hyb
        clear hub hrec
        gi_wp2_with (first | ((with_reducible refine listV1 hz.out ?_ ?_ ?_); rfl; rfl; rintro v W4 ⟨b, rfl, hm, hn, hs⟩; (replace hn := Lib.hid hn); (replace hs := Lib.hid hs); cases b))
        · exact hs.out (.inl (by first | rfl | trivial))
        · exact hn.out (by first | rfl | trivial) (by first | rfl | trivial)
end
end Go.Proofs.Ytgleiajmdbekiaa

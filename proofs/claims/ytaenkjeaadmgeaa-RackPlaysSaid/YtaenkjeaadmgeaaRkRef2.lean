/- The document's entries in a list: Put, Drop. -/
import Derived.Test.YtaenkjeaadmgeaaProg
import Derived.Test.YtaenkjeaadmgeaaBase
import Derived.Test.YtaenkjeaadmgeaaRkRef
namespace Go.Proofs.Ytaenkjeaadmgeaa
open Go.RowKit Go.Shelf
attribute [local go_sem] Oper.semAt_some

theorem flat_one (l : List Ent) : ∀ u ∈ flat l, u.oneCell' = true := by
  intro u hu
  simp only [flat, List.mem_flatMap] at hu
  obtain ⟨e, _, he⟩ := hu
  simp only [List.mem_cons, List.not_mem_nil, or_false] at he
  rcases he with rfl | rfl <;> rfl

set_option maxRecDepth 100000 in
set_option maxHeartbeats 1000000 in
theorem put05_c {n : Nat} {l : List Ent} {A : Option Addr} {cap : Nat} {k : ByteArray} {v : Int} {w : World} (hr : Reads1 w A (flat l)) (hcap : l.length ≤ cap) (hrise : Rise cmpS l) (hl : l.length ≤ 100000) (hsz : ∀ e ∈ l, e.1.size ≤ maxLen) :
    CallsIn Fence.wide n Try.prog 22 #[.slice A l.length cap, .string k, .int .i64 v] w fun e w' => ∃ A' cap', e = .returned (.slice A' (putL cmpS k v l).length cap') ∧ (putL cmpS k v l).length ≤ cap' ∧ Reads1 w' A' (flat (putL cmpS k v l)) ∧ (∀ j, blkOf A' j → w.heap.size ≤ j) ∧ Upd (fun _ => False) w w' := by
  have hf := fun n => find_c (n := n) (cap := cap) (k := k) hr hrise hl hsz
  have hput := put_at ordrS hrise (k := k) (v := v)
  have hrl := rank_le (c := cmpS) k l
  have hhad : hadL cmpS k l = true → rankL cmpS k l < l.length := fun h => ((had_at ordrS hrise).1 h).1
  have hrw := fun W (h : Upd (fun _ => False) w W) => hr.agree' (w' := W) (h.agree fun j hj => ⟨hr.lt' j hj, id⟩)
  replace hf := Lib.hid hf
  replace hput := Lib.hid hput
  replace hrw := Lib.hid hrw
  clear hr hrise hsz
  obtain ⟨a, ha⟩ : ∃ a, rankL cmpS k l = a := ⟨_, rfl⟩
  obtain ⟨b, hb⟩ : ∃ b, hadL cmpS k l = b := ⟨_, rfl⟩
  rw [ha, hb] at hf hput hhad
  rw [ha] at hrl
  clear ha hb
  refine callsIn_any (n := 0) (callsIn_of_wp Try.func22 rfl trivial ?_)
  simp only [Try.ntmps22, List.size_toArray, List.length_cons, List.length_nil, Nat.reduceAdd, Nat.reduceSub, Array.replicate_succ, Array.replicate_zero, List.push_toArray, List.append_toArray, List.nil_append, List.cons_append]
  cases b
  all_goals
    (first | have hlt := hhad rfl | skip)
    clear hhad
    gi_wp2_with (first | refine (⟨trivial, rfl, ?_⟩ : Fence.wide.fn _ ∧ Fence.wide.depth = none ∧ _) | (gi_at_call 31; (with_reducible refine (hf.out _).mono ?_); rintro e W1 ⟨rfl, u1⟩; (replace u1 := Lib.hid u1)) | ((with_reducible refine sliceFrom (A := A) (m := l.length) (c := cap) (k := a) Try.underlying27 infoE ?_ ?_ ?_ ?_ ?_); rfl; rfl; omega; omega; intro A1 c1 hc1 hA1 hB1; (replace hA1 := Lib.hid hA1); (replace hB1 := Lib.hid hB1)) | ((with_reducible refine sliceFrom (A := A) (m := l.length) (c := cap) (k := a + 1) Try.underlying27 infoE ?_ ?_ ?_ ?_ ?_); rfl; go_num; omega; omega; intro A1 c1 hc1 hA1 hB1; (replace hA1 := Lib.hid hA1); (replace hB1 := Lib.hid hB1)) | ((with_reducible refine sliceTo (A := A) (m := l.length) (c := cap) (k := a) Try.underlying27 infoE ?_ ?_ ?_ ?_); rfl; rfl; omega; intro A2 c2 hc2 hA2 hB2; (replace hA2 := Lib.hid hA2); (replace hB2 := Lib.hid hB2)) | ((with_reducible refine appS (m := a) (c := c2) Try.underlying27 infoE zEnt (by omega) (by omega) (own_emptyS W1 _ 2) ?_ ?_ ?_ ?_ ?_ (hA2.out _ _ (hrw.out _ (u1.out.stepAlloc _))) ?_ ?_); rfl; rfl; (focus simp); (rw [List.length_take, flat_len]; omega); omega; exact (fun u hu => flat_one _ u (List.mem_of_mem_take hu)); intro v3 W3 h3 g3 e3; (simp only [Nat.zero_add, List.nil_append] at h3); have u3 := (u1.out.stepAlloc (.cells #[] 32)).trans g3 (fun j hj => .inr (by have := u1.out.size; simp [Value.ownBlock] at hj; omega)); have z3 := g3.size; (simp only [World.size_alloc] at z3); (replace u3 := Lib.hid u3); (replace h3 := Lib.hid h3); (replace g3 := Lib.hid g3); (replace e3 := Lib.hid e3)) | ((with_reducible refine app2 Try.underlying27 infoE zEnt (by omega) h3.out ?_ ?_ ?_ ?_ ?_ ?_ ?_); omega; omega; rfl; rfl; rfl; rfl; intro gb cap4 W4 h4 g4 e4 l4; have u4 := u3.out.trans g4 (fun j hj => .inr (Nat.le_trans u1.out.size (own_ge h3.out j hj))); have z4 := g4.size; (replace u4 := Lib.hid u4); (replace h4 := Lib.hid h4); (replace g4 := Lib.hid g4); (replace e4 := Lib.hid e4)) | ((with_reducible refine appS (A := A1) (m := l.length - a) (c := c1) (news := (flat l).drop (a * 2)) Try.underlying27 infoE zEnt (by omega) (by omega) h4.out ?_ ?_ ?_ ?_ ?_ (hA1.out _ _ (hrw.out _ u4.out) (flat_len l)) ?_ ?_); rfl; rfl; omega; (rw [List.length_drop, flat_len, ← Nat.sub_mul]); omega; exact (fun u hu => flat_one _ u (List.mem_of_mem_drop hu)); intro v5 W5 h5 g5 e5; have u5 := u4.out.trans g5 (fun j hj => .inr (Nat.le_trans u1.out.size (own_ge h4.out j hj))); (replace u5 := Lib.hid u5); (replace h5 := Lib.hid h5); clear g5 e5) | ((with_reducible refine appS (A := A1) (m := l.length - (a + 1)) (c := c1) (news := (flat l).drop ((a + 1) * 2)) Try.underlying27 infoE zEnt (by omega) (by omega) h4.out ?_ ?_ ?_ ?_ ?_ (hA1.out _ _ (hrw.out _ u4.out) (flat_len l)) ?_ ?_); rfl; rfl; omega; (rw [List.length_drop, flat_len, ← Nat.sub_mul]); omega; exact (fun u hu => flat_one _ u (List.mem_of_mem_drop hu)); intro v5 W5 h5 g5 e5; have u5 := u4.out.trans g5 (fun j hj => .inr (Nat.le_trans u1.out.size (own_ge h4.out j hj))); (replace u5 := Lib.hid u5); (replace h5 := Lib.hid h5); clear g5 e5) | refine (⟨trivial, ?_⟩ : Fence.wide.fn _ ∧ _))
    go_ret
    have hp := hput.out
    first | simp only [Bool.false_eq_true, if_false] at hp | simp only [if_true] at hp
    have hz := u1.out.size
    obtain ⟨A5, cap5, rfl, hn5, hr5, _, hb5⟩ := own_readsS h5.out
    have hge := own_ge h5.out
    first
      | (have hfl : flat (putL cmpS k v l) = (flat l).take (a * 2) ++ [.string k, .int .i64 v] ++ (flat l).drop (a * 2) := by
          rw [hp, flat_append, flat_take, ← flat_drop, List.append_assoc]; rfl
         have hlen : (putL cmpS k v l).length = a + 1 + (l.length - a) := by rw [hp]; simp only [List.length_append, List.length_take, List.length_cons, List.length_drop]; omega
         rw [hlen, hfl]
         exact ⟨A5, cap5, rfl, hn5, hr5, fun j hj => Nat.le_trans hz (hge j (hb5 j hj)), u5.out⟩)
      | (have hfl : flat (putL cmpS k v l) = (flat l).take (a * 2) ++ [.string k, .int .i64 v] ++ (flat l).drop ((a + 1) * 2) := by
          rw [hp, flat_append, flat_take, ← flat_drop, List.append_assoc]; rfl
         have hlen : (putL cmpS k v l).length = a + 1 + (l.length - (a + 1)) := by rw [hp]; simp only [List.length_append, List.length_take, List.length_cons, List.length_drop]; omega
         rw [hlen, hfl]
         exact ⟨A5, cap5, rfl, hn5, hr5, fun j hj => Nat.le_trans hz (hge j (hb5 j hj)), u5.out⟩)

theorem reads_nil {w : World} {A : Option Addr} : Reads1 w A [] := fun i v hv => by simp at hv

set_option maxRecDepth 100000 in
set_option maxHeartbeats 1000000 in
theorem drop05_c {n : Nat} {l : List Ent} {A : Option Addr} {cap : Nat} {k : ByteArray} {w : World} (hr : Reads1 w A (flat l)) (hcap : l.length ≤ cap) (hrise : Rise cmpS l) (hl : l.length ≤ 100000) (hsz : ∀ e ∈ l, e.1.size ≤ maxLen) :
    CallsIn Fence.wide n Try.prog 27 #[.slice A l.length cap, .string k] w fun e w' => ∃ A' cap', e = .returned (.slice A' (dropL cmpS k l).length cap') ∧ (dropL cmpS k l).length ≤ cap' ∧ Reads1 w' A' (flat (dropL cmpS k l)) ∧ (∀ j, blkOf A' j → blkOf A j ∨ w.heap.size ≤ j) ∧ Upd (fun _ => False) w w' := by
  have hf := fun n => find_c (n := n) (cap := cap) (k := k) hr hrise hl hsz
  have hdrop := drop_at ordrS hrise (k := k)
  have hrl := rank_le (c := cmpS) k l
  have hhad : hadL cmpS k l = true → rankL cmpS k l < l.length := fun h => ((had_at ordrS hrise).1 h).1
  have hrw := fun W (h : Upd (fun _ => False) w W) => hr.agree' (w' := W) (h.agree fun j hj => ⟨hr.lt' j hj, id⟩)
  replace hf := Lib.hid hf
  replace hdrop := Lib.hid hdrop
  replace hrw := Lib.hid hrw
  clear hr hrise hsz
  obtain ⟨a, ha⟩ : ∃ a, rankL cmpS k l = a := ⟨_, rfl⟩
  obtain ⟨b, hb⟩ : ∃ b, hadL cmpS k l = b := ⟨_, rfl⟩
  rw [ha, hb] at hf hdrop hhad
  rw [ha] at hrl
  clear ha hb
  refine callsIn_any (n := 0) (callsIn_of_wp Try.func27 rfl trivial ?_)
  simp only [Try.ntmps27, List.size_toArray, List.length_cons, List.length_nil, Nat.reduceAdd, Nat.reduceSub, Array.replicate_succ, Array.replicate_zero, List.push_toArray, List.append_toArray, List.nil_append, List.cons_append]
  cases b with
  | false =>
    clear hhad
    gi_wp2_with (first | refine (⟨trivial, rfl, ?_⟩ : Fence.wide.fn _ ∧ Fence.wide.depth = none ∧ _) | (gi_at_call 31; (with_reducible refine (hf.out _).mono ?_); rintro e W1 ⟨rfl, u1⟩; (replace u1 := Lib.hid u1)) | refine (⟨trivial, ?_⟩ : Fence.wide.fn _ ∧ _))
    go_ret
    have hp := hdrop.out
    simp only [Bool.false_eq_true, if_false] at hp
    rw [hp]
    exact ⟨A, cap, rfl, hcap, hrw.out _ u1.out, fun j hj => .inl hj, u1.out⟩
  | true =>
    have hlt := hhad rfl
    clear hhad
    gi_wp2_with (first | refine (⟨trivial, rfl, ?_⟩ : Fence.wide.fn _ ∧ Fence.wide.depth = none ∧ _) | (gi_at_call 31; (with_reducible refine (hf.out _).mono ?_); rintro e W1 ⟨rfl, u1⟩; (replace u1 := Lib.hid u1)) | refine (⟨trivial, ?_⟩ : Fence.wide.fn _ ∧ _))
    have u2 := Lib.hid (u1.out.stepDrew.stepAlloc (.cells #[] 32))
    have hw1 : IntKind.i64.wrap ((a : Int) + 1) = (a : Int) + 1 := Go.IntWalk.i64_in _ ⟨by omega, by omega⟩
    obtain ⟨r1, r2⟩ := run_to (m := l.length) (A := A) Try.underlying27 infoE (show a ≤ cap by omega)
    obtain ⟨A1, c1, r3, r4, hc1, hA1, hB1⟩ := run_from (k := a + 1) (A := A) Try.underlying27 infoE hcap (by omega)
    push_cast at r3 r4
    replace hA1 := Lib.hid hA1
    clear hB1
    obtain ⟨V1, hV⟩ : ∃ V1, W1.drew = V1 := ⟨_, rfl⟩
    rw [hV] at u2
    refine wpIn_eager [(1, true), (2, true), (3, true), (5, true), (6, true), (7, true), (8, true), (0, false), (4, false), (9, false), (10, true)] (fun _ => True) (by kernel_rfl) (by kernel_rfl) trivial ?_
    repeat (first | (refine wpE_fl rfl rfl (fun _ _ => rfl) ?_; go_simp) | (refine wpE_sk rfl rfl ?_; go_simp) | (refine wpE_fl (v := ?_) rfl rfl ?_ ?_; rotate_left; (intro W' h'; (try dsimp only at h'); go_simp; exact rfl); go_simp) | (refine wpE_ef rfl ?_; go_simp; gi_wp2_with (first | refine (⟨trivial, rfl, ?_⟩ : Fence.wide.fn _ ∧ Fence.wide.depth = none ∧ _) | refine (⟨trivial, trivial, rfl, ?_⟩ : Fence.wide.fn _ ∧ Fence.wide.fn _ ∧ Fence.wide.depth = none ∧ _) | ((with_reducible refine appS (A := A) (m := a) (c := cap) Try.underlying27 infoE zEnt (by omega) (by omega) (own_emptyS V1 _ 2) ?_ ?_ ?_ ?_ ?_ (reads_take (k := a * 2) (hrw.out _ u2.out)) ?_ ?_); rfl; rfl; (focus simp); (rw [List.length_take, flat_len]; omega); omega; exact (fun u hu => flat_one _ u (List.mem_of_mem_take hu)); intro v3 W3 h3 g3 e3; (simp only [Nat.zero_add, List.nil_append] at h3); have u3 := u2.out.trans g3 (fun j hj => .inr (by have := u1.out.size; have hs : V1.heap.size = W1.heap.size := (by rw [← hV]; rfl); simp [Value.ownBlock] at hj; omega)); have z3 := g3.size; (simp only [World.size_alloc] at z3); (replace u3 := Lib.hid u3); (replace h3 := Lib.hid h3); clear g3 e3) | ((with_reducible refine appS (A := A1) (m := l.length - (a + 1)) (c := c1) (news := (flat l).drop ((a + 1) * 2)) Try.underlying27 infoE zEnt (by omega) (by omega) h3.out ?_ ?_ ?_ ?_ ?_ (hA1.out _ _ (hrw.out _ u3.out) (flat_len l)) ?_ ?_); rfl; rfl; omega; (rw [List.length_drop, flat_len, ← Nat.sub_mul]); omega; exact (fun u hu => flat_one _ u (List.mem_of_mem_drop hu)); intro v5 W5 h5 g5 e5; have u5 := u3.out.trans g5 (fun j hj => .inr (by have := own_ge h3.out j hj; have := u1.out.size; have hs : V1.heap.size = W1.heap.size := (by rw [← hV]; rfl); omega)); (replace u5 := Lib.hid u5); (replace h5 := Lib.hid h5); clear g5 e5) | refine (⟨trivial, ?_⟩ : Fence.wide.fn _ ∧ _)); (first | refine ⟨by first | exact trivial, ?_⟩ | skip)))
    refine wpE_nil ?_
    gi_wp2
    go_ret
    have hp := hdrop.out
    simp only [if_true] at hp
    have hz := u1.out.size
    have hs : V1.heap.size = W1.heap.size := by rw [← hV]; rfl
    obtain ⟨A5, cap5, rfl, hn5, hr5, _, hb5⟩ := own_readsS h5.out
    have hge := own_ge h5.out
    have hfl : flat (dropL cmpS k l) = (flat l).take (a * 2) ++ (flat l).drop ((a + 1) * 2) := by rw [hp, flat_append, flat_take, ← flat_drop]
    have hlen : (dropL cmpS k l).length = a + (l.length - (a + 1)) := by rw [hp]; simp only [List.length_append, List.length_take, List.length_drop]; omega
    rw [hlen, hfl]
    exact ⟨A5, cap5, rfl, hn5, hr5, fun j hj => .inr (by have := hge j (hb5 j hj); omega), u5.out⟩
end Go.Proofs.Ytaenkjeaadmgeaa

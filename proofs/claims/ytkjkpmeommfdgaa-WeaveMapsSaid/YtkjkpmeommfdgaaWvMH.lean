/- WeaveMaps' parts: its function, makers, goes over Map and Join, Number gone through. -/
import Derived.Test.YtkjkpmeommfdgaaProg
import Derived.Test.YtkjkpmeommfdgaaBase
import Derived.Test.YtkjkpmeommfdgaaWvI
import Derived.Test.YtkjkpmeommfdgaaWvG
import Derived.Test.YtkjkpmeommfdgaaWvL
import Derived.Test.YtkjkpmeommfdgaaWvH
import Derived.Test.YtkjkpmeommfdgaaWvN
import Derived.Test.YtkjkpmeommfdgaaWvM
import Derived.Test.YtkjkpmeommfdgaaWvJ
namespace Go.Proofs.Ytkjkpmeommfdgaa
open Go.RowKit Go.Shelf
attribute [local go_sem] Oper.semAt_some

/-- ^x. -/
abbrev notI (x : Int) : Int := bits BinOp.xor IntKind.i64 (-1) x
theorem turn_c {n : Nat} {x : Int} {w : World} : CallsIn Fence.wide n Try.prog 38 #[.int .i64 x] w fun e w' => e = .returned (.int .i64 (notI x)) ∧ w' = w := by
  refine callsIn_any (n := 0) (callsIn_of_wp Try.func38 rfl trivial ?_)
  simp only [Try.ntmps38, List.size_toArray, List.length_cons, List.length_nil, Nat.reduceAdd, Nat.reduceSub, Array.replicate_succ, Array.replicate_zero, List.push_toArray, List.append_toArray, List.nil_append, List.cons_append]
  gi_wp2
  go_ret
  exact ⟨rfl, rfl⟩
theorem turn_v {x : Int} {w : World} : CallV Try.prog (.func (.func 38) #[] #[]) #[.int .i64 x] w fun v w' => v = .int .i64 (notI x) ∧ w' = w :=
  CallV.of_calls (n := 0) (enters_of Try.func38 (by kernel_rfl) rfl) (turn_c.mono fun e w' ⟨h1, h2⟩ => ⟨_, h1, rfl, h2⟩)

theorem map_u {n : Nat} {f1 f2 : Fn} {a1 c1 a2 c2 : Array Value} {w : World} : CallsIn Fence.wide n Try.prog 39 #[.func f1 a1 c1, .func f2 a2 c2] w fun e w' =>
    ∃ bs bk, e = .returned (.func (.func 82) #[] #[.pointer (some ⟨bs, 0, none⟩), .pointer (some ⟨bk, 0, none⟩)]) ∧ Blk w' bs #[.func f1 a1 c1] 32 ∧ Blk w' bk #[.func f2 a2 c2] 60 ∧ Upd (fun _ => False) w w' := by
  refine callsIn_any (n := 0) (callsIn_of_wp Try.func39 rfl trivial ?_)
  simp only [Try.ntmps39, List.size_toArray, List.length_cons, List.length_nil, Nat.reduceAdd, Nat.reduceSub, Array.replicate_succ, Array.replicate_zero, List.push_toArray, List.append_toArray, List.nil_append, List.cons_append]
  gi_wp2
  go_ret
  exact ⟨_, _, rfl, Blk.alloc (Blk.new' rfl) _, Blk.new' (by simp), (Upd.alloc _ _ _).stepAlloc _⟩
theorem number_u {n : Nat} {f1 : Fn} {a1 c1 : Array Value} {w : World} : CallsIn Fence.wide n Try.prog 40 #[.func f1 a1 c1] w fun e w' =>
    ∃ bs, e = .returned (.func (.func 83) #[] #[.pointer (some ⟨bs, 0, none⟩)]) ∧ Blk w' bs #[.func f1 a1 c1] 32 ∧ Upd (fun _ => False) w w' := by
  refine callsIn_any (n := 0) (callsIn_of_wp Try.func40 rfl trivial ?_)
  simp only [Try.ntmps40, List.size_toArray, List.length_cons, List.length_nil, Nat.reduceAdd, Nat.reduceSub, Array.replicate_succ, Array.replicate_zero, List.push_toArray, List.append_toArray, List.nil_append, List.cons_append]
  gi_wp2
  go_ret
  exact ⟨_, rfl, Blk.new _ _ _, Upd.alloc _ _ _⟩
theorem join_u {n : Nat} {A : Option Addr} {len cap : Nat} {w : World} : CallsIn Fence.wide n Try.prog 43 #[.slice A len cap] w fun e w' =>
    ∃ bl, e = .returned (.func (.func 84) #[] #[.pointer (some ⟨bl, 0, none⟩)]) ∧ Blk w' bl #[.slice A len cap] 99 ∧ Upd (fun _ => False) w w' := by
  refine callsIn_any (n := 0) (callsIn_of_wp Try.func43 rfl trivial ?_)
  simp only [Try.ntmps43, List.size_toArray, List.length_cons, List.length_nil, Nat.reduceAdd, Nat.reduceSub, Array.replicate_succ, Array.replicate_zero, List.push_toArray, List.append_toArray, List.nil_append, List.cons_append]
  gi_wp2
  go_ret
  exact ⟨_, rfl, Blk.new _ _ _, Upd.alloc _ _ _⟩

theorem map_cnt (f : Int → Int) (m : Int) : ∀ (xs : List Int) (n0 c : Nat), (c : Int) < max m 1 →
    ((goOwn (goStep m) (finT (trMap f) (n0 + xs.length) () (cntFrom n0 xs)) c (evsT (trMap f) () (cntFrom n0 xs)) : Nat) : Int) = n0 + min (xs.length : Int) (max m 1 - c)
  | [], n0, c, hc => by simp [goOwn, finT, evsT, cntFrom]; omega
  | x :: xs, n0, c, hc => by
    have ih := map_cnt f m xs (n0 + 1)
    have e : n0 + (x :: xs).length = n0 + 1 + xs.length := by simp; omega
    rw [e]
    simp only [cntFrom, finT, evsT, if_true, Option.toList, List.map_cons, List.map_nil, List.cons_append, List.nil_append, goOwn, List.length_cons]
    by_cases hb : (c : Int) + 1 < m
    · rw [if_pos (by simpa using hb), ih (c + 1) (by omega)]
      omega
    · rw [if_neg (by simpa using hb)]
      omega

theorem mgoes {n : Nat} {w : World} {ba bp bs bk : Nat} {A A2 : Option Addr} {cap cap2 : Nat} {xs : List Int} {m : Int} (hba : Blk w ba #[.slice A xs.length cap, .int .i64 0] 29) (hbp : Blk w bp #[.pointer (some ⟨ba, 0, none⟩)] 27)
    (hbs : Blk w bs #[.func (.func 74) #[] #[.pointer (some ⟨bp, 0, none⟩)]] 32) (hbk : Blk w bk #[.func (.func 38) #[] #[]] 60)
    (hr : Reads1 w A (xs.map (Value.int .i64))) (hl : xs.length ≤ 900) (hA : ¬ blkOf' A xs.length ba) (hr2 : Reads1 w A2 ((xs.map notI).map (Value.int .i64))) (hA2 : ∀ k', blkOf' A2 xs.length k' → k' ≠ ba) (hm0 : 0 ≤ m) (hm1 : m ≤ 1000) :
    CallsIn Fence.wide n Try.prog 18 #[.func (.func 82) #[] #[.pointer (some ⟨bs, 0, none⟩), .pointer (some ⟨bk, 0, none⟩)], .slice A2 xs.length cap2, .int .i64 m] w
      fun e w' => e = .returned (.bool true) ∧ Blk w' ba #[.slice A xs.length cap, .int .i64 (min (xs.length : Int) (max m 1))] 29 ∧ Upd (fun k => k = ba) w w' := by
  have hM : (1000 : Nat) ≤ maxLen := by decide
  have hseq := count_seq hbp hba hr (by omega) (Blk.ne hba hbp (by decide)) hA
  have hf := map_seq (f := notI) hseq hbs hbk (fun x W => turn_v) (fun e => (Blk.ne hbs hba (by decide)) e) (fun e => (Blk.ne hbk hba (by decide)) e)
  have hlen : xs.length = (xs.map notI).length := by simp
  rw [show (Value.slice A2 xs.length cap2) = Value.slice A2 (xs.map notI).length cap2 by rw [List.length_map]]
  refine (goes_c hf hba (by rw [evsT_snd, outs_map, cntEvs_snd]) hr2 (fun j hj => hA2 j (by rwa [← hlen] at hj)) (by rw [← hlen]; omega) hm0 hm1).mono ?_
  rintro e w' ⟨rfl, ho, hu⟩
  refine ⟨rfl, ?_, hu⟩
  have h := map_cnt notI m xs 0 0 (by omega)
  rw [show min (xs.length : Int) (max m 1) = ((0 : Nat) : Int) + min (xs.length : Int) (max m 1 - (0 : Nat)) by omega, ← h]
  simpa using ho
theorem vmgoes {n : Nat} {w : World} {bv bs bk : Nat} {A A2 : Option Addr} {cap cap2 : Nat} {xs : List Int} {m : Int} (hbv : Blk w bv #[.slice A xs.length cap] 22)
    (hbs : Blk w bs #[.func (.func 76) #[] #[.pointer (some ⟨bv, 0, none⟩)]] 32) (hbk : Blk w bk #[.func (.func 38) #[] #[]] 60)
    (hr : Reads1 w A (xs.map (Value.int .i64))) (hl : xs.length ≤ 900) (hr2 : Reads1 w A2 ((xs.map notI).map (Value.int .i64))) (hm0 : 0 ≤ m) (hm1 : m ≤ 1000) :
    CallsIn Fence.wide n Try.prog 18 #[.func (.func 82) #[] #[.pointer (some ⟨bs, 0, none⟩), .pointer (some ⟨bk, 0, none⟩)], .slice A2 xs.length cap2, .int .i64 m] w
      fun e w' => e = .returned (.bool true) ∧ Upd (fun _ => False) w w' := by
  have hM : (1000 : Nat) ≤ maxLen := by decide
  have hseq := values_seq hbv hr (by omega)
  have hf := map_seq (f := notI) hseq hbs hbk (fun x W => turn_v) id id
  have hlen : xs.length = (xs.map notI).length := by simp
  rw [show (Value.slice A2 xs.length cap2) = Value.slice A2 (xs.map notI).length cap2 by rw [List.length_map]]
  refine (goes_c hf trivial (by rw [evsT_snd, outs_map]; simp [Function.comp_def]) hr2 (fun _ _ => id) (by rw [← hlen]; omega) hm0 hm1).mono ?_
  rintro e w' ⟨rfl, _, hu⟩
  exact ⟨rfl, hu⟩

theorem SeqO.wider {P : Program} {α ω : Type} {fv : Value} {enc : α → Array Value} {evs : List (ω × α)} {init fin : ω} {Own : ω → World → Prop} {D D2 : Nat → Prop} {w : World}
    (h : SeqO P fv enc evs init fin Own (fun _ => False) D w) (hD : ∀ k, D k → D2 k) (hlt : ∀ k, D2 k → k < w.heap.size) : SeqO P fv enc evs init fin Own (fun _ => False) D2 w where
  fn := h.fn
  dlt := fun k hk => ⟨hlt k hk, id⟩
  elt := h.elt
  stable := h.stable
  run := fun σ step Rep y s S W hx h4 => h.run σ step Rep y s S W ⟨hx.shape, hx.size, hx.agree.mono hD, fun k hk => ⟨(hx.own k hk).1, fun hd => (hx.own k hk).2.1 (hD k hd), id⟩, hx.stab, hx.yield, hx.rep⟩ h4

/-- Join over three lists, and what lies behind it. -/
def JoinAt (w : World) (v : Value) (xs ys : List Int) : Prop :=
  ∃ bl, v = .func (.func 84) #[] #[.pointer (some ⟨bl, 0, none⟩)] ∧ ∃ (g b1 b2 b3 c1 c2 c3 : Nat) (A1 A2 : Option Addr),
    Blk w bl #[.slice (some ⟨g, 0, none⟩) 3 3] 99 ∧ Blk w g #[.func (.func 76) #[] #[.pointer (some ⟨b1, 0, none⟩)], .func (.func 76) #[] #[.pointer (some ⟨b2, 0, none⟩)], .func (.func 76) #[] #[.pointer (some ⟨b3, 0, none⟩)]] 32 ∧
    Blk w b1 #[.slice A1 xs.length c1] 22 ∧ Blk w b2 #[.slice A2 ys.length c2] 22 ∧ Blk w b3 #[.slice A1 xs.length c3] 22 ∧ Reads1 w A1 (xs.map (Value.int .i64)) ∧ Reads1 w A2 (ys.map (Value.int .i64))

theorem jgoes {n : Nat} {w : World} {v : Value} {A3 : Option Addr} {cap3 L : Nat} {xs ys : List Int} {m : Int} (hj : JoinAt w v xs ys) (hl : xs.length ≤ 60) (hl2 : ys.length ≤ 60)
    (hr3 : Reads1 w A3 ((xs ++ ys ++ xs).map (Value.int .i64))) (hL : L = (xs ++ ys ++ xs).length) (hm0 : 0 ≤ m) (hm1 : m ≤ 1000) :
    CallsIn Fence.wide n Try.prog 18 #[v, .slice A3 L cap3, .int .i64 m] w
      fun e w' => e = .returned (.bool true) ∧ Upd (fun _ => False) w w' := by
  have hM : (1000 : Nat) ≤ maxLen := by decide
  subst hL
  obtain ⟨bl, rfl, g, b1, b2, b3, c1, c2, c3, A1, A2, hbl, hg, h1, h2, h3, hr1, hr2⟩ := hj
  have s1 := values_seq h1 hr1 (by omega)
  have s2 := values_seq h2 hr2 (by omega)
  have s3 := values_seq h3 hr1 (by omega)
  have hgr : Reads1 w (some ⟨g, 0, none⟩) [.func (.func 76) #[] #[.pointer (some ⟨b1, 0, none⟩)], .func (.func 76) #[] #[.pointer (some ⟨b2, 0, none⟩)], .func (.func 76) #[] #[.pointer (some ⟨b3, 0, none⟩)]] := by
    intro i u hu
    refine ⟨_, rfl, ?_⟩
    have e1 : (⟨g, 0, none⟩ : Addr).add i = ⟨g, i, none⟩ := by unfold Addr.add; split <;> simp_all
    rw [e1, hg.cell i]
    match i, hu with
    | 0, hu => simpa using hu
    | 1, hu => simpa using hu
    | 2, hu => simpa using hu
  have hf := join_seq (ss := [(_, xs), (_, ys), (_, xs)]) (D := fun k => (k = b1 ∨ blkOf' A1 xs.length k) ∨ (k = b2 ∨ blkOf' A2 ys.length k) ∨ k = b3 ∨ blkOf' A1 xs.length k) hbl hgr (by simp)
    (by rintro k (h | h | h); exact (s1.dlt k h).1; exact (s2.dlt k h).1; exact (s3.dlt k h).1)
    (by
      intro p hp
      simp only [List.mem_cons, List.not_mem_nil, or_false] at hp
      rcases hp with rfl | rfl | rfl
      · exact s1.wider (fun k h => .inl h) (by rintro k (h | h | h); exact (s1.dlt k h).1; exact (s2.dlt k h).1; exact (s3.dlt k h).1)
      · exact s2.wider (fun k h => .inr (.inl h)) (by rintro k (h | h | h); exact (s1.dlt k h).1; exact (s2.dlt k h).1; exact (s3.dlt k h).1)
      · exact s3.wider (fun k h => .inr (.inr h)) (by rintro k (h | h | h); exact (s1.dlt k h).1; exact (s2.dlt k h).1; exact (s3.dlt k h).1))
  refine (goes_c hf trivial (by simp [Function.comp_def]) hr3 (fun _ _ => id) (by simp; omega) hm0 hm1).mono ?_
  rintro e w' ⟨rfl, _, hu⟩
  exact ⟨rfl, hu⟩
end Go.Proofs.Ytkjkpmeommfdgaa

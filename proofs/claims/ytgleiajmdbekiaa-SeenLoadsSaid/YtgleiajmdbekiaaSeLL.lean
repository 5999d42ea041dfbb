/- SeenLoads: the walk of the law. -/
import Derived.Test.YtgleiajmdbekiaaProg
import Derived.Test.YtgleiajmdbekiaaBase
import Derived.Test.YtgleiajmdbekiaaSeY
import Derived.Test.YtgleiajmdbekiaaSeL
import Derived.Test.YtgleiajmdbekiaaSeW
import Derived.Test.YtgleiajmdbekiaaSeH
import Derived.Test.YtgleiajmdbekiaaSeD
import Derived.Test.YtgleiajmdbekiaaSeT
import Derived.Test.YtgleiajmdbekiaaAppS
namespace Go.Proofs.Ytgleiajmdbekiaa
open Go.RowKit Go.Shelf
attribute [local go_sem] Oper.semAt_some

/-- What goes on behind Load. -/
structure InvL (sb : Nat) (rs : List SrcP) (A : Option Addr) (cap : Nat) (F : Nat → Prop) (w W : World) : Prop where
  a : SeenA sb (rs.map absT) F W
  ok : rightR rs
  cap : rs.length ≤ cap
  r : ReadsT W A rs
  nm : ∀ r ∈ rs, r.1.size ≤ maxLen
  dis : ∀ j, blkT A rs j → ¬ F j
  newF : ∀ j, F j → w.heap.size ≤ j
  base : Upd (fun _ => False) w W
abbrev nob : SrcP := (⟨#[110, 111, 98, 111, 100, 121, 46, 116, 104, 101, 114, 101]⟩, 0, [], none, 0)
section
variable {w W W2 : World} {A AA : Option Addr} {cap capA : Nat} {rs : List SrcP} {acts : Noted} {bs sb : Nat} {F : Nat → Prop}
theorem InvL.upd (h : InvL sb rs A cap F w W) (hu : Upd (fun _ => False) W W2) : InvL sb rs A cap F w W2 :=
  ⟨h.a.upd hu fun _ _ => id, h.ok, h.cap, h.r.upd hu fun _ _ => id, h.nm, h.dis, h.newF, h.base.trans' hu⟩
/-- Behind the guards: where the state is not right. -/
theorem loadsNo (hp : ¬ rightR rs) (hr : ReadsT w A rs) (hl : rs.length ≤ 12) (hs : ∀ r ∈ rs, r.2.2.1.length ≤ 60) (hsz : ∀ r ∈ rs, r.1.size ≤ maxLen) (hu : Upd (fun _ => False) w W) (hB : Blk W bs #[.slice A rs.length cap] 38) :
    CallsIn Fence.wide 0 Try.prog 13 #[.agg #[.slice A rs.length cap]] W fun e W2 => ∃ A2 c2, e = .returned (.slice A2 rs.length c2) ∧ W2.cell? ⟨bs, 0, none⟩ = some (.slice A rs.length cap) ∧
      CallsIn Fence.wide 0 Try.prog 15 #[.agg #[.slice A rs.length cap]] W2 fun e W3 => e = .returned (.tuple #[.pointer none, .int .i64 2]) ∧
        CallsIn Fence.wide 0 Try.prog 16 #[.slice A2 rs.length c2] W3 fun e W4 => e = .returned (.bool false) ∧ Upd (fun _ => False) w W4 := by
  have hrW := fun V (u : Upd (fun _ => False) w V) => hr.upd u fun _ _ => id
  refine (ref14_c (hrW _ hu) (by omega)).mono ?_
  rintro e W2 ⟨A2, c2, rfl, _, r2, _, u2⟩
  have hu2 := hu.trans' u2
  refine ⟨A2, c2, rfl, (hB.upd u2 id).cell 0, (load14_c (hrW _ hu2) (by omega) (fun r h => by have := hs r h; omega) hsz).mono ?_⟩
  rintro e W3 (⟨h, _⟩ | ⟨_, rfl, u3⟩)
  · exact absurd h hp
  refine ⟨rfl, (Right14_c (r2.upd u3 fun _ _ => id) (by omega) (fun r h => by have := hs r h; omega) hsz).mono ?_⟩
  rintro e W4 ⟨h4, u4⟩
  exact ⟨boolP h4 (by simp [hp]), (hu2.trans' u3).trans' u4⟩
theorem loadsYes (hp : rightR rs) (hr : ReadsT w A rs) (hl : rs.length ≤ 12) (hs : ∀ r ∈ rs, r.2.2.1.length ≤ 60) (hsz : ∀ r ∈ rs, r.1.size ≤ maxLen) (hu : Upd (fun _ => False) w W) (hB : Blk W bs #[.slice A rs.length cap] 38) :
    CallsIn Fence.wide 0 Try.prog 13 #[.agg #[.slice A rs.length cap]] W fun e W2 => ∃ A2 c2, e = .returned (.slice A2 rs.length c2) ∧ W2.cell? ⟨bs, 0, none⟩ = some (.slice A rs.length cap) ∧
      CallsIn Fence.wide 0 Try.prog 15 #[.agg #[.slice A rs.length cap]] W2 fun e W3 => ∃ sb, e = .returned (.tuple #[.pointer (some ⟨sb, 0, none⟩), .int .i64 0]) ∧
        CallsIn Fence.wide 0 Try.prog 16 #[.slice A2 rs.length c2] W3 fun e W4 => e = .returned (.bool true) ∧
          CallsIn Fence.wide 0 Try.prog 14 #[.pointer (some ⟨sb, 0, none⟩)] W4 fun e W5 => ∃ s5, e = .returned s5 ∧
            CallsIn Fence.wide 0 Try.prog 13 #[s5] W5 fun e W6 => ∃ r6, e = .returned r6 ∧
              CallsIn Fence.wide 0 Try.prog 12 #[r6, .slice A2 rs.length c2] W6 fun e W7 => e = .returned (.bool true) ∧ ∃ F, InvL sb rs A2 c2 F w W7 := by
  have hrW := fun V (u : Upd (fun _ => False) w V) => hr.upd u fun _ _ => id
  have ho := hp.ok
  refine (ref14_c (hrW _ hu) (by omega)).mono ?_
  rintro e W2 ⟨A2, c2, rfl, hc2, r2, b2, u2⟩
  have hu2 := hu.trans' u2
  refine ⟨A2, c2, rfl, (hB.upd u2 id).cell 0, (load14_c (hrW _ hu2) (by omega) (fun r h => by have := hs r h; omega) hsz).mono ?_⟩
  rintro e W3 (⟨_, sb, F, rfl, g1, g2, u3⟩ | ⟨h, _⟩)
  rotate_left
  · exact absurd hp h
  have r3 := r2.upd u3 fun _ _ => id
  refine ⟨sb, rfl, (Right14_c r3 (by omega) (fun r h => by have := hs r h; omega) hsz).mono ?_⟩
  rintro e W4 ⟨h4, u4⟩
  have g4 := g1.upd u4 fun _ _ => id
  have hu4 := (hu2.trans' u3).trans' u4
  refine ⟨boolP h4 (by simp [hp]), (stateA_c g4 ho).mono ?_⟩
  rintro e W5 ⟨A5, c5, rs5, rfl, _, r5, e5, _, u5⟩
  have o5 := rs_ok ho e5
  refine ⟨_, rfl, (ref14_c r5 (by omega)).mono ?_⟩
  rintro e W6 ⟨A6, c6, rfl, _, r6, _, u6⟩
  have r26 := ((r3.upd u4 fun _ _ => id).upd u5 fun _ _ => id).upd u6 fun _ _ => id
  have l5 : rs5.length = rs.length := by simpa using congrArg List.length e5
  refine ⟨_, rfl, (same14_c r6 r26 e5.symm (by omega) (fun r hr => by have := o5.2 r hr; omega)).mono ?_⟩
  rintro e W7 ⟨rfl, u7⟩
  have u47 := (u5.trans' u6).trans' u7
  refine ⟨rfl, F, g4.upd u47 fun _ _ => id, hp, hc2, r26.upd u7 fun _ _ => id, hsz, fun j hj hF => ?_, fun j hj => ?_, hu4.trans' u47⟩
  · have := r2.lt j hj; have := g2 j hF; omega
  · have := g2 j hj; have := hu2.size; omega
theorem two_apps {W8 : World} {v3 : Value} {A2 : Option Addr} (hr : ReadsT W A2 rs) (h3 : W8.ownsRow W.heap.size 47 3 v3 rs.length (flatT rs)) (g3 : Upd (fun j => (Value.slice (some ⟨W.heap.size, 0, none⟩) 0 0).ownBlock = some j) (W.alloc (.cells #[] 47)) W8) (W9 : World) (g cap' : Nat)
    (h1 : W9.ownsRow W.heap.size 47 3 (.slice (some ⟨g, 0, none⟩) (rs.length + 1) cap') (rs.length + 1) (flatT rs ++ [.string ⟨#[110, 111, 98, 111, 100, 121, 46, 116, 104, 101, 114, 101]⟩, .int .i64 0, .slice none 0 0])) (h2 : Upd (fun j => v3.ownBlock = some j) W8 W9) :
    ReadsT W9 (some ⟨g, 0, none⟩) (rs ++ [nob]) ∧ Upd (fun _ => False) W W9 := by
  have u1 := (Upd.alloc (fun _ => False) W (.cells #[] 47)).trans g3 (fun j hj => .inr (by simp only [Value.ownBlock, Option.some.injEq] at hj; omega))
  have hge := own_base h3
  have u2 := u1.trans h2 fun j hj => .inr (hge j hj)
  obtain ⟨A5, c5, e, _, hr5, _, _⟩ := own_readsS h1
  cases e
  refine ⟨⟨by rw [flatT_append]; exact hr5, fun r h => ?_⟩, u2⟩
  rcases List.mem_append.1 h with h | h
  · exact (hr.upd u2 fun _ _ => id).each r h
  · obtain rfl := List.mem_singleton.1 h
    exact ⟨fun i v hv => by simp [intsV] at hv, Nat.le_refl _⟩
theorem seqsS_len {ls : Srcs} {k : ByteArray} (h : OkS ls) : (seqsS k ls).length ≤ 32 := by
  unfold seqsS
  cases hg : getL cmpS k ls with
  | none => simp
  | some x => exact (h.each (k, x) (get_mem ordrS hg)).2.1
theorem up4 (W10 : World) (v : Value) (er : Int) : Upd (fun _ => False) W10 (((((W10).alloc (.cells #[v] 41)).alloc (.cells #[.int .i64 0] 3)).alloc (.cells #[.int .i64 er] 3)).alloc (.cells #[.bool true] 4)) :=
  ((((Upd.refl (fun _ => False) W10).stepAlloc _).stepAlloc _).stepAlloc _).stepAlloc _
theorem loads_fin {W10 W11 : World} {A2 A6 : Option Addr} {c2 c6 b1 b2 : Nat} {want : List Int} {er : Int} {nm : ByteArray} (hI : InvL sb rs A2 c2 F w W10) (hw : want = seqsS nm (rs.map absT)) (hr : Reads1 W10 A6 (intsV want)) (hb : ∀ j, blkOf' A6 want.length j → blkT A2 rs j)
    (g1 : Blk W11 b1 #[.pointer (some ⟨sb, 0, none⟩)] 23) (g2 : Blk W11 b2 #[.string nm] 9) (g3 : (((((W10).alloc (.cells #[.slice A6 want.length c6] 41)).alloc (.cells #[.int .i64 0] 3)).alloc (.cells #[.int .i64 er] 3)).alloc (.cells #[.bool true] 4)).heap.size ≤ b1 ∧ (((((W10).alloc (.cells #[.slice A6 want.length c6] 41)).alloc (.cells #[.int .i64 0] 3)).alloc (.cells #[.int .i64 er] 3)).alloc (.cells #[.bool true] 4)).heap.size ≤ b2) (u11 : Upd (fun _ => False) (((((W10).alloc (.cells #[.slice A6 want.length c6] 41)).alloc (.cells #[.int .i64 0] 3)).alloc (.cells #[.int .i64 er] 3)).alloc (.cells #[.bool true] 4)) W11) :
    CallV Try.prog (.func (.func 37) #[] #[.pointer (some ⟨b1, 0, none⟩), .pointer (some ⟨b2, 0, none⟩)]) #[loadsF (W10.heap.size + 1 + 1 + 1) (W10.heap.size + 1) W10.heap.size (W10.heap.size + 1 + 1)] W11 fun _ W12 => ∃ N : Nat, (N : Int) = min (want.length : Int) (max er 1) ∧ W12.cell? ⟨W10.heap.size + 1 + 1 + 1, 0, none⟩ = some (.bool true) ∧
      W12.cell? ⟨W10.heap.size + 1, 0, none⟩ = some (.int .i64 N) ∧ W12.cell? ⟨W10.heap.size, 0, none⟩ = some (.slice A6 want.length c6) ∧ W12.cell? ⟨W10.heap.size + 1 + 1, 0, none⟩ = some (.int .i64 er) ∧ InvL sb rs A2 c2 F w W12 ∧ Upd (fun _ => False) W10 W12 := by
  have u4 := up4 W10 (.slice A6 want.length c6) er
  have hu := u4.trans' u11
  have p0 := ((((Blk.new W10 #[.slice A6 want.length c6] 41).alloc (.cells #[.int .i64 0] 3)).alloc (.cells #[.int .i64 er] 3)).alloc (.cells #[.bool true] 4)).upd u11 id
  have p1 := (((Blk.new (W10.alloc (.cells #[.slice A6 want.length c6] 41)) #[.int .i64 0] 3).alloc (.cells #[.int .i64 er] 3)).alloc (.cells #[.bool true] 4)).upd u11 id
  have p2 := ((Blk.new ((W10.alloc (.cells #[.slice A6 want.length c6] 41)).alloc (.cells #[.int .i64 0] 3)) #[.int .i64 er] 3).alloc (.cells #[.bool true] 4)).upd u11 id
  have p3 := (Blk.new (((W10.alloc (.cells #[.slice A6 want.length c6] 41)).alloc (.cells #[.int .i64 0] 3)).alloc (.cells #[.int .i64 er] 3)) #[.bool true] 4).upd u11 id
  simp only [World.size_alloc] at p1 p2 p3 g3
  have hlF := hI.a.lt
  have hlr := hI.r.lt
  have h11 := hI.upd hu
  have hr11 := hr.agree' (w' := W11) (hu.agree fun j hj => ⟨hr.lt' j hj, id⟩)
  obtain ⟨es, he, hes⟩ := h11.a
  have hseq := allSeen he g1 g2
  rw [seqsOf_map, hes, ← hw] at hseq
  have hlen : want.length ≤ 100000 := by
    have := seqsS_len (k := nm) hI.ok.ok
    rw [hw]
    omega
  refine (loads_run hseq p3 p1 p0 p2 hlen hr11 ⟨?_, ?_⟩ (fun j hj => ?_) (by omega) (by omega) (by omega) (by omega) (by omega)).mono ?_
  · rintro (h | h | h)
    · omega
    · omega
    · have := hlF _ h; omega
  · rintro (h | h | h)
    · omega
    · omega
    · have := hlF _ h; omega
  · have := hlr _ (hb j hj)
    omega
  · rintro v W12 ⟨N, hN, q1, q2, q3, q4, u12⟩
    have hu12 := hu.trans u12 fun j hj => .inr (by omega)
    exact ⟨N, hN, q1.cell 0, q2.cell 0, q3.cell 0, q4.cell 0, hI.upd hu12, hu12⟩
set_option maxRecDepth 100000 in
set_option maxHeartbeats 8000000 in
theorem seenLoads_law {n mo : Nat} (hr : ReadsT w A rs) (hsz : ∀ r ∈ rs, r.1.size ≤ maxLen) (hra : Reads1 w AA (acts.flatMap encQ)) (hsza : ∀ a ∈ acts, a.1.size ≤ maxLen) (hmo : mo < 256) :
    CallsIn Fence.wide n Try.prog 6 #[.agg #[.slice A rs.length cap], .slice AA acts.length capA, .int .u8 mo] w fun e w' => e = .returned (.bool true) ∧ Upd (fun _ => False) w w' := by
  have u0 := (Upd.refl (fun _ => False) w).stepAlloc (.cells #[.slice A rs.length cap] 38)
  have bs := Blk.new w #[.slice A rs.length cap] 38
  have hrW := Lib.hid fun V (u : Upd (fun _ => False) w V) => hr.upd u fun _ _ => id
  have hraW := fun V (u : Upd (fun _ => False) w V) => hra.agree' (w' := V) (u.agree fun j hj => ⟨hra.lt' j hj, id⟩)
  have k1 := (awake_c (n := 0) (w := w.alloc (.cells #[.slice A rs.length cap] 38))).mono (R' := fun e W1 => e = .returned (.bool true) ∧ W1.cell? ⟨w.heap.size, 0, none⟩ = some (.slice A rs.length cap) ∧ CallsIn Fence.wide 0 Try.prog 8 #[] W1 (fun e W2 => e = .returned (.bool true) ∧ Upd (fun _ => False) w W2) ∧
      Blk W1 w.heap.size #[.slice A rs.length cap] 38 ∧ Upd (fun _ => False) w W1) (by
    rintro e W1 ⟨rfl, u1⟩
    have hu1 := u0.trans' u1
    have bs1 := bs.upd u1 id
    exact ⟨rfl, bs1.cell 0, (awake_c (n := 0)).mono (by rintro e W2 ⟨rfl, u2⟩; exact ⟨rfl, hu1.trans' u2⟩), bs1, hu1⟩)
  replace k1 := Lib.hid k1
  have kNo := Lib.hid fun (hp : ¬ rightR rs) (hl : rs.length ≤ 12) (hs : ∀ r ∈ rs, r.2.2.1.length ≤ 60) (V : World) (hu : Upd (fun _ => False) w V) (hB : Blk V w.heap.size #[.slice A rs.length cap] 38) => loadsNo hp hr hl hs hsz hu hB
  have kYes := Lib.hid fun (hp : rightR rs) (hl : rs.length ≤ 12) (hs : ∀ r ∈ rs, r.2.2.1.length ≤ 60) (V : World) (hu : Upd (fun _ => False) w V) (hB : Blk V w.heap.size #[.slice A rs.length cap] 38) => loadsYes hp hr hl hs hsz hu hB
  have kPlay := Lib.hid fun (sb : Nat) (A2 : Option Addr) (c2 : Nat) (F : Nat → Prop) (V : World) (hI : InvL sb rs A2 c2 F w V) (hl : acts.length ≤ 80) => (play14_c (n := 0) (capA := capA) hI.a hI.ok.ok hI.cap hI.r hI.nm hI.dis (hraW _ hI.base) (fun j hj hF => by have := hra.lt' j hj; have := hI.newF j hF; omega) hsza (by omega)).mono (R' := fun e W2 => e = .returned (.bool true) ∧ Upd (fun _ => False) w W2) (by
    rintro e W2 ⟨rfl, u2⟩
    exact ⟨rfl, hI.base.trans u2 fun j hj => .inr (hI.newF j hj)⟩)
  obtain ⟨er, her⟩ : ∃ er, er = mo % 40 := ⟨_, rfl⟩
  have he1 : (mo : Int).tmod 40 = (er : Int) := by rw [Int.tmod_eq_emod_of_nonneg (by omega)]; omega
  have he2 : (mo : Int) % 40 = (er : Int) := by omega
  have he3 : IntKind.u8.wrap (er : Int) = (er : Int) := by simp [IntKind.wrap, IntKind.bits, IntKind.signed]; omega
  have he4 : IntKind.i64.wrap (er : Int) = (er : Int) := Go.IntWalk.i64_in _ ⟨by omega, by omega⟩
  clear her hr hra hraW hsza u0 bs
  refine callsIn_any (n := 0) (callsIn_of_wp Try.func6 rfl trivial ?_)
  simp only [Try.ntmps6, List.size_toArray, List.length_cons, List.length_nil, Nat.reduceAdd, Nat.reduceSub, Array.replicate_succ, Array.replicate_zero, List.push_toArray, List.append_toArray, List.nil_append, List.cons_append]
  by_cases hl : acts.length ≤ 80
  · by_cases hs : rs.length ≤ 12
    · skip
      gi_wp2_with (first | refine (⟨trivial, rfl, ?_⟩ : Fence.wide.fn _ ∧ Fence.wide.depth = none ∧ _) | (gi_at_call 8; (with_reducible refine k1.out.mono ?_); rintro e W1 ⟨rfl, d2, _, h1⟩; (replace h1 := Lib.hid h1)) | refine (⟨trivial, ?_⟩ : Fence.wide.fn _ ∧ _))
      clear k1
      gi_loopw [35] (fun i wr => ∃ k : Nat, i = .int .i64 k ∧ k ≤ rs.length ∧ Hid (∀ j (h : j < rs.length), j < k → (rs[j]).2.2.1.length ≤ 60) ∧ wr.cell? ⟨w.heap.size, 0, none⟩ = some (.slice A rs.length cap) ∧ Hid (Blk wr w.heap.size #[.slice A rs.length cap] 38 ∧ Upd (fun _ => False) w wr)) (fun i _ => rs.length - (intOf i).toNat)
      case atStart => exact ⟨0, rfl, Nat.zero_le _, Lib.hid fun j h hj => by omega, d2, h1⟩
      case round =>
        clear h1 d2
        obtain ⟨k, rfl, hk, hT, d2, h1⟩ := hrel
        by_cases hlt : k < rs.length
        · obtain ⟨g, o, hA, e0, e1, e2⟩ := (hrW.out _ h1.out.2).at hlt
          have hw5 : IntKind.i64.wrap ((k : Int) + 1) = (k : Int) + 1 := Go.IntWalk.i64_in _ ⟨by omega, by omega⟩
          have hyes : Hid ((rs[k]).2.2.1.length ≤ 60 → ∀ j (h : j < rs.length), j < k + 1 → (rs[j]).2.2.1.length ≤ 60) := Lib.hid fun hx j h hj => by
            by_cases e : j = k
            · subst e; exact hx
            · exact hT.out j h (by omega)
          obtain ⟨x, hx⟩ : ∃ x, rs[k] = x := ⟨_, rfl⟩
          rw [hx] at e0 e1 e2 hyes
          clear hx
          obtain ⟨nm, fl, s, A5, c5⟩ := x
          simp only at e0 e1 e2 hyes
          have h2 : Hid (Blk (wr.alloc (.cells #[.string nm, .int .i64 fl, .slice A5 s.length c5] 43)) w.heap.size #[.slice A rs.length cap] 38 ∧ Upd (fun _ => False) w (wr.alloc (.cells #[.string nm, .int .i64 fl, .slice A5 s.length c5] 43))) := Lib.hid ⟨h1.out.1.alloc _, h1.out.2.stepAlloc _⟩
          have c2 : (wr.alloc (.cells #[.string nm, .int .i64 fl, .slice A5 s.length c5] 43)).cell? ⟨wr.heap.size, 2, none⟩ = some (.slice A5 s.length c5) := (Blk.new _ _ _).cell 2
          have d3 := h2.out.1.cell 0
          subst hA
          clear kNo kYes kPlay hrW
          by_cases h60 : s.length ≤ 60
          · skip
            gi_wp2_with (first | refine (⟨trivial, rfl, ?_⟩ : Fence.wide.fn _ ∧ Fence.wide.depth = none ∧ _) | refine (⟨trivial, ?_⟩ : Fence.wide.fn _ ∧ _))
            exact ⟨⟨k + 1, by go_num, by omega, Lib.hid (hyes.out h60), d3, h2⟩, by simp [intOf]; omega⟩
          · skip
            gi_wp2_with (first | refine (⟨trivial, rfl, ?_⟩ : Fence.wide.fn _ ∧ Fence.wide.depth = none ∧ _) | refine (⟨trivial, ?_⟩ : Fence.wide.fn _ ∧ _))
            go_ret
            exact ⟨rfl, h2.out.2⟩
        · obtain rfl : k = rs.length := by omega
          have hall : Hid (∀ r ∈ rs, r.2.2.1.length ≤ 60) := Lib.hid fun r hr => by
            obtain ⟨j, hj, rfl⟩ := List.mem_iff_getElem.1 hr
            exact hT.out j hj hj
          clear hT
          by_cases hp : rightR rs
          · have kL := Lib.hid (kYes.out hp hs hall.out _ h1.out.2 h1.out.1)
            clear kNo kYes hall hp h1
            gi_wp2_with (first | refine (⟨trivial, rfl, ?_⟩ : Fence.wide.fn _ ∧ Fence.wide.depth = none ∧ _) | (gi_at_call 13; (with_reducible refine kL.out.mono ?_); rintro e W2 ⟨A2, c2, rfl, d3, k3⟩; (replace k3 := Lib.hid k3)) | (gi_at_call 15; (with_reducible refine k3.out.mono ?_); rintro e W3 ⟨sb, rfl, k4⟩; (replace k4 := Lib.hid k4)) | (gi_at_call 16; (with_reducible refine k4.out.mono ?_); rintro e W4 ⟨rfl, k5⟩; (replace k5 := Lib.hid k5)) | (gi_at_call 14; (with_reducible refine k5.out.mono ?_); rintro e W5 ⟨s5, rfl, k6⟩; (replace k6 := Lib.hid k6)) | (gi_at_call 13; (with_reducible refine k6.out.mono ?_); rintro e W6 ⟨r6, rfl, k7⟩; (replace k7 := Lib.hid k7)) | (gi_at_call 12; (with_reducible refine k7.out.mono ?_); rintro e W7 ⟨rfl, F, hI⟩; (replace hI := Lib.hid hI)) | ((with_reducible refine appS (A := A2) (m := rs.length) (c := c2) Try.underlying34 infoT2 zT (by omega) (by omega) (own_emptyS W7 _ 3) ?_ ?_ ?_ ?_ ?_ (hI.out.r.upd (Upd.alloc _ _ _) fun _ _ => id).cells ?_ ?_); rfl; rfl; (focus ((try simp); (try omega))); exact flatT_len _; omega; exact flatT_one _; intro v3 W8 h3 g3 e3; (simp only [Nat.zero_add, List.nil_append] at h3); obtain ⟨A3, cap3, rfl⟩ := own_shape h3; (have hz8 : W7.heap.size ≤ W8.heap.size := by (have := g3.size; rw [World.size_alloc] at this; omega)); replace hz8 := Lib.hid hz8; (have k9 := Lib.hid (two_apps hI.out.r h3 g3)); clear g3 e3) | ((with_reducible refine app3 Try.underlying34 infoT2 zT (by omega) h3 ?_ ?_ ?_ ?_ ?_ ?_ ?_ ?_); exact hz8.out; omega; rfl; rfl; rfl; rfl; rfl; intro g' cap' W9 h1 h2 h6 h5; have k10 := k9.out W9 g' cap' h1 h2; clear h1 h2 h6 h5 h3 k9) | refine (⟨trivial, ?_⟩ : Fence.wide.fn _ ∧ _))
            have hrT := Lib.hid fun V (u : Upd (fun _ => False) W9 V) => k10.1.upd u fun _ _ => id
            have hI9 := Lib.hid (hI.out.upd k10.2)
            clear k10 hI kL k3 k4 k5 k6 k7 hz8
            generalize hN : rs ++ [nob] = rs9 at hrT
            have hnl : rs9.length = rs.length + 1 := by rw [← hN]; simp
            clear hN
            gi_loopw [81] (fun i wr => ∃ k : Nat, i = .int .i64 k ∧ k ≤ rs.length + 1 ∧ InvL sb rs A2 c2 F w wr ∧ Upd (fun _ => False) W9 wr) (fun i _ => rs.length + 1 - (intOf i).toNat)
            case atStart => exact ⟨0, rfl, Nat.zero_le _, hI9.out, Upd.refl _ _⟩
            case round =>
              clear hI9
              obtain ⟨k, rfl, hk, hI, hu⟩ := hrel
              by_cases hlt : k < rs9.length
              · obtain ⟨g, o, hA, e0, e1, e2⟩ := (hrT.out _ hu).at hlt
                have hw5 : IntKind.i64.wrap ((k : Int) + 1) = (k : Int) + 1 := Go.IntWalk.i64_in _ ⟨by omega, by omega⟩
                obtain ⟨x, hx⟩ : ∃ x, rs9[k] = x := ⟨_, rfl⟩
                rw [hx] at e0 e1 e2
                clear hx
                obtain ⟨nm, fl, s, A5, c5⟩ := x
                simp only at e0 e1 e2
                cases hA
                simp only [Nat.zero_add] at e0 e1 e2
                have uA := Upd.alloc (fun _ => False) wr (.cells #[.string nm, .int .i64 fl, .slice A5 s.length c5] 47)
                have bA := Blk.new wr #[.string nm, .int .i64 fl, .slice A5 s.length c5] 47
                have f0 := bA.cell 0
                have kA := (all14_c (n := 0) (cap := c2) (k := nm) (hI.r.upd uA fun _ _ => id) (rightR.rise hI.ok.1) (by omega) hI.nm).mono (R' := fun e W2 => ∃ (want : List Int) (A6 : Option Addr) (c6 : Nat), e = .returned (.slice A6 want.length c6) ∧ W2.cell? ⟨wr.heap.size, 0, none⟩ = some (.string nm) ∧ Hid (want = seqsS nm (rs.map absT) ∧ Reads1 W2 A6 (intsV want) ∧ (∀ j, blkOf' A6 want.length j → blkT A2 rs j) ∧ InvL sb rs A2 c2 F w W2 ∧ Upd (fun _ => False) wr W2)) (by
                  rintro e W2 ⟨A6, c6, rfl, a1, a2, u2⟩
                  exact ⟨_, A6, c6, rfl, (bA.upd u2 id).cell 0, Lib.hid ⟨rfl, a1, a2, hI.upd (uA.trans' u2), uA.trans' u2⟩⟩)
                replace kA := Lib.hid kA
                have hu9 := Lib.hid hu
                clear hI hu uA bA kPlay hrT
                gi_wp2_with (first | refine (⟨trivial, rfl, ?_⟩ : Fence.wide.fn _ ∧ Fence.wide.depth = none ∧ _) | (gi_at_call 17; (with_reducible refine kA.out.mono ?_); rintro e W10 ⟨want, A6, c6, rfl, f1, hW⟩; (have f2 := cell_upd (up4 W10 (.slice A6 want.length c6) er) f1); (replace hW := Lib.hid hW)) | (gi_at_call 18; (with_reducible refine (seenAll_c (n := 0)).mono ?_); rintro e W11 ⟨b1, b2, rfl, g1, g2, g3, u11⟩; (have kR := Lib.hid (loads_fin hW.out.out.2.2.2.1 hW.out.out.1 hW.out.out.2.1 hW.out.out.2.2.1 g1 g2 g3 u11)); (have uw := Lib.hid hW.out.out.2.2.2.2); (clear g1 g2 g3 u11 hW f1 f2)) | ((with_reducible refine listV1 kR.out ?_ ?_ ?_); rfl; rfl; rintro v W12 ⟨N, hN, q1, q2, q3, q4, hI, u12⟩; (replace u12 := Lib.hid (hu9.out.trans' (uw.out.trans' u12))); (replace hI := Lib.hid hI)) | refine (⟨trivial, ?_⟩ : Fence.wide.fn _ ∧ _))
                exact ⟨⟨k + 1, by go_num, by omega, hI.out, u12.out⟩, by simp [intOf]; omega⟩
              · obtain rfl : k = rs.length + 1 := by omega
                have kP := Lib.hid (kPlay.out _ _ _ _ _ hI hl)
                clear kPlay hI hu hrT
                gi_wp2_with (first | refine (⟨trivial, rfl, ?_⟩ : Fence.wide.fn _ ∧ Fence.wide.depth = none ∧ _) | (gi_at_call 11; (with_reducible refine kP.out.mono ?_); rintro e W10 ⟨rfl, u10⟩; (replace u10 := Lib.hid u10)) | refine (⟨trivial, ?_⟩ : Fence.wide.fn _ ∧ _))
                go_ret
                exact ⟨rfl, u10.out⟩
          · have kL := Lib.hid (kNo.out hp hs hall.out _ h1.out.2 h1.out.1)
            clear kNo kYes kPlay hall hp h1
            gi_wp2_with (first | refine (⟨trivial, rfl, ?_⟩ : Fence.wide.fn _ ∧ Fence.wide.depth = none ∧ _) | (gi_at_call 13; (with_reducible refine kL.out.mono ?_); rintro e W2 ⟨A2, c2, rfl, d3, k3⟩; (replace k3 := Lib.hid k3)) | (gi_at_call 15; (with_reducible refine k3.out.mono ?_); rintro e W3 ⟨rfl, k4⟩; (replace k4 := Lib.hid k4)) | (gi_at_call 16; (with_reducible refine k4.out.mono ?_); rintro e W4 ⟨rfl, u4⟩; (replace u4 := Lib.hid u4)) | refine (⟨trivial, ?_⟩ : Fence.wide.fn _ ∧ _))
            go_ret
            exact ⟨rfl, u4.out⟩
    · have hs' : 12 < rs.length := by omega
      clear kNo kYes kPlay
      gi_wp2_with (first | refine (⟨trivial, rfl, ?_⟩ : Fence.wide.fn _ ∧ Fence.wide.depth = none ∧ _) | (gi_at_call 8; (with_reducible refine k1.out.mono ?_); rintro e W1 ⟨rfl, d2, k2, _⟩; (replace k2 := Lib.hid k2)) | (gi_at_call 8; (with_reducible refine k2.out.mono ?_); rintro e W2 ⟨rfl, u2⟩; (replace u2 := Lib.hid u2)) | refine (⟨trivial, ?_⟩ : Fence.wide.fn _ ∧ _))
      go_ret
      exact ⟨rfl, u2.out⟩
  · have hl' : 80 < acts.length := by omega
    clear kNo kYes kPlay
    gi_wp2_with (first | refine (⟨trivial, rfl, ?_⟩ : Fence.wide.fn _ ∧ Fence.wide.depth = none ∧ _) | (gi_at_call 8; (with_reducible refine k1.out.mono ?_); rintro e W1 ⟨rfl, d2, k2, _⟩; (replace k2 := Lib.hid k2)) | (gi_at_call 8; (with_reducible refine k2.out.mono ?_); rintro e W2 ⟨rfl, u2⟩; (replace u2 := Lib.hid u2)) | refine (⟨trivial, ?_⟩ : Fence.wide.fn _ ∧ _))
    go_ret
    exact ⟨rfl, u2.out⟩
end
end Go.Proofs.Ytgleiajmdbekiaa

/- silo: the law's Ref; the document's Same. -/
import Derived.Test.YtadeechoknpjhaaProg
import Derived.Test.YtadeechoknpjhaaBase
import Derived.Test.YtadeechoknpjhaaSlCo
set_option linter.unusedSimpArgs false
set_option linter.unusedVariables false
namespace Go.Proofs.Ytadeechoknpjhaa
open Go.RowKit Go.Shelf
attribute [local go_sem] Oper.semAt_some

/-- What is gathered so far: in field 1 of a variable. -/
def GatE (T : TypeId) (bl base : Nat) (u0 : Value) (s : List VCE) (W : World) (v : Value) : Prop := Blk W bl #[u0, v] T ∧ W.ownsRow base 61 16 v s.length (flatE s) ∧ v.ownBlock ≠ some bl
theorem GatE.agree {T : TypeId} {bl base : Nat} {u0 : Value} {s : List VCE} {W W' : World} {v : Value} (h : GatE T bl base u0 s W v) (ha : Agree (fun j => j = bl ∨ v.ownBlock = some j) W W') : GatE T bl base u0 s W' v :=
  ⟨h.1.agree ha (.inl rfl), own_agree h.2.1 (ha.mono fun _ h => .inr h), h.2.2⟩
theorem GatE.lt {T : TypeId} {bl base : Nat} {u0 : Value} {s : List VCE} {W : World} {v : Value} (h : GatE T bl base u0 s W v) : ∀ j, (j = bl ∨ v.ownBlock = some j) → j < W.heap.size := by
  rintro j (rfl | hj)
  · exact h.1.lt
  · exact (h.2.1.lt j hj).2
/-- One more. -/
theorem GatE.push {T : TypeId} {bl base g cap' : Nat} {u0 : Value} {s : List VCE} {x : VCE} {W w' : World} {v : Value} (h : GatE T bl base u0 s W v) (h1 : w'.ownsRow base 61 16 (.slice (some ⟨g, 0, none⟩) (s.length + 1) cap') (s.length + 1) (flatE s ++ cellsE x)) (h2 : Upd (fun j => v.ownBlock = some j) W w') (h3 : v.ownBlock = some g ∨ W.heap.size ≤ g) :
    w'.cell? ⟨bl, 1, none⟩ = some v ∧ w'.frozen? ⟨bl, 1, none⟩ = false ∧ bl < w'.heap.size ∧ GatE T bl base u0 (s ++ [x]) (w'.setCell ⟨bl, 1, none⟩ (.slice (some ⟨g, 0, none⟩) (s.length + 1) cap')) (.slice (some ⟨g, 0, none⟩) (s.length + 1) cap') ∧
      Upd (fun j => j = bl ∨ v.ownBlock = some j) W (w'.setCell ⟨bl, 1, none⟩ (.slice (some ⟨g, 0, none⟩) (s.length + 1) cap')) := by
  obtain ⟨i1, i2, i5⟩ := h
  have hb1 := i1.upd h2 i5
  have hgb : g ≠ bl := by
    rintro rfl
    rcases h3 with h | h
    · exact i5 h
    · have := i1.lt; omega
  refine ⟨hb1.cell 1, hb1.frozen 1, hb1.lt, ⟨by simpa using hb1.set 1 (.slice (some ⟨g, 0, none⟩) (s.length + 1) cap'), ?_, by simpa [Value.ownBlock] using hgb⟩, ?_⟩
  · rw [flatE_append, List.length_append, show flatE [x] = cellsE x by simp [flatE]]
    exact own_agree h1 (fun j hj => Below.heap_setCell _ _ _ _ (fun e => hgb (by simp [Value.ownBlock] at hj; rw [hj]; exact e)))
  · exact (h2.mono fun j _ hj => .inr hj).stepSet (.inl (.inl rfl)) _
section
variable {vs ws : List VCE} {A B : Option Addr} {cap capB : Nat} {W : World} {f : Int}
set_option maxRecDepth 100000 in
set_option maxHeartbeats 4000000 in
theorem ref20_c {n : Nat} (hr : Reads1 W A (flatE vs)) (hl : vs.length ≤ 100000) : CallsIn Fence.wide n Try.prog 16 #[.agg #[.int .i64 f, .slice A vs.length cap]] W fun e W2 => ∃ A' cap', e = .returned (.agg #[.int .i64 f, .slice A' vs.length cap']) ∧ vs.length ≤ cap' ∧ Reads1 W2 A' (flatE vs) ∧ (∀ j, blkOf A' j → W.heap.size ≤ j) ∧ Upd (fun _ => False) W W2 := by
  obtain ⟨W0, hW0⟩ : ∃ W0, ((W.alloc (.cells #[.int .i64 f, .slice A vs.length cap] 55)).alloc (.cells #[.int .i64 0, .slice none 0 0] 33)).alloc (.cells #[.int .i64 f, .slice none 0 0] 33) = W0 := ⟨_, rfl⟩
  have u0 : Upd (fun _ => False) W W0 := by rw [← hW0]; exact ((Upd.alloc _ _ _).stepAlloc _).stepAlloc _
  have b1 : Blk W0 W.heap.size #[.int .i64 f, .slice A vs.length cap] 55 := by rw [← hW0]; exact ((Blk.new _ _ _).alloc _).alloc _
  have b2 : Blk W0 (W.heap.size + 1) #[.int .i64 0, .slice none 0 0] 33 := by rw [← hW0]; exact (Blk.new' (by simp)).alloc _
  have b3 : Blk W0 (W.heap.size + 1 + 1) #[.int .i64 f, .slice none 0 0] 33 := by rw [← hW0]; exact Blk.new' (by simp)
  have hz0 : W0.heap.size = W.heap.size + 3 := by rw [← hW0]; simp
  have c1 : W0.cell? ⟨W.heap.size, 1, none⟩ = some (.slice A vs.length cap) := b1.cell 1
  rw [← hW0] at c1
  have hrW := Lib.hid fun V (u : Upd (fun _ => False) W V) => hr.agree' (w' := V) (u.agree fun j hj => ⟨hr.lt' j hj, id⟩)
  clear hr b1
  replace u0 := Lib.hid u0
  replace b2 := Lib.hid b2
  replace b3 := Lib.hid b3
  replace hW0 := Lib.hid hW0
  refine callsIn_any (n := 0) (callsIn_of_wp Try.func16 rfl trivial ?_)
  simp only [Try.ntmps16, List.size_toArray, List.length_cons, List.length_nil, Nat.reduceAdd, Nat.reduceSub, Array.replicate_succ, Array.replicate_zero, List.push_toArray, List.append_toArray, List.nil_append, List.cons_append]
  gi_wp2
  gi_loopw [12] (fun i wr => ∃ k v, i = .int .i64 (k : Nat) ∧ k ≤ vs.length ∧ GatE 33 (W.heap.size + 1 + 1) (W.heap.size + 3) (.int .i64 f) (vs.take k) wr v ∧ Blk wr (W.heap.size + 1) #[.int .i64 0, .slice none 0 0] 33 ∧ Upd (fun _ => False) W wr) (fun i _ => vs.length - (intOf i).toNat)
  case atStart => rw [hW0.out]; exact ⟨0, .slice none 0 0, rfl, Nat.zero_le _, ⟨b3.out, World.ownsRow_nil _ _ _ 16, by simp [Value.ownBlock]⟩, b2.out, u0.out⟩
  case round =>
    obtain ⟨k, v, rfl, hk, hG, hB, hu⟩ := hrel
    by_cases hlt : k < vs.length
    · obtain ⟨g, o, rfl, hat⟩ := atE_at (hrW.out _ hu) hlt
      have hw5 : IntKind.i64.wrap ((k : Int) + 1) = (k : Int) + 1 := Go.IntWalk.i64_in _ ⟨by omega, by omega⟩
      have htk : vs.take (k + 1) = vs.take k ++ [vs[k]] := List.take_succ_eq_append_getElem hlt
      obtain ⟨s, hs⟩ : ∃ s, vs.take k = s := ⟨_, rfl⟩
      have hsl : s.length ≤ 100000 := by rw [← hs, List.length_take]; omega
      rw [hs] at hG htk
      clear hs
      obtain ⟨x, hx⟩ : ∃ x, vs[k] = x := ⟨_, rfl⟩
      rw [hx] at hat htk
      clear hx
      have ua := Upd.alloc (fun _ => False) wr (.cells #[.int .i64 (x).ep, .string (x).key, .string (x).pol, .int .i64 (x).kd, .int .i64 (x).st, .int .i64 (x).rev, .bool (x).fin, .int .i64 (x).rk, .int .i64 (x).cnt, .int .i64 (x).sum, .int .i64 (x).mn, .int .i64 (x).mx, .int .i64 (x).q0, .int .i64 (x).q1, .int .i64 (x).q2, .bool (x).over] 63)
      have hGA := hG.agree (ua.agree fun j hj => ⟨hG.lt j hj, id⟩)
      have hBA := hB.upd ua id
      obtain ⟨w0, w1, w2, w3, w4, w5, w6, w7, w8, w9, w10, w11, w12, w13, w14, w15⟩ := hat
      obtain ⟨A3, cap3, rfl⟩ := own_shape hG.2.1
      have a1 : (wr.alloc (.cells #[.int .i64 (x).ep, .string (x).key, .string (x).pol, .int .i64 (x).kd, .int .i64 (x).st, .int .i64 (x).rev, .bool (x).fin, .int .i64 (x).rk, .int .i64 (x).cnt, .int .i64 (x).sum, .int .i64 (x).mn, .int .i64 (x).mx, .int .i64 (x).q0, .int .i64 (x).q1, .int .i64 (x).q2, .bool (x).over] 63)).cell? ⟨W.heap.size + 1 + 1, 1, none⟩ = some (.slice A3 s.length cap3) := hGA.1.cell 1
      have hlB := hBA.lt
      have hlT := hGA.1.lt
      have hzz := (hu.trans' ua).size
      have hz3 : W.heap.size + 3 ≤ (wr.alloc (.cells #[.int .i64 (x).ep, .string (x).key, .string (x).pol, .int .i64 (x).kd, .int .i64 (x).st, .int .i64 (x).rev, .bool (x).fin, .int .i64 (x).rk, .int .i64 (x).cnt, .int .i64 (x).sum, .int .i64 (x).mn, .int .i64 (x).mx, .int .i64 (x).q0, .int .i64 (x).q1, .int .i64 (x).q2, .bool (x).over] 63)).heap.size := by omega
      have ho := hGA.2.1
      have fin : ∀ g' cap' w', w'.ownsRow (W.heap.size + 3) 61 16 (.slice (some ⟨g', 0, none⟩) (s.length + 1) cap') (s.length + 1) (flatE s ++ cellsE x) → Upd (fun j => (Value.slice A3 s.length cap3).ownBlock = some j) (wr.alloc (.cells #[.int .i64 (x).ep, .string (x).key, .string (x).pol, .int .i64 (x).kd, .int .i64 (x).st, .int .i64 (x).rev, .bool (x).fin, .int .i64 (x).rk, .int .i64 (x).cnt, .int .i64 (x).sum, .int .i64 (x).mn, .int .i64 (x).mx, .int .i64 (x).q0, .int .i64 (x).q1, .int .i64 (x).q2, .bool (x).over] 63)) w' → ((Value.slice A3 s.length cap3).ownBlock = some g' ∨ (wr.alloc (.cells #[.int .i64 (x).ep, .string (x).key, .string (x).pol, .int .i64 (x).kd, .int .i64 (x).st, .int .i64 (x).rev, .bool (x).fin, .int .i64 (x).rk, .int .i64 (x).cnt, .int .i64 (x).sum, .int .i64 (x).mn, .int .i64 (x).mx, .int .i64 (x).q0, .int .i64 (x).q1, .int .i64 (x).q2, .bool (x).over] 63)).heap.size ≤ g') →
          (w'.cell? ⟨W.heap.size + 1 + 1, 1, none⟩ = some (.slice A3 s.length cap3) ∧ w'.frozen? ⟨W.heap.size + 1 + 1, 1, none⟩ = false ∧ W.heap.size + 1 + 1 < w'.heap.size) ∧
          GatE 33 (W.heap.size + 1 + 1) (W.heap.size + 3) (.int .i64 f) (vs.take (k + 1)) (w'.setCell ⟨W.heap.size + 1 + 1, 1, none⟩ (.slice (some ⟨g', 0, none⟩) (s.length + 1) cap')) (.slice (some ⟨g', 0, none⟩) (s.length + 1) cap') ∧ Blk (w'.setCell ⟨W.heap.size + 1 + 1, 1, none⟩ (.slice (some ⟨g', 0, none⟩) (s.length + 1) cap')) (W.heap.size + 1) #[.int .i64 0, .slice none 0 0] 33 ∧ Upd (fun _ => False) W (w'.setCell ⟨W.heap.size + 1 + 1, 1, none⟩ (.slice (some ⟨g', 0, none⟩) (s.length + 1) cap')) := by
        intro g' cap' w' h1 h2 h3
        have hge : ∀ j, (Value.slice A3 s.length cap3).ownBlock = some j → W.heap.size + 3 ≤ j := fun j hj => own_ge ho j hj
        obtain ⟨p1, p2, p3, p4, p5⟩ := hGA.push (x := x) h1 h2 h3
        rw [← htk] at p4
        refine ⟨⟨p1, p2, p3⟩, p4, hBA.upd p5 ?_, (hu.trans' ua).trans p5 ?_⟩
        · rintro (h | h)
          · omega
          · have := hge _ h; omega
        · rintro j (h | h)
          · exact .inr (by omega)
          · exact .inr (by have := hge j h; omega)
      replace fin := Lib.hid fin
      clear hG hGA hB hBA hu ua htk
      gi_wp2_with (first | ((with_reducible refine app16 (y := x) Try.underlying31 infoE zE (by omega) ho ?_ ?_ ?_ ?_ ?_); exact hz3; omega; rfl; (rw [World.size_alloc]; rfl); intro g' cap' w' h1 h2 h3 h4; (obtain ⟨⟨n0, n1, n2⟩, kk⟩ := fin.out g' cap' w' h1 h2 h3); (replace kk := Lib.hid kk); clear h1 h2 h3 h4))
      obtain ⟨p1, p2, p3⟩ := kk.out
      exact ⟨⟨k + 1, _, by go_num, by omega, p1, p2, p3⟩, by show vs.length - ((k : Int) + 1).toNat < vs.length - (k : Int).toNat; omega⟩
    · obtain rfl : k = vs.length := by omega
      rw [List.take_length] at hG
      obtain ⟨A5, cap5, rfl, hn5, hr5, _, hb5⟩ := own_readsS hG.2.1
      have hge := own_ge hG.2.1
      have m0 : wr.cell? ⟨W.heap.size + 1 + 1, 0, none⟩ = some (.int .i64 f) := hG.1.cell 0
      have m1 : wr.cell? ⟨W.heap.size + 1 + 1, 1, none⟩ = some (.slice A5 vs.length cap5) := hG.1.cell 1
      have n0 : wr.cell? ⟨W.heap.size + 1, 0, none⟩ = some (.int .i64 0) := hB.cell 0
      have n1 : wr.cell? ⟨W.heap.size + 1, 1, none⟩ = some (.slice none 0 0) := hB.cell 1
      have y0 := hB.frozen 0
      have y1 := hB.frozen 1
      have l1 := hB.lt
      have b4 := blk_set2 (x0 := .int .i64 f) (x1 := .slice A5 vs.length cap5) hB
      have us : Upd (fun j => j = W.heap.size + 1) wr ((wr.setCell ⟨W.heap.size + 1, 0, none⟩ (.int .i64 f)).setCell ⟨W.heap.size + 1, 1, none⟩ (.slice A5 vs.length cap5)) := upd_set2 (Upd.refl _ _) (.inl rfl)
      have u4 : Upd (fun _ => False) W ((wr.setCell ⟨W.heap.size + 1, 0, none⟩ (.int .i64 f)).setCell ⟨W.heap.size + 1, 1, none⟩ (.slice A5 vs.length cap5)) := hu.trans us fun j hj => .inr (by omega)
      have hr4 := hr5.agree' (w' := (wr.setCell ⟨W.heap.size + 1, 0, none⟩ (.int .i64 f)).setCell ⟨W.heap.size + 1, 1, none⟩ (.slice A5 vs.length cap5)) (us.agree fun j hj => ⟨hr5.lt' j hj, fun e => by have := hge j (hb5 j hj.2); omega⟩)
      have hbb := Lib.hid fun j hj => hge j (hb5 j hj)
      replace b4 := Lib.hid b4
      replace u4 := Lib.hid u4
      replace hr4 := Lib.hid hr4
      clear hG hB us hr5 hb5 hge hu
      gi_wp2
      refine bodyPost_ret (results_c2 rfl rfl rfl rfl (b4.out.cell 0) (b4.out.cell 1)) rfl ?_
      exact ⟨A5, cap5, rfl, hn5, hr4.out, fun j hj => by have := hbb.out j hj; omega, u4.out⟩
set_option maxRecDepth 100000 in
set_option maxHeartbeats 4000000 in
theorem same20_c {n : Nat} (hr : Reads1 W A (flatE vs)) (hs : Reads1 W B (flatE ws)) (hl : vs.length ≤ 100000) (hm : ws.length ≤ 100000) : CallsIn Fence.wide n Try.prog 18 #[.slice A vs.length cap, .slice B ws.length capB] W fun e W2 => e = .returned (.bool (decide (vs = ws))) ∧ Upd (fun _ => False) W W2 := by
  have hrW := Lib.hid fun V (u : Upd (fun _ => False) W V) => hr.agree' (w' := V) (u.agree fun j hj => ⟨hr.lt' j hj, id⟩)
  have hsW := Lib.hid fun V (u : Upd (fun _ => False) W V) => hs.agree' (w' := V) (u.agree fun j hj => ⟨hs.lt' j hj, id⟩)
  clear hr hs
  by_cases hn : vs.length = ws.length
  · rw [← hn]
    replace hn := Lib.hid hn
    refine callsIn_any (n := 0) (callsIn_of_wp Try.func18 rfl trivial ?_)
    simp only [Try.ntmps18, List.size_toArray, List.length_cons, List.length_nil, Nat.reduceAdd, Nat.reduceSub, Array.replicate_succ, Array.replicate_zero, List.push_toArray, List.append_toArray, List.nil_append, List.cons_append]
    gi_wp2
    gi_loopw [13] (fun i wr => ∃ k : Nat, i = .int .i64 k ∧ k ≤ vs.length ∧ Hid (vs.take k = ws.take k) ∧ Upd (fun _ => False) W wr) (fun i _ => vs.length - (intOf i).toNat)
    case atStart => exact ⟨0, rfl, Nat.zero_le _, Lib.hid (by simp), Upd.refl _ _⟩
    case round =>
      obtain ⟨k, rfl, hk, hT, hu⟩ := hrel
      by_cases hlt : k < vs.length
      · have hlt2 : k < ws.length := by have := hn.out; omega
        obtain ⟨g, o, rfl, hat⟩ := atE_at (hrW.out _ hu) hlt
        obtain ⟨g2, o2, rfl, hat2⟩ := atE_at (hsW.out _ hu) hlt2
        have hw5 : IntKind.i64.wrap ((k : Int) + 1) = (k : Int) + 1 := Go.IntWalk.i64_in _ ⟨by omega, by omega⟩
        have t1 : vs.take (k + 1) = vs.take k ++ [vs[k]] := List.take_succ_eq_append_getElem hlt
        have t2 : ws.take (k + 1) = ws.take k ++ [ws[k]] := List.take_succ_eq_append_getElem hlt2
        have hne : vs[k] ≠ ws[k] → vs ≠ ws := fun h e => h (by subst e; rfl)
        generalize vs[k] = x at *
        generalize ws[k] = y at *
        have hnext : x = y → vs.take (k + 1) = ws.take (k + 1) := fun e => by rw [t1, t2, hT.out, e]
        clear t1 t2
        have hH := Lib.hid fun V (u : Upd (fun _ => False) wr V) => show (V.cell? ⟨g, o + k * 16, none⟩ = some (.int .i64 (x).ep) ∧ V.cell? ⟨g, o + k * 16 + 1, none⟩ = some (.string (x).key) ∧ V.cell? ⟨g, o + k * 16 + 2, none⟩ = some (.string (x).pol) ∧ V.cell? ⟨g, o + k * 16 + 3, none⟩ = some (.int .i64 (x).kd) ∧ V.cell? ⟨g, o + k * 16 + 4, none⟩ = some (.int .i64 (x).st) ∧ V.cell? ⟨g, o + k * 16 + 5, none⟩ = some (.int .i64 (x).rev) ∧ V.cell? ⟨g, o + k * 16 + 6, none⟩ = some (.bool (x).fin) ∧ V.cell? ⟨g, o + k * 16 + 7, none⟩ = some (.int .i64 (x).rk) ∧ V.cell? ⟨g, o + k * 16 + 8, none⟩ = some (.int .i64 (x).cnt) ∧ V.cell? ⟨g, o + k * 16 + 9, none⟩ = some (.int .i64 (x).sum) ∧ V.cell? ⟨g, o + k * 16 + 10, none⟩ = some (.int .i64 (x).mn) ∧ V.cell? ⟨g, o + k * 16 + 11, none⟩ = some (.int .i64 (x).mx) ∧ V.cell? ⟨g, o + k * 16 + 12, none⟩ = some (.int .i64 (x).q0) ∧ V.cell? ⟨g, o + k * 16 + 13, none⟩ = some (.int .i64 (x).q1) ∧ V.cell? ⟨g, o + k * 16 + 14, none⟩ = some (.int .i64 (x).q2) ∧ V.cell? ⟨g, o + k * 16 + 15, none⟩ = some (.bool (x).over)) ∧ (V.cell? ⟨g2, o2 + k * 16, none⟩ = some (.int .i64 (y).ep) ∧ V.cell? ⟨g2, o2 + k * 16 + 1, none⟩ = some (.string (y).key) ∧ V.cell? ⟨g2, o2 + k * 16 + 2, none⟩ = some (.string (y).pol) ∧ V.cell? ⟨g2, o2 + k * 16 + 3, none⟩ = some (.int .i64 (y).kd) ∧ V.cell? ⟨g2, o2 + k * 16 + 4, none⟩ = some (.int .i64 (y).st) ∧ V.cell? ⟨g2, o2 + k * 16 + 5, none⟩ = some (.int .i64 (y).rev) ∧ V.cell? ⟨g2, o2 + k * 16 + 6, none⟩ = some (.bool (y).fin) ∧ V.cell? ⟨g2, o2 + k * 16 + 7, none⟩ = some (.int .i64 (y).rk) ∧ V.cell? ⟨g2, o2 + k * 16 + 8, none⟩ = some (.int .i64 (y).cnt) ∧ V.cell? ⟨g2, o2 + k * 16 + 9, none⟩ = some (.int .i64 (y).sum) ∧ V.cell? ⟨g2, o2 + k * 16 + 10, none⟩ = some (.int .i64 (y).mn) ∧ V.cell? ⟨g2, o2 + k * 16 + 11, none⟩ = some (.int .i64 (y).mx) ∧ V.cell? ⟨g2, o2 + k * 16 + 12, none⟩ = some (.int .i64 (y).q0) ∧ V.cell? ⟨g2, o2 + k * 16 + 13, none⟩ = some (.int .i64 (y).q1) ∧ V.cell? ⟨g2, o2 + k * 16 + 14, none⟩ = some (.int .i64 (y).q2) ∧ V.cell? ⟨g2, o2 + k * 16 + 15, none⟩ = some (.bool (y).over)) from ⟨⟨cell_upd u hat.c0, cell_upd u hat.c1, cell_upd u hat.c2, cell_upd u hat.c3, cell_upd u hat.c4, cell_upd u hat.c5, cell_upd u hat.c6, cell_upd u hat.c7, cell_upd u hat.c8, cell_upd u hat.c9, cell_upd u hat.c10, cell_upd u hat.c11, cell_upd u hat.c12, cell_upd u hat.c13, cell_upd u hat.c14, cell_upd u hat.c15⟩, ⟨cell_upd u hat2.c0, cell_upd u hat2.c1, cell_upd u hat2.c2, cell_upd u hat2.c3, cell_upd u hat2.c4, cell_upd u hat2.c5, cell_upd u hat2.c6, cell_upd u hat2.c7, cell_upd u hat2.c8, cell_upd u hat2.c9, cell_upd u hat2.c10, cell_upd u hat2.c11, cell_upd u hat2.c12, cell_upd u hat2.c13, cell_upd u hat2.c14, cell_upd u hat2.c15⟩⟩
        have h0 := hH.out _ (Upd.drew _ _)
        have q2 := guardE
        have q1 := fun w => neqE1 x y w
        replace hu := Lib.hid hu
        replace hnext := Lib.hid hnext
        clear hat hat2
        by_cases hxy : x = y
        · simp only [decide_eq_true hxy, Bool.not_true] at q1
          replace hxy := Lib.hid hxy
          gi_wp2
          refine wpIn_eager [(0, true), (1, true), (2, true), (3, true), (4, true), (5, true), (6, true), (7, true), (8, true)] (fun V => (V.cell? ⟨g, o + k * 16, none⟩ = some (.int .i64 (x).ep) ∧ V.cell? ⟨g, o + k * 16 + 1, none⟩ = some (.string (x).key) ∧ V.cell? ⟨g, o + k * 16 + 2, none⟩ = some (.string (x).pol) ∧ V.cell? ⟨g, o + k * 16 + 3, none⟩ = some (.int .i64 (x).kd) ∧ V.cell? ⟨g, o + k * 16 + 4, none⟩ = some (.int .i64 (x).st) ∧ V.cell? ⟨g, o + k * 16 + 5, none⟩ = some (.int .i64 (x).rev) ∧ V.cell? ⟨g, o + k * 16 + 6, none⟩ = some (.bool (x).fin) ∧ V.cell? ⟨g, o + k * 16 + 7, none⟩ = some (.int .i64 (x).rk) ∧ V.cell? ⟨g, o + k * 16 + 8, none⟩ = some (.int .i64 (x).cnt) ∧ V.cell? ⟨g, o + k * 16 + 9, none⟩ = some (.int .i64 (x).sum) ∧ V.cell? ⟨g, o + k * 16 + 10, none⟩ = some (.int .i64 (x).mn) ∧ V.cell? ⟨g, o + k * 16 + 11, none⟩ = some (.int .i64 (x).mx) ∧ V.cell? ⟨g, o + k * 16 + 12, none⟩ = some (.int .i64 (x).q0) ∧ V.cell? ⟨g, o + k * 16 + 13, none⟩ = some (.int .i64 (x).q1) ∧ V.cell? ⟨g, o + k * 16 + 14, none⟩ = some (.int .i64 (x).q2) ∧ V.cell? ⟨g, o + k * 16 + 15, none⟩ = some (.bool (x).over)) ∧ (V.cell? ⟨g2, o2 + k * 16, none⟩ = some (.int .i64 (y).ep) ∧ V.cell? ⟨g2, o2 + k * 16 + 1, none⟩ = some (.string (y).key) ∧ V.cell? ⟨g2, o2 + k * 16 + 2, none⟩ = some (.string (y).pol) ∧ V.cell? ⟨g2, o2 + k * 16 + 3, none⟩ = some (.int .i64 (y).kd) ∧ V.cell? ⟨g2, o2 + k * 16 + 4, none⟩ = some (.int .i64 (y).st) ∧ V.cell? ⟨g2, o2 + k * 16 + 5, none⟩ = some (.int .i64 (y).rev) ∧ V.cell? ⟨g2, o2 + k * 16 + 6, none⟩ = some (.bool (y).fin) ∧ V.cell? ⟨g2, o2 + k * 16 + 7, none⟩ = some (.int .i64 (y).rk) ∧ V.cell? ⟨g2, o2 + k * 16 + 8, none⟩ = some (.int .i64 (y).cnt) ∧ V.cell? ⟨g2, o2 + k * 16 + 9, none⟩ = some (.int .i64 (y).sum) ∧ V.cell? ⟨g2, o2 + k * 16 + 10, none⟩ = some (.int .i64 (y).mn) ∧ V.cell? ⟨g2, o2 + k * 16 + 11, none⟩ = some (.int .i64 (y).mx) ∧ V.cell? ⟨g2, o2 + k * 16 + 12, none⟩ = some (.int .i64 (y).q0) ∧ V.cell? ⟨g2, o2 + k * 16 + 13, none⟩ = some (.int .i64 (y).q1) ∧ V.cell? ⟨g2, o2 + k * 16 + 14, none⟩ = some (.int .i64 (y).q2) ∧ V.cell? ⟨g2, o2 + k * 16 + 15, none⟩ = some (.bool (y).over))) (by kernel_rfl) (by kernel_rfl) h0 ?_
          repeat (first | (refine wpE_fl rfl rfl (fun _ _ => rfl) ?_; go_simp) | (refine wpE_sk rfl rfl ?_; go_simp) | (refine wpE_fl (v := ?_) rfl rfl ?_ ?_; rotate_left; (intro W' h'; (try dsimp only at h'); go_simp; exact rfl); go_simp) | (refine wpE_ef rfl ?_; go_simp; gi_wp2_with (first | refine (⟨trivial, rfl, ?_⟩ : Fence.wide.fn _ ∧ Fence.wide.depth = none ∧ _) | refine (⟨trivial, trivial, rfl, ?_⟩ : Fence.wide.fn _ ∧ Fence.wide.fn _ ∧ Fence.wide.depth = none ∧ _) | refine (⟨trivial, ?_⟩ : Fence.wide.fn _ ∧ _)); (first | refine ⟨by first | exact h0, ?_⟩ | skip)))
          refine wpE_nil ?_
          gi_wp2
          exact ⟨⟨k + 1, by go_num, by omega, Lib.hid (hnext.out hxy.out), hu.out.stepDrew⟩, by show vs.length - ((k : Int) + 1).toNat < vs.length - (k : Int).toNat; omega⟩
        · have hd : decide (vs = ws) = false := decide_eq_false (hne hxy)
          simp only [decide_eq_false hxy, Bool.not_false] at q1
          replace hd := Lib.hid hd
          clear hxy hne
          gi_wp2
          refine wpIn_eager [(0, true), (1, true), (2, true), (3, true), (4, true), (5, true), (6, true), (7, true), (8, true)] (fun V => (V.cell? ⟨g, o + k * 16, none⟩ = some (.int .i64 (x).ep) ∧ V.cell? ⟨g, o + k * 16 + 1, none⟩ = some (.string (x).key) ∧ V.cell? ⟨g, o + k * 16 + 2, none⟩ = some (.string (x).pol) ∧ V.cell? ⟨g, o + k * 16 + 3, none⟩ = some (.int .i64 (x).kd) ∧ V.cell? ⟨g, o + k * 16 + 4, none⟩ = some (.int .i64 (x).st) ∧ V.cell? ⟨g, o + k * 16 + 5, none⟩ = some (.int .i64 (x).rev) ∧ V.cell? ⟨g, o + k * 16 + 6, none⟩ = some (.bool (x).fin) ∧ V.cell? ⟨g, o + k * 16 + 7, none⟩ = some (.int .i64 (x).rk) ∧ V.cell? ⟨g, o + k * 16 + 8, none⟩ = some (.int .i64 (x).cnt) ∧ V.cell? ⟨g, o + k * 16 + 9, none⟩ = some (.int .i64 (x).sum) ∧ V.cell? ⟨g, o + k * 16 + 10, none⟩ = some (.int .i64 (x).mn) ∧ V.cell? ⟨g, o + k * 16 + 11, none⟩ = some (.int .i64 (x).mx) ∧ V.cell? ⟨g, o + k * 16 + 12, none⟩ = some (.int .i64 (x).q0) ∧ V.cell? ⟨g, o + k * 16 + 13, none⟩ = some (.int .i64 (x).q1) ∧ V.cell? ⟨g, o + k * 16 + 14, none⟩ = some (.int .i64 (x).q2) ∧ V.cell? ⟨g, o + k * 16 + 15, none⟩ = some (.bool (x).over)) ∧ (V.cell? ⟨g2, o2 + k * 16, none⟩ = some (.int .i64 (y).ep) ∧ V.cell? ⟨g2, o2 + k * 16 + 1, none⟩ = some (.string (y).key) ∧ V.cell? ⟨g2, o2 + k * 16 + 2, none⟩ = some (.string (y).pol) ∧ V.cell? ⟨g2, o2 + k * 16 + 3, none⟩ = some (.int .i64 (y).kd) ∧ V.cell? ⟨g2, o2 + k * 16 + 4, none⟩ = some (.int .i64 (y).st) ∧ V.cell? ⟨g2, o2 + k * 16 + 5, none⟩ = some (.int .i64 (y).rev) ∧ V.cell? ⟨g2, o2 + k * 16 + 6, none⟩ = some (.bool (y).fin) ∧ V.cell? ⟨g2, o2 + k * 16 + 7, none⟩ = some (.int .i64 (y).rk) ∧ V.cell? ⟨g2, o2 + k * 16 + 8, none⟩ = some (.int .i64 (y).cnt) ∧ V.cell? ⟨g2, o2 + k * 16 + 9, none⟩ = some (.int .i64 (y).sum) ∧ V.cell? ⟨g2, o2 + k * 16 + 10, none⟩ = some (.int .i64 (y).mn) ∧ V.cell? ⟨g2, o2 + k * 16 + 11, none⟩ = some (.int .i64 (y).mx) ∧ V.cell? ⟨g2, o2 + k * 16 + 12, none⟩ = some (.int .i64 (y).q0) ∧ V.cell? ⟨g2, o2 + k * 16 + 13, none⟩ = some (.int .i64 (y).q1) ∧ V.cell? ⟨g2, o2 + k * 16 + 14, none⟩ = some (.int .i64 (y).q2) ∧ V.cell? ⟨g2, o2 + k * 16 + 15, none⟩ = some (.bool (y).over))) (by kernel_rfl) (by kernel_rfl) h0 ?_
          repeat (first | (refine wpE_fl rfl rfl (fun _ _ => rfl) ?_; go_simp) | (refine wpE_sk rfl rfl ?_; go_simp) | (refine wpE_fl (v := ?_) rfl rfl ?_ ?_; rotate_left; (intro W' h'; (try dsimp only at h'); go_simp; exact rfl); go_simp) | (refine wpE_ef rfl ?_; go_simp; gi_wp2_with (first | refine (⟨trivial, rfl, ?_⟩ : Fence.wide.fn _ ∧ Fence.wide.depth = none ∧ _) | refine (⟨trivial, trivial, rfl, ?_⟩ : Fence.wide.fn _ ∧ Fence.wide.fn _ ∧ Fence.wide.depth = none ∧ _) | refine (⟨trivial, ?_⟩ : Fence.wide.fn _ ∧ _)); (first | refine ⟨by first | exact h0, ?_⟩ | skip)))
          refine wpE_nil ?_
          gi_wp2
          go_ret
          rw [hd.out]
          exact ⟨rfl, hu.out.stepDrew⟩
      · obtain rfl : k = vs.length := by omega
        have hd : decide (vs = ws) = true := by
          have h1 := hT.out
          rw [List.take_length, hn.out, List.take_length] at h1
          exact decide_eq_true h1
        replace hd := Lib.hid hd
        gi_wp2
        go_ret
        rw [hd.out]
        exact ⟨rfl, hu⟩
  · have hd : decide (vs = ws) = false := decide_eq_false fun e => hn (by rw [e])
    replace hd := Lib.hid hd
    refine callsIn_any (n := 0) (callsIn_of_wp Try.func18 rfl trivial ?_)
    simp only [Try.ntmps18, List.size_toArray, List.length_cons, List.length_nil, Nat.reduceAdd, Nat.reduceSub, Array.replicate_succ, Array.replicate_zero, List.push_toArray, List.append_toArray, List.nil_append, List.cons_append]
    gi_wp2
    go_ret
    rw [hd.out]
    exact ⟨rfl, Upd.refl _ _⟩
end
end Go.Proofs.Ytadeechoknpjhaa

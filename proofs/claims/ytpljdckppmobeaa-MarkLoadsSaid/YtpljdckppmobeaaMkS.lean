/- mark: State. -/
import Derived.Test.YtpljdckppmobeaaProg
import Derived.Test.YtpljdckppmobeaaBase
import Derived.Test.YtpljdckppmobeaaMkR
import Derived.Test.YtpljdckppmobeaaAppS
namespace Go.Proofs.Ytpljdckppmobeaa
open Go.RowKit Go.Shelf
attribute [local go_sem] Oper.semAt_some

def encS (x : KSM × VSM) : List Value := [.string x.1, .int .i64 x.2.1, .int .i64 x.2.2]
abbrev flatS (l : List (KSM × VSM)) : List Value := l.flatMap encS
theorem flatS_len (l : List (KSM × VSM)) : (flatS l).length = l.length * 3 := by
  induction l with
  | nil => rfl
  | cons x l ih => simp only [flatS, List.flatMap_cons, List.length_append, List.length_cons] at ih ⊢; rw [ih]; simp [encS]; omega
theorem flatS_append (l m : List (KSM × VSM)) : flatS (l ++ m) = flatS l ++ flatS m := by simp [flatS]
theorem flatS_one (l : List (KSM × VSM)) : ∀ u ∈ flatS l, u.oneCell' = true := by
  intro u hu
  simp only [flatS, List.mem_flatMap, encS, List.mem_cons, List.not_mem_nil, or_false] at hu
  obtain ⟨x, _, rfl | rfl | rfl⟩ := hu <;> rfl
theorem infoS : (Try.prog.info? 75).map (fun i => (i.zero, i.size, i.bytes)) = some (some (.agg #[.string ⟨#[]⟩, .int .i64 0, .int .i64 0]), 3, 32) := by kernel_rfl
theorem zS : (Value.agg #[.string ⟨#[]⟩, .int .i64 0, .int .i64 0]).cells.size = 3 := rfl
/-- A state's three cells. -/
theorem load3 {T : TypeId} {b : Nat} {w : World} {x0 x1 x2 : Value} (e1 : (isAgg T).run Try.prog w = .ok true w) (e2 : (Go.sizeOf T).run Try.prog w = .ok 3 w) (h0 : w.cell? ⟨b, 0, none⟩ = some x0) (h1 : w.cell? ⟨b, 1, none⟩ = some x1) (h2 : w.cell? ⟨b, 2, none⟩ = some x2) : (loadVar T ⟨b, 0, none⟩).run Try.prog w = .ok (.agg #[x0, x1, x2]) w := by
  simp [loadVar, Sem.run_bind, Result.andThen, e1, e2, loadCells, loadCellsFrom, Addr.add, h0, h1, h2]
theorem results_c3 {fn : Func} {p : Tmp} {T : TypeId} {b : Nat} {w : World} {tmps : Array Value} {x0 x1 x2 : Value} (h : fn.results = #[.cell p T]) (ha : tmps[p]?.getD undef = .pointer (some ⟨b, 0, none⟩)) (e1 : (isAgg T).run Try.prog w = .ok true w) (e2 : (Go.sizeOf T).run Try.prog w = .ok 3 w)
    (h0 : w.cell? ⟨b, 0, none⟩ = some x0) (h1 : w.cell? ⟨b, 1, none⟩ = some x1) (h2 : w.cell? ⟨b, 2, none⟩ = some x2) : (results fn tmps).run Try.prog w = .ok (.agg #[x0, x1, x2]) w := by
  have e := load3 e1 e2 h0 h1 h2
  simp only [results, h]
  simp [Sem.run_bind, Result.andThen, ha, asAddr, e]
/-- What is gathered so far: in field 2 of a variable. -/
def GatS (T E : TypeId) (bl base : Nat) (u0 u1 : Value) (s : List (KSM × VSM)) (W : World) (v : Value) : Prop := Blk W bl #[u0, u1, v] T ∧ W.ownsRow base E 3 v s.length (flatS s) ∧ v.ownBlock ≠ some bl
theorem GatS.agree {T E : TypeId} {bl base : Nat} {u0 u1 : Value} {s : List (KSM × VSM)} {W W' : World} {v : Value} (h : GatS T E bl base u0 u1 s W v) (ha : Agree (fun j => j = bl ∨ v.ownBlock = some j) W W') : GatS T E bl base u0 u1 s W' v :=
  ⟨h.1.agree ha (.inl rfl), own_agree h.2.1 (ha.mono fun _ h => .inr h), h.2.2⟩
/-- One more. -/
theorem GatS.push {T E : TypeId} {bl base g cap' : Nat} {u0 u1 : Value} {s : List (KSM × VSM)} {x : KSM × VSM} {W w' : World} {v : Value} (h : GatS T E bl base u0 u1 s W v) (h1 : w'.ownsRow base E 3 (.slice (some ⟨g, 0, none⟩) (s.length + 1) cap') (s.length + 1) (flatS s ++ encS x)) (h2 : Upd (fun j => v.ownBlock = some j) W w') (h3 : v.ownBlock = some g ∨ W.heap.size ≤ g) (h4 : g < w'.heap.size) :
    w'.cell? ⟨bl, 2, none⟩ = some v ∧ w'.frozen? ⟨bl, 2, none⟩ = false ∧ bl < w'.heap.size ∧ GatS T E bl base u0 u1 (s ++ [x]) (w'.setCell ⟨bl, 2, none⟩ (.slice (some ⟨g, 0, none⟩) (s.length + 1) cap')) (.slice (some ⟨g, 0, none⟩) (s.length + 1) cap') ∧
      Upd (fun j => j = bl ∨ v.ownBlock = some j) W (w'.setCell ⟨bl, 2, none⟩ (.slice (some ⟨g, 0, none⟩) (s.length + 1) cap')) ∧ (∀ j, (j = bl ∨ (Value.slice (some ⟨g, 0, none⟩) (s.length + 1) cap').ownBlock = some j) → j < (w'.setCell ⟨bl, 2, none⟩ (.slice (some ⟨g, 0, none⟩) (s.length + 1) cap')).heap.size ∧ ((j = bl ∨ v.ownBlock = some j) ∨ W.heap.size ≤ j)) := by
  obtain ⟨i1, i2, i5⟩ := h
  have hb1 := i1.upd h2 i5
  have hgb : g ≠ bl := by
    rintro rfl
    rcases h3 with h | h
    · exact i5 h
    · have := i1.lt; omega
  refine ⟨hb1.cell 2, hb1.frozen 2, hb1.lt, ⟨by simpa using hb1.set 2 (.slice (some ⟨g, 0, none⟩) (s.length + 1) cap'), ?_, by simpa [Value.ownBlock] using hgb⟩, ?_, ?_⟩
  · rw [flatS_append, List.length_append]
    have : flatS [x] = encS x := by simp [flatS]
    rw [this]
    exact own_agree h1 (fun j hj => Below.heap_setCell _ _ _ _ (fun e => hgb (by simp [Value.ownBlock] at hj; rw [hj]; exact e)))
  · exact (h2.mono fun j _ hj => .inr hj).stepSet (.inl (.inl rfl)) _
  · rintro j (rfl | hj)
    · exact ⟨by have := hb1.lt; simpa using this, .inl (.inl rfl)⟩
    · have hj' : g = j := by simpa [Value.ownBlock] using hj
      subst hj'
      exact ⟨by simpa using h4, h3.elim (fun h => .inl (.inr h)) .inr⟩
/-- 'l = append(l, x)', x of three cells, onto a slice of the call's own. -/
theorem app3 {F : Fence} {n : Nat} {P : Program} {T E : TypeId} {z : Value} {bytes : Nat} (hT : P.underlying T = some (.slice E)) (hI : (P.info? E).map (fun i => (i.zero, i.size, i.bytes)) = some (some z, 3, bytes)) (hz : z.cells.size = 3) (hby : bytes ≤ 1024)
    {ops : Array Oper} {rest : List Oper} {a : Act} {Q : Exit → Act → World → Prop} {s x : Operand} {dst : Option Tmp} {ty : TypeId} {pos : String} {aft : Array Edge} {wr : World} {base k : Nat} {v u1 u2 u3 : Value} {xs : List Value}
    (hown : wr.ownsRow base E 3 v k xs) (hb : base ≤ wr.heap.size) (hk : k < 1073741824) (hu1 : u1.oneCell' = true) (hu2 : u2.oneCell' = true) (hu3 : u3.oneCell' = true) (hs : a.eval s = v) (hx : a.eval x = .slice (some ⟨wr.heap.size, 0, none⟩) 1 1)
    (hK : ∀ g cap w', w'.ownsRow base E 3 (.slice (some ⟨g, 0, none⟩) (k + 1) cap) (k + 1) (xs ++ [u1, u2, u3]) → Upd (fun j => v.ownBlock = some j) wr w' → (v.ownBlock = some g ∨ wr.heap.size ≤ g) → g < w'.heap.size →
      wpListIn F n P ops Q rest (a.put dst (.slice (some ⟨g, 0, none⟩) (k + 1) cap)) w') :
    wpListIn F n P ops Q (Oper.mk dst (.call (Call.mk (.builtin .append) #[s, x] #[T, T])) ty pos aft none :: rest) a (wr.alloc (.cells #[u1, u2, u3] E)) :=
  appE (news := [u1, u2, u3]) hT hI hz (by omega) hby hown hb hk rfl (by simp [hu1, hu2, hu3]) hs hx hK
section
variable {mb : Nat} {idle drain now low : Int} {ls : List (KSM × VSM)} {F : Nat → Prop} {W : World}
set_option maxRecDepth 100000 in
set_option maxHeartbeats 4000000 in
theorem markState_c {n : Nat} (h : MkI mb idle drain now low ls F W) (hlen : ls.length ≤ 100000) : CallsIn Fence.wide n Try.prog 18 #[.pointer (some ⟨mb, 0, none⟩)] W fun e W2 => ∃ A cap, e = .returned (.agg #[.int .i64 now, .int .i64 low, .slice A ls.length cap]) ∧ Reads1 W2 A (flatS ls) ∧ (∀ j, blkOf A j → W.heap.size ≤ j) ∧ Upd (fun _ => False) W W2 := by
  have hFl := h.lt
  obtain ⟨rb, t, m1, m2, m3, m4⟩ := h
  have hrt : ∀ j, (j = rb ∨ t.has j) → j < W.heap.size := fun j hj => hFl j ((m3 j).2 (.inr hj))
  have hmb : mb < W.heap.size := hFl mb ((m3 mb).2 (.inl rfl))
  clear hFl m3 m4
  have uz := (Upd.alloc (fun _ => False) W (.cells #[.int .i64 0, .int .i64 0, .slice none 0 0] 47)).stepDrew
  have hz : (W.alloc (.cells #[.int .i64 0, .int .i64 0, .slice none 0 0] 47)).drew.heap.size = W.heap.size + 1 := World.size_alloc _ _
  have n1 := m1.upd uz id
  have c2 : (W.alloc (.cells #[.int .i64 0, .int .i64 0, .slice none 0 0] 47)).drew.cell? ⟨mb, 2, none⟩ = some (.int .i64 now) := n1.cell 2
  have c3 : (W.alloc (.cells #[.int .i64 0, .int .i64 0, .slice none 0 0] 47)).drew.cell? ⟨mb, 3, none⟩ = some (.int .i64 low) := n1.cell 3
  refine callsIn_any (n := 0) (callsIn_of_wp_marks Try.func18 rfl trivial ?_)
  simp only [Try.ntmps18, List.size_toArray, List.length_cons, List.length_nil, Nat.reduceAdd, Nat.reduceSub, Array.replicate_succ, Array.replicate_zero, List.push_toArray, List.append_toArray, List.nil_append, List.cons_append]
  obtain ⟨V0, hV0⟩ : ∃ V0, W.alloc (.cells #[.int .i64 0, .int .i64 0, .slice none 0 0] 47) = V0 := ⟨_, rfl⟩
  have r0 : Blk V0.drew W.heap.size #[.int .i64 0, .int .i64 0, .slice none 0 0] 47 := by rw [← hV0]; exact (Blk.new _ _ _).upd (Upd.drew (fun _ => False) _) id
  rw [hV0] at uz hz n1 c2 c3
  have ua : Upd (fun _ => False) V0.drew (V0.drew.alloc (.cells #[.int .i64 0, .int .i64 0, .slice none 0 0] 47)) := Upd.alloc _ _ _
  have ub : Upd (fun _ => False) V0.drew (V0.drew.alloc (.cells #[.int .i64 now, .int .i64 low, .slice none 0 0] 47)) := Upd.alloc _ _ _
  have bb := Blk.new V0.drew #[.int .i64 now, .int .i64 low, .slice none 0 0] 47
  have d2 := (n1.upd ua id).cell 2
  have d3 := (n1.upd ua id).cell 3
  have g2 := (n1.upd ub id).cell 2
  have g3 := (n1.upd ub id).cell 3
  have g4 : (V0.drew.alloc (.cells #[.int .i64 now, .int .i64 low, .slice none 0 0] 47)).cell? ⟨mb, 4, none⟩ = some (.pointer (some ⟨rb, 0, none⟩)) := (n1.upd ub id).cell 4
  rw [hz] at bb
  have hzd : V0.heap.size = W.heap.size + 1 := hz
  gi_wp2
  refine wpIn_eager [(0, true), (1, true), (2, true), (3, true), (4, true), (5, true), (6, true), (7, true), (8, true), (9, false), (10, false)] (fun V => V.cell? ⟨mb, 2, none⟩ = some (.int .i64 now) ∧ V.cell? ⟨mb, 3, none⟩ = some (.int .i64 low)) (by kernel_rfl) (by kernel_rfl) ⟨c2, c3⟩ ?_
  repeat (first | (refine wpE_fl rfl rfl (fun _ _ => rfl) ?_; go_simp) | (refine wpE_sk rfl rfl ?_; go_simp) | (refine wpE_fl (v := ?_) rfl rfl ?_ ?_; rotate_left; (intro W' h'; (try dsimp only at h'); go_simp; exact rfl); go_simp) | (refine wpE_ef rfl ?_; go_simp; gi_wp2_with (first | refine (⟨trivial, rfl, ?_⟩ : Fence.wide.fn _ ∧ Fence.wide.depth = none ∧ _) | refine (⟨trivial, trivial, rfl, ?_⟩ : Fence.wide.fn _ ∧ Fence.wide.fn _ ∧ Fence.wide.depth = none ∧ _) | refine (⟨trivial, ?_⟩ : Fence.wide.fn _ ∧ _)); (first | refine ⟨by first | exact ⟨c2, c3⟩ | exact ⟨d2, d3⟩ | exact ⟨g2, g3⟩, ?_⟩ | skip)))
  refine wpE_nil ?_
  have ee : V0.drew.alloc (.cells #[.int .i64 now, .int .i64 low, .slice none 0 0] 47) = (V0.alloc (.cells #[.int .i64 now, .int .i64 low, .slice none 0 0] 47)).drew := rfl
  rw [ee] at bb g4 ub
  obtain ⟨V1, hV1⟩ : ∃ V1, (V0.alloc (.cells #[.int .i64 now, .int .i64 low, .slice none 0 0] 47)).drew = V1 := ⟨_, rfl⟩
  rw [hV1] at bb g4 ub
  have uW1 : Upd (fun _ => False) W V1 := uz.trans' ub
  have r1 := r0.upd ub id
  have k1 := (rackAllSM (n := 0) (rb := rb) (w := V1)).mono (R' := fun e W2 => ∃ br, e = .returned (.func (.func 43) #[] #[.pointer (some ⟨br, 0, none⟩)]) ∧ W.heap.size + 1 < br ∧ Upd (fun _ => False) V1 W2 ∧
      SeqO Try.prog (.func (.func 43) #[] #[.pointer (some ⟨br, 0, none⟩)]) encSM (ls.map fun x => ((), x)) () () (fun _ _ => True) (fun _ => False) (fun j => j = br ∨ j = rb ∨ t.has j) W2) (by
    rintro e W2 ⟨br, rfl, q1, q2, q3⟩
    exact ⟨br, rfl, by have := bb.lt; omega, q3, allSeqSM (m2.upd (uW1.trans' q3) fun _ _ => id) q1⟩)
  replace k1 := Lib.hid k1
  clear m1 m2 n1 c2 c3 d2 d3 g2 g3 ua ee r0 hz uz
  gi_wp2_with (first | refine (⟨trivial, rfl, ?_⟩ : Fence.wide.fn _ ∧ Fence.wide.depth = none ∧ _) | (gi_at_call 32; (with_reducible refine k1.out.mono ?_); rintro e W2 ⟨br, rfl, hbr, u2, hseq⟩; (replace hseq := Lib.hid hseq); (replace u2 := Lib.hid u2)) | refine (⟨trivial, ?_⟩ : Fence.wide.fn _ ∧ _))
  rename_i KK hKK
  have b2 := bb.upd u2.out id
  have r2 := r1.upd u2.out id
  have l2 := b2.lt
  have uW2 : Upd (fun _ => False) W W2 := uW1.trans' u2.out
  have eel : (ls.map fun x => ((), x)).map (·.2) = ls := by simp [Function.comp_def]
  have hgo : ∀ (m s : List (KSM × VSM)), m.foldl (fun (s : List (KSM × VSM)) (x : KSM × VSM) => s ++ [x]) s = s ++ m := by
    intro m
    induction m with
    | nil => intro s; simp
    | cons x m ih => intro s; rw [List.foldl_cons, ih]; simp
  have hI0 : GatS 47 75 (W.heap.size + 1) W.heap.size (.int .i64 now) (.int .i64 low) [] W2 (.slice none 0 0) := ⟨b2, World.ownsRow_nil W2 _ _ 3, by simp [Value.ownBlock]⟩
  refine wpIn_range_at hseq.out rfl (Nat.le_refl _) (Agree.refl _ _) trivial (fun _ => rfl) (fun s x => (s ++ [x], none)) (fun s' S1 W1 => ∃ v, GatS 47 75 (W.heap.size + 1) W.heap.size (.int .i64 now) (.int .i64 low) s' W1 v ∧ ∀ j, (j = W.heap.size + 1 ∨ v.ownBlock = some j) → S1 j) [] (fun k => k = W.heap.size + 1) ?hS ?hstab ⟨_, hI0, fun j hj => hj.elim id fun h => by simp [Value.ownBlock] at h⟩ ?hround ?hend
  case hS =>
    rintro k rfl
    exact ⟨l2, fun h => h.elim (fun h => by omega) fun h => by have := hrt _ h; omega, id⟩
  case hstab =>
    rintro s' S1 Wa Wb ⟨v, q1, q2⟩ hA _
    exact ⟨v, q1.agree (hA.mono fun j hj => q2 j hj), q2⟩
  case hround =>
    rintro lb pre e suf s1 S1 W1 hlb he hgo1 ⟨v, q1, q2⟩ hsz hu1 hS1
    subst hlb
    rw [eel] at he
    rw [goR_all, hgo] at hgo1
    have hs1 : s1.length ≤ 100000 := by
      have e1 := (Prod.mk.inj hgo1).1
      have e2 := congrArg List.length he
      simp at e1 e2
      rw [← e1]; omega
    obtain ⟨nm, tm, at0⟩ := e
    have q0 := q1
    obtain ⟨A3, cap3, rfl⟩ := own_shape q1.2.1
    clear hgo1 he eel hseq hKK KK hgo hI0 b2 r2 r1 bb uW1 ub k1 g4
    gi_wp2
    refine ⟨Upd.alloc _ _ _, ?_⟩
    intro Wb hub hbs hrec
    have u1b := (Upd.alloc (fun k => k = W2.heap.size + 1) W1 (.cells #[.int .i64 tm, .int .i64 at0] 60)).trans' hub
    have hG := q1.agree (u1b.agree fun j hj => ⟨(hS1 j (q2 j hj)).1, (hS1 j (q2 j hj)).2.1⟩)
    have j9 := (Blk.new W1 #[.int .i64 tm, .int .i64 at0] 60).upd hub (by omega)
    have c9 : Wb.cell? ⟨W1.heap.size, 0, none⟩ = some (.int .i64 tm) := j9.cell 0
    have c9' : Wb.cell? ⟨W1.heap.size, 1, none⟩ = some (.int .i64 at0) := j9.cell 1
    have cS : Wb.cell? ⟨W.heap.size + 1, 2, none⟩ = some (.slice A3 s1.length cap3) := hG.1.cell 2
    have hzb := u1b.size
    have z2 := uW2.size
    have fin : ∀ g' cap' w', w'.ownsRow W.heap.size 75 3 (.slice (some ⟨g', 0, none⟩) (s1.length + 1) cap') (s1.length + 1) (flatS s1 ++ [.string nm, .int .i64 tm, .int .i64 at0]) → Upd (fun j => (Value.slice A3 s1.length cap3).ownBlock = some j) Wb w' → ((Value.slice A3 s1.length cap3).ownBlock = some g' ∨ Wb.heap.size ≤ g') → g' < w'.heap.size →
        w'.cell? ⟨W.heap.size + 1, 2, none⟩ = some (.slice A3 s1.length cap3) ∧ w'.frozen? ⟨W.heap.size + 1, 2, none⟩ = false ∧ W.heap.size + 1 < w'.heap.size ∧
        Held (fun (s' : List (KSM × VSM)) (S1 : Nat → Prop) (W1 : World) => ∃ v, GatS 47 75 (W.heap.size + 1) W.heap.size (.int .i64 now) (.int .i64 low) s' W1 v ∧ ∀ j, (j = W.heap.size + 1 ∨ v.ownBlock = some j) → S1 j) (s1 ++ [(nm, tm, at0)]) (fun k => S1 k ∨ W1.heap.size ≤ k) Wb (w'.setCell ⟨W.heap.size + 1, 2, none⟩ (.slice (some ⟨g', 0, none⟩) (s1.length + 1) cap')) := by
      intro g' cap' w' h1 h2 h3 h4
      obtain ⟨p1, p2, p3, p4, p5, p6⟩ := hG.push (x := (nm, tm, at0)) h1 h2 h3 h4
      refine ⟨p1, p2, p3, fun j => j = W.heap.size + 1 ∨ (Value.slice (some ⟨g', 0, none⟩) (s1.length + 1) cap').ownBlock = some j, ⟨_, p4, fun j hj => hj⟩, p5.mono fun j _ hj => .inl (q2 j hj), fun j hj => ⟨(p6 j hj).1, (p6 j hj).2.elim (fun h => .inl (.inl (q2 j h))) .inr⟩⟩
    replace fin := Lib.hid fin
    have ho := hG.2.1
    have hwb : W.heap.size ≤ Wb.heap.size := by omega
    replace hbs := Lib.hid hbs
    clear hub hrec hu1 hS1 q0 q1 q2 hG j9 u1b
    gi_wp2_with (first | refine (⟨trivial, rfl, ?_⟩ : Fence.wide.fn _ ∧ Fence.wide.depth = none ∧ _) | ((with_reducible refine app3 Try.underlying45 infoS zS (by omega) ho ?_ ?_ ?_ ?_ ?_ ?_ ?_ ?_); exact hwb; omega; rfl; rfl; rfl; rfl; rfl; intro g' cap' w' h1 h2 h3 h4; obtain ⟨k1, k2, k3, k4⟩ := fin.out g' cap' w' h1 h2 h3 h4; (replace k4 := Lib.hid k4); clear h1 h2 h3 h4) | refine (⟨trivial, ?_⟩ : Fence.wide.fn _ ∧ _))
    exact ⟨rfl, k4.out⟩
  case hend =>
    rintro S1 W' ⟨v, q1, q2⟩ hOw hu1 hsz hS1 hdef
    rw [eel, goR_all, hgo] at q1
    rw [eel, goR_all]
    simp only [List.nil_append] at q1 ⊢
    have z2 := uW2.size
    have hu : Upd (fun _ => False) W W' := uW2.trans hu1 fun k hk => by
      rcases hk with h | h
      · exact .inr (by omega)
      · exact h.elim
    have r5 := r2.upd hu1 (by rintro (h | h); omega; exact h)
    obtain ⟨A5, cap5, rfl, hn5, hr5, _, hb5⟩ := own_readsS q1.2.1
    have hge := own_ge q1.2.1
    have hob := q1.2.2
    have hlt5 : ∀ j, blkOf A5 j → j ≠ W2.heap.size := fun j hj => (hS1 j (q2 j (.inr (hb5 j hj)))).2.1
    have hne0 : ∀ j, blkOf A5 j → j ≠ W.heap.size := fun j hj => by
      have h1 := hS1 j (q2 j (.inr (hb5 j hj)))
      rcases h1.2.2 with h | h <;> omega
    have c0 : W'.cell? ⟨W.heap.size + 1, 0, none⟩ = some (.int .i64 now) := q1.1.cell 0
    have c1 : W'.cell? ⟨W.heap.size + 1, 1, none⟩ = some (.int .i64 low) := q1.1.cell 1
    have c2 : W'.cell? ⟨W.heap.size + 1, 2, none⟩ = some (.slice A5 ls.length cap5) := q1.1.cell 2
    have e0 : W'.cell? ⟨W.heap.size, 0, none⟩ = some (.int .i64 0) := r5.cell 0
    have e1 : W'.cell? ⟨W.heap.size, 1, none⟩ = some (.int .i64 0) := r5.cell 1
    have e2 : W'.cell? ⟨W.heap.size, 2, none⟩ = some (.slice none 0 0) := r5.cell 2
    have f0 := r5.frozen 0
    have f1 := r5.frozen 1
    have f2 := r5.frozen 2
    have l5 := r5.lt
    have r6 := ((r5.set 0 (.int .i64 now)).set 1 (.int .i64 low)).set 2 (.slice A5 ls.length cap5)
    have hd' : (((W'.setCell ⟨W.heap.size, 0, none⟩ (.int .i64 now)).setCell ⟨W.heap.size, 1, none⟩ (.int .i64 low)).setCell ⟨W.heap.size, 2, none⟩ (.slice A5 ls.length cap5)).heap[W2.heap.size]? = some (.deferred (some [])) := by
      rw [Below.heap_setCell _ _ _ _ (by dsimp only; omega), Below.heap_setCell _ _ _ _ (by dsimp only; omega), Below.heap_setCell _ _ _ _ (by dsimp only; omega)]; exact hdef
    have u6 := (((hu.stepSet (p := ⟨W.heap.size, 0, none⟩) (.inr (Nat.le_refl _)) (.int .i64 now)).stepSet (p := ⟨W.heap.size, 1, none⟩) (.inr (Nat.le_refl _)) (.int .i64 low)).stepSet (p := ⟨W.heap.size, 2, none⟩) (.inr (Nat.le_refl _)) (.slice A5 ls.length cap5)).stepPut (r := W2.heap.size) (.inr z2) (.deferred none)
    have hr6 : Reads1 ((((W'.setCell ⟨W.heap.size, 0, none⟩ (.int .i64 now)).setCell ⟨W.heap.size, 1, none⟩ (.int .i64 low)).setCell ⟨W.heap.size, 2, none⟩ (.slice A5 ls.length cap5)).putObj W2.heap.size (.deferred none)) A5 (flatS ls) := hr5.agree' fun k hk => by
      rw [World.putObj_heap_other (hlt5 k hk.2), Below.heap_setCell _ _ _ _ (fun e => hne0 k hk.2 (by simpa using e)), Below.heap_setCell _ _ _ _ (fun e => hne0 k hk.2 (by simpa using e)), Below.heap_setCell _ _ _ _ (fun e => hne0 k hk.2 (by simpa using e))]
    have r7 := r6.upd (Upd.putObj (M := fun j => j = W2.heap.size) rfl (.deferred none)) (by omega)
    replace r7 := Lib.hid r7
    replace hr6 := Lib.hid hr6
    replace u6 := Lib.hid u6
    replace hge := Lib.hid hge
    replace hb5 := Lib.hid hb5
    clear hr5 q1 q2 hu1 hOw hS1 hseq b2 r2 r1 bb uW1 ub k1 g4 hI0 r6 hu hdef hob hlt5 hne0
    gi_wp2
    refine ⟨by simp, .inl ⟨_, _, rfl, run_takeDeferred hd', ⟨_, results_c3 rfl rfl rfl rfl (r7.out.cell 0) (r7.out.cell 1) (r7.out.cell 2), ?_⟩⟩⟩
    exact ⟨A5, cap5, rfl, hr6.out, fun j hj => hge.out j (hb5.out j hj), u6.out⟩
end
end Go.Proofs.Ytpljdckppmobeaa

/- seen: lists of sources in memory; State. -/
import Derived.Test.YtgleiajmdbekiaaProg
import Derived.Test.YtgleiajmdbekiaaBase
import Derived.Test.YtgleiajmdbekiaaSeD
import Derived.Test.YtgleiajmdbekiaaSkRef
import Derived.Test.YtgleiajmdbekiaaRkSPF
import Derived.Test.YtgleiajmdbekiaaRowG
import Derived.Test.YtgleiajmdbekiaaForkE
namespace Go.Proofs.Ytgleiajmdbekiaa
open Go.RowKit Go.Shelf
attribute [local go_sem] Oper.semAt_some

/-- A source as it lies in a slice: its name, its floor, its numbers, and where these lie. -/
abbrev SrcP := ByteArray × Int × List Int × Option Addr × Nat
def encT (r : SrcP) : List Value := [.string r.1, .int .i64 r.2.1, .slice r.2.2.2.1 r.2.2.1.length r.2.2.2.2]
abbrev flatT (l : List SrcP) : List Value := l.flatMap encT
def absT (r : SrcP) : ByteArray × Src := (r.1, r.2.1, r.2.2.1)
structure ReadsT (W : World) (A : Option Addr) (rs : List SrcP) : Prop where
  cells : Reads1 W A (flatT rs)
  each : ∀ r ∈ rs, Reads1 W r.2.2.2.1 (intsV r.2.2.1) ∧ r.2.2.1.length ≤ r.2.2.2.2
def blkT (A : Option Addr) (rs : List SrcP) (j : Nat) : Prop := blkOf' A (rs.length * 3) j ∨ ∃ r ∈ rs, blkOf' r.2.2.2.1 r.2.2.1.length j
theorem flatT_len (l : List SrcP) : (flatT l).length = l.length * 3 := by
  induction l with
  | nil => rfl
  | cons x l ih => simp only [flatT, List.flatMap_cons, List.length_append, List.length_cons] at ih ⊢; rw [ih]; simp [encT]; omega
theorem flatT_append (l m : List SrcP) : flatT (l ++ m) = flatT l ++ flatT m := by simp [flatT]
theorem flatT_one (l : List SrcP) : ∀ u ∈ flatT l, u.oneCell' = true := by
  intro u hu
  simp only [flatT, List.mem_flatMap, encT, List.mem_cons, List.not_mem_nil, or_false] at hu
  obtain ⟨x, _, rfl | rfl | rfl⟩ := hu <;> rfl
theorem ReadsT.agree {W W2 : World} {A : Option Addr} {rs : List SrcP} (h : ReadsT W A rs) (ha : Agree (blkT A rs) W W2) : ReadsT W2 A rs :=
  ⟨h.cells.agree' (ha.mono fun j hj => .inl (by rwa [flatT_len] at hj)), fun r hr => ⟨(h.each r hr).1.agree' (ha.mono fun j hj => .inr ⟨r, hr, by rwa [intsV_len] at hj⟩), (h.each r hr).2⟩⟩
theorem ReadsT.lt {W : World} {A : Option Addr} {rs : List SrcP} (h : ReadsT W A rs) : ∀ j, blkT A rs j → j < W.heap.size := by
  rintro j (hj | ⟨r, hr, hj⟩)
  · exact h.cells.lt' j (by rwa [flatT_len])
  · exact (h.each r hr).1.lt' j (by rwa [intsV_len])
theorem ReadsT.upd {W W2 : World} {M : Nat → Prop} {A : Option Addr} {rs : List SrcP} (h : ReadsT W A rs) (hu : Upd M W W2) (hM : ∀ j, blkT A rs j → ¬ M j) : ReadsT W2 A rs := h.agree (hu.agree fun j hj => ⟨h.lt j hj, hM j hj⟩)
/-- The source at a place. -/
theorem ReadsT.at {W : World} {A : Option Addr} {rs : List SrcP} (hr : ReadsT W A rs) {k : Nat} (hk : k < rs.length) :
    ∃ g o, A = some ⟨g, o, none⟩ ∧ W.cell? ⟨g, o + k * 3, none⟩ = some (.string rs[k].1) ∧ W.cell? ⟨g, o + k * 3 + 1, none⟩ = some (.int .i64 rs[k].2.1) ∧ W.cell? ⟨g, o + k * 3 + 2, none⟩ = some (.slice rs[k].2.2.2.1 rs[k].2.2.1.length rs[k].2.2.2.2) := by
  have hn : ∀ a, (encT a).length = 3 := fun _ => rfl
  have hl : 0 < (flatT rs).length := by rw [flatT_len]; omega
  obtain ⟨g, o, rfl, hc⟩ := reads_at hr.cells hl
  refine ⟨g, o, rfl, hc _ _ (flatMap_at hn rs k hk 0 (by omega)), ?_, ?_⟩
  · have := hc _ _ (flatMap_at hn rs k hk 1 (by omega)); rwa [← Nat.add_assoc] at this
  · have := hc _ _ (flatMap_at hn rs k hk 2 (by omega)); rwa [← Nat.add_assoc] at this
theorem infoT : (Try.prog.info? 43).map (fun i => (i.zero, i.size, i.bytes)) = some (some (.agg #[.string ⟨#[]⟩, .int .i64 0, .slice none 0 0]), 3, 48) := by kernel_rfl
theorem zT : (Value.agg #[.string ⟨#[]⟩, .int .i64 0, .slice none 0 0]).cells.size = 3 := rfl
theorem load1 {T : TypeId} {b : Nat} {w : World} {x0 : Value} (e1 : (isAgg T).run Try.prog w = .ok true w) (e2 : (Go.sizeOf T).run Try.prog w = .ok 1 w) (h0 : w.cell? ⟨b, 0, none⟩ = some x0) : (loadVar T ⟨b, 0, none⟩).run Try.prog w = .ok (.agg #[x0]) w := by
  simp [loadVar, Sem.run_bind, Result.andThen, e1, e2, loadCells, loadCellsFrom, Addr.add, h0]
theorem results_c1 {fn : Func} {p : Tmp} {T : TypeId} {b : Nat} {w : World} {tmps : Array Value} {x0 : Value} (h : fn.results = #[.cell p T]) (ha : tmps[p]?.getD undef = .pointer (some ⟨b, 0, none⟩)) (e1 : (isAgg T).run Try.prog w = .ok true w) (e2 : (Go.sizeOf T).run Try.prog w = .ok 1 w)
    (h0 : w.cell? ⟨b, 0, none⟩ = some x0) : (results fn tmps).run Try.prog w = .ok (.agg #[x0]) w := by
  have e := load1 e1 e2 h0
  simp only [results, h]
  simp [Sem.run_bind, Result.andThen, ha, asAddr, e]
/-- 'l = append(l, x)', x of three cells, onto a slice of the call's own. -/
theorem app3 {F : Fence} {n : Nat} {P : Program} {T E : TypeId} {z : Value} {bytes : Nat} (hT : P.underlying T = some (.slice E)) (hI : (P.info? E).map (fun i => (i.zero, i.size, i.bytes)) = some (some z, 3, bytes)) (hz : z.cells.size = 3) (hby : bytes ≤ 1024)
    {ops : Array Oper} {rest : List Oper} {a : Act} {Q : Exit → Act → World → Prop} {s x : Operand} {dst : Option Tmp} {ty : TypeId} {pos : String} {aft : Array Edge} {wr : World} {base k : Nat} {v u1 u2 u3 : Value} {xs : List Value}
    (hown : wr.ownsRow base E 3 v k xs) (hb : base ≤ wr.heap.size) (hk : k < 1073741824) (hu1 : u1.oneCell' = true) (hu2 : u2.oneCell' = true) (hu3 : u3.oneCell' = true) (hs : a.eval s = v) (hx : a.eval x = .slice (some ⟨wr.heap.size, 0, none⟩) 1 1)
    (hK : ∀ g cap w', w'.ownsRow base E 3 (.slice (some ⟨g, 0, none⟩) (k + 1) cap) (k + 1) (xs ++ [u1, u2, u3]) → Upd (fun j => v.ownBlock = some j) wr w' → (v.ownBlock = some g ∨ wr.heap.size ≤ g) → g < w'.heap.size →
      wpListIn F n P ops Q rest (a.put dst (.slice (some ⟨g, 0, none⟩) (k + 1) cap)) w') :
    wpListIn F n P ops Q (Oper.mk dst (.call (Call.mk (.builtin .append) #[s, x] #[T, T])) ty pos aft none :: rest) a (wr.alloc (.cells #[u1, u2, u3] E)) :=
  appE (news := [u1, u2, u3]) hT hI hz (by omega) hby hown hb hk rfl (by simp [hu1, hu2, hu3]) hs hx hK
/-- Sources gathered so far, in a variable of one cell, at bl, of type T; V: none but blocks from base on are read. -/
structure GatT (T E : TypeId) (bl base : Nat) (rs : List SrcP) (W : World) (v : Value) : Prop where
  blk : Blk W bl #[v] T
  row : W.ownsRow base E 3 v rs.length (flatT rs)
  ne : v.ownBlock ≠ some bl
  each : ∀ r ∈ rs, Reads1 W r.2.2.2.1 (intsV r.2.2.1) ∧ r.2.2.1.length ≤ r.2.2.2.2
  sep : ∀ r ∈ rs, ∀ j, blkOf' r.2.2.2.1 r.2.2.1.length j → j ≠ bl ∧ v.ownBlock ≠ some j
/-- The blocks that hold it. -/
def gatB (bl : Nat) (rs : List SrcP) (v : Value) (j : Nat) : Prop := j = bl ∨ v.ownBlock = some j ∨ ∃ r ∈ rs, blkOf' r.2.2.2.1 r.2.2.1.length j
theorem GatT.agree {T E : TypeId} {bl base : Nat} {rs : List SrcP} {W W2 : World} {v : Value} (h : GatT T E bl base rs W v) (ha : Agree (gatB bl rs v) W W2) : GatT T E bl base rs W2 v :=
  ⟨h.blk.agree ha (.inl rfl), own_agree h.row (ha.mono fun j hj => .inr (.inl hj)), h.ne, fun r hr => ⟨(h.each r hr).1.agree' (ha.mono fun j hj => .inr (.inr ⟨r, hr, by rwa [intsV_len] at hj⟩)), (h.each r hr).2⟩, h.sep⟩
theorem GatT.lt {T E : TypeId} {bl base : Nat} {rs : List SrcP} {W : World} {v : Value} (h : GatT T E bl base rs W v) : ∀ j, gatB bl rs v j → j < W.heap.size := by
  rintro j (rfl | hj | ⟨r, hr, hj⟩)
  · exact h.blk.lt
  · exact (h.row.lt j hj).2
  · exact (h.each r hr).1.lt' j (by rwa [intsV_len])
theorem GatT.push {T E : TypeId} {bl base g cap' : Nat} {rs : List SrcP} {r : SrcP} {W w' : World} {v : Value} (h : GatT T E bl base rs W v) (hr : Reads1 W r.2.2.2.1 (intsV r.2.2.1)) (hrl : r.2.2.1.length ≤ r.2.2.2.2) (hrs : ∀ j, blkOf' r.2.2.2.1 r.2.2.1.length j → j ≠ bl ∧ v.ownBlock ≠ some j)
    (h1 : w'.ownsRow base E 3 (.slice (some ⟨g, 0, none⟩) (rs.length + 1) cap') (rs.length + 1) (flatT rs ++ encT r)) (h2 : Upd (fun j => v.ownBlock = some j) W w') (h3 : v.ownBlock = some g ∨ W.heap.size ≤ g) (h4 : g < w'.heap.size) :
    w'.cell? ⟨bl, 0, none⟩ = some v ∧ w'.frozen? ⟨bl, 0, none⟩ = false ∧ bl < w'.heap.size ∧ GatT T E bl base (rs ++ [r]) (w'.setCell ⟨bl, 0, none⟩ (.slice (some ⟨g, 0, none⟩) (rs.length + 1) cap')) (.slice (some ⟨g, 0, none⟩) (rs.length + 1) cap') ∧
      Upd (fun j => j = bl ∨ v.ownBlock = some j) W (w'.setCell ⟨bl, 0, none⟩ (.slice (some ⟨g, 0, none⟩) (rs.length + 1) cap')) ∧
      (∀ j, gatB bl (rs ++ [r]) (.slice (some ⟨g, 0, none⟩) (rs.length + 1) cap') j → j < (w'.setCell ⟨bl, 0, none⟩ (.slice (some ⟨g, 0, none⟩) (rs.length + 1) cap')).heap.size ∧ (gatB bl rs v j ∨ blkOf' r.2.2.2.1 r.2.2.1.length j ∨ W.heap.size ≤ j)) := by
  have hb1 := h.blk.upd h2 h.ne
  have hgb : g ≠ bl := by
    rintro rfl
    rcases h3 with h' | h'
    · exact h.ne h'
    · have := h.blk.lt; omega
  have hu : Upd (fun j => j = bl ∨ v.ownBlock = some j) W (w'.setCell ⟨bl, 0, none⟩ (.slice (some ⟨g, 0, none⟩) (rs.length + 1) cap')) := (h2.mono fun j _ hj => .inr hj).stepSet (.inl (.inl rfl)) _
  have hsep : ∀ r' ∈ rs ++ [r], (∀ j, blkOf' r'.2.2.2.1 r'.2.2.1.length j → j ≠ bl ∧ v.ownBlock ≠ some j) ∧ Reads1 W r'.2.2.2.1 (intsV r'.2.2.1) ∧ r'.2.2.1.length ≤ r'.2.2.2.2 := fun r' hr' => by
    rcases List.mem_append.1 hr' with hr' | hr'
    · exact ⟨h.sep r' hr', h.each r' hr'⟩
    · obtain rfl := List.mem_singleton.1 hr'
      exact ⟨hrs, hr, hrl⟩
  have hlt : ∀ r' ∈ rs ++ [r], ∀ j, blkOf' r'.2.2.2.1 r'.2.2.1.length j → j < W.heap.size := fun r' hr' j hj => (hsep r' hr').2.1.lt' j (by rwa [intsV_len])
  refine ⟨hb1.cell0, hb1.frozen 0, hb1.lt, ⟨by simpa using hb1.set 0 (.slice (some ⟨g, 0, none⟩) (rs.length + 1) cap'), ?_, by simpa [Value.ownBlock] using hgb, fun r' hr' => ⟨?_, (hsep r' hr').2.2⟩, fun r' hr' j hj => ⟨((hsep r' hr').1 j hj).1, ?_⟩⟩, hu, ?_⟩
  · rw [flatT_append, List.length_append]
    have e : flatT [r] = encT r := by simp [flatT]
    rw [e]
    exact own_agree h1 (fun j hj => Below.heap_setCell _ _ _ _ (fun e => hgb (by simp [Value.ownBlock] at hj; rw [hj]; exact e)))
  · exact (hsep r' hr').2.1.agree' (hu.agree fun j hj => ⟨(hsep r' hr').2.1.lt' j hj, fun e => by
      have hj' : blkOf' r'.2.2.2.1 r'.2.2.1.length j := by rwa [intsV_len] at hj
      rcases e with e | e
      · exact ((hsep r' hr').1 j hj').1 e
      · exact ((hsep r' hr').1 j hj').2 e⟩)
  · intro e
    have hj' : g = j := by simpa [Value.ownBlock] using e
    subst hj'
    rcases h3 with h' | h'
    · exact ((hsep r' hr').1 _ hj).2 h'
    · have := hlt r' hr' _ hj; omega
  · have hz := hu.size
    rintro j (rfl | hj | ⟨r', hr', hj⟩)
    · exact ⟨by have := hb1.lt; simpa using this, .inl (.inl rfl)⟩
    · have hj' : g = j := by simpa [Value.ownBlock] using hj
      subst hj'
      exact ⟨by simpa using h4, h3.elim (fun h => .inl (.inr (.inl h))) fun h => .inr (.inr h)⟩
    · refine ⟨by have := hlt r' hr' j hj; omega, ?_⟩
      rcases List.mem_append.1 hr' with hr2 | hr2
      · exact .inl (.inr (.inr ⟨r', hr2, hj⟩))
      · obtain rfl := List.mem_singleton.1 hr2
        exact .inr (.inl hj)
theorem ptrs_split {es : Ents} {pre suf : List (KSP × VSP)} {e : KSP × VSP} (h : ptrs es = pre ++ e :: suf) : ∃ hk : pre.length < es.length, e = (es[pre.length].1, some ⟨es[pre.length].2.1, 0, none⟩) := by
  have hl := congrArg List.length h
  rw [mapV_len, List.length_append, List.length_cons] at hl
  have hk : pre.length < es.length := by omega
  refine ⟨hk, ?_⟩
  have h1 : (ptrs es)[pre.length]? = some e := by rw [h]; simp
  have h2 : (ptrs es)[pre.length]? = some (es[pre.length].1, some ⟨es[pre.length].2.1, 0, none⟩) := by simp [ptrs, mapV, hk]
  rw [h1] at h2
  exact Option.some.inj h2
theorem goR_cnt {α : Type} : ∀ (l : List α) (k : Nat), goR (fun (k : Nat) (_ : α) => (k + 1, (none : Option Code))) k l = (k + l.length, none)
  | [], k => by simp [goR]
  | x :: l, k => by simp only [goR]; rw [goR_cnt l]; simp; omega
theorem mapV_take {α β γ : Type} (f : β → γ) (l : List (α × β)) {k : Nat} (hk : k < l.length) : (mapV f l).take (k + 1) = (mapV f l).take k ++ [(l[k].1, f l[k].2)] := by
  rw [List.take_succ_eq_append_getElem (by rw [mapV_len]; exact hk)]
  simp [mapV]
/-- What is gathered behind k of the sources. -/
def GatK (bl base : Nat) (ls : Srcs) (k : Nat) (S : Nat → Prop) (W : World) : Prop :=
  ∃ v rs, rs.map absT = ls.take k ∧ GatT 38 43 bl base rs W v ∧ ∀ j, gatB bl rs v j → S j ∧ base ≤ j
set_option maxRecDepth 100000 in
set_option maxHeartbeats 4000000 in
theorem seenState_c {n : Nat} {sb : Nat} {es : Ents} {F : Nat → Prop} {W : World} (h : SeenI sb es F W) (hlen : es.length ≤ 1000) (hls : ∀ y ∈ es, y.2.2.2.length ≤ 100000) : CallsIn Fence.wide n Try.prog 14 #[.pointer (some ⟨sb, 0, none⟩)] W fun e W2 => ∃ A cap rs, e = .returned (.agg #[.slice A rs.length cap]) ∧
    rs.length ≤ cap ∧ ReadsT W2 A rs ∧ rs.map absT = mapV (·.2) es ∧ (∀ j, blkT A rs j → W.heap.size ≤ j) ∧ Upd (fun _ => False) W W2 := by
  have hFl := h.lt
  obtain ⟨rb, t, G, h1, h2, h3, h4, h5⟩ := id h
  have hsb : sb < W.heap.size := h1.lt
  obtain ⟨V0, hV0⟩ : ∃ V0, ((W.alloc (.cells #[.pointer (some ⟨sb, 0, none⟩)] 23)).alloc (.cells #[.slice none 0 0] 38)).alloc (.cells #[.slice none 0 0] 38) = V0 := ⟨_, rfl⟩
  have uV : Upd (fun _ => False) W V0 := by rw [← hV0]; exact ((Upd.alloc _ _ _).stepAlloc _).stepAlloc _
  have hz : V0.heap.size = W.heap.size + 3 := by rw [← hV0]; simp
  have b0 : Blk V0 W.heap.size #[.pointer (some ⟨sb, 0, none⟩)] 23 := by rw [← hV0]; exact ((Blk.new _ _ _).alloc _).alloc _
  have b1 : Blk V0 (W.heap.size + 1) #[.slice none 0 0] 38 := by rw [← hV0]; exact (Blk.new' (by simp)).alloc _
  have b2 : Blk V0 (W.heap.size + 1 + 1) #[.slice none 0 0] 38 := by rw [← hV0]; exact Blk.new' (by simp)
  have c0 := b0.cell0
  have c1 : V0.cell? ⟨sb, 0, none⟩ = some (.pointer (some ⟨rb, 0, none⟩)) := (h1.upd uV id).cell 0
  have k1 := (rackAllSP (n := 0) (rb := rb) (w := V0)).mono (R' := fun e W2 => ∃ br, e = .returned (.func (.func 51) #[] #[.pointer (some ⟨br, 0, none⟩)]) ∧ W.heap.size + 2 < br ∧ Upd (fun _ => False) V0 W2 ∧
      SeqO Try.prog (.func (.func 51) #[] #[.pointer (some ⟨br, 0, none⟩)]) encSP ((ptrs es).map fun x => ((), x)) () () (fun _ _ => True) (fun _ => False) (fun j => j = br ∨ j = rb ∨ t.has j) W2) (by
    rintro e W2 ⟨br, rfl, q1, q2, q3⟩
    exact ⟨br, rfl, by omega, q3, allSeqSP (h2.upd (uV.trans' q3) fun _ _ => id) q1⟩)
  replace k1 := Lib.hid k1
  have hrt : ∀ j, (j = rb ∨ t.has j) → j < W.heap.size := h2.lt
  clear h1 h2 h3 h4 h5
  refine callsIn_any (n := 0) (callsIn_of_wp_marks Try.func14 rfl trivial ?_)
  simp only [Try.ntmps14, List.size_toArray, List.length_cons, List.length_nil, Nat.reduceAdd, Nat.reduceSub, Array.replicate_succ, Array.replicate_zero, List.push_toArray, List.append_toArray, List.nil_append, List.cons_append]
  gi_wp2_with (first | (rw [hV0]; skip))
  gi_wp2_with (first | refine (⟨trivial, rfl, ?_⟩ : Fence.wide.fn _ ∧ Fence.wide.depth = none ∧ _) | (gi_at_call 32; (with_reducible refine k1.out.mono ?_); rintro e W2 ⟨br, rfl, hbr, u2, hseq⟩; (replace hseq := Lib.hid hseq); (replace u2 := Lib.hid u2)) | refine (⟨trivial, ?_⟩ : Fence.wide.fn _ ∧ _))
  rename_i KK hKK
  have d2 := b2.upd u2.out id
  have d1 := b1.upd u2.out id
  have d0 := b0.upd u2.out id
  have uW2 : Upd (fun _ => False) W W2 := uV.trans' u2.out
  have hW2 := Lib.hid (h.upd uW2 fun _ _ => id)
  have z2 := u2.out.size
  have eel : ((ptrs es).map fun x => ((), x)).map (·.2) = ptrs es := by simp [Function.comp_def]
  have hI0 : GatK (W.heap.size + 1 + 1) W.heap.size (mapV (·.2) es) 0 (fun j => j = W.heap.size + 1 + 1) W2 :=
    ⟨.slice none 0 0, [], rfl, ⟨d2, World.ownsRow_nil W2 _ _ 3, by simp [Value.ownBlock], fun r hr => by simp at hr, fun r hr => by simp at hr⟩, fun j hj => by
      rcases hj with h | h | ⟨r, hr, _⟩
      · exact ⟨h, by omega⟩
      · simp [Value.ownBlock] at h
      · simp at hr⟩
  refine wpIn_range_at hseq.out rfl (Nat.le_refl _) (Agree.refl _ _) trivial (fun _ => rfl) (fun k _ => (k + 1, none)) (fun k S1 W1 => GatK (W.heap.size + 1 + 1) W.heap.size (mapV (·.2) es) k S1 W1) 0 (fun j => j = W.heap.size + 1 + 1) ?hS ?hstab hI0 ?hround ?hend
  case hS =>
    rintro k rfl
    exact ⟨by omega, fun h => h.elim (fun h => by omega) fun h => by have := hrt _ h; omega, id⟩
  case hstab =>
    rintro s' S1 Wa Wb ⟨v, rs, q1, q2, q3⟩ hA _
    exact ⟨v, rs, q1, q2.agree (hA.mono fun j hj => (q3 j hj).1), q3⟩
  case hround =>
    rintro lb pre e suf k1 S1 W1 hlb he hgo ⟨v, rs, q1, q2, q3⟩ hsz hu1 hS1
    subst hlb
    rw [eel] at he
    rw [goR_cnt, Prod.mk.injEq, Nat.zero_add] at hgo
    obtain ⟨rfl, _⟩ := hgo
    obtain ⟨hk, rfl⟩ := ptrs_split he
    obtain ⟨k, hkk⟩ : ∃ k, pre.length = k := ⟨_, rfl⟩
    simp only [hkk] at hk q1 ⊢
    have hrl : rs.length = k := by
      have := congrArg List.length q1
      rw [List.length_map, List.length_take, mapV_len] at this
      omega
    have hmt := mapV_take (fun y : Nat × Src => y.2) es hk
    have hx := hls es[k] (List.getElem_mem hk)
    have hri := (h.rise)
    have hgt := get_of_mem ordrS hri (List.getElem_mem hk)
    obtain ⟨x, hxe⟩ : ∃ x, es[k] = x := ⟨_, rfl⟩
    simp only [hxe] at hmt hx hgt ⊢
    obtain ⟨nm, cb, fl, s⟩ := x
    simp only at hmt hx hgt ⊢
    clear hxe he
    clear hkk
    subst hrl
    have hF1 : ∀ j, F j → ¬ (j = W.heap.size + 1 + 1 ∨ False) := fun j hj e => by
      have := hFl j hj
      rcases e with e | e
      · omega
      · exact e
    have hI1 := hW2.out.upd hu1 hF1
    have hq2 := q2
    obtain ⟨A3, cap3, rfl⟩ := own_shape q2.row
    have dW := d0.upd hu1 (fun e => by rcases e with e | e; omega; exact e)
    have zW1 := hu1.size
    clear eel hseq hKK KK hI0 d2 b2 b1 b0 uV k1 hu1 hF1 hri
    gi_wp2
    refine ⟨Upd.refl _ _, ?_⟩
    intro Wb hub hbs hrec hrec2
    clear hrec2 hrec
    have hneL : ∀ j, gatB (W.heap.size + 1 + 1) rs (.slice A3 rs.length cap3) j → j ≠ W2.heap.size + 1 := fun j hj => (hS1 j (q3 j hj).1).2.1
    have hG := q2.agree (hub.agree fun j hj => ⟨q2.lt j hj, hneL j hj⟩)
    have hIb := hI1.upd hub fun j hj e => by have := hFl j hj; omega
    have dB := dW.upd hub (by omega)
    obtain ⟨Gc, hcame, hGF, _⟩ := hIb.focus hgt
    obtain ⟨qb, tq, g1, _⟩ := id hcame
    have hcb : cb < W.heap.size := hFl cb (hGF cb hcame.self).1
    have hob : (Value.slice A3 rs.length cap3).ownBlock ≠ some W.heap.size := own_ne hG.row dB (by decide)
    have hge := own_base hG.row
    have hhold := Lib.hid fun V (u : Upd (fun j => (Value.slice A3 rs.length cap3).ownBlock = some j) Wb V) => show V.cell? ⟨W.heap.size + 1 + 1, 0, none⟩ = some (.slice A3 rs.length cap3) ∧ V.cell? ⟨W.heap.size, 0, none⟩ = some (.pointer (some ⟨sb, 0, none⟩)) ∧ V.cell? ⟨cb, 0, none⟩ = some (.int .i64 fl) from
      ⟨(hG.blk.upd u hG.ne).cell0, (dB.upd u hob).cell0, (g1.upd u fun e => by have := hge _ e; omega).cell 0⟩
    have hseq' : seqsOf nm es = s := by simp [seqsOf, hgt]
    have kA := (seenAll_c (n := 0) (sb := sb) (k := nm) (W := Wb.drew)).mono (R' := fun e V1 => ∃ bs bn, e = .returned (.func (.func 37) #[] #[.pointer (some ⟨bs, 0, none⟩), .pointer (some ⟨bn, 0, none⟩)]) ∧ Upd (fun _ => False) Wb V1 ∧
        CallsIn Fence.wide 0 Try.prog 33 #[.func (.func 37) #[] #[.pointer (some ⟨bs, 0, none⟩), .pointer (some ⟨bn, 0, none⟩)]] V1 fun e V2 => ∃ A cap, e = .returned (.slice A s.length cap) ∧ Upd (fun _ => False) Wb V2 ∧ GatT 38 43 (W.heap.size + 1 + 1) W.heap.size rs V2 (.slice A3 rs.length cap3) ∧
          s.length ≤ cap ∧ Reads1 V2 A (intsV s) ∧ (∀ j, blkOf A j → Wb.heap.size ≤ j)) (by
      rintro e V1 ⟨bs, bn, rfl, f1, f2, _, u1⟩
      have u1b := (Upd.drew (fun _ => False) Wb).trans' u1
      refine ⟨bs, bn, rfl, u1b, ?_⟩
      have hsq := allSeen (hIb.upd u1b fun _ _ => id) f1 f2
      rw [hseq'] at hsq
      refine (collectI (n := 0) hsq hx).mono ?_
      rintro e V2 ⟨A, cap, rfl, p1, p2, p3, p4⟩
      have u2b := u1b.trans' p4
      have z1 := u1b.size
      exact ⟨A, cap, rfl, u2b, hG.agree (u2b.agree fun j hj => ⟨hG.lt j hj, id⟩), p1, p2, fun j hj => by have := p3 j hj; omega⟩)
    replace kA := Lib.hid kA
    have fin : ∀ A cap V2 g' cap' w', Upd (fun _ => False) Wb V2 → GatT 38 43 (W.heap.size + 1 + 1) W.heap.size rs V2 (.slice A3 rs.length cap3) → s.length ≤ cap → Reads1 V2 A (intsV s) → (∀ j, blkOf A j → Wb.heap.size ≤ j) →
        w'.ownsRow W.heap.size 43 3 (.slice (some ⟨g', 0, none⟩) (rs.length + 1) cap') (rs.length + 1) (flatT rs ++ [.string nm, .int .i64 fl, .slice A s.length cap]) → Upd (fun j => (Value.slice A3 rs.length cap3).ownBlock = some j) V2 w' → ((Value.slice A3 rs.length cap3).ownBlock = some g' ∨ V2.heap.size ≤ g') → g' < w'.heap.size →
        w'.cell? ⟨W.heap.size + 1 + 1, 0, none⟩ = some (.slice A3 rs.length cap3) ∧ w'.frozen? ⟨W.heap.size + 1 + 1, 0, none⟩ = false ∧ W.heap.size + 1 + 1 < w'.heap.size ∧
        Held (fun k S1 W1 => GatK (W.heap.size + 1 + 1) W.heap.size (mapV (·.2) es) k S1 W1) (rs.length + 1) (fun j => S1 j ∨ W1.heap.size ≤ j) Wb (w'.setCell ⟨W.heap.size + 1 + 1, 0, none⟩ (.slice (some ⟨g', 0, none⟩) (rs.length + 1) cap')) := by
      intro A cap V2 g' cap' w' uV2 hGV p1 p2 p3 m1 m2 m3 m4
      have hzb := uV2.size
      obtain ⟨r1, r2, r3, r4, r5, r6⟩ := hGV.push (r := (nm, fl, s, A, cap)) p2 p1 (fun j hj => by
        have h8 := p3 j hj.2
        refine ⟨fun e => ?_, fun e => ?_⟩
        · have := hG.blk.lt; omega
        · have := hG.lt j (.inr (.inl e)); omega) m1 m2 m3 m4
      refine ⟨r1, r2, r3, gatB (W.heap.size + 1 + 1) (rs ++ [(nm, fl, s, A, cap)]) (.slice (some ⟨g', 0, none⟩) (rs.length + 1) cap'), ⟨_, _, ?_, r4, fun j hj => ⟨hj, ?_⟩⟩, ?_, ?_⟩
      · rw [List.map_append, q1, hmt]; rfl
      · rcases (r6 j hj).2 with h | h | h
        · exact (q3 j h).2
        · have := p3 j h.2; omega
        · omega
      · exact (uV2.mono fun _ _ h => h.elim).trans r5 fun j hj => .inl (.inl (q3 j (hj.elim .inl fun h => .inr (.inl h))).1)
      · intro j hj
        refine ⟨(r6 j hj).1, ?_⟩
        rcases (r6 j hj).2 with h | h | h
        · exact .inl (.inl (q3 j h).1)
        · exact .inr (p3 j h.2)
        · exact .inr (by omega)
    replace fin := Lib.hid fin
    have hwb : W.heap.size ≤ Wb.heap.size := by omega
    have hsl : rs.length < 1073741824 := by omega
    replace fin := Lib.hid fin.out
    clear hub hS1 q1 q2 q3 hq2 hG hIb hI1 dB dW hcame hGF g1 hob hge hneL hseq' hgt hx hmt
    gi_wp2
    refine wpIn_planE (.fl 0 (.fl 1 (.fl 2 (.fl 3 (.fl 4 (.fl 5 (.fl 6 (.fl 7 (.fl 8 (.ef 9 (.ef 10 (.fl 11 (.ef 12 (.ef 13 (.fl 14 (.ef 15 .done)))))))))))))))) 15 (fun V => V.cell? ⟨W.heap.size + 1 + 1, 0, none⟩ = some (.slice A3 rs.length cap3) ∧ V.cell? ⟨W.heap.size, 0, none⟩ = some (.pointer (some ⟨sb, 0, none⟩)) ∧ V.cell? ⟨cb, 0, none⟩ = some (.int .i64 fl)) (by kernel_rfl) (by kernel_rfl) (hhold.out _ (Upd.refl _ _).stepDrew) ?_
    repeat (first | (refine wpU_fl rfl rfl (fun _ _ => rfl) ?_; go_simp) | (refine wpU_fl (v := ?_) rfl rfl ?_ ?_; rotate_left; (intro W' h'; (try dsimp only at h'); go_simp; exact rfl); go_simp) | (refine wpU_ef rfl ?_; (go_simp; gi_wp2_with (first | refine (⟨trivial, rfl, ?_⟩ : Fence.wide.fn _ ∧ Fence.wide.depth = none ∧ _) | refine (⟨trivial, trivial, rfl, ?_⟩ : Fence.wide.fn _ ∧ Fence.wide.fn _ ∧ Fence.wide.depth = none ∧ _) | (gi_at_call 18; (with_reducible refine (CallsIn.inRound (W2.heap.size + 1) kA.out).mono ?_); rintro e V1 ⟨bs, bn, rfl, uV1, kC⟩; (replace kC := Lib.hid kC)) | (gi_at_call 33; (with_reducible refine (CallsIn.inRound (W2.heap.size + 1) kC.out).mono ?_); rintro e V2 ⟨A, cap, rfl, uV2, hGV, p1, p2, p3⟩; (have ho := hGV.row); (have zV2 := uV2.size); (have fin2 := Lib.hid (fun g' cap' w' => fin.out A cap V2 g' cap' w' uV2 hGV p1 p2 p3)); (clear p1 p2 p3 hGV)) | ((with_reducible refine app3 Try.underlying36 infoT zT (by omega) ho ?_ ?_ ?_ ?_ ?_ ?_ ?_ ?_); omega; omega; rfl; rfl; rfl; rfl; rfl; intro g' cap' w' h1 h2 h3 h4; have hh3 := hhold.out w' ((uV2.mono fun _ _ h => h.elim).trans h2 fun j hj => .inl hj); obtain ⟨c1, c2, c3, c4⟩ := fin2.out g' cap' w' h1 h2 h3 h4; (replace c4 := Lib.hid c4); clear h1 h2 h3 h4) | refine (⟨trivial, ?_⟩ : Fence.wide.fn _ ∧ _)); (first | refine ⟨by first | trivial | exact .inl rfl | exact (hhold.out _ (uV1.mono fun _ _ h => h.elim)) | exact .inr ((hhold.out _ (uV1.mono fun _ _ h => h.elim))) | exact (hhold.out _ (uV2.mono fun _ _ h => h.elim)) | exact .inr ((hhold.out _ (uV2.mono fun _ _ h => h.elim))) | exact (hhold.out _ ((uV2.mono fun _ _ h => h.elim).stepAlloc _)) | exact .inr ((hhold.out _ ((uV2.mono fun _ _ h => h.elim).stepAlloc _))) | exact hh3 | exact .inr (hh3), ?_⟩ | skip))))
    (first | refine wpU_nil ?_ | skip)
    exact c4.out
  case hend =>
    rintro S1 W' ⟨v, rs, q1, q2, q3⟩ hOw hu1 hsz hS1 hdef
    rw [eel, goR_cnt] at q1
    rw [eel, goR_cnt]
    have e9 : 0 + (ptrs es).length = (mapV (fun y : Nat × Src => y.2) es).length := by simp [mapV_len]
    simp only at q1 ⊢
    rw [e9, List.take_length] at q1
    have hu : Upd (fun _ => False) W W' := uW2.trans hu1 fun k hk => by
      rcases hk with h | h
      · exact .inr (by omega)
      · exact h.elim
    have r5 := d1.upd hu1 (by rintro (h | h); omega; exact h)
    obtain ⟨A5, cap5, rfl, hn5, hr5, _, hb5⟩ := own_readsS q2.row
    have hblk : ∀ j, blkT A5 rs j → gatB (W.heap.size + 1 + 1) rs (.slice A5 rs.length cap5) j := fun j hj => hj.elim (fun h => .inr (.inl (hb5 j h.2))) fun h => .inr (.inr h)
    have hne : ∀ j, blkT A5 rs j → j ≠ W2.heap.size ∧ W.heap.size ≤ j ∧ j ≠ W.heap.size + 1 := fun j hj => by
      have h1 := hS1 j (q3 j (hblk j hj)).1
      refine ⟨h1.2.1, (q3 j (hblk j hj)).2, fun e => ?_⟩
      rcases h1.2.2 with h | h <;> omega
    have hRT : ReadsT W' A5 rs := ⟨hr5, q2.each⟩
    have c0 : W'.cell? ⟨W.heap.size + 1 + 1, 0, none⟩ = some (.slice A5 rs.length cap5) := q2.blk.cell0
    have e0 : W'.cell? ⟨W.heap.size + 1, 0, none⟩ = some (.slice none 0 0) := r5.cell0
    have f0 := r5.frozen 0
    have l5 := r5.lt
    have r6 : Blk (W'.setCell ⟨W.heap.size + 1, 0, none⟩ (.slice A5 rs.length cap5)) (W.heap.size + 1) #[.slice A5 rs.length cap5] 38 := by simpa using r5.set 0 (.slice A5 rs.length cap5)
    have hd' : (W'.setCell ⟨W.heap.size + 1, 0, none⟩ (.slice A5 rs.length cap5)).heap[W2.heap.size]? = some (.deferred (some [])) := by
      rw [Below.heap_setCell _ _ _ _ (by dsimp only; omega)]; exact hdef
    have hu3 : Upd (fun j => j = W.heap.size + 1 ∨ j = W2.heap.size) W' ((W'.setCell ⟨W.heap.size + 1, 0, none⟩ (.slice A5 rs.length cap5)).putObj W2.heap.size (.deferred none)) := ((Upd.refl _ _).stepSet (p := ⟨W.heap.size + 1, 0, none⟩) (.inl (.inl rfl)) _).stepPut (.inl (.inr rfl)) _
    have r7 := r6.upd (Upd.putObj (M := fun j => j = W2.heap.size) rfl (.deferred none)) (by omega)
    have hRT7 := hRT.upd hu3 fun j hj e => by
      have := hne j hj
      omega
    have u6 : Upd (fun _ => False) W ((W'.setCell ⟨W.heap.size + 1, 0, none⟩ (.slice A5 rs.length cap5)).putObj W2.heap.size (.deferred none)) := hu.trans hu3 fun j hj => .inr (by omega)
    have hge : ∀ j, blkT A5 rs j → W.heap.size ≤ j := fun j hj => (hne j hj).2.1
    replace r7 := Lib.hid r7
    replace hRT7 := Lib.hid hRT7
    replace u6 := Lib.hid u6
    replace hge := Lib.hid hge
    replace hn5 := Lib.hid hn5
    replace q1 := Lib.hid q1
    clear hr5 q2 q3 hu1 hOw hS1 hseq b2 b1 b0 uV k1 hI0 r6 r5 hu hdef hb5 hblk hne hRT hu3 d0 d1 d2 hW2 eel
    gi_wp2
    refine ⟨by simp, .inl ⟨_, _, rfl, run_takeDeferred hd', ⟨_, results_c1 rfl rfl rfl rfl r7.out.cell0, ?_⟩⟩⟩
    exact ⟨A5, cap5, rs, rfl, hn5.out, hRT7.out, q1.out, hge.out, u6.out⟩
end Go.Proofs.Ytgleiajmdbekiaa

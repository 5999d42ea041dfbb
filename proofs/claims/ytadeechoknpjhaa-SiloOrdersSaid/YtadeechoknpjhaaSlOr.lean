/- SiloOrders: emissions of one epoch make the same in any order (plain law); the calls, one after the other. -/
import Derived.Test.YtadeechoknpjhaaProg
import Derived.Test.YtadeechoknpjhaaBase
import Derived.Test.YtadeechoknpjhaaSlT
import Derived.Test.YtadeechoknpjhaaSlRf
import Derived.Test.YtadeechoknpjhaaSlRi
set_option linter.unusedSimpArgs false
set_option linter.unusedVariables false
namespace Go.Proofs.Ytadeechoknpjhaa
open Go.RowKit Go.Shelf
attribute [local go_sem] Oper.semAt_some

/-- The places gone through. -/
def idxT (n t i : Nat) : Nat := n - 1 - (i + t) % n
section vis
variable {α : Type}
def vis (l : List α) (t i : Nat) : List α := (List.range i).filterMap fun j => l[idxT l.length t j]?
theorem vis_succ {l : List α} {t i : Nat} {a : α} (h : l[idxT l.length t i]? = some a) : vis l t (i + 1) = vis l t i ++ [a] := by
  simp [vis, List.range_succ, List.filterMap_append, h]
theorem vis_sub {l : List α} {t i : Nat} {a : α} (h : a ∈ vis l t i) : a ∈ l := by
  simp only [vis, List.mem_filterMap] at h
  obtain ⟨j, _, h⟩ := h
  exact List.mem_of_getElem? h
theorem vis_all {l : List α} {t : Nat} {a : α} (h : a ∈ l) : a ∈ vis l t l.length := by
  obtain ⟨j, hj, rfl⟩ := List.getElem_of_mem h
  simp only [vis, List.mem_filterMap, List.mem_range]
  have hn : 0 < l.length := by omega
  have ht := Nat.mod_lt t hn
  refine ⟨((l.length - 1 - j) + (l.length - t % l.length)) % l.length, Nat.mod_lt _ hn, ?_⟩
  have e1 : (((l.length - 1 - j) + (l.length - t % l.length)) % l.length + t) % l.length = l.length - 1 - j := by
    rw [Nat.mod_add_mod]
    have e2 : (l.length - 1 - j) + (l.length - t % l.length) + t = (l.length - 1 - j) + l.length * (1 + t / l.length) := by
      have := Nat.div_add_mod t l.length
      rw [Nat.mul_add, Nat.mul_one]
      omega
    rw [e2, Nat.add_mul_mod_self_left, Nat.mod_eq_of_lt (by omega)]
  unfold idxT
  rw [e1, show l.length - 1 - (l.length - 1 - j) = j by omega, List.getElem?_eq_getElem hj]
theorem vis_len (l : List α) (t i : Nat) : (vis l t i).length ≤ i := by
  have := List.length_filterMap_le (fun j => l[idxT l.length t j]?) (List.range i)
  simpa [vis] using this
end vis

/-- Put of epoch 3, where there is room. -/
def p3 (vs : List VCE) (v : VCE) : List VCE := if codeG (vs.map prE) v = 0 then putV 3 v vs else vs
/-- What emissions of one epoch make. -/
structure RepO (L vs : List VCE) : Prop where
  rise : Rise cmpC (vs.map prE)
  sub : ∀ y ∈ vs, ∃ v ∈ L, y = atE 3 v
  sup : ∀ v ∈ L, ∃ y ∈ vs, cellE y = cellE v ∧ v.rev ≤ y.rev
  len : vs.length ≤ L.length
theorem RepO.nil : RepO [] [] := ⟨List.Pairwise.nil, fun y h => by simp at h, fun y h => by simp at h, Nat.le_refl _⟩
theorem none_ne {vs : List VCE} (hr : Rise cmpC (vs.map prE)) {v y : VCE} (hn : getL cmpC (cellE v) (vs.map prE) = none) (hy : y ∈ vs) : cellE y ≠ cellE v := fun e => by
  have := get_cell hr hy
  rw [e, hn] at this
  cases this
theorem get_memO {k : KCE} {v : VCE} {l : List (KCE × VCE)} (h : getL cmpC k l = some v) : (k, v) ∈ l := by
  simp only [getL, Option.map_eq_some_iff] at h
  obtain ⟨y, hy, rfl⟩ := h
  have h1 := List.find?_some hy
  simp only [decide_eq_true_eq] at h1
  have h2 := (ordrC.eq _ _).1 h1
  subst h2
  exact List.mem_of_find?_eq_some hy
theorem get_some {vs : List VCE} {v o : VCE} (hg : getL cmpC (cellE v) (vs.map prE) = some o) : o ∈ vs ∧ cellE o = cellE v := by
  have hm := get_memO hg
  obtain ⟨z, hz, e⟩ := List.mem_map.1 hm
  have e1 : cellE z = cellE v := congrArg Prod.fst e
  have e2 : z = o := congrArg Prod.snd e
  subst e2
  exact ⟨hz, e1⟩
theorem RepO.add {L vs : List VCE} (h : RepO L vs) (hl : L.length < 400) (v : VCE) : RepO (L ++ [v]) (p3 vs v) := by
  have hlen := h.len
  unfold p3
  have hput : (∀ y ∈ vs, cellE y = cellE v → y.rev ≤ v.rev) → RepO (L ++ [v]) (putV 3 v vs) := by
    intro hrev
    refine ⟨?_, fun y hy => ?_, fun w hw => ?_, ?_⟩
    · rw [← putV_pr h.rise]; exact putL_rise ordrC h.rise _ _
    · rcases (mem_putV_iff h.rise).1 hy with rfl | ⟨hy, _⟩
      · exact ⟨v, by simp, rfl⟩
      · obtain ⟨w, hw, e⟩ := h.sub y hy
        exact ⟨w, by simp [hw], e⟩
    · rcases List.mem_append.1 hw with hw | hw
      · obtain ⟨y, hy, e1, e2⟩ := h.sup w hw
        by_cases hc : cellE y = cellE v
        · exact ⟨atE 3 v, (mem_putV_iff h.rise).2 (.inl rfl), hc.symm.trans e1, Int.le_trans e2 (hrev y hy hc)⟩
        · exact ⟨y, (mem_putV_iff h.rise).2 (.inr ⟨hy, hc⟩), e1, e2⟩
      · rw [List.mem_singleton.1 hw]
        exact ⟨atE 3 v, (mem_putV_iff h.rise).2 (.inl rfl), rfl, Int.le_refl _⟩
    · have := putV_len (x := 3) (v := v) h.rise
      simp only [List.length_append, List.length_singleton]
      omega
  cases hg : getL cmpC (cellE v) (vs.map prE) with
  | none =>
    have hc : codeG (vs.map prE) v = 0 := by
      simp only [codeG, hg, List.length_map]
      rw [if_neg (by omega)]
    rw [if_pos hc]
    exact hput fun y hy e => absurd e (none_ne h.rise hg hy)
  | some o =>
    obtain ⟨ho, hoc⟩ := get_some hg
    by_cases hr : v.rev ≤ o.rev
    · have hc : codeG (vs.map prE) v = 21 := by simp only [codeG, hg]; rw [if_pos hr]
      rw [if_neg (by rw [hc]; decide)]
      refine ⟨h.rise, fun y hy => ?_, fun w hw => ?_, ?_⟩
      · obtain ⟨w, hw, e⟩ := h.sub y hy
        exact ⟨w, by simp [hw], e⟩
      · rcases List.mem_append.1 hw with hw | hw
        · exact h.sup w hw
        · rw [List.mem_singleton.1 hw]
          exact ⟨o, ho, hoc, hr⟩
      · simp only [List.length_append, List.length_singleton]; omega
    · have hc : codeG (vs.map prE) v = 0 := by simp only [codeG, hg]; rw [if_neg hr]
      rw [if_pos hc]
      refine hput fun y hy e => ?_
      have := cell_inj h.rise hy ho (e.trans hoc.symm)
      subst this
      omega
/-- Put again, it is refused. -/
theorem RepO.twice {L vs : List VCE} (h : RepO L vs) {v : VCE} (hv : v ∈ L) : codeG (vs.map prE) v = 21 := by
  obtain ⟨y, hy, e1, e2⟩ := h.sup v hv
  have hg := get_cell h.rise hy
  rw [e1] at hg
  simp only [codeG, hg]
  rw [if_pos e2]
/-- Unlike in cell or revision. -/
def UniqO (own : List VCE) : Prop := ∀ a ∈ own, ∀ b ∈ own, cellE a = cellE b → a.rev = b.rev → a = b
theorem RepO.in2 {L M vs ws : List VCE} (h : RepO L vs) (h' : RepO M ws) (hm : ∀ a, a ∈ L ↔ a ∈ M) (hu : UniqO L) {y : VCE} (hy : y ∈ vs) : y ∈ ws := by
  obtain ⟨v, hv, rfl⟩ := h.sub y hy
  obtain ⟨z, hz, e1, e2⟩ := h'.sup v ((hm v).1 hv)
  obtain ⟨v', hv', rfl⟩ := h'.sub z hz
  obtain ⟨y', hy', e3, e4⟩ := h.sup v' ((hm v').2 hv')
  have hyy := cell_inj h.rise hy' hy (e3.trans e1)
  subst hyy
  have e5 := hu v hv v' ((hm v').2 hv') e1.symm (Int.le_antisymm e2 e4)
  rw [e5]; exact hz
theorem RepO.same {L M vs ws : List VCE} (h : RepO L vs) (h' : RepO M ws) (hm : ∀ a, a ∈ L ↔ a ∈ M) (hu : UniqO L) : vs = ws := by
  have hu' : UniqO M := fun a ha b hb => hu a ((hm a).2 ha) b ((hm b).2 hb)
  have h3 : vs.map prE = ws.map prE := rise_ext ordrC h.rise h'.rise fun p => by
    simp only [List.mem_map]
    constructor
    · rintro ⟨y, hy, rfl⟩; exact ⟨y, h.in2 h' hm hu hy, rfl⟩
    · rintro ⟨y, hy, rfl⟩; exact ⟨y, h'.in2 h (fun a => (hm a).symm) hu' hy, rfl⟩
  have := congrArg (List.map Prod.snd) h3
  simpa [Function.comp_def] using this

/-- An emission's cells. -/
def cellsM (v : VCE) : List Value := [.string (v).key, .string (v).pol, .int .i64 (v).kd, .int .i64 (v).st, .int .i64 (v).rev, .bool (v).fin, .int .i64 (v).rk, .int .i64 (v).cnt, .int .i64 (v).sum, .int .i64 (v).mn, .int .i64 (v).mx, .int .i64 (v).q0, .int .i64 (v).q1, .int .i64 (v).q2, .bool (v).over]
abbrev flatM (l : List VCE) : List Value := l.flatMap cellsM
theorem cellsM_len (v : VCE) : (cellsM v).length = 15 := rfl
theorem flatM_len (l : List VCE) : (flatM l).length = l.length * 15 := flatMap_len cellsM_len l
theorem cellsM_one (v : VCE) : ∀ u ∈ cellsM v, u.oneCell' = true := by
  intro u hu
  simp only [cellsM, List.mem_cons, List.not_mem_nil, or_false] at hu
  rcases hu with rfl | rfl | rfl | rfl | rfl | rfl | rfl | rfl | rfl | rfl | rfl | rfl | rfl | rfl | rfl <;> rfl
/-- An emission's cells lie at a place. -/
structure AtM (W : World) (b o : Nat) (v : VCE) : Prop where
  c0 : W.cell? ⟨b, o, none⟩ = some (.string (v).key)
  c1 : W.cell? ⟨b, o + 1, none⟩ = some (.string (v).pol)
  c2 : W.cell? ⟨b, o + 2, none⟩ = some (.int .i64 (v).kd)
  c3 : W.cell? ⟨b, o + 3, none⟩ = some (.int .i64 (v).st)
  c4 : W.cell? ⟨b, o + 4, none⟩ = some (.int .i64 (v).rev)
  c5 : W.cell? ⟨b, o + 5, none⟩ = some (.bool (v).fin)
  c6 : W.cell? ⟨b, o + 6, none⟩ = some (.int .i64 (v).rk)
  c7 : W.cell? ⟨b, o + 7, none⟩ = some (.int .i64 (v).cnt)
  c8 : W.cell? ⟨b, o + 8, none⟩ = some (.int .i64 (v).sum)
  c9 : W.cell? ⟨b, o + 9, none⟩ = some (.int .i64 (v).mn)
  c10 : W.cell? ⟨b, o + 10, none⟩ = some (.int .i64 (v).mx)
  c11 : W.cell? ⟨b, o + 11, none⟩ = some (.int .i64 (v).q0)
  c12 : W.cell? ⟨b, o + 12, none⟩ = some (.int .i64 (v).q1)
  c13 : W.cell? ⟨b, o + 13, none⟩ = some (.int .i64 (v).q2)
  c14 : W.cell? ⟨b, o + 14, none⟩ = some (.bool (v).over)
theorem atM_at {W : World} {A : Option Addr} {l : List VCE} (h : Reads1 W A (flatM l)) {k : Nat} (hk : k < l.length) : ∃ g o, A = some ⟨g, o, none⟩ ∧ AtM W g (o + k * 15) l[k] := by
  obtain ⟨g, o, rfl, hc⟩ := reads_at h (by rw [flatM_len]; omega)
  have e : ∀ j u, j < 15 → (cellsM l[k])[j]? = some u → W.cell? ⟨g, o + k * 15 + j, none⟩ = some u := fun j u hj hu => by
    have := hc (k * 15 + j) u (by rw [flatMap_at cellsM_len l k hk j hj]; exact hu)
    rwa [← Nat.add_assoc] at this
  exact ⟨g, o, rfl, ⟨e 0 _ (by omega) rfl, e 1 _ (by omega) rfl, e 2 _ (by omega) rfl, e 3 _ (by omega) rfl, e 4 _ (by omega) rfl, e 5 _ (by omega) rfl, e 6 _ (by omega) rfl, e 7 _ (by omega) rfl, e 8 _ (by omega) rfl, e 9 _ (by omega) rfl, e 10 _ (by omega) rfl, e 11 _ (by omega) rfl, e 12 _ (by omega) rfl, e 13 _ (by omega) rfl, e 14 _ (by omega) rfl⟩⟩
theorem app15 {T : TypeId} {F : Fence} {n : Nat} {P : Program} {E : TypeId} {z : Value} {bytes : Nat} (hT : P.underlying T = some (.slice E)) (hI : (P.info? E).map (fun i => (i.zero, i.size, i.bytes)) = some (some z, 15, bytes)) (hz : z.cells.size = 15) (hby : bytes ≤ 1024)
    {ops : Array Oper} {rest : List Oper} {a : Act} {Q : Exit → Act → World → Prop} {s x : Operand} {dst : Option Tmp} {ty : TypeId} {pos : String} {aft : Array Edge} {wr : World} {base k : Nat} {v : Value} {xs : List Value} {y : VCE}
    (hown : wr.ownsRow base E 15 v k xs) (hb : base ≤ wr.heap.size) (hk : k < 1073741824) (hs : a.eval s = v) (hx : a.eval x = .slice (some ⟨wr.heap.size, 0, none⟩) 1 1)
    (hK : ∀ g cap w', w'.ownsRow base E 15 (.slice (some ⟨g, 0, none⟩) (k + 1) cap) (k + 1) (xs ++ cellsM y) → Upd (fun j => v.ownBlock = some j) wr w' → (v.ownBlock = some g ∨ wr.heap.size ≤ g) → g < w'.heap.size →
      wpListIn F n P ops Q rest (a.put dst (.slice (some ⟨g, 0, none⟩) (k + 1) cap)) w') :
    wpListIn F n P ops Q (Oper.mk dst (.call (Call.mk (.builtin .append) #[s, x] #[T, T])) ty pos aft none :: rest) a (wr.alloc (.cells #[.string (y).key, .string (y).pol, .int .i64 (y).kd, .int .i64 (y).st, .int .i64 (y).rev, .bool (y).fin, .int .i64 (y).rk, .int .i64 (y).cnt, .int .i64 (y).sum, .int .i64 (y).mn, .int .i64 (y).mx, .int .i64 (y).q0, .int .i64 (y).q1, .int .i64 (y).q2, .bool (y).over] E)) :=
  appE (news := cellsM y) hT hI hz (by omega) hby hown hb hk rfl (cellsM_one y) hs hx hK
theorem infoM : (Try.prog.info? 38).map (fun i => (i.zero, i.size, i.bytes)) = some (some (.agg #[.string ⟨#[]⟩, .string ⟨#[]⟩, .int .i64 0, .int .i64 0, .int .i64 0, .bool false, .int .i64 0, .int .i64 0, .int .i64 0, .int .i64 0, .int .i64 0, .int .i64 0, .int .i64 0, .int .i64 0, .bool false]), 15, 136) := by kernel_rfl
theorem zM : (Value.agg #[.string ⟨#[]⟩, .string ⟨#[]⟩, .int .i64 0, .int .i64 0, .int .i64 0, .bool false, .int .i64 0, .int .i64 0, .int .i64 0, .int .i64 0, .int .i64 0, .int .i64 0, .int .i64 0, .int .i64 0, .bool false]).cells.size = 15 := rfl

/-- Is it there already? -/
def tw (v : VCE) (l : List VCE) : Bool := l.any fun e => decide (cellE e = cellE v) && decide (e.rev = v.rev)
theorem tw_take {v : VCE} {l : List VCE} {i : Nat} (h : i < l.length) : tw v (l.take (i + 1)) = (tw v (l.take i) || (decide (cellE l[i] = cellE v) && decide (l[i].rev = v.rev))) := by
  rw [tw, List.take_succ_eq_append_getElem h, List.any_append]; simp [tw]
theorem UniqO.add {l : List VCE} {v : VCE} (h : UniqO l) (ht : tw v l = false) : UniqO (l ++ [v]) := by
  have hn : ∀ e ∈ l, ¬ (cellE e = cellE v ∧ e.rev = v.rev) := by
    intro e he hh
    have : tw v l = true := List.any_eq_true.2 ⟨e, he, by simp [hh.1, hh.2]⟩
    rw [ht] at this
    cases this
  intro a ha b hb e1 e2
  rcases List.mem_append.1 ha with ha | ha <;> rcases List.mem_append.1 hb with hb | hb
  · exact h a ha b hb e1 e2
  · rw [List.mem_singleton.1 hb] at e1 e2; exact absurd ⟨e1, e2⟩ (hn a ha)
  · rw [List.mem_singleton.1 ha] at e1 e2; exact absurd ⟨e1.symm, e2.symm⟩ (hn b hb)
  · rw [List.mem_singleton.1 ha, List.mem_singleton.1 hb]
/-- Two silos, the emissions so far, in a slice of the call's own. -/
structure OrdI (sa sb : Nat) (own : List VCE) (v : Value) (F G : Nat → Prop) (w W : World) : Prop where
  a : SiloV sa 0 [] F W
  b : SiloV sb 0 [] G W
  row : W.ownsRow w.heap.size 38 15 v own.length (flatM own)
  dis : ∀ j, F j → ¬ G j
  vd : ∀ j, v.ownBlock = some j → ¬ F j ∧ ¬ G j
  newF : ∀ j, F j → w.heap.size ≤ j
  newG : ∀ j, G j → w.heap.size ≤ j
  base : Upd (fun _ => False) w W
abbrev fen (i : Nat) : Int := if i = 0 then 0 else 3
/-- So many are put. -/
structure OrdS (sa sb : Nat) (own : List VCE) (t i j : Nat) (A : Option Addr) (w W : World) : Prop where
  st : ∃ F G vs ws, SiloV sa (fen i) vs F W ∧ SiloV sb (fen j) ws G W ∧ RepO (own.take i) vs ∧ RepO (vis own t j) ws ∧ (∀ j, F j → ¬ G j) ∧ (∀ j, F j → w.heap.size ≤ j) ∧ (∀ j, G j → w.heap.size ≤ j) ∧ (∀ j, blkOf' A (flatM own).length j → ¬ F j ∧ ¬ G j)
  reads : Reads1 W A (flatM own)
  base : Upd (fun _ => False) w W
theorem code_fen (i : Nat) (l : List (KCE × VCE)) (v : VCE) : codeP (fen i) l 3 v = codeG l v := by
  have h : codeF (fen i) 3 = 0 := by
    unfold codeF fen
    rw [if_pos (by decide), if_neg (by split <;> decide)]
  rw [codeP, if_pos h]
/-- One Put of epoch 3. -/
theorem put3 {n s i : Nat} {L vs : List VCE} {F : Nat → Prop} {W : World} (h : SiloV s (fen i) vs F W) (hr : RepO L vs) (hl : L.length < 400) (h0 : i ≠ 0 ∨ vs = []) (v : VCE) :
    CallsIn Fence.wide n Try.prog 11 #[.pointer (some ⟨s, 0, none⟩), .int .i64 3, .agg #[.string (v).key, .string (v).pol, .int .i64 (v).kd, .int .i64 (v).st, .int .i64 (v).rev, .bool (v).fin, .int .i64 (v).rk, .int .i64 (v).cnt, .int .i64 (v).sum, .int .i64 (v).mn, .int .i64 (v).mx, .int .i64 (v).q0, .int .i64 (v).q1, .int .i64 (v).q2, .bool (v).over]] W fun e W2 => (∃ c, e = .returned (.int .i64 c)) ∧ ∃ F', SiloV s 3 (p3 vs v) F' W2 ∧ (∀ j, F' j → F j ∨ W.heap.size ≤ j) ∧ Upd F W W2 := by
  have hlen := hr.len
  by_cases hc : codeG (vs.map prE) v = 0
  · refine (siloPutYes_c h (by simp; omega) ((code_fen i _ v).trans hc)).mono ?_
    rintro e W2 ⟨rfl, F', p1, p2, p3'⟩
    rw [putV_pr h.rise] at p1
    refine ⟨⟨_, rfl⟩, F', ?_, p2, p3'⟩
    rw [p3, if_pos hc]; exact p1
  · refine (siloPutNo_c h (by rw [code_fen]; exact hc)).mono ?_
    rintro e W2 ⟨rfl, u⟩
    have hi : i ≠ 0 := by
      rcases h0 with h0 | rfl
      · exact h0
      · exact absurd (by simp [codeG, getL]) hc
    have hf : fen i = 3 := if_neg hi
    rw [hf] at h
    refine ⟨⟨_, rfl⟩, F, ?_, fun j hj => .inl hj, u.mono fun _ _ h => h.elim⟩
    rw [p3, if_neg hc]; exact h.upd u fun _ _ => id
section
variable {sa sb : Nat} {own : List VCE} {v : Value} {F G : Nat → Prop} {w W W2 : World}
theorem OrdI.upd (h : OrdI sa sb own v F G w W) (hu : Upd (fun _ => False) W W2) : OrdI sa sb own v F G w W2 :=
  ⟨h.a.upd hu fun _ _ => id, h.b.upd hu fun _ _ => id, own_agree h.row (hu.agree fun j hj => ⟨(h.row.lt j hj).2, id⟩), h.dis, h.vd, h.newF, h.newG, h.base.trans' hu⟩
/-- One more is gathered. -/
theorem OrdI.push {g cap' : Nat} {x : VCE} (h : OrdI sa sb own v F G w W) (h1 : W2.ownsRow w.heap.size 38 15 (.slice (some ⟨g, 0, none⟩) (own.length + 1) cap') (own.length + 1) (flatM own ++ cellsM x)) (h2 : Upd (fun j => v.ownBlock = some j) W W2) (h3 : v.ownBlock = some g ∨ W.heap.size ≤ g) :
    OrdI sa sb (own ++ [x]) (.slice (some ⟨g, 0, none⟩) (own.length + 1) cap') F G w W2 := by
  have hfl : flatM (own ++ [x]) = flatM own ++ cellsM x := by simp [flatM]
  refine ⟨h.a.upd h2 fun j hj e => (h.vd j e).1 hj, h.b.upd h2 fun j hj e => (h.vd j e).2 hj, by rw [hfl, List.length_append]; exact h1, h.dis, fun j hj => ?_, h.newF, h.newG, h.base.trans h2 fun j hj => .inr (h.row.lt j hj).1⟩
  obtain rfl : g = j := by simpa [Value.ownBlock] using hj
  rcases h3 with h3 | h3
  · exact h.vd g h3
  · exact ⟨fun hF => by have := h.a.lt g hF; omega, fun hG => by have := h.b.lt g hG; omega⟩
theorem OrdI.toS {A : Option Addr} {cap t : Nat} (h : OrdI sa sb own (.slice A own.length cap) F G w W) : OrdS sa sb own t 0 0 A w W := by
  obtain ⟨A', cap', e, hn, hr, _, hb⟩ := own_readsS h.row
  cases e
  exact ⟨⟨F, G, [], [], h.a, h.b, RepO.nil, RepO.nil, h.dis, h.newF, h.newG, fun j hj => h.vd j (hb j hj.2)⟩, hr, h.base⟩
theorem OrdS.upd {t i j : Nat} {A : Option Addr} (h : OrdS sa sb own t i j A w W) (hu : Upd (fun _ => False) W W2) : OrdS sa sb own t i j A w W2 := by
  obtain ⟨F, G, vs, ws, h1, h2, h3, h4, h5, h6, h7, h8⟩ := h.st
  exact ⟨⟨F, G, vs, ws, h1.upd hu fun _ _ => id, h2.upd hu fun _ _ => id, h3, h4, h5, h6, h7, h8⟩, h.reads.agree' (hu.agree fun j hj => ⟨h.reads.lt' j hj, id⟩), h.base.trans' hu⟩
/-- What a Put leaves: an answer, a state. -/
def OrdP (sa sb : Nat) (own : List VCE) (t i j : Nat) (A : Option Addr) (w : World) (e : Ending) (W2 : World) : Prop := (∃ c, e = .returned (.int .i64 c)) ∧ OrdS sa sb own t i j A w W2
theorem ord_a {t i j : Nat} {A : Option Addr} (h : OrdS sa sb own t i j A w W) (hl : own.length ≤ 100) (hi : i < own.length) : CallsIn Fence.wide 0 Try.prog 11 #[.pointer (some ⟨sa, 0, none⟩), .int .i64 3, .agg #[.string (own[i]).key, .string (own[i]).pol, .int .i64 (own[i]).kd, .int .i64 (own[i]).st, .int .i64 (own[i]).rev, .bool (own[i]).fin, .int .i64 (own[i]).rk, .int .i64 (own[i]).cnt, .int .i64 (own[i]).sum, .int .i64 (own[i]).mn, .int .i64 (own[i]).mx, .int .i64 (own[i]).q0, .int .i64 (own[i]).q1, .int .i64 (own[i]).q2, .bool (own[i]).over]] W (OrdP sa sb own t (i + 1) j A w) := by
  obtain ⟨F, G, vs, ws, h1, h2, h3, h4, h5, h6, h7, h8⟩ := h.st
  have h0 : i ≠ 0 ∨ vs = [] := by
    by_cases hi0 : i = 0
    · subst hi0
      have := h3.len
      simp at this
      exact .inr this
    · exact .inl hi0
  refine (put3 h1 h3 (by rw [List.length_take]; omega) h0 own[i]).mono ?_
  rintro e W2 ⟨⟨c, rfl⟩, F', p1, p2, p3'⟩
  have hz := h.base.size
  have hb2 := h2.upd p3' fun j hj hF => h5 j hF hj
  refine ⟨⟨c, rfl⟩, ⟨F', G, _, ws, by rw [show fen (i + 1) = 3 from if_neg (by omega)]; exact p1, hb2, ?_, h4, fun k hk hG => (p2 k hk).elim (fun h => h5 k h hG) fun h => by have := h2.lt k hG; omega, fun k hk => (p2 k hk).elim (h6 k) fun h => by omega, h7, fun k hk => ⟨fun hF => (p2 k hF).elim (h8 k hk).1 fun h' => by have := h.reads.lt' k hk; omega, (h8 k hk).2⟩⟩,
    h.reads.agree' (p3'.agree fun k hk => ⟨h.reads.lt' k hk, (h8 k hk).1⟩), h.base.trans p3' fun k hk => .inr (h6 k hk)⟩
  rw [List.take_succ_eq_append_getElem hi]
  exact h3.add (by rw [List.length_take]; omega) _
theorem ord_bx {t i j : Nat} {A : Option Addr} {x : VCE} (h : OrdS sa sb own t i j A w W) (hl : own.length ≤ 100) (hj : j < own.length) (hx : own[idxT own.length t j]? = some x) : CallsIn Fence.wide 0 Try.prog 11 #[.pointer (some ⟨sb, 0, none⟩), .int .i64 3, .agg #[.string (x).key, .string (x).pol, .int .i64 (x).kd, .int .i64 (x).st, .int .i64 (x).rev, .bool (x).fin, .int .i64 (x).rk, .int .i64 (x).cnt, .int .i64 (x).sum, .int .i64 (x).mn, .int .i64 (x).mx, .int .i64 (x).q0, .int .i64 (x).q1, .int .i64 (x).q2, .bool (x).over]] (W.alloc (.cells #[.string (x).key, .string (x).pol, .int .i64 (x).kd, .int .i64 (x).st, .int .i64 (x).rev, .bool (x).fin, .int .i64 (x).rk, .int .i64 (x).cnt, .int .i64 (x).sum, .int .i64 (x).mn, .int .i64 (x).mx, .int .i64 (x).q0, .int .i64 (x).q1, .int .i64 (x).q2, .bool (x).over] 38)) fun e W2 => (∃ c, e = .returned (.int .i64 c)) ∧ OrdS sa sb own t i (j + 1) A w W2 ∧ Blk W2 W.heap.size #[.string (x).key, .string (x).pol, .int .i64 (x).kd, .int .i64 (x).st, .int .i64 (x).rev, .bool (x).fin, .int .i64 (x).rk, .int .i64 (x).cnt, .int .i64 (x).sum, .int .i64 (x).mn, .int .i64 (x).mx, .int .i64 (x).q0, .int .i64 (x).q1, .int .i64 (x).q2, .bool (x).over] 38 := by
  obtain ⟨F, G, vs, ws, h1, h2, h3, h4, h5, h6, h7, h8⟩ := h.st
  have hvl := vis_len own t j
  have h0 : j ≠ 0 ∨ ws = [] := by
    by_cases hi0 : j = 0
    · subst hi0
      have := h4.len
      simp [vis] at this
      exact .inr this
    · exact .inl hi0
  have u := Upd.alloc (fun _ => False) W (.cells #[.string (x).key, .string (x).pol, .int .i64 (x).kd, .int .i64 (x).st, .int .i64 (x).rev, .bool (x).fin, .int .i64 (x).rk, .int .i64 (x).cnt, .int .i64 (x).sum, .int .i64 (x).mn, .int .i64 (x).mx, .int .i64 (x).q0, .int .i64 (x).q1, .int .i64 (x).q2, .bool (x).over] 38)
  have hG := h2.lt
  have bX := Blk.new W #[.string (x).key, .string (x).pol, .int .i64 (x).kd, .int .i64 (x).st, .int .i64 (x).rev, .bool (x).fin, .int .i64 (x).rk, .int .i64 (x).cnt, .int .i64 (x).sum, .int .i64 (x).mn, .int .i64 (x).mx, .int .i64 (x).q0, .int .i64 (x).q1, .int .i64 (x).q2, .bool (x).over] 38
  have zA := u.size
  refine (put3 (h2.upd u fun _ _ => id) h4 (by omega) h0 x).mono ?_
  rintro e W2 ⟨⟨c, rfl⟩, G', p1, p2, p3'⟩
  have hz := h.base.size
  have h1' := h1.upd u fun _ _ => id
  have ha2 := h1'.upd p3' fun j hj hF => h5 j hj hF
  refine ⟨⟨c, rfl⟩, ⟨⟨F, G', vs, _, ha2, by rw [show fen (j + 1) = 3 from if_neg (by omega)]; exact p1, h3, ?_, fun k hk hG => (p2 k hG).elim (fun h => h5 k hk h) fun h => by have := h1'.lt k hk; omega, h6, fun k hk => (p2 k hk).elim (h7 k) fun h => by omega, fun k hk => ⟨(h8 k hk).1, fun hF => (p2 k hF).elim (h8 k hk).2 fun h' => by have := h.reads.lt' k hk; omega⟩⟩,
    (h.reads.agree' (u.agree fun k hk => ⟨h.reads.lt' k hk, id⟩)).agree' (p3'.agree fun k hk => ⟨by have := h.reads.lt' k hk; omega, (h8 k hk).2⟩), (h.base.trans' u).trans p3' fun k hk => .inr (h7 k hk)⟩, bX.upd p3' fun h => by have := hG _ h; omega⟩
  rw [vis_succ hx]
  exact h4.add (by omega) _
/-- The same one again. -/
theorem ord_b2 {t i j : Nat} {A : Option Addr} {x : VCE} (h : OrdS sa sb own t i (j + 1) A w W) (hx : own[idxT own.length t j]? = some x) : CallsIn Fence.wide 0 Try.prog 11 #[.pointer (some ⟨sb, 0, none⟩), .int .i64 3, .agg #[.string (x).key, .string (x).pol, .int .i64 (x).kd, .int .i64 (x).st, .int .i64 (x).rev, .bool (x).fin, .int .i64 (x).rk, .int .i64 (x).cnt, .int .i64 (x).sum, .int .i64 (x).mn, .int .i64 (x).mx, .int .i64 (x).q0, .int .i64 (x).q1, .int .i64 (x).q2, .bool (x).over]] W (OrdP sa sb own t i (j + 1) A w) := by
  obtain ⟨F, G, vs, ws, h1, h2, h3, h4, h5, h6, h7, h8⟩ := id h.st
  have hc := h4.twice (v := x) (by rw [vis_succ hx]; simp)
  refine (siloPutNo_c h2 (by rw [code_fen, hc]; decide)).mono ?_
  rintro e W2 ⟨rfl, u⟩
  exact ⟨⟨_, rfl⟩, h.upd u⟩
/-- The end: both are asked for their states. -/
theorem ord_end {t : Nat} {A : Option Addr} (h : OrdS sa sb own t own.length own.length A w W) (hu : UniqO own) (hl : own.length ≤ 100) :
    CallsIn Fence.wide 0 Try.prog 17 #[.pointer (some ⟨sa, 0, none⟩)] W fun e W4 => ∃ s, e = .returned s ∧
      CallsIn Fence.wide 0 Try.prog 16 #[s] W4 fun e W5 => ∃ f m A1 c1, e = .returned (.agg #[.int .i64 f, .slice A1 m c1]) ∧ ∀ V, Upd (fun _ => False) W5 V →
        CallsIn Fence.wide 0 Try.prog 17 #[.pointer (some ⟨sb, 0, none⟩)] V fun e W6 => ∃ s2, e = .returned s2 ∧
          CallsIn Fence.wide 0 Try.prog 16 #[s2] W6 fun e W7 => ∃ A2 c2, e = .returned (.agg #[.int .i64 f, .slice A2 m c2]) ∧ Upd (fun _ => False) V W7 ∧ ∀ V2, Upd (fun _ => False) W7 V2 →
            CallsIn Fence.wide 0 Try.prog 18 #[.slice A1 m c1, .slice A2 m c2] V2 fun e W8 => e = .returned (.bool true) ∧ Upd (fun _ => False) V2 W8 ∧ Upd (fun _ => False) w W8 := by
  obtain ⟨F, G, vs, ws, h1, h2, h3, h4, h5, h6, h7, h8⟩ := h.st
  rw [List.take_length] at h3
  obtain rfl : vs = ws := h3.same h4 (fun a => ⟨fun ha => vis_all ha, fun ha => vis_sub ha⟩) hu
  have hlen := h3.len
  refine (siloState_c h1 (by omega)).mono ?_
  rintro e W4 ⟨A0, c0, rfl, _, r0, _, u4⟩
  refine ⟨_, rfl, (ref20_c r0 (by omega)).mono ?_⟩
  rintro e W5 ⟨A1, c1, rfl, _, r1, _, u5⟩
  refine ⟨_, _, A1, c1, rfl, fun V uV => (siloState_c (((h2.upd u4 fun _ _ => id).upd u5 fun _ _ => id).upd uV fun _ _ => id) (by omega)).mono ?_⟩
  rintro e W6 ⟨A3, c3, rfl, _, r3, _, u6⟩
  refine ⟨_, rfl, (ref20_c r3 (by omega)).mono ?_⟩
  rintro e W7 ⟨A2, c2, rfl, _, r2, _, u7⟩
  refine ⟨A2, c2, rfl, u6.trans' u7, fun V2 uV2 => ?_⟩
  have u1 := (uV.trans' (u6.trans' u7)).trans' uV2
  have r1' := r1.agree' (w' := V2) (u1.agree fun j hj => ⟨r1.lt' j hj, id⟩)
  have r2' := r2.agree' (w' := V2) (uV2.agree fun j hj => ⟨r2.lt' j hj, id⟩)
  refine (same20_c r1' r2' (by omega) (by omega)).mono ?_
  rintro e W8 ⟨rfl, u8⟩
  exact ⟨by simp, u8, (((h.base.trans' u4).trans' u5).trans' u1).trans' u8⟩
end
end Go.Proofs.Ytadeechoknpjhaa

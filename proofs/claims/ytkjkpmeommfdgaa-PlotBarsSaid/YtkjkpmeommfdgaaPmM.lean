/- weave.Map[int,string] as a sequence; slices.Collect of texts. -/
import Derived.Test.YtkjkpmeommfdgaaProg
import Derived.Test.YtkjkpmeommfdgaaBase
import Derived.Test.YtkjkpmeommfdgaaWvI
import Derived.Test.YtkjkpmeommfdgaaWvL
import Derived.Test.YtkjkpmeommfdgaaAppS
import Derived.Test.YtkjkpmeommfdgaaEach
import Derived.Test.YtkjkpmeommfdgaaRangeAt
set_option linter.unusedSimpArgs false
set_option linter.unusedVariables false
namespace Go.Proofs.Ytkjkpmeommfdgaa
open Go.RowKit Go.Shelf
attribute [local go_sem] Oper.semAt_some

abbrev encT : ByteArray → Array Value := fun x => #[Value.string x]
abbrev trMS (g : Int → ByteArray) (x : Int) : Option ByteArray × Bool := (some (g x), true)
theorem outs_trMS (g : Int → ByteArray) : ∀ (s : List Int), outsE (trMS g) s = s.map g
  | [] => rfl
  | x :: s => by simp only [outsE, trMS, Option.toList_some, if_true, List.cons_append, List.nil_append, List.map_cons, outs_trMS g s]
/-- Made. -/
theorem mapS_c {n : Nat} {fv : Value} {f2 : Fn} {a2 c2 : Array Value} {f1 : Fn} {a1 c1 : Array Value} {w : World} (hfv : fv = .func f1 a1 c1) : CallsIn Fence.wide n Try.prog 101 #[fv, .func f2 a2 c2] w fun e w' => ∃ bs bk, e = .returned (.func (.func 122) #[] #[.pointer (some ⟨bs, 0, none⟩), .pointer (some ⟨bk, 0, none⟩)]) ∧
    Blk w' bs #[fv] 32 ∧ Blk w' bk #[.func f2 a2 c2] 119 ∧ w.heap.size ≤ bs ∧ w.heap.size ≤ bk ∧ Upd (fun _ => False) w w' := by
  subst hfv
  refine callsIn_any (n := 0) (callsIn_of_wp Try.func101 rfl trivial ?_)
  simp only [Try.ntmps101, List.size_toArray, List.length_cons, List.length_nil, Nat.reduceAdd, Nat.reduceSub, Array.replicate_succ, Array.replicate_zero, List.push_toArray, List.append_toArray, List.nil_append, List.cons_append]
  gi_wp2_with (first | refine (⟨trivial, rfl, ?_⟩ : Fence.wide.fn _ ∧ Fence.wide.depth = none ∧ _) | refine (⟨trivial, ?_⟩ : Fence.wide.fn _ ∧ _))
  go_ret
  exact ⟨_, _, rfl, (Blk.new _ _ _).alloc _, Blk.new' (by simp), Nat.le_refl _, by omega, (Upd.alloc _ _ _).stepAlloc _⟩
set_option maxRecDepth 100000 in
set_option maxHeartbeats 2000000 in
theorem mapS_seq {fk : Fn} {ak ck : Array Value} {fi : FuncId} {fc : Array Value} {xs : List Int} {D Dk : Nat → Prop} {w : World} {g : Int → ByteArray} {bs bk : Nat}
    (hseq : SeqO Try.prog (.func (.func fi) #[] fc) encI (xs.map fun x => ((), x)) () () (fun _ _ => True) (fun _ => False) D w) (hbs : Blk w bs #[.func (.func fi) #[] fc] 32) (hbk : Blk w bk #[.func fk ak ck] 119)
    (hDk : ∀ j, Dk j → j < w.heap.size)
    (hk : ∀ x W, x ∈ xs → Agree Dk w W → w.heap.size ≤ W.heap.size → CallV Try.prog (.func fk ak ck) #[.int .i64 x] W fun v W' => v = .string (g x) ∧ Upd (fun _ => False) W W') :
    SeqO Try.prog (.func (.func 122) #[] #[.pointer (some ⟨bs, 0, none⟩), .pointer (some ⟨bk, 0, none⟩)]) encT ((xs.map g).map fun x => ((), x)) () () (fun _ _ => True) (fun _ => False) (fun j => D j ∨ j = bs ∨ j = bk ∨ Dk j) w where
  fn := ⟨_, _, rfl⟩
  dlt := by
    rintro j (h | rfl | rfl | h)
    · exact hseq.dlt j h
    · exact ⟨hbs.lt, id⟩
    · exact ⟨hbk.lt, id⟩
    · exact ⟨hDk j h, id⟩
  elt := fun _ h => h.elim
  stable := fun _ _ _ _ _ => trivial
  run := by
    intro σ step Rep y s S W hx _
    have ee : ((xs.map g).map fun x => ((), x)).map (·.2) = xs.map g := by simp [Function.comp_def]
    rw [ee] at hx ⊢
    refine CallV.of_calls (n := 0) (enters_of Try.func122 (by kernel_rfl) rfl) ?_
    obtain ⟨yf, ya, yc, rfl⟩ := hx.shape
    have hag := hx.agree
    have hzW := hx.size
    have nbs := hbs.agree hag (.inr (.inl rfl))
    have nbk := hbk.agree hag (.inr (.inr (.inl rfl)))
    have hDW : ∀ j, (D j ∨ j = bs ∨ j = bk ∨ Dk j) → j < W.heap.size := by
      rintro j (h | rfl | rfl | h)
      · have := (hseq.dlt j h).1; omega
      · exact nbs.lt
      · exact nbk.lt
      · have := hDk j h; omega
    have hown := hx.own
    have hu0 : Upd (fun _ => False) W (W.alloc (.cells #[.func yf ya yc] 132)) := Upd.alloc _ _ _
    have hy0 := Blk.new W #[.func yf ya yc] 132
    have c0 := (nbs.upd hu0 id).cell0
    have hz1 : W.heap.size < (W.alloc (.cells #[.func yf ya yc] 132)).heap.size := by simp
    have hs1 := hseq.later (w' := W.alloc (.cells #[.func yf ya yc] 132)) (by omega) ((hag.mono fun j h => .inl h).trans (hu0.agree fun j hj => ⟨hDW j (.inl hj), id⟩))
    have hk1 := nbk.upd hu0 id
    have hAD : Agree Dk w (W.alloc (.cells #[.func yf ya yc] 132)) := (hag.mono fun j h => .inr (.inr (.inr h))).trans (hu0.agree fun j hj => ⟨hDW j (.inr (.inr (.inr hj))), id⟩)
    replace hs1 := Lib.hid hs1
    replace hu0 := Lib.hid hu0
    replace hx := Lib.hid hx
    replace hy0 := Lib.hid hy0
    replace hk1 := Lib.hid hk1
    replace hk := Lib.hid hk
    clear hseq hbs hbk nbs nbk ee hag
    refine callsIn_of_wp_marks Try.func122 rfl trivial ?_
    simp only [Try.ntmps122, List.size_toArray, List.length_cons, List.length_nil, Nat.reduceAdd, Nat.reduceSub, Array.replicate_succ, Array.replicate_zero, List.push_toArray, List.append_toArray, List.nil_append, List.cons_append]
    gi_wp2
    refine trans_each (fn := Try.f122) (trMS g) (D' := fun j => j = W.heap.size ∨ (D j ∨ j = bs ∨ j = bk ∨ Dk j)) hs1.out hx.out hu0.out ?hDD ?hD' ?hDS (outs_trMS g xs).symm rfl (fun _ => rfl) rfl rfl (fun _ _ h => h) ?hQ ?hround
    case hDD => exact fun j h => .inr (.inl h)
    case hD' =>
      rintro j (h | h)
      · omega
      · have := hDW j h; omega
    case hDS =>
      intro j hj
      have h1 := hown j hj
      rintro (h | h)
      · omega
      · exact h1.2.1 h
    case hQ =>
      intro a' W' h
      exact ⟨h, h⟩
    case hround =>
      intro lb x W1 hlb hlW hxl hsz hA
      clear hx hs1
      gi_wp2
      refine ⟨Upd.refl _ _, ?_⟩
      intro Wb M Next Stop hub hbs hrec hE
      have ud : Upd (fun _ => False) Wb Wb.drew := Upd.drew _ _
      have hyb := hy0.out.agree hE.agree (.inl rfl)
      have hkb := hk1.out.agree hE.agree (.inr (.inr (.inr (.inl rfl))))
      have hzb : w.heap.size ≤ Wb.heap.size := by have := hub.size; omega
      have hcell := Lib.hid fun V (u : Upd M Wb V) => show V.cell? ⟨W.heap.size, 0, none⟩ = some (.func yf ya yc) ∧ V.cell? ⟨bk, 0, none⟩ = some (.func fk ak ck) from ⟨(hyb.upd u fun h => (hE.m _ h).2.1 (.inl rfl)).cell0, (hkb.upd u fun h => (hE.m _ h).2.1 (.inr (.inr (.inr (.inl rfl))))).cell0⟩
      have hf := Lib.hid (hk.out x Wb.drew hxl (hAD.trans (((hE.agree).mono fun j hj => .inr (.inr (.inr (.inr hj)))).trans (ud.agree fun j hj => ⟨by have := hDk j hj; omega, id⟩))) (by have := ud.size; omega))
      have h0 := hcell.out _ (ud.mono fun _ _ h => h.elim)
      replace hE := Lib.hid hE
      clear hub hrec hyb hkb hA
      gi_wp2
      refine wpIn_eager [(0, true), (1, true), (2, true), (3, false), (4, false), (5, true)] (fun V => V.cell? ⟨W.heap.size, 0, none⟩ = some (.func yf ya yc) ∧ V.cell? ⟨bk, 0, none⟩ = some (.func fk ak ck)) (by kernel_rfl) (by kernel_rfl) h0 ?_
      repeat (first | (refine wpE_fl rfl rfl (fun _ _ => rfl) ?_; go_simp) | (refine wpE_sk rfl rfl ?_; go_simp) | (refine wpE_fl (v := ?_) rfl rfl ?_ ?_; rotate_left; (intro W' h'; (try dsimp only at h'); go_simp; exact rfl); go_simp) | (refine wpE_ef rfl ?_; go_simp; gi_wp2_with (first | refine (⟨trivial, rfl, ?_⟩ : Fence.wide.fn _ ∧ Fence.wide.depth = none ∧ _) | refine (⟨trivial, trivial, rfl, ?_⟩ : Fence.wide.fn _ ∧ Fence.wide.fn _ ∧ Fence.wide.depth = none ∧ _) | ((with_reducible refine listV1 hf.out ?_ ?_ ?_); rfl; rfl; rintro v W2 ⟨rfl, u2⟩; (have hz := Lib.hid (hE.out.yield (g x) rfl W2 (ud.trans' u2)))) | ((with_reducible refine listV1 hz.out ?_ ?_ ?_); rfl; rfl; rintro v W4 ⟨b, rfl, hm, hn, hs⟩; (replace hn := Lib.hid hn); (replace hs := Lib.hid hs)) | refine (⟨trivial, ?_⟩ : Fence.wide.fn _ ∧ _)); (first | refine ⟨by first | exact (hcell.out _ ((ud.trans' u2).mono fun _ _ h => h.elim)) | exact (hcell.out _ (((ud.trans' u2).mono fun _ _ h => h.elim).trans' hm)), ?_⟩ | skip)))
      refine wpE_nil ?_
      cases b
      · gi_wp2
        exact hs.out (by simp)
      · gi_wp2
        exact hn.out (by simp) (by simp)
/-- What is gathered so far. -/
def ColT (b2 base : Nat) (s : List ByteArray) (v : Value) (W : World) : Prop := Blk W b2 #[v] 75 ∧ W.ownsRow base 9 1 v s.length (s.map Value.string) ∧ v.ownBlock ≠ some b2
theorem infoT : (Try.prog.info? 9).map (fun i => (i.zero, i.size, i.bytes)) = some (some (.string ⟨#[]⟩), 1, 16) := by kernel_rfl
theorem zT : (Value.string ⟨#[]⟩).cells.size = 1 := rfl
set_option maxRecDepth 100000 in
set_option maxHeartbeats 1000000 in
theorem appendSeqT {n : Nat} {fi : FuncId} {fc : Array Value} {l : List ByteArray} {D : Nat → Prop} {w : World} (hseq : SeqO Try.prog (.func (.func fi) #[] fc) encT (l.map fun x => ((), x)) () () (fun _ _ => True) (fun _ => False) D w) (hl : l.length ≤ 100000) :
    CallsIn Fence.wide n Try.prog 123 #[.slice none 0 0, .func (.func fi) #[] fc] w fun e w' => ∃ A cap, e = .returned (.slice A l.length cap) ∧ l.length ≤ cap ∧ Reads1 w' A (l.map Value.string) ∧ (∀ j, blkOf A j → w.heap.size ≤ j) ∧ Upd (fun _ => False) w w' := by
  refine callsIn_any (n := 0) (callsIn_of_wp_marks Try.func123 rfl trivial ?_)
  simp only [Try.ntmps123, List.size_toArray, List.length_cons, List.length_nil, Nat.reduceAdd, Nat.reduceSub, Array.replicate_succ, Array.replicate_zero, List.push_toArray, List.append_toArray, List.nil_append, List.cons_append]
  replace hseq := Lib.hid hseq
  gi_wp2_with (first | refine (⟨trivial, rfl, ?_⟩ : Fence.wide.fn _ ∧ Fence.wide.depth = none ∧ _) | refine (⟨trivial, ?_⟩ : Fence.wide.fn _ ∧ _))
  rename_i KK hKK
  have hb0 : Blk (w.alloc (.cells #[.slice none 0 0] 75)) w.heap.size #[.slice none 0 0] 75 := Blk.new _ _ _
  have hu0 : Upd (fun _ => False) w (w.alloc (.cells #[.slice none 0 0] 75)) := Upd.alloc _ _ _
  have hsz0 : (w.alloc (.cells #[.slice none 0 0] 75)).heap.size = w.heap.size + 1 := by simp
  have ho0 : (w.alloc (.cells #[.slice none 0 0] 75)).ownsRow w.heap.size 9 1 (.slice none 0 0) 0 [] := World.ownsRow_nil _ _ _ 1
  generalize (w.alloc (.cells #[.slice none 0 0] 75)) = W0 at *
  have hs := hseq.out.later (w' := W0) hu0.size (hu0.agree fun k hk => ⟨(hseq.out.dlt k hk).1, id⟩)
  have ee : (l.map fun x => ((), x)).map (·.2) = l := by simp [Function.comp_def]
  have hgo : ∀ (m s : List ByteArray), goR (fun (s : List ByteArray) (x : ByteArray) => (s ++ [x], (none : Option Code))) s m = (s ++ m, none) := by
    intro m
    induction m with
    | nil => intro s; simp [goR]
    | cons x m ih => intro s; simp only [goR]; rw [ih]; simp
  have hDlt : ∀ k, D k → k < w.heap.size := fun k hk => (hseq.out.dlt k hk).1
  refine wpIn_range_at hs rfl (Nat.le_refl _) (Agree.refl _ _) trivial (fun _ => rfl) (fun s x => (s ++ [x], none)) (fun s' S' W' => ∃ v, ColT w.heap.size w.heap.size s' v W' ∧ ∀ j, (j = w.heap.size ∨ v.ownBlock = some j) → S' j) [] (fun k => k = w.heap.size) ?hS ?hstab ⟨.slice none 0 0, ⟨hb0, ho0, by simp [Value.ownBlock]⟩, fun j hj => hj.elim id (fun h => by simp [Value.ownBlock] at h)⟩ ?hround ?hend
  case hS =>
    rintro k rfl
    exact ⟨by omega, fun h => by have := hDlt _ h; omega, id⟩
  case hstab =>
    rintro s' S' Wa Wb ⟨v, ⟨g1, g2, g3⟩, g4⟩ hA _
    exact ⟨v, ⟨g1.agree hA (g4 _ (.inl rfl)), own_agree g2 (hA.mono fun j hj => g4 j (.inr hj)), g3⟩, g4⟩
  case hround =>
    rintro lb pre x suf s1 S1 W1 hlb he hgo1 ⟨v, ⟨i1, i2, i5⟩, i3⟩ hsz hu1 hS1
    have hs1 : s1.length ≤ 100000 := by
      rw [hgo] at hgo1
      have e1 := (Prod.mk.inj hgo1).1
      simp only [List.nil_append] at e1
      have e2 := congrArg List.length he
      rw [ee] at e2
      simp at e2
      rw [← e1]; omega
    clear hs hgo hgo1 hseq hKK KK hDlt he ee
    obtain ⟨A3, cap3, rfl⟩ := own_shape i2
    gi_wp2
    refine ⟨Upd.refl _ _, ?_⟩
    intro Wb hub hbs hrec
    have hSl : ∀ j, S1 j → j ≠ lb := fun j hj => (hS1 j hj).2.1
    have hzq := hub.size
    have hb := i1.upd hub (hSl _ (i3 _ (.inl rfl)))
    have ho := own_agree i2 (hub.agree fun j hj => ⟨(hS1 j (i3 j (.inr hj))).1, hSl j (i3 j (.inr hj))⟩)
    have d1 := hb.cell0
    have hz0 := hu0.size
    have fin : ∀ g' cap' w', w'.ownsRow w.heap.size 9 1 (.slice (some ⟨g', 0, none⟩) (s1.length + 1) cap') (s1.length + 1) (s1.map Value.string ++ [Value.string x]) → Upd (fun j => (Value.slice A3 s1.length cap3).ownBlock = some j) Wb w' → ((Value.slice A3 s1.length cap3).ownBlock = some g' ∨ Wb.heap.size ≤ g') → g' < w'.heap.size →
        w'.cell? ⟨w.heap.size, 0, none⟩ = some (.slice A3 s1.length cap3) ∧ w'.frozen? ⟨w.heap.size, 0, none⟩ = false ∧ w.heap.size < w'.heap.size ∧
        Held (fun (s' : List ByteArray) (S' : Nat → Prop) W' => ∃ v, ColT w.heap.size w.heap.size s' v W' ∧ ∀ j, (j = w.heap.size ∨ v.ownBlock = some j) → S' j) (s1 ++ [x]) (fun k => S1 k ∨ W1.heap.size ≤ k) Wb (w'.setCell ⟨w.heap.size, 0, none⟩ (.slice (some ⟨g', 0, none⟩) (s1.length + 1) cap')) := by
      intro g' cap' w' h1 h2 h3 h4
      have hb1 := hb.upd h2 i5
      have hgb : g' ≠ w.heap.size := by
        rintro rfl
        rcases h3 with h | h
        · exact i5 h
        · have := hb.lt; omega
      have hz2 := h2.size
      have hzb := hub.size
      refine ⟨hb1.cell0, hb1.frozen 0, hb1.lt, fun j => j = w.heap.size ∨ j = g', ⟨_, ⟨by simpa using hb1.set 0 (.slice (some ⟨g', 0, none⟩) (s1.length + 1) cap'), ?_, by simpa [Value.ownBlock] using hgb⟩, ?_⟩, ?_, ?_⟩
      · rw [List.map_append, List.length_append, List.map_singleton]
        exact own_agree h1 (fun j hj => Below.heap_setCell _ _ _ _ (fun e => hgb (by simp [Value.ownBlock] at hj; rw [hj]; exact e)))
      · rintro j (h | h)
        · exact .inl h
        · simp [Value.ownBlock] at h; exact .inr h.symm
      · exact (h2.mono fun j _ hj => .inl (i3 j (.inr hj))).stepSet (.inl (.inl (i3 _ (.inl rfl)))) _
      · rintro j (rfl | rfl)
        · exact ⟨by have := hb1.lt; simpa using this, .inl (.inl (i3 _ (.inl rfl)))⟩
        · exact ⟨by simpa using h4, h3.elim (fun h => .inl (.inl (i3 _ (.inr h)))) (fun h => .inr (by omega))⟩
    replace fin := Lib.hid fin
    have hwb : w.heap.size ≤ Wb.heap.size := by omega
    replace hbs := Lib.hid hbs
    clear hb hub hrec hu1 hS1 i1 i2 i3 i5 hSl hu0
    gi_wp2_with (first | refine (⟨trivial, rfl, ?_⟩ : Fence.wide.fn _ ∧ Fence.wide.depth = none ∧ _) | ((with_reducible refine app1 (u := .string x) Try.underlying75 infoT zT (by omega) ho ?_ ?_ ?_ ?_ ?_ ?_); exact hwb; omega; rfl; rfl; rfl; intro g' cap' w' h1 h2 h3 h4; obtain ⟨k1, k2, k3, k4⟩ := fin.out g' cap' w' h1 h2 h3 h4; (replace k4 := Lib.hid k4); clear h1 h2 h3 h4) | refine (⟨trivial, ?_⟩ : Fence.wide.fn _ ∧ _))
    exact ⟨rfl, k4.out⟩
  case hend =>
    rintro S' W' ⟨v, ⟨i1, i2, i5⟩, i3⟩ hOw hu1 hsz hS' hdef
    rw [hgo, ee, List.nil_append] at i2
    rw [hgo]
    refine hKK _ _ ?_
    obtain ⟨A5, cap5, rfl, hn5, hr5, _, hb5⟩ := own_readsS i2
    have hge := own_ge i2
    have d1 := i1.cell0
    have hz0 := hu0.size
    replace hsz0 := Lib.hid hsz0
    clear hs hgo hseq hKK KK hDlt hOw i2
    gi_wp2
    refine ⟨by simp, .inl ⟨_, _, rfl, run_takeDeferred hdef, ⟨_, results_tmp rfl _ _ _, ?_⟩⟩⟩
    refine ⟨A5, cap5, rfl, hn5, hr5.agree' (fun k hk => World.putObj_heap_other ?_), fun j hj => hge j (hb5 j hj), ((hu0.mono fun _ _ h => h.elim).trans hu1 (fun k hk => ?_)).stepPut (.inr hu0.size) _⟩
    · have := (hS' k (i3 k (.inr (hb5 k hk.2)))).2.1
      exact this
    · rcases hk with rfl | h
      · exact .inr (Nat.le_refl _)
      · exact h.elim
theorem collectT {n : Nat} {fi : FuncId} {fc : Array Value} {l : List ByteArray} {D : Nat → Prop} {w : World} (hseq : SeqO Try.prog (.func (.func fi) #[] fc) encT (l.map fun x => ((), x)) () () (fun _ _ => True) (fun _ => False) D w) (hl : l.length ≤ 100000) :
    CallsIn Fence.wide n Try.prog 104 #[.func (.func fi) #[] fc] w fun e w' => ∃ A cap, e = .returned (.slice A l.length cap) ∧ l.length ≤ cap ∧ Reads1 w' A (l.map Value.string) ∧ (∀ j, blkOf A j → w.heap.size ≤ j) ∧ Upd (fun _ => False) w w' := by
  have k1 := Lib.hid (appendSeqT (n := 0) hseq hl)
  clear hseq
  refine callsIn_any (n := 0) (callsIn_of_wp Try.func104 rfl trivial ?_)
  simp only [Try.ntmps104, List.size_toArray, List.length_cons, List.length_nil, Nat.reduceAdd, Nat.reduceSub, Array.replicate_succ, Array.replicate_zero, List.push_toArray, List.append_toArray, List.nil_append, List.cons_append]
  gi_wp2_with (first | refine (⟨trivial, rfl, ?_⟩ : Fence.wide.fn _ ∧ Fence.wide.depth = none ∧ _) | (gi_at_call 123; (with_reducible refine k1.out.mono ?_); rintro e W2 ⟨A, cap, rfl, fin⟩; (replace fin := Lib.hid fin)) | refine (⟨trivial, ?_⟩ : Fence.wide.fn _ ∧ _))
  go_ret
  exact ⟨A, cap, rfl, fin.out⟩
end Go.Proofs.Ytkjkpmeommfdgaa
